/-
  Walks: 'adopt'.
-/
import Derived.Test.YtngbodmooddjbaaGreatBw
import Derived.Test.YtngbodmooddjbaaGreatAq
import Derived.Deep.RegionHeld3
import Derived.Deep.RegionLaw
import Derived.Deep.CutBlock
namespace Go.Proofs.YtngbodmooddjbaaGreat
open Go.RowKit Go.Shelf

attribute [local go_sem] Oper.semAt_some

/-- The numbers that are not visible, of what has come. -/
def unL (pre : List (Nat × Bool)) : List Nat := (pre.filter fun x => !x.2).map (·.1)
theorem unL_snoc (pre : List (Nat × Bool)) (x : Nat × Bool) : unL (pre ++ [x]) = unL pre ++ (if x.2 then [] else [x.1]) := by
  unfold unL
  rw [List.filter_append, List.map_append]
  congr 1
  cases hx : x.2 <;> simp [hx]

theorem mem_unL {zs : List Bool} {u : Nat} (h : u ∈ unL (bkU zs zs.length)) : u < zs.length ∧ zs.getD u false = false := by
  unfold unL bkU at h
  obtain ⟨x, hx, rfl⟩ := List.mem_map.1 h
  obtain ⟨h1, h2⟩ := List.mem_filter.1 hx
  obtain ⟨j, hj, rfl⟩ := List.mem_map.1 h1
  rw [List.mem_range] at hj
  refine ⟨by show zs.length - 1 - j < zs.length; omega, ?_⟩
  simpa using h2
theorem unL_nodup (zs : List Bool) : (unL (bkU zs zs.length)).Nodup := by
  have h : ((bkU zs zs.length).map (·.1)).Nodup := by
    unfold bkU
    rw [List.map_map, List.nodup_iff_pairwise_ne, List.pairwise_map]
    have hr : (List.range zs.length).Nodup := List.nodup_range
    rw [List.nodup_iff_pairwise_ne] at hr
    refine hr.imp_of_mem (fun {a b} ha hb hne e => hne ?_)
    rw [List.mem_range] at ha hb
    have : zs.length - 1 - a = zs.length - 1 - b := e
    omega
  unfold unL
  exact h.sublist (List.filter_sublist.map _)
theorem putObj_far {W : World} {l k : Nat} {o' : Obj} (h : k ≠ l) : (W.putObj l o').heap[k]? = W.heap[k]? := by
  simp [World.putObj, Ne.symm h]
theorem ownFrom_cells {β : Type} {B k : Nat} (cs : Array Value) (t : TypeId) {fr : Nat × Nat} : OwnFrom B (fun (_ : β) (W : World) => W.heap[k]? = some (.cells cs t fr)) := fun _ W W' row hs hg hr => by
  have hs : W.heap[k]? = some (.cells cs t fr) := hs
  show W'.heap[k]? = some (.cells cs t fr)
  rw [hg.block k (heap_lt hs) (fun e => ?_)]
  · exact hs
  · obtain ⟨_, o, ho, hc⟩ := hr k e.symm
    rw [hs] at ho
    cases ho
    cases hc
theorem Kp.putObj {A : Nat → Prop} {W : World} {l : Nat} {o' : Obj} (h : A l) : Kp A W (W.putObj l o') := (Kp.grown (grownBy_putObj' W l o')).mono (fun k _ e => by cases e; exact h)
def AdR (w : World) (q : Nat) (N : Mgr) (L : Lay) (b : AvB) (us : List Nat) (s0 : NmSt) (bs : Nat) (R : List Nat) (gk : Nat) (s41 : Value) (x : World) : Prop :=
  ∃ k, k + gk = R.length ∧ s41 = .int .i64 (k : Int) ∧ AvJ w q N L b us s0 bs x (walkAll N (R.take k)).2 ∧ MapAs x bs intV Value.bool (seenF (walkAll N (R.take k)).1)
theorem two_set {y : World} {p q : Nat} {u0 u1 : Value} (h : p ≠ q) (ql : q < y.heap.size) (c0 : y.cell? ⟨q, 0, none⟩ = some u0) (c1 : y.cell? ⟨q, 1, none⟩ = some u1) (v0 v1 : Value) :
    ((y.setCell ⟨p, 0, none⟩ v0).drew.cell? ⟨q, 0, none⟩ = some u0 ∧ (y.setCell ⟨p, 0, none⟩ v0).drew.cell? ⟨q, 1, none⟩ = some u1) ∧ (((y.setCell ⟨p, 0, none⟩ v0).setCell ⟨p, 1, none⟩ v1).drew.cell? ⟨q, 0, none⟩ = some u0 ∧ ((y.setCell ⟨p, 0, none⟩ v0).setCell ⟨p, 1, none⟩ v1).drew.cell? ⟨q, 1, none⟩ = some u1) := by
  have k1 : Kp (fun k => k = p) y (y.setCell ⟨p, 0, none⟩ v0) := (Kp.setCell _ _).mono (fun _ _ e => e)
  have k2 : Kp (fun k => k = p) y ((y.setCell ⟨p, 0, none⟩ v0).setCell ⟨p, 1, none⟩ v1) := k1.trans (A' := fun k => k = p) (fun _ e => .inl e) ((Kp.setCell _ _).mono (fun _ _ e => e))
  exact ⟨⟨(k1.cell (a := ⟨q, 0, none⟩) ql (fun e => h e.symm)).trans c0, (k1.cell (a := ⟨q, 1, none⟩) ql (fun e => h e.symm)).trans c1⟩, ⟨(k2.cell (a := ⟨q, 0, none⟩) ql (fun e => h e.symm)).trans c0, (k2.cell (a := ⟨q, 1, none⟩) ql (fun e => h e.symm)).trans c1⟩⟩
/-- The second half: the manager's own fields are made anew. -/
structure AdP (T : World) (p : Nat) (L L1 : Lay) (M : Mgr) (U F : Trip → Option Nat) (nodes : List Nd) (y : World) : Prop where
  raw : Raw y p L1 M.order M.level nodes M.shown M.free U F
  kp : Kp (L.at p) T y
theorem AdP.no {T : World} {p : Nat} {L L1 : Lay} {M : Mgr} {U F : Trip → Option Nat} {nodes : List Nd} {y z : World} (s : AdP T p L L1 M U F nodes y) (k : Kp No y z) : AdP T p L L1 M U F nodes z := ⟨s.raw.no k, s.kp.trans_no k⟩
theorem AdP.set {T : World} {p gN num : Nat} {L L1 : Lay} {M : Mgr} {U F : Trip → Option Nat} {nodes : List Nd} {y z : World} (s : AdP T p L L1 M U F nodes y) (hsn : L1.sn = .slice (some ⟨gN, 0, none⟩) num num) (hg : T.heap.size ≤ gN) (k : Kp (fun k => k = gN) y z) {nodes' : List Nd} (h : z.ownsRow 0 60 3 L1.sn nodes'.length (nodes'.flatMap ndCells)) : AdP T p L L1 M U F nodes' z :=
  ⟨s.raw.kpNodes (k.mono (fun b _ e => by rw [hsn, e]; rfl)) nodes' h, s.kp.trans (A' := fun k => k = gN) (fun b e => .inr (by rw [e]; exact hg)) k⟩
def AdA (T : World) (p : Nat) (L L1 : Lay) (M : Mgr) (U F : Trip → Option Nat) (num gk : Nat) (s61 : Value) (y : World) : Prop :=
  ∃ j, j + gk = num ∧ s61 = .int .i64 (j : Int) ∧ AdP T p L L1 M U F (njL num j) y
def AdB (T : World) (p : Nat) (L L1 : Lay) (M N : Mgr) (U F : Trip → Option Nat) (nu : Nat → Option Nat) (V : List Nat) (num gk : Nat) (s74 : Value) (y : World) : Prop :=
  ∃ j, j + gk = V.length ∧ s74 = .int .i64 (j : Int) ∧ AdP T p L L1 M U F (Mgr.setN N nu (V.take j) (List.replicate num (-1, 0, 0))) y
/-- What 'adopt' is given. -/
structure AdS (w : World) (p : Nat) (M : Mgr) (L : Lay) (q : Nat) (N : Mgr) (LN : Lay) (R : List Nat) (rv : Value) (bn : Nat) (K0 : Int → Option Nat) : Prop where
  rm : Rep w p M L
  rn : Rep w q N LN
  nn : N.n = M.n
  src : SrcAt w rv 1 R.length (R.map natV)
  map : MapAs w bn intV natV K0
  st : ∀ r, r ∈ R → N.stored r
  k1 : ∀ x f, K0 x = some f → ∃ g : Nat, x = (g : Int) ∧ N.stored g ∧ M.vis f = true ∧ ∀ a, N.sem g a = M.sem f a
  k2 : ∀ f, M.vis f = true → ∃ g : Nat, K0 (g : Int) = some f ∧ (g < 2 ∨ g ∈ R)
  dis : ∀ k, L.at p k → ¬ LN.at q k
  bl : ¬ L.at p bn
  bq : ¬ LN.at q bn
  hb : N.nodes.length ≤ big
  hs : M.nodes.length + N.nodes.length ≤ 5000000000000
  rl : R.length ≤ 10000000000000

/-- What 'adopt' leaves. -/
def AdPost (w : World) (p : Nat) (M : Mgr) (L : Lay) (q : Nat) (N : Mgr) (LN : Lay) (bn : Nat) (e : Ending) (w' : World) : Prop :=
  e = .returned (.tuple #[]) ∧ ∃ (V : List Nat) (nu : Nat → Option Nat) (num : Nat) (L' : Lay), Mgr.Names M N V nu num ∧ num ≤ M.nodes.length + N.nodes.length ∧ Rep w' p (Mgr.adM M N V nu num) L' ∧
    Kp (fun k => L.at p k ∨ LN.at q k ∨ k = bn) w w' ∧ ∀ k, L'.at p k → L.at p k ∨ LN.at q k ∨ w.heap.size ≤ k
set_option maxRecDepth 1000000 in
set_option maxHeartbeats 16000000 in
theorem adopt_ok {w : World} {p : Nat} {M : Mgr} {L : Lay} {q : Nat} {N : Mgr} {LN : Lay} {R : List Nat} {rv : Value} {bn : Nat} {K0 : Int → Option Nat} (s : AdS w p M L q N LN R rv bn K0) :
    Calls Tryz.prog 77 #[ptr p, ptr q, rv, .map (some bn)] w (AdPost w p M L q N LN bn) := by
  have SS := Lib.hid s
  obtain ⟨F, raw, _⟩ := s.rm.raw
  obtain ⟨bs, cs, hss, hcs1, hcs2, _, hcs, _⟩ := ownsRow_open raw.shown (by rw [s.rm.wf.sh]; have := s.rm.wf.two; omega)
  have c3 := raw.c3
  rw [hss] at c3
  have plt := raw.plt
  have hmm := @run_makeMap Tryz.prog
  have BW := Lib.hid (fun (z : World) => Backward_ok (some ⟨bs, 0, none⟩) M.shown.length cs z)
  have hsl : M.shown.length ≤ 9223372036854775807 := by have := s.hs; rw [s.rm.wf.sh]; omega
  obtain ⟨ar, cr, rfl⟩ := s.src.form
  have HSS := Lib.hid hss
  clear s raw hcs hcs1 hcs2 hss
  refine (callsIn_wide (n := 3)).1 (callsIn_of_wp_marks Tryz.func77 rfl trivial ?_ rfl)
  refine wpIn_wide.2 ?_
  simp only [Tryz.ntmps77, List.size_toArray, List.length_cons, List.length_nil, Nat.reduceAdd, Nat.reduceSub, Array.replicate_succ, Array.replicate_zero, List.push_toArray, List.append_toArray, List.nil_append, List.cons_append]
  go_upto_region 3 with fail
  have k3 : Kp No w (((w.alloc (.cells #[.map (some bn)] 105)).alloc (.cells #[.int .i64 (M.shown.length : Int)] 40)).alloc (.cells #[.slice none 0 0] 29)) := ((Kp.alloc _).trans_no (Kp.alloc _)).trans_no (Kp.alloc _)
  have h1 : (((w.alloc (.cells #[.map (some bn)] 105)).alloc (.cells #[.int .i64 (M.shown.length : Int)] 40)).alloc (.cells #[.slice none 0 0] 29)).heap[w.heap.size]? = some (.cells #[.map (some bn)] 105 (0, 0)) := by
    rw [Below.heap_alloc _ _ _ (by simp; omega), Below.heap_alloc _ _ _ (by simp)]; exact heap_alloc_new _ _
  have h2 : (((w.alloc (.cells #[.map (some bn)] 105)).alloc (.cells #[.int .i64 (M.shown.length : Int)] 40)).alloc (.cells #[.slice none 0 0] 29)).heap[w.heap.size + 1]? = some (.cells #[.int .i64 (M.shown.length : Int)] 40 (0, 0)) := by
    rw [Below.heap_alloc _ _ _ (by simp)]
    have := heap_alloc_new (w.alloc (.cells #[.map (some bn)] 105)) (.cells #[.int .i64 (M.shown.length : Int)] 40)
    simpa using this
  have h3 : (((w.alloc (.cells #[.map (some bn)] 105)).alloc (.cells #[.int .i64 (M.shown.length : Int)] 40)).alloc (.cells #[.slice none 0 0] 29)).heap[w.heap.size + 1 + 1]? = some (.cells #[.slice none 0 0] 29 (0, 0)) := by
    have := heap_alloc_new ((w.alloc (.cells #[.map (some bn)] 105)).alloc (.cells #[.int .i64 (M.shown.length : Int)] 40)) (.cells #[.slice none 0 0] 29)
    simpa using this
  have hz : (((w.alloc (.cells #[.map (some bn)] 105)).alloc (.cells #[.int .i64 (M.shown.length : Int)] 40)).alloc (.cells #[.slice none 0 0] 29)).heap.size = w.heap.size + 3 := by simp
  generalize (((w.alloc (.cells #[.map (some bn)] 105)).alloc (.cells #[.int .i64 (M.shown.length : Int)] 40)).alloc (.cells #[.slice none 0 0] 29)) = w3 at *
  have K3 := Lib.hid k3
  have c33 : w3.cell? ⟨p, 3, none⟩ = some (.slice (some ⟨bs, 0, none⟩) M.shown.length cs) := (k3.cell (a := ⟨p, 3, none⟩) plt (fun z => z)).trans c3
  have plt3 : p < w3.heap.size := by omega
  have H1 := Lib.hid h1
  have H2 := Lib.hid h2
  have H3 := Lib.hid h3
  have HZ := Lib.hid hz
  clear c3 k3 h1 h2 h3 hz
  go_wp2_with fail
  refine (BW.out _).mono ?_
  rintro e w2 ⟨rfl, rfl⟩
  go_wp2_with fail
  have hb3 : bs < w3.heap.size := by
    have h := SS.out.rm.raw
    obtain ⟨F, raw, _⟩ := h
    have := raw.lt bs (by simp [Lay.at, HSS.out, Value.ownBlock])
    have := K3.out.size
    omega
  have BC : Hid (∀ j, j < M.shown.length → w3.cell? ⟨bs, j, none⟩ = some (.bool (M.shown.getD j false))) := Lib.hid (fun j hj => by
    obtain ⟨F, raw, _⟩ := (SS.out.rm.no K3.out).raw
    obtain ⟨g, cap, hv, _, _, _, hcell, _⟩ := ownsRow_open raw.shown (by omega)
    rw [HSS.out] at hv
    cases hv
    exact hcell j _ (by simp [hj]))
  have hbn2 : bs ≠ w.heap.size + 1 + 1 := fun e => by
    obtain ⟨F, raw, _⟩ := SS.out.rm.raw
    have := raw.lt bs (by simp [Lay.at, HSS.out, Value.ownBlock])
    omega
  have hwz : w3.heap.size = w.heap.size + 3 := HZ.out
  have hwb : bs < w.heap.size := by
    obtain ⟨F, raw, _⟩ := SS.out.rm.raw
    exact raw.lt bs (by simp [Lay.at, HSS.out, Value.ownBlock])
  have HST := backward_stops Fence.wide 2 trivial rfl (by omega) w3.heap.size bs cs M.shown (by have := SS.out.hs; rw [SS.out.rm.wf.sh]; omega) (fun A B => B.heap[w3.heap.size]? = A.heap[w3.heap.size]? ∧ B.heap[bs]? = A.heap[bs]?)
    (fun A B h => ⟨World.cell?_of_block h.1, fun j => World.cell?_of_block h.2⟩) (w3.alloc (.cells #[.slice (some ⟨bs, 0, none⟩) M.shown.length cs] 41)) (by simp) (by simp; omega)
    (by rw [cell_of_row _ _ _ _ _ _ (heap_alloc_new w3 (.cells #[.slice (some ⟨bs, 0, none⟩) M.shown.length cs] 41))]; rfl) (fun j hj => by rw [World.cell?_alloc_lt _ _ _ hb3]; exact BC.out j hj)
  obtain ⟨i0, hi, hz0, hz1, hz2⟩ := info_parts info_ref0
  have hge : w.heap.size + 1 + 1 < w3.heap.size := by omega
  have hsh : M.shown.length ≤ 10000000000000 := by have := SS.out.hs; rw [SS.out.rm.wf.sh]; omega
  have HGE := Lib.hid hge
  clear hwz
  have bO : Boxed (w3.alloc (.cells #[.slice (some ⟨bs, 0, none⟩) M.shown.length cs] 41)) (w.heap.size + 1 + 1) 29 (.slice none 0 0) := by
    show (w3.alloc (.cells #[.slice (some ⟨bs, 0, none⟩) M.shown.length cs] 41)).heap[w.heap.size + 1 + 1]? = _
    rw [Below.heap_alloc _ _ _ (by omega)]
    exact H3.out
  refine (wpIn_wide (n := 3)).1 (wpIn_rangeFunc_ownF rfl (by omega) (gf := 93) (lb := #[.pointer (some ⟨w3.heap.size, 0, none⟩)]) rfl trivial (enters_of Tryz.func93 (by kernel_rfl) rfl)
    HST (fun h k => ⟨k.1.trans h.1, k.2.trans h.2⟩) (fun W l o o' hl ho h1 h2 => ⟨putObj_far (by simp at hl; omega), putObj_far (by simp at hl; omega)⟩) (Below.refl _ _) (fun _ => rfl)
    (fun pre W => (∃ v, Boxed W (w.heap.size + 1 + 1) 29 v ∧ W.ownsRow (w.heap.size + 1 + 1) 40 1 v (unL pre).length ((unL pre).map natV) ∧ True) ∧ Below (w.heap.size + 1 + 1) (w3.alloc (.cells #[.slice (some ⟨bs, 0, none⟩) M.shown.length cs] 41)) W ∧ W.heap[w3.heap.size]? = some (.cells #[.slice (some ⟨bs, 0, none⟩) M.shown.length cs] 41 (0, 0)))
    (fun _ _ _ => False)
    (OwnFrom.and (Own.from (holdsRow_own (w.heap.size + 1 + 1) (w.heap.size + 1 + 1) 29 40 1 (fun (pre : List (Nat × Bool)) => (unL pre).length) (fun (pre : List (Nat × Bool)) => (unL pre).map natV) (fun _ _ => True)) _) (OwnFrom.and (ownFrom_below (by simp; omega) (by simp; omega)) (ownFrom_cells _ _)))
    (fun _ _ _ _ _ hs _ _ => hs)
    ⟨⟨_, bO, World.ownsRow_nil _ _ _ _, trivial⟩, Below.refl _ _, heap_alloc_new w3 (.cells #[.slice (some ⟨bs, 0, none⟩) M.shown.length cs] 41)⟩
    (fun x => { tmps := #[ptr p, ptr q, .slice ar R.length cr, .map (some bn), undef, undef, undef, .pointer (some ⟨w.heap.size, 0, none⟩), .pointer (some ⟨w.heap.size + 1, 0, none⟩), .pointer (some ⟨w.heap.size + 1 + 1, 0, none⟩), .int .i64 (x.1 : Int), .bool x.2, undef, undef, undef, undef, undef, undef, undef, undef, ptr p, .pointer (some ⟨p, 0, none⟩), .pointer (some ⟨p, 3, none⟩), .slice (some ⟨bs, 0, none⟩) M.shown.length cs, .int .i64 (M.shown.length : Int), ptr p, .pointer (some ⟨p, 0, none⟩), .pointer (some ⟨p, 3, none⟩), .slice (some ⟨bs, 0, none⟩) M.shown.length cs, .func (.func 93) #[] #[.pointer (some ⟨w3.heap.size, 0, none⟩)], .int .i64 (x.1 : Int), .bool x.2, undef, undef, undef, undef, undef, undef, undef, undef, undef, undef, undef, undef, undef, undef, undef, undef, undef, undef, undef, undef, undef, undef, undef, undef, undef, undef, undef, undef, undef, undef, undef, undef, undef, undef, undef, undef, undef, undef, undef, undef, undef, undef, undef, undef, undef, undef, undef, undef, undef, undef, undef, undef, undef, undef, undef, undef, undef, undef, undef, undef, undef, undef, undef, undef, undef, undef, undef, undef, undef, undef, undef, undef, undef, undef, undef, undef, undef, undef, undef, undef, undef, undef, undef, undef, undef, undef, undef, undef, undef, undef, undef, undef, undef, undef, undef, undef, undef, undef, undef, undef, undef, undef, undef, undef], defers := [] }) ?assign ?body ?done ?stop)
  case assign =>
    intro l x W K hK
    gi_wp2
    exact hK
  case body =>
    rintro l pre ⟨i, ok⟩ W ⟨⟨v, hv, hrow, _⟩, hB, hbx⟩ hlt
    have hc := hv.cell
    have hsz := hB.size
    have hml := maxLen_val
    have hul : (unL pre).length < 10000000000000 := by
      have : (unL pre).length ≤ pre.length := by unfold unL; rw [List.length_map]; exact List.length_filter_le _ _
      omega
    cases ok with
    | false =>
      have hre : unL (pre ++ [(i, false)]) = unL pre ++ [i] := unL_snoc pre (i, false)
      have HRE := Lib.hid hre
      clear hre
      gi_wp2_with (gi_at_builtin; refine wpListIn_append_own _ rfl _ _ 29 rfl (w.heap.size + 1 + 1) 40 i0 (.int .i64 0) 1 8 Tryz.underlying29 hi hz0 hz1 hz2 rfl (by decide) _ _ _ rfl (hrow.alloc _) ⟨W.heap.size, 0, none⟩ 1 1 [.int .i64 (i : Int)] rfl rfl (cell_one_new _ _ _) (by simp [Value.oneCell']) (by omega) (by omega) (by simp at hsz ⊢; omega) ?_; intro v' w1 hown' hgrow _; obtain ⟨g', cap', rfl⟩ := ownsRow_succ hown'; obtain ⟨hv1, hv2, hr2, hk2, hb2⟩ := hv.appended (by decide) hrow (by simp at hsz; omega) (Nat.le_refl _) hown' hgrow; have hc1 := hv1.cell; have hf1 := hv1.frozen)
      have hb3' : (w1.setCell ⟨w.heap.size + 1 + 1, 0, none⟩ (.slice (some ⟨g', 0, none⟩) ((unL pre).length + 1) cap')).heap[w3.heap.size]? = W.heap[w3.heap.size]? := by
        rw [Below.heap_setCell _ _ _ _ (by show w3.heap.size ≠ w.heap.size + 1 + 1; omega), hgrow.block _ (by have := heap_lt hbx; simp; omega) (fun e => row_box hrow hbx (by decide) e.symm), Below.heap_alloc _ _ _ (heap_lt hbx)]
      refine ⟨hk2, ⟨hb3', hb2.block _ (by omega)⟩, ⟨_, hv2, ?_, trivial⟩, hB.trans hb2, hb3'.trans hbx⟩
      show (w1.setCell _ _).ownsRow _ _ _ _ (unL (pre ++ [(i, false)])).length ((unL (pre ++ [(i, false)])).map natV)
      rw [HRE.out, List.length_append, List.map_append]
      exact hr2
    | true =>
      have hre : unL (pre ++ [(i, true)]) = unL pre := by rw [unL_snoc]; simp
      have HRE := Lib.hid hre
      clear hre
      gi_wp2
      refine ⟨KeepsOthers.refl _, ⟨rfl, rfl⟩, ⟨_, hv, ?_, trivial⟩, hB, hbx⟩
      show W.ownsRow _ _ _ _ (unL (pre ++ [(i, true)])).length ((unL (pre ++ [(i, true)])).map natV)
      rw [HRE.out]
      exact hrow
  case done =>
    rintro D ys W hD rfl ⟨⟨v, hv, hrow, _⟩, hB, hbx⟩ hK
    obtain ⟨us, hus⟩ : ∃ us, unL (bkU M.shown M.shown.length) = us := ⟨_, rfl⟩
    rw [hus] at hrow
    have UM : Hid (∀ u, u ∈ us → u < M.shown.length ∧ M.vis u = false) := Lib.hid (fun u hu => by rw [← hus] at hu; exact mem_unL hu)
    have UN : Hid us.Nodup := Lib.hid (by rw [← hus]; exact unL_nodup _)
    have hul : us.length ≤ M.shown.length := by
      have h := Mgr.nodup_length us (List.range M.shown.length) UN.out (fun u hu => List.mem_range.2 (UM.out u hu).1)
      rw [List.length_range] at h
      exact h
    clear hus
    obtain ⟨au, cu, rfl, _⟩ := ownsRow_len (row_zero hrow)
    have k5 : Kp No w W := ⟨hB.os.trans K3.out.os, hB.tape.trans K3.out.tape, hB.output.trans K3.out.output, by have := hB.size; simp at this; omega, fun k hk _ => by
      rw [hB.block k (by omega), Below.heap_alloc _ _ _ (by omega), K3.out.block k hk (fun z => z)]⟩
    have g0 : W.heap[w.heap.size]? = some (.cells #[.map (some bn)] 105 (0, 0)) := by
      rw [hB.block _ (by omega), Below.heap_alloc _ _ _ (by omega)]; exact H1.out
    have g1 : W.heap[w.heap.size + 1]? = some (.cells #[.int .i64 (M.shown.length : Int)] 40 (0, 0)) := by
      rw [hB.block _ (by omega), Below.heap_alloc _ _ _ (by omega)]; exact H2.out
    have g2 : W.heap[w.heap.size + 1 + 1]? = some (.cells #[.slice au us.length cu] 29 (0, 0)) := hv
    have gl := heap_lt g2
    have dl := heap_lt hK
    have hDg : w.heap.size + 1 + 1 < D := by simp at hD; omega
    have UG : ∃ gu og, w.heap.size ≤ gu ∧ gu < W.heap.size ∧ gu ≠ w.heap.size + 1 + 1 ∧ gu ≠ w.heap.size + 1 ∧ W.heap[gu]? = some og ∧ (0 < us.length → au = some ⟨gu, 0, none⟩) ∧ (us ≠ [] → ∃ cur : Array Value, og = .cells cur 40 (0, 0) ∧ ∀ j, j < us.length → cur[j]? = some (natV (us.getD j 0))) ∧ us.length ≤ cu := by
      rcases hrow.2 with ⟨hv0, h0⟩ | ⟨g, cap, cur, hv0, hg1, hg2, hg3, _, hg5, hg6⟩
      · exact ⟨w.heap.size, _, Nat.le_refl _, by omega, by omega, by omega, g0, fun h => by omega, fun h => (h (List.length_eq_zero_iff.1 h0)).elim, by omega⟩
      · cases hv0
        refine ⟨g, _, by omega, heap_lt hg2, fun e => ?_, by omega, hg2, fun _ => rfl, fun _ => ⟨cur, rfl, fun j hj => ?_⟩, hg3⟩
        · rw [e, g2] at hg2; simp at hg2
        · have : (cur.toList.take (us.length * 1))[j]? = some (natV (us.getD j 0)) := by rw [hg6]; simp [hj]
          rw [List.getElem?_take] at this
          split at this
          · simpa using this
          · cases this
    obtain ⟨gu, og, u1, u2, u3, u4, u5, u6, u7, u8⟩ := UG
    have KW := Lib.hid k5
    have bnl : bn < w.heap.size := SS.out.map.lt
    obtain ⟨b, hb⟩ : ∃ b : AvB, b = { Bk := W.heap.size, Bn := w.heap.size, Bu := w.heap.size + 1 + 1, Bx := w.heap.size + 1, bn := bn, gu := gu, cu := cu, og := og, D := D } := ⟨_, rfl⟩
    have AP : Hid (AvP w q LN b us (W.heap.size + 1)) := Lib.hid (by
      rw [hb]
      exact ⟨by show w.heap.size ≤ W.heap.size; omega, Nat.le_refl _, by show w.heap.size ≤ w.heap.size + 1 + 1; omega, by show w.heap.size ≤ w.heap.size + 1; omega, by omega, u1, bnl, SS.out.bq, by show W.heap.size ≠ w.heap.size + 1 + 1; omega, by show w.heap.size + 1 ≠ gu; omega, by show W.heap.size + 1 ≠ gu; omega, by show W.heap.size + 1 ≠ W.heap.size; omega, by show W.heap.size + 1 ≠ w.heap.size; omega, by show W.heap.size + 1 ≠ w.heap.size + 1 + 1; omega, by show W.heap.size + 1 ≠ w.heap.size + 1; omega, by show W.heap.size + 1 ≠ D; omega, by show gu ≠ W.heap.size; omega, by show gu ≠ w.heap.size + 1 + 1; omega, fun k hk => SS.out.rn.lt k hk, ⟨u8, by omega⟩, u7⟩)
    obtain ⟨s0, hs0⟩ : ∃ s0 : NmSt, s0 = ⟨K0, us.length, M.shown.length⟩ := ⟨_, rfl⟩
    have NI : Hid (NmI us s0) := Lib.hid (by
      rw [hs0]
      refine ⟨fun g h x hg hh => ?_, fun g x hg => ?_, Nat.le_refl _, UN.out, fun u hu => (UM.out u hu).1⟩
      · obtain ⟨g', rfl, sg, _, eg⟩ := SS.out.k1 g x hg
        obtain ⟨h', rfl, sh, _, eh⟩ := SS.out.k1 h x hh
        rw [Mgr.canon SS.out.rn.wf sg sh (fun a => by rw [eg, eh])]
      · obtain ⟨_, _, _, hvis, _⟩ := SS.out.k1 g x hg
        refine ⟨?_, fun hm => ?_⟩
        · show x < M.shown.length
          rcases Nat.lt_or_ge x M.shown.length with h | h
          · exact h
          · unfold Mgr.vis at hvis
            rw [List.getD_eq_getElem?_getD, List.getElem?_eq_none h] at hvis
            cases hvis
        · rw [List.take_of_length_le (Nat.le_refl _)] at hm
          have := (UM.out x hm).2
          rw [hvis] at this
          cases this)
    have J0 : Hid (AvJ w q N LN b us s0 (W.heap.size + 1) ((W.alloc (.cells #[.slice none 0 0] 29)).alloc (.map #[] 0)) []) := Lib.hid (by
      have ka : Kp No W ((W.alloc (.cells #[.slice none 0 0] 29)).alloc (.map #[] 0)) := (Kp.alloc _).trans_no (Kp.alloc _)
      have kk := KW.out.trans_no ka
      have at_ : ∀ {k : Nat} {o : Obj}, W.heap[k]? = some o → ((W.alloc (.cells #[.slice none 0 0] 29)).alloc (.map #[] 0)).heap[k]? = some o := fun h => by rw [ka.block _ (heap_lt h) (fun z => z)]; exact h
      rw [hb, hs0]
      refine ⟨SS.out.rn.no kk, kk.of_no, ⟨.slice none 0 0, ?_, World.ownsRow_nil _ _ _ _, by simp [Value.ownBlock], by simp [Value.ownBlock], by simp [Value.ownBlock]⟩, at_ g0, ⟨au, at_ g2, u6⟩, at_ u5, at_ g1, SS.out.map.kp kk (fun z => z), at_ hK⟩
      show ((W.alloc (.cells #[.slice none 0 0] 29)).alloc (.map #[] 0)).heap[W.heap.size]? = _
      rw [Below.heap_alloc _ _ _ (by simp)]
      exact heap_alloc_new _ _)
    have M0 : Hid (MapAs ((W.alloc (.cells #[.slice none 0 0] 29)).alloc (.map #[] 0)) (W.heap.size + 1) intV Value.bool (seenF [])) := Lib.hid (by
      have := MapAs.empty (W.alloc (.cells #[.slice none 0 0] 29)) intV Value.bool
      rw [← seenF_nil] at this
      simpa using this)
    have HBB := Lib.hid hb
    have HS0 := Lib.hid hs0
    clear hv hrow hB hbx hK k5 g0 g1 g2 u1 u2 u3 u4 u5 u6 u7 u8 hb hs0 gl dl bO BC HST
    have hnum : s0.num ≤ 10000000000000 := by rw [HS0.out]; show M.shown.length ≤ _; omega
    have VIS : Hid (Visits N q LN (W.heap.size + 1) 86 #[.pointer (some ⟨W.heap.size, 0, none⟩), .pointer (some ⟨w.heap.size, 0, none⟩), .pointer (some ⟨w.heap.size + 1 + 1, 0, none⟩), .pointer (some ⟨w.heap.size + 1, 0, none⟩)] big (AvJ w q N LN b us s0 (W.heap.size + 1))) := Lib.hid (by
      have h : Visits N q LN (W.heap.size + 1) 86 #[.pointer (some ⟨b.Bk, 0, none⟩), .pointer (some ⟨b.Bn, 0, none⟩), .pointer (some ⟨b.Bu, 0, none⟩), .pointer (some ⟨b.Bx, 0, none⟩)] big (AvJ w q N LN b us s0 (W.heap.size + 1)) :=
        ⟨fun w f => by kernel_rfl, fun _ _ h => h.rep, fun x y V h k => h.kpo AP.out k, fun x V f S h _ _ hl hm => adopt_visit AP.out NI.out x V f S h hl hnum hm⟩
      rw [show b.Bk = W.heap.size by rw [HBB.out], show b.Bn = w.heap.size by rw [HBB.out], show b.Bu = w.heap.size + 1 + 1 by rw [HBB.out], show b.Bx = w.heap.size + 1 by rw [HBB.out]] at h
      exact h)
    have R0 : Hid (AdR w q N LN b us s0 (W.heap.size + 1) R R.length (.int .i64 0) ((W.alloc (.cells #[.slice none 0 0] 29)).alloc (.map #[] 0))) := Lib.hid ⟨0, by omega, rfl, J0.out, M0.out⟩
    have BNE : Hid (b.bn = bn) := Lib.hid (by rw [HBB.out])
    have CR : Hid (∀ y, Kp (fun k => k = bn) w y → SrcAt y (.slice ar R.length cr) 1 R.length (R.map natV)) := Lib.hid (fun y ky => SS.out.src.kp ky (fun hn0 g o m c hv e => by
      obtain ⟨g1, o1, c1, hv1, _, hc1⟩ := SS.out.src.cellAt (by omega)
      rw [hv1] at hv
      injection hv with h1 _ _
      injection h1 with h1
      injection h1 with h1 _ _
      have hcell := hc1 0 (natV (R.getD 0 0)) (by simp [show 0 < R.length by omega])
      obtain ⟨es, cl, hmb, _⟩ := SS.out.map
      rw [h1, e] at hcell
      simp [World.cell?, hmb] at hcell))
    have hRl : R.length ≤ 10000000000000 := SS.out.rl
    clear hnum J0 M0
    go_wp2_with fail
    go_loopg [41] R.length (fun gk s41 x => AdR w q N LN b us s0 (W.heap.size + 1) R gk s41 x)
    case atStart => exact R0.out
    case round =>
      clear R0
      obtain ⟨k, hk, rfl, hj, hm⟩ := hrel
      have HK := Lib.hid hk
      by_cases hlt : k < R.length
      · have hlti : (k : Int) < R.length := by omega
        have hkp := hj.kp
        rw [BNE.out] at hkp
        obtain ⟨g1, o1, c1, hv1, _, hc1⟩ := (CR.out wr hkp).cellAt (by omega)
        cases hv1
        have d1 := hc1 k (natV (R.getD k 0)) (by simp [hlt])
        have hst : N.stored (R.getD k 0) := SS.out.st _ (by rw [List.getD_eq_getElem?_getD, List.getElem?_eq_getElem hlt]; exact List.getElem_mem hlt)
        have hsn : walkAll N (R.take (k + 1)) = N.walkS (N.n + 1) (walkAll N (R.take k)) (R.getD k 0) := by
          rw [List.take_succ_eq_append_getElem hlt, walkAll_snoc]
          simp [hlt]
        have hbd : (N.walkS (N.n + 1) ((walkAll N (R.take k)).1, (walkAll N (R.take k)).2) (R.getD k 0)).2.length ≤ big := by
          have h1 := (walkAll_seen SS.out.rn.wf (R.take (k + 1)) (fun f hf => SS.out.st f (List.mem_of_mem_take hf))).len SS.out.rn.wf
          rw [hsn] at h1
          exact Nat.le_trans h1 SS.out.hb
        have CA := Lib.hid (walk_ok VIS.out (N.n + 1) (R.getD k 0) wr (walkAll N (R.take k)).1 (walkAll N (R.take k)).2 (by omega) hst hj hm hbd)
        have HSN := Lib.hid hsn
        unfold natV at d1
        clear hk hj hm hkp hc1 hst hsn hbd
        generalize R.getD k 0 = rk at *
        go_wp2_with fail
        refine CA.out.mono ?_
        rintro e y ⟨rfl, hJ, hS⟩
        have JN : Hid (AdR w q N LN b us s0 (W.heap.size + 1) R (R.length - (k + 1)) (.int .i64 ((k + 1 : Nat) : Int)) y) := Lib.hid ⟨k + 1, by have := HK.out; omega, rfl, by rw [HSN.out]; exact hJ, by rw [HSN.out]; exact hS⟩
        clear hJ hS CA
        go_wp2_with fail
        go_roundg (R.length - (k + 1))
        case measure => have := HK.out; omega
        case rel => exact JN.out
      · obtain rfl : k = R.length := by omega
        rw [List.take_length] at hj hm
        clear hm hk
        have hge2 : ¬ (R.length : Int) < R.length := by omega
        obtain ⟨T, hT⟩ : ∃ T, T = wr := ⟨_, rfl⟩
        subst hT
        obtain ⟨V, hV⟩ : ∃ V, (walkAll N R).2 = V := ⟨_, rfl⟩
        have NMS : Hid (Mgr.Names M N V (fun g : Nat => (nmAll us s0 V).K (g : Int)) (nmAll us s0 V).num) := Lib.hid (by
          have ni := NI.out
          rw [HS0.out] at ni
          have h := names_of SS.out.rn.wf SS.out.st ni SS.out.rm.wf.sh0 SS.out.rm.wf.sh1 SS.out.k1 SS.out.k2
          rw [hV] at h
          rw [HS0.out]
          exact h)
        have hVl : V.length ≤ N.nodes.length := by rw [← hV]; exact (walkAll_seen SS.out.rn.wf R SS.out.st).len SS.out.rn.wf
        have hnum : (nmAll us s0 V).num ≤ 5000000000000 := by
          have h := (nmAll_num (us := us) V s0).2
          rw [HS0.out] at h ⊢
          have h2 : (nmAll us ⟨K0, us.length, M.shown.length⟩ V).num ≤ M.shown.length + V.length := h
          have := SS.out.hs
          have := SS.out.rm.wf.sh
          omega
        have HNUM : Hid ((nmAll us s0 V).num ≤ M.nodes.length + N.nodes.length) := Lib.hid (by
          have h := (nmAll_num (us := us) V s0).2
          rw [HS0.out] at h ⊢
          have h2 : (nmAll us ⟨K0, us.length, M.shown.length⟩ V).num ≤ M.shown.length + V.length := h
          have := SS.out.rm.wf.sh
          omega)
        rw [hV] at hj
        clear hV
        have hT0 := hj.kp
        rw [BNE.out] at hT0
        have KT := Lib.hid hT0
        have RN := Lib.hid hj.rep
        have IDX := Lib.hid hj.idx
        rw [BNE.out] at IDX
        obtain ⟨kv, t1, t2, _⟩ := hj.bk
        have t3 := hj.bm
        have t4 := hj.bx
        have t5 := hj.xd
        rw [show b.Bk = W.heap.size by rw [HBB.out]] at t1
        rw [show b.Bn = w.heap.size by rw [HBB.out], BNE.out] at t3
        rw [show b.Bx = w.heap.size + 1 by rw [HBB.out]] at t4
        rw [show b.D = D by rw [HBB.out]] at t5
        obtain ⟨ak, ck, rfl, _⟩ := ownsRow_len (row_zero t2)
        obtain ⟨nu, hnu⟩ : ∃ nu : Nat → Option Nat, (fun g : Nat => (nmAll us s0 V).K (g : Int)) = nu := ⟨_, rfl⟩
        have NUE : Hid (∀ g : Nat, (nmAll us s0 V).K (g : Int) = nu g) := Lib.hid (fun g => by rw [← hnu])
        rw [hnu] at NMS
        generalize (nmAll us s0 V).K = KF at *
        generalize (nmAll us s0 V).num = num at *
        have RAWT : Hid (∃ F, Raw T p L M.order M.level M.nodes M.shown M.free M.uq F) := Lib.hid (by
          obtain ⟨F, raw, _⟩ := SS.out.rm.raw
          exact ⟨F, raw.kp KT.out (fun k e => by rw [e]; exact SS.out.bl)⟩)
        obtain ⟨F9, raw9⟩ := RAWT.out
        have LLT : Hid (∀ k, L.at p k → k < w.heap.size) := Lib.hid (fun k hk => SS.out.rm.lt k hk)
        have PK : Hid (∀ y, Kp (L.at p) T y → ∀ c o, w.heap.size ≤ c → T.heap[c]? = some o → y.heap[c]? = some o) := Lib.hid (fun y ky c o hc ho => by
          rw [ky.block c (heap_lt ho) (fun h => by have := LLT.out c h; omega)]; exact ho)
        obtain ⟨n0, hni, hnz0, hnz1, hnz2⟩ := info_parts info_node
        obtain ⟨w1, hmk, mrow, mgr⟩ := run_make_full (P := Tryz.prog) T T.heap.size 61 60 n0 _ 3 Tryz.underlying61 hni hnz0 hnz1 .i64 .i64 num (by rw [hnz2]; omega) (by rw [maxLen_val]; omega) (Nat.le_refl _)
        have km : Kp No T w1 := (Kp.grown mgr).mono (fun k _ e => by cases e)
        rw [← njL_zero] at mrow
        have R1 := raw9.no km
        have c21 := R1.c2
        have z21 := R1.fz 2
        have p21 := R1.plt
        have A0 : Hid (AdP T p L { L with sn := .slice (some ⟨T.heap.size, 0, none⟩) num num } M M.uq F9 (njL num 0) (w1.setCell ⟨p, 2, none⟩ (.slice (some ⟨T.heap.size, 0, none⟩) num num))) := Lib.hid
          ⟨R1.setNodes (nodes' := njL num 0) (by rw [njL_len]; exact row_zero mrow), km.of_no.trans (A' := L.at p) (fun k h => .inl h) ((Kp.setCell _ _).mono (fun k _ e => .inl e))⟩
        have d4 : T.cell? ⟨w.heap.size + 1, 0, none⟩ = some (.int .i64 (num : Int)) := by simp [World.cell?, t4, natV]
        have T1 := Lib.hid t1
        have T2 := Lib.hid t2
        have T3 := Lib.hid t3
        have T4 := Lib.hid t4
        have T5 := Lib.hid t5
        have l4 := heap_lt t4
        have hnumi : (num : Int) ≤ 5000000000000 := by omega
        clear hj hT0 t1 t2 t3 t4 t5 hnu raw9 km mrow mgr R1 VIS AP NI CR
        go_upto_region 16 with fail
        clear hmk c21 z21 p21 d4 l4
        generalize (w1.setCell ⟨p, 2, none⟩ (.slice (some ⟨T.heap.size, 0, none⟩) num num)) = y0 at *
        obtain ⟨L1, hL1⟩ : ∃ L1, { L with sn := .slice (some ⟨T.heap.size, 0, none⟩) num num } = L1 := ⟨_, rfl⟩
        rw [hL1] at A0
        have SN1 : Hid (L1.sn = .slice (some ⟨T.heap.size, 0, none⟩) num num) := Lib.hid (by rw [← hL1])
        have LE1 : Hid (∀ k, L1.at p k → L.at p k ∨ k = T.heap.size) := Lib.hid (fun k hk => by
          rw [← hL1] at hk
          rcases hk with h | h | h | h | h | h | h | h
          · exact .inl (.inl h)
          · exact .inl (.inr (.inl h))
          · exact .inl (.inr (.inr (.inl h)))
          · exact .inl (by simp [Lay.at] at h ⊢; simp [h])
          · exact .inl (by simp [Lay.at] at h ⊢; simp [h])
          · right; simpa [Value.ownBlock, eq_comm] using h
          · exact .inl (by simp [Lay.at] at h ⊢; simp [h])
          · exact .inl (by simp [Lay.at] at h ⊢; simp [h]))
        have SS1 : Hid (L1.ss = L.ss) := Lib.hid (by rw [← hL1])
        clear hL1
        have c2 := A0.out.raw.c2
        rw [SN1.out] at c2
        have pl0 := A0.out.raw.plt
        have B0 : Hid (AdA T p L L1 M M.uq F9 num num (.int .i64 0) y0) := Lib.hid ⟨0, by omega, rfl, A0.out⟩
        go_wp2_with fail
        clear c2
        go_loopg [61] num (fun gk s61 y => AdA T p L L1 M M.uq F9 num gk s61 y)
        case atStart => exact B0.out
        case round =>
          clear B0
          obtain ⟨j, hj, rfl, S⟩ := hrel
          have HJ := Lib.hid hj
          have SA := Lib.hid S
          by_cases hlt2 : j < num
          · have hlti2 : (j : Int) < num := by omega
            have c2 := S.raw.c2
            rw [SN1.out] at c2
            have plr := S.raw.plt
            have orow := S.raw.nodes
            rw [SN1.out, njL_len] at orow
            obtain ⟨_, _, hvv, _, _, _, hcl, hzl⟩ := ownsRow_open orow (by omega)
            cases hvv
            obtain ⟨e0, _, _⟩ := flat_get (N := njL num j) (k := j) (by rw [njL_len]; exact hlt2)
            have d0 := hcl _ _ e0
            have zz := hzl (j * 3)
            have gl2 := World.block_lt_of_cell? _ _ d0
            have JN : Hid (AdA T p L L1 M M.uq F9 num (num - (j + 1)) (.int .i64 ((j + 1 : Nat) : Int)) (wr.setCell ⟨T.heap.size, j * 3, none⟩ (.int .i64 (-1)))) := Lib.hid (by
              refine ⟨j + 1, by have := HJ.out; omega, rfl, SA.out.set SN1.out (Nat.le_refl _) ((Kp.setCell _ _).mono (fun _ _ e => e)) ?_⟩
              have h := ownsRow_store orow (j * 3) (.int .i64 (-1))
              rw [flat_set0 (njL num j) j (-1) (by rw [njL_len]; exact hlt2)] at h
              have e : (njL num j).set j (-1, ((njL num j).getD j (0, 0, 0)).2) = njL num (j + 1) := by
                rw [← njL_set]
                congr 2
                simp [njL, hlt2]
              rw [e] at h
              rw [SN1.out, njL_len]
              exact h)
            clear hj S orow hcl hzl e0
            generalize ((njL num j).getD j (0, 0, 0)).1 = old0 at *
            go_wp2_with fail
            go_roundg (num - (j + 1))
            case measure => have := HJ.out; omega
            case rel => exact JN.out
          · obtain rfl : j = num := by omega
            have hgej : ¬ (j : Int) < j := by omega
            clear hj S hlt2
            have Y1 := Lib.hid SA.out
            rw [njL_all] at Y1
            clear SA
            have hWs : w.heap.size ≤ W.heap.size := KW.out.size
            have hbk1 := PK.out wr Y1.out.kp W.heap.size _ hWs T1.out
            have ok1 : wr.cell? ⟨W.heap.size, 0, none⟩ = some (.slice ak V.length ck) := by rw [cell_of_row _ _ _ _ _ _ hbk1]; rfl
            have lk1 := heap_lt hbk1
            have hVi : V.length ≤ 9223372036854775807 := by have := SS.out.hs; omega
            have C0 : Hid (AdB T p L L1 M N M.uq F9 nu V j V.length (.int .i64 0) wr) := Lib.hid ⟨0, by omega, rfl, Y1.out⟩
            clear hbk1
            go_wp2_with fail
            clear ok1 lk1
            go_loopg [74] V.length (fun gk s74 y => AdB T p L L1 M N M.uq F9 nu V j gk s74 y)
            case atStart => exact C0.out
            case round =>
              clear C0
              obtain ⟨m, hm, rfl, S⟩ := hrel
              have HM := Lib.hid hm
              have SB := Lib.hid S
              by_cases hlt3 : m < V.length
              · have hlti3 : (m : Int) < V.length := by omega
                have krow := ownsRow_kp T2.out S.kp (fun k hk hA => by have h1 := (T2.out.lt k hk).1; have h2 := LLT.out k hA; omega)
                obtain ⟨gk2, ck2, hvk, _, _, _, hck, _⟩ := ownsRow_open krow (by omega)
                cases hvk
                have dk := hck m (natV (V.getD m 0)) (by simp [hlt3])
                have lk2 := World.block_lt_of_cell? _ _ dk
                have hgV : V.getD m 0 ∈ V := by rw [List.getD_eq_getElem?_getD, List.getElem?_eq_getElem hlt3]; exact List.getElem_mem hlt3
                have hst := NMS.out.st _ hgV
                have hnm := NMS.out.nm hgV
                have hlo := NMS.out.in_ (NMS.out.cl _ hgV).1
                have hhi := NMS.out.in_ (NMS.out.cl _ hgV).2
                have rnx := RN.out.kp S.kp (fun k hA hq => SS.out.dis k hA hq)
                obtain ⟨Fq, rawq, _⟩ := rnx.raw
                obtain ⟨bq, cq, hsq, hq1, hq2, hqn⟩ := rawq.node_cells rnx.wf
                have hgl := N.stored_lt rnx.wf hst.1
                have hXT : T.heap.size < wr.heap.size := (S.raw.nodes.lt T.heap.size (by rw [SN1.out]; rfl)).2
                obtain ⟨n0', n1', n2'⟩ := hqn _ hgl
                have cq2 := rawq.c2
                rw [hsq] at cq2
                have plq := rawq.plt
                have blq := World.block_lt_of_cell? _ _ n0'
                have hqb : N.nodes.length ≤ 9223372036854775807 := by have := SS.out.hs; omega
                have hSET : Mgr.setN N nu (V.take (m + 1)) (List.replicate j (-1, 0, 0)) = (Mgr.setN N nu (V.take m) (List.replicate j (-1, 0, 0))).set (Mgr.nmO nu (V.getD m 0)) (Mgr.imN N nu (V.getD m 0)) := by
                  rw [List.take_succ_eq_append_getElem hlt3]
                  unfold Mgr.setN
                  rw [List.foldl_append]
                  simp [hlt3]
                have HSET := Lib.hid hSET
                unfold natV at dk n1' n2'
                have hgli : ((V.getD m 0 : Nat) : Int) < (N.nodes.length : Int) := by omega
                have IM : Hid (Mgr.imN N nu (V.getD m 0) = ((N.nd (V.getD m 0)).1, Mgr.nmO nu (N.nd (V.getD m 0)).2.1, Mgr.nmO nu (N.nd (V.getD m 0)).2.2)) := Lib.hid rfl
                clear hm S krow hck hgV hst rnx rawq hsq hq1 hq2 hqn hgl hSET
                generalize V.getD m 0 = g at *
                generalize (N.nd g).1 = v at *
                generalize (N.nd g).2.1 = lo at *
                generalize (N.nd g).2.2 = hi at *
                go_upto_region 25 with fail
                have KB : Hid (Kp No wr (wr.alloc (.cells #[.int .i64 v, .int .i64 (lo : Int), .int .i64 (hi : Int)] 60))) := Lib.hid (Kp.alloc _)
                have hbx : (wr.alloc (.cells #[.int .i64 v, .int .i64 (lo : Int), .int .i64 (hi : Int)] 60)).heap[wr.heap.size]? = some (.cells #[.int .i64 v, .int .i64 (lo : Int), .int .i64 (hi : Int)] 60 (0, 0)) := heap_alloc_new _ _
                clear dk lk2 n0' n1' n2' cq2 plq blq
                generalize (wr.alloc (.cells #[.int .i64 v, .int .i64 (lo : Int), .int .i64 (hi : Int)] 60)) = wb at *
                generalize wr.heap.size = X at *
                have e0 : wb.cell? ⟨X, 0, none⟩ = some (.int .i64 v) := by simp [World.cell?, hbx]
                have e1 : wb.cell? ⟨X, 1, none⟩ = some (.int .i64 (lo : Int)) := by simp [World.cell?, hbx]
                have e2 : wb.cell? ⟨X, 2, none⟩ = some (.int .i64 (hi : Int)) := by simp [World.cell?, hbx]
                have hX := heap_lt hbx
                have YB := Lib.hid (SB.out.no KB.out)
                have c2 := YB.out.raw.c2
                rw [SN1.out] at c2
                have plb := YB.out.raw.plt
                have hb0 := PK.out wb YB.out.kp w.heap.size _ (Nat.le_refl _) T3.out
                have cbn : wb.cell? ⟨w.heap.size, 0, none⟩ = some (.map (some bn)) := by rw [cell_of_row _ _ _ _ _ _ hb0]; rfl
                have lb0 := heap_lt hb0
                have IXB := IDX.out.kp YB.out.kp SS.out.bl
                have LKG : ∀ c x, nu c = some x → (Instr.lookup 105 (.map (some bn)) (.int .i64 (c : Int)) false).run Tryz.prog wb.drew = .ok (.int .i64 (x : Int)) wb.drew := fun c x hx => by
                  have h := (IXB.kp Kp.drew (fun z => z)).lookup keyRef Tryz.underlying105 zeroRef (c : Int) false
                  rw [NUE.out, hx] at h
                  exact h
                have lkf := LKG g _ hnm.1
                have lkl := LKG lo _ hlo
                have lkh := LKG hi _ hhi
                have hnm2 := hnm.2.1
                have hxi : ((Mgr.nmO nu g : Nat) : Int) < (j : Int) := by omega
                have hji : j ≤ 9223372036854775807 := by omega
                have hlen : (Mgr.setN N nu (V.take m) (List.replicate j (-1, 0, 0))).length = j := by rw [Mgr.setN_len, List.length_replicate]
                have orow := YB.out.raw.nodes
                rw [SN1.out, hlen] at orow
                obtain ⟨_, _, hvv, _, _, _, hcl, hzl⟩ := ownsRow_open orow (by omega)
                cases hvv
                obtain ⟨r0, r1, r2⟩ := flat_get (N := Mgr.setN N nu (V.take m) (List.replicate j (-1, 0, 0))) (k := Mgr.nmO nu g) (by rw [hlen]; exact hnm2)
                have x0 := hcl _ _ r0
                have x1 := hcl _ _ r1
                have x2 := hcl _ _ r2
                have y0' := hzl (Mgr.nmO nu g * 3)
                have y1' := hzl (Mgr.nmO nu g * 3 + 1)
                have y2' := hzl (Mgr.nmO nu g * 3 + 2)
                have gl2 := World.block_lt_of_cell? _ _ x0
                have hs : ∀ (X : World) (i : Nat) (u : Value), Kp (fun k => k = T.heap.size) X (X.setCell ⟨T.heap.size, i, none⟩ u) := fun X i u => (Kp.setCell _ _).mono (fun k _ e => e)
                have KS := (((hs wb (Mgr.nmO nu g * 3) (.int .i64 v)).trans (A' := fun k => k = T.heap.size) (fun k h => .inl h) (hs _ (Mgr.nmO nu g * 3 + 1) (.int .i64 (Mgr.nmO nu lo : Int)))).trans (A' := fun k => k = T.heap.size) (fun k h => .inl h) (hs _ (Mgr.nmO nu g * 3 + 2) (.int .i64 (Mgr.nmO nu hi : Int))))
                have JN : Hid (AdB T p L L1 M N M.uq F9 nu V j (V.length - (m + 1)) (.int .i64 ((m + 1 : Nat) : Int)) (((wb.setCell ⟨T.heap.size, Mgr.nmO nu g * 3, none⟩ (.int .i64 v)).setCell ⟨T.heap.size, Mgr.nmO nu g * 3 + 1, none⟩ (.int .i64 (Mgr.nmO nu lo : Int))).setCell ⟨T.heap.size, Mgr.nmO nu g * 3 + 2, none⟩ (.int .i64 (Mgr.nmO nu hi : Int))).drew) := Lib.hid (by
                  refine ⟨m + 1, by have := HM.out; omega, rfl, (YB.out.set SN1.out (Nat.le_refl _) KS ?_).no Kp.drew⟩
                  have h := ownsRow_store (ownsRow_store (ownsRow_store orow (Mgr.nmO nu g * 3) (.int .i64 v)) (Mgr.nmO nu g * 3 + 1) (.int .i64 (Mgr.nmO nu lo : Int))) (Mgr.nmO nu g * 3 + 2) (.int .i64 (Mgr.nmO nu hi : Int))
                  rw [show ((((Mgr.setN N nu (V.take m) (List.replicate j (-1, 0, 0))).flatMap ndCells).set (Mgr.nmO nu g * 3) (.int .i64 v)).set (Mgr.nmO nu g * 3 + 1) (.int .i64 (Mgr.nmO nu lo : Int))).set (Mgr.nmO nu g * 3 + 2) (.int .i64 (Mgr.nmO nu hi : Int)) = ((Mgr.setN N nu (V.take m) (List.replicate j (-1, 0, 0))).set (Mgr.nmO nu g) (v, Mgr.nmO nu lo, Mgr.nmO nu hi)).flatMap ndCells from flat_set _ _ (v, Mgr.nmO nu lo, Mgr.nmO nu hi) (by rw [hlen]; exact hnm2)] at h
                  rw [HSET.out, IM.out, SN1.out, List.length_set, hlen]
                  exact h)
                have SX : Hid ((((wb.setCell ⟨T.heap.size, Mgr.nmO nu g * 3, none⟩ (.int .i64 v)).setCell ⟨T.heap.size, Mgr.nmO nu g * 3 + 1, none⟩ (.int .i64 (Mgr.nmO nu lo : Int))).setCell ⟨T.heap.size, Mgr.nmO nu g * 3 + 2, none⟩ (.int .i64 (Mgr.nmO nu hi : Int))).drew.cell? ⟨p, 2, none⟩ = some (.slice (some ⟨T.heap.size, 0, none⟩) j j) ∧ (((wb.setCell ⟨T.heap.size, Mgr.nmO nu g * 3, none⟩ (.int .i64 v)).setCell ⟨T.heap.size, Mgr.nmO nu g * 3 + 1, none⟩ (.int .i64 (Mgr.nmO nu lo : Int))).setCell ⟨T.heap.size, Mgr.nmO nu g * 3 + 2, none⟩ (.int .i64 (Mgr.nmO nu hi : Int))).drew.cell? ⟨w.heap.size, 0, none⟩ = some (.map (some bn)) ∧ (((wb.setCell ⟨T.heap.size, Mgr.nmO nu g * 3, none⟩ (.int .i64 v)).setCell ⟨T.heap.size, Mgr.nmO nu g * 3 + 1, none⟩ (.int .i64 (Mgr.nmO nu lo : Int))).setCell ⟨T.heap.size, Mgr.nmO nu g * 3 + 2, none⟩ (.int .i64 (Mgr.nmO nu hi : Int))).drew.cell? ⟨X, 0, none⟩ = some (.int .i64 v) ∧ (((wb.setCell ⟨T.heap.size, Mgr.nmO nu g * 3, none⟩ (.int .i64 v)).setCell ⟨T.heap.size, Mgr.nmO nu g * 3 + 1, none⟩ (.int .i64 (Mgr.nmO nu lo : Int))).setCell ⟨T.heap.size, Mgr.nmO nu g * 3 + 2, none⟩ (.int .i64 (Mgr.nmO nu hi : Int))).drew.cell? ⟨X, 1, none⟩ = some (.int .i64 (lo : Int)) ∧ (((wb.setCell ⟨T.heap.size, Mgr.nmO nu g * 3, none⟩ (.int .i64 v)).setCell ⟨T.heap.size, Mgr.nmO nu g * 3 + 1, none⟩ (.int .i64 (Mgr.nmO nu lo : Int))).setCell ⟨T.heap.size, Mgr.nmO nu g * 3 + 2, none⟩ (.int .i64 (Mgr.nmO nu hi : Int))).drew.cell? ⟨X, 2, none⟩ = some (.int .i64 (hi : Int))) := Lib.hid (by
                  have hpT : p ≠ T.heap.size := fun e => by
                    have := LLT.out p (.inl rfl)
                    have := KT.out.size
                    omega
                  have haT : w.heap.size ≠ T.heap.size := fun e => by have := heap_lt T3.out; omega
                  exact ⟨(KS.cell (a := ⟨p, 2, none⟩) plb hpT).trans c2, (KS.cell (a := ⟨w.heap.size, 0, none⟩) lb0 haT).trans cbn, (KS.cell (a := ⟨X, 0, none⟩) hX (by show ¬ X = T.heap.size; omega)).trans e0, (KS.cell (a := ⟨X, 1, none⟩) hX (by show ¬ X = T.heap.size; omega)).trans e1, (KS.cell (a := ⟨X, 2, none⟩) hX (by show ¬ X = T.heap.size; omega)).trans e2⟩)
                clear hs KS
                clear IXB LKG hnm hlo hhi hb0 orow hcl hzl r0 r1 r2 hbx HSET IM
                generalize ((Mgr.setN N nu (V.take m) (List.replicate j (-1, 0, 0))).getD (Mgr.nmO nu g) (0, 0, 0)) = oldn at *
                generalize Mgr.nmO nu g = xg at *
                generalize Mgr.nmO nu lo = xl at *
                generalize Mgr.nmO nu hi = xh at *
                have S0 : Hid (wb.drew.cell? ⟨p, 2, none⟩ = some (.slice (some ⟨T.heap.size, 0, none⟩) j j) ∧ wb.drew.cell? ⟨w.heap.size, 0, none⟩ = some (.map (some bn)) ∧ wb.drew.cell? ⟨X, 0, none⟩ = some (.int .i64 v) ∧ wb.drew.cell? ⟨X, 1, none⟩ = some (.int .i64 (lo : Int)) ∧ wb.drew.cell? ⟨X, 2, none⟩ = some (.int .i64 (hi : Int))) := Lib.hid ⟨c2, cbn, e0, e1, e2⟩
                clear c2 cbn e0 e1 e2
                go_region_held3 (fun y => y.cell? ⟨p, 2, none⟩ = some (.slice (some ⟨T.heap.size, 0, none⟩) j j) ∧ y.cell? ⟨w.heap.size, 0, none⟩ = some (.map (some bn)) ∧ y.cell? ⟨X, 0, none⟩ = some (.int .i64 v) ∧ y.cell? ⟨X, 1, none⟩ = some (.int .i64 (lo : Int)) ∧ y.cell? ⟨X, 2, none⟩ = some (.int .i64 (hi : Int))) (first | exact S0.out | exact SX.out) (first | fail)
                all_goals
                  go_wp2_with fail
                  go_roundg (V.length - (m + 1))
                  case measure => have := HM.out; omega
                  case rel => exact JN.out
              · obtain rfl : m = V.length := by omega
                have hgem : ¬ (V.length : Int) < V.length := by omega
                clear hm S hlt3
                have Y2 := Lib.hid SB.out
                rw [List.take_length] at Y2
                clear SB Y1
                have hshl := NMS.out.num
                obtain ⟨m0, hm0⟩ : ∃ m0, M.shown.length + m0 = j := ⟨j - M.shown.length, by omega⟩
                have hd0 : (j : Int) - (M.shown.length : Int) = (m0 : Int) := by omega
                have hd1 : IntKind.i64.wrap ((j : Int) - (M.shown.length : Int)) = (m0 : Int) := by rw [hd0]; exact IntWalk.i64_in _ ⟨by omega, by omega⟩
                have hd2 : IntKind.i64.wrap (m0 : Int) = (m0 : Int) := IntWalk.i64_in _ ⟨by omega, by omega⟩
                have HM0 := Lib.hid hm0
                have hm0b : M.shown.length + m0 ≤ 10000000000000 := by omega
                obtain ⟨b0, hb0, by0, by1, by2⟩ := info_parts info_bool
                have YD := Lib.hid (Y2.out.no Kp.drew)
                have hSS : L1.ss = .slice (some ⟨bs, 0, none⟩) M.shown.length cs := by rw [SS1.out, HSS.out]
                have c3 := YD.out.raw.c3
                rw [hSS] at c3
                have srow := YD.out.raw.shown
                rw [hSS] at srow
                have z3 := YD.out.raw.fz 3
                have p3 := YD.out.raw.plt
                have hb4 := PK.out wr.drew YD.out.kp (w.heap.size + 1) _ (by omega) T4.out
                have c4 : wr.drew.cell? ⟨w.heap.size + 1, 0, none⟩ = some (.int .i64 (j : Int)) := by rw [cell_of_row _ _ _ _ _ _ hb4]; rfl
                have l4 := heap_lt hb4
                have hps : p ≠ bs := fun e => YD.out.raw.row_mgr YD.out.raw.shown (by decide) (by rw [hSS, e]; rfl)
                have HSS1 := Lib.hid hSS
                have SD : Hid True := Lib.hid trivial
                clear hm0 hSS hb4
                go_upto_region 27 with fail
                go_cut [] from 105 to 119 (fun y => ∃ L2, Raw y p L2 M.order M.level (Mgr.setN N nu V (List.replicate j (-1, 0, 0))) (M.shown ++ List.replicate m0 false) M.free M.uq F9 ∧ Kp (L.at p) T y ∧ ∀ k, L2.at p k → L.at p k ∨ T.heap.size ≤ k)
                case first =>
                  refine wp_region_noPanic ?_
                  go_region_law (first | (refine step_append_zeros (by rfl) _ _ (by rfl) Tryz.underlying41 Tryz.underlying3 hb0 by0 by1 by2 rfl rfl (by rfl) srow (by rfl) (by first | exact hd2 | exact hd1 | exact hd0 | rfl) hm0b (Nat.zero_le _) ?_; intro v1 w2 hown1 hgrow1 hat1; obtain ⟨av1, cv1, rfl, _⟩ := ownsRow_len hown1; have q2 : w2.cell? ⟨p, 3, none⟩ = some (.slice (some ⟨bs, 0, none⟩) M.shown.length cs) := (hgrow1.cell_far ⟨p, 3, none⟩ p3 (fun e => hps (Option.some.inj e))).trans c3; have q3 : w2.frozen? ⟨p, 3, none⟩ = false := (hgrow1.frozen_far ⟨p, 3, none⟩ p3 (fun e => hps (Option.some.inj e))).trans z3; have p4 : p < w2.heap.size := Nat.lt_of_lt_of_le p3 hgrow1.size))
                  all_goals
                    refine NoPanic.normal ?_
                    have YE : Hid (∃ L2, Raw (w2.setCell ⟨p, 3, none⟩ (.slice av1 (M.shown.length + m0) cv1)) p L2 M.order M.level (Mgr.setN N nu V (List.replicate j (-1, 0, 0))) (M.shown ++ List.replicate m0 false) M.free M.uq F9 ∧ Kp (L.at p) T (w2.setCell ⟨p, 3, none⟩ (.slice av1 (M.shown.length + m0) cv1)) ∧ ∀ k, L2.at p k → L.at p k ∨ T.heap.size ≤ k) := Lib.hid (by
                      have hk : Kp (fun k => L1.ss.ownBlock = some k) wr.drew w2 := (Kp.grown hgrow1).mono (fun k _ e => by rw [HSS1.out]; exact e)
                      have h1 : w2.ownsRow 0 4 1 (.slice av1 (M.shown.length + m0) cv1) (M.shown ++ List.replicate m0 false).length ((M.shown ++ List.replicate m0 false).map .bool) := by
                        rw [List.length_append, List.length_replicate, List.map_append, List.map_replicate]; exact hown1
                      refine ⟨_, YD.out.raw.pushShown hk _ h1, (YD.out.kp.trans (A' := L.at p) (fun k h => .inl h) (hk.mono (fun k _ e => by
                        have : L.ss.ownBlock = some k := by rw [← SS1.out]; exact e
                        simp [Lay.at, this]))).trans (A' := L.at p) (fun k h => .inl h) ((Kp.setCell _ _).mono (fun k _ e => .inl e)), fun k hk2 => ?_⟩
                      have base : ∀ k, L1.at p k → L.at p k ∨ T.heap.size ≤ k := fun k h => by
                        rcases LE1.out k h with h | h
                        · exact .inl h
                        · right; omega
                      rcases hk2 with h | h | h | h | h | h | h | h
                      · exact .inl (.inl h)
                      · exact base k (.inr (.inl h))
                      · exact base k (.inr (.inr (.inl h)))
                      · exact base k (by simp [Lay.at] at h ⊢; simp [h])
                      · exact base k (by simp [Lay.at] at h ⊢; simp [h])
                      · exact base k (by simp [Lay.at] at h ⊢; simp [h])
                      · rcases hat1 with e | e
                        · have h2 : some k = some bs := by rw [← e]; exact h.symm
                          injection h2 with h2
                          exact base k (by simp [Lay.at, HSS1.out, Value.ownBlock, h2])
                        · have h2 : some k = some wr.drew.heap.size := by rw [← e]; exact h.symm
                          injection h2 with h2
                          right
                          have := YD.out.kp.size
                          omega
                      · exact base k (by simp [Lay.at] at h ⊢; simp [h]))
                    go_wp2_with fail
                    go_meet
                    case rel => exact YE.out
                case rest =>
                  clear c3 c4 z3 p3 l4 srow
                  obtain ⟨L2, raw2, kp2, le2⟩ := hcut
                  have RQ := RN.out.kp kp2 (fun k hA hq => SS.out.dis k hA hq)
                  obtain ⟨Fq, rawq, _⟩ := RQ.raw
                  have cq0 := rawq.c0
                  have cq1 := rawq.c1
                  have cp0 := raw2.c0
                  have cp1 := raw2.c1
                  have zp0 := raw2.fz 0
                  have zp1 := raw2.fz 1
                  have pl5 := raw2.plt
                  have ql5 := rawq.plt
                  have hpq : p ≠ q := fun e => SS.out.dis p (.inl rfl) (by rw [e]; exact .inl rfl)
                  obtain ⟨aso, cso, hso, _⟩ := ownsRow_len rawq.order
                  obtain ⟨asl, csl, hsl2, _⟩ := ownsRow_len rawq.level
                  have e28 : m0 = j - M.shown.length := by have := HM0.out; omega
                  rw [e28] at raw2
                  have RAW6 := Lib.hid (((raw2.setOrder (l := N.order) rawq.order).setLevel (l := N.level) (ownsRow_set rawq.level (raw2.row_mgr rawq.level (by decide)))).no Kp.drew)
                  have KP6 := Lib.hid (((kp2.trans (A' := L.at p) (fun k h => .inl h) ((Kp.setCell ⟨p, 0, none⟩ LN.so).mono (fun k _ e => .inl e))).trans (A' := L.at p) (fun k h => .inl h) ((Kp.setCell ⟨p, 1, none⟩ LN.sl).mono (fun k _ e => .inl e))).trans_no Kp.drew)
                  rw [hso, hsl2] at RAW6 KP6
                  have LE6 : Hid (∀ k, (Lay.at { { L2 with so := LN.so } with sl := LN.sl } p k) → L.at p k ∨ LN.at q k ∨ T.heap.size ≤ k) := Lib.hid (fun k hk => by
                    have base : ∀ k, L2.at p k → L.at p k ∨ LN.at q k ∨ T.heap.size ≤ k := fun k h => by
                      rcases le2 k h with h | h
                      · exact .inl h
                      · exact .inr (.inr h)
                    rcases hk with h | h | h | h | h | h | h | h
                    · exact .inl (.inl h)
                    · exact base k (.inr (.inl h))
                    · exact base k (.inr (.inr (.inl h)))
                    · exact .inr (.inl (by simp [Lay.at] at h ⊢; simp [h]))
                    · exact .inr (.inl (by simp [Lay.at] at h ⊢; simp [h]))
                    · exact base k (by simp [Lay.at] at h ⊢; simp [h])
                    · exact base k (by simp [Lay.at] at h ⊢; simp [h])
                    · exact base k (by simp [Lay.at] at h ⊢; simp [h]))
                  rw [hso, hsl2] at LE6
                  have IXC := Lib.hid (index_ok (M := Mgr.adM M N V nu j) (Mgr.adM_wf SS.out.rm.wf SS.out.rn.wf NMS.out) rfl RAW6.out (by rw [Mgr.adM_len]; omega))
                  rw [hso] at cq0
                  rw [hsl2] at cq1
                  have q05 : Hid (World.cell? _ ⟨q, 0, none⟩ = some (.slice aso N.order.length cso) ∧ World.cell? _ ⟨q, 1, none⟩ = some (.slice asl N.level.length csl)) := Lib.hid ⟨(Kp.cell Kp.drew (a := ⟨q, 0, none⟩) ql5 (fun z => z)).trans cq0, (Kp.cell Kp.drew (a := ⟨q, 1, none⟩) ql5 (fun z => z)).trans cq1⟩
                  have TS := Lib.hid (two_set hpq ql5 cq0 cq1 (.slice aso N.order.length cso) (.slice asl N.level.length csl))
                  clear rawq raw2 RQ hso hsl2 cq0 cq1 kp2 le2 RAW6
                  go_upto_region 28 with fail
                  go_region_held3 (fun y => y.cell? ⟨q, 0, none⟩ = some (.slice aso N.order.length cso) ∧ y.cell? ⟨q, 1, none⟩ = some (.slice asl N.level.length csl)) (first | exact q05.out | exact TS.out.1 | exact TS.out.2) (first | fail)
                  all_goals
                    go_wp2_with fail
                    refine IXC.out.mono ?_
                    rintro e w' ⟨rfl, L', rep, kpi, fri⟩
                    have hDT := heap_lt T5.out
                    have s6 := KP6.out.size
                    have sT := KT.out.size
                    have nD6 : ∀ k, k = D → ¬ (L.at p k ∨ LN.at q k ∨ T.heap.size ≤ k) := fun k e h => by
                      subst e
                      rcases h with h | h | h
                      · have := LLT.out k h; omega
                      · have := SS.out.rn.lt k h; omega
                      · omega
                    have DEF : w'.heap[D]? = some (.deferred (some [])) := by
                      rw [kpi.block D (by omega) (fun h => nD6 D rfl (LE6.out D h)), KP6.out.block D hDT (fun h => nD6 D rfl (.inl h))]
                      exact T5.out
                    have LL' : ∀ k, L'.at p k → L.at p k ∨ LN.at q k ∨ T.heap.size ≤ k := fun k h => by
                      rcases fri k h with h | h
                      · exact LE6.out k h
                      · right; right; omega
                    have FINAL : Hid (∀ y, Kp (fun k => k = D) w' y → AdPost w p M L q N LN bn (.returned (.tuple #[])) y) := Lib.hid (fun y ky => by
                      refine ⟨rfl, V, nu, j, L', NMS.out, HNUM.out, rep.kp ky (fun k e h => nD6 k e (LL' k h)), ?_, fun k h => ?_⟩
                      · have k1 : Kp (fun k => L.at p k ∨ LN.at q k ∨ k = bn) w T := KT.out.mono (fun k _ e => .inr (.inr e))
                        have k2 := k1.trans (A' := L.at p) (fun k h => .inl (.inl h)) KP6.out
                        have k3 := k2.trans (fun k h => by
                          rcases LE6.out k h with h | h | h
                          · exact .inl (.inl h)
                          · exact .inl (.inr (.inl h))
                          · right; omega) kpi
                        exact k3.trans (A' := fun k => k = D) (fun k e => .inr (by omega)) ky
                      · rcases LL' k h with h | h | h
                        · exact .inl h
                        · exact .inr (.inl h)
                        · right; right; omega)
                    clear rep kpi fri LL' nD6 s6 sT hDT
                    go_wp2_with fail
                    refine ⟨by simp, .inl ⟨_, _, rfl, run_takeDeferred DEF, ?_⟩⟩
                    exact ⟨_, results_none rfl _ _ _, FINAL.out _ (Kp.putObj rfl)⟩
  case stop =>
    rintro D c pre W _ _ h _
    exact h.elim

end Go.Proofs.YtngbodmooddjbaaGreat
