/-
  Walks: the law ReorderShapes.
-/
import Derived.Test.YtngbodmooddjbaaGreatRke
import Derived.Test.YtngbodmooddjbaaGreatShaped
import Derived.Test.YtngbodmooddjbaaGreatRefV
namespace Go.Proofs.YtngbodmooddjbaaGreat
open Go.RowKit

/-- 'append' of a whole list, behind a guard that says yes. -/
theorem wpList_append_srcW {P : Program} {w : World} {ops : Array Oper} {rest : List Oper} {o : Oper} {a : Act} {Q : Exit → Act → World → Prop} (hgd : Region.wanted o (yielded ops a.tmps) = true) (s x : Operand) {t : TypeId}
    (ho : o.op = .call { callee := .builtin .append, args := #[s, x], argTypes := #[t, t] })
    {base : Nat} {e : TypeId} {i : TypeInfo} {z : Value} {size bytes : Nat} (ht : P.underlying t = some (.slice e)) (hi : P.info? e = some i) (hz : i.zero = some z)
    (hsize : i.size = size) (hby : i.bytes = bytes) (hzs : z.cells.size = size) (hsz : 0 < size) {v u : Value} {n m : Nat} {xs news : List Value} (hs : a.eval s = v) (hown : w.ownsRow base e size v n xs) (hx : a.eval x = u) (hsrc : SrcAt w u size m news)
    (h1 : ∀ x ∈ news, x.oneCell' = true) (h63 : n + m ≤ maxLen) (hbytes : (n + m) * bytes ≤ 140737488355328) (hbase : base ≤ w.heap.size)
    (h : ∀ v' w', w'.ownsRow base e size v' (n + m) (xs ++ news) → w.grownBy w' v.ownBlock → (v'.ownBlock = v.ownBlock ∨ v'.ownBlock = some w.heap.size) → wpList P ops Q rest (a.put o.dst v') w') : wpList P ops Q (o :: rest) a w :=
  BigFrame.wpList_want hgd fun _ hK => wp_append_src ho ht hi hz hsize hby hzs hsz hs hown hx hsrc h1 h63 hbytes hbase fun v' w' h2 h3 h4 => hK _ _ (h v' w' h2 h3 h4)

theorem saveM_fst (M : Mgr) : ∀ (fs : List Int) (st st' : (List Nat × List Nat) × List Int), st.1 = st'.1 → (fs.foldl (saveStep M) st).1 = (fs.foldl (saveStep M) st').1
  | [], _, _, h => h
  | f :: fs, st, st', h => by
    rw [List.foldl_cons, List.foldl_cons]
    apply saveM_fst M fs
    unfold saveStep
    split
    · rw [h]
    · exact h
/-- Invalid and True add nothing to what is saved. -/
theorem saveM_two {M : Mgr} (h : M.WF) (fs : List Int) : (saveM M (-1 :: 1 :: fs)).1 = (saveM M fs).1 := by
  unfold saveM
  rw [List.foldl_cons, List.foldl_cons]
  apply saveM_fst
  have hv : M.valid (-1) = false := by unfold Mgr.valid; simp
  have h1 : M.valid 1 = true := Mgr.valid_one h
  have s1 : saveStep M (([], []), []) (-1) = (([], []), [-1]) := by
    unfold saveStep
    rw [if_neg (by rw [hv]; simp)]
    rfl
  rw [s1]
  unfold saveStep
  rw [if_pos h1]
  show M.walkS (M.n + 1) ([], []) 1 = ([], [])
  unfold Mgr.walkS
  rw [if_pos (.inl (by omega))]
/-- What both 'Save's answer. -/
theorem saved_both {M : Mgr} (h : M.WF) {ls : List Int} (hv : ∀ f, f ∈ ls → M.valid f = true) : ∃ (N : List Nd) (R : List Int),
    saveN M (saveM M ls).1.2 = N ∧ (saveM M ls).2 = R ∧ (walkAll M (ls.map Int.toNat)).2.map (nodeC M (walkAll M (ls.map Int.toNat)).2) = N ∧ ((ls.map Int.toNat).map fun f => (code0 (walkAll M (ls.map Int.toNat)).2 f : Int)) = R ∧
    SavV M (walkAll M (ls.map Int.toNat)) ∧ (∀ f, f ∈ ls.map Int.toNat → 2 ≤ f → f ∈ (walkAll M (ls.map Int.toNat)).2) ∧ N.length ≤ M.nodes.length ∧ R.length = ls.length := by
  have a := saveM_all h ls
  have e := walkAll_save ls hv
  have sv := a.v
  rw [e] at sv
  refine ⟨_, _, rfl, rfl, ?_, ?_, sv, fun f hf h2 => ?_, ?_, a.len⟩
  · rw [a.v.nodes, e]; rfl
  · apply List.ext_getElem?
    intro i
    by_cases hi : i < ls.length
    · have hf : ls[i]? = some ls[i] := by simp [hi]
      rw [a.root i _ hf, if_pos (hv _ (List.getElem_mem _)), e]
      simp [hi]
    · rw [List.getElem?_eq_none (by simp; omega), List.getElem?_eq_none (by rw [a.len]; omega)]
  · obtain ⟨g, hg, rfl⟩ := List.mem_map.1 hf
    have := a.mem g hg (hv g hg) h2
    rw [e] at this
    exact this
  · rw [saveN_len, e]
    exact sv.toSeenV.len h

theorem RP.top1 {n c : Nat} {M : Mgr} {fs : List Int} {Fs : List BF} (h : RP n c M fs Fs) (f : Int) : RP n c (topM M f) fs Fs := by
  obtain ⟨wf', or', nn', nd', sem', val', st', ch'⟩ := topM_same h.wf f
  exact ⟨wf', by rw [← h.nn]; unfold Mgr.n; rw [or'], h.len, h.pos, fun i g F hg hF => ⟨val' g (h.sem i g F hg hF).1, fun a => by rw [sem']; exact (h.sem i g F hg hF).2.1 a, (h.sem i g F hg hF).2.2⟩, by rw [nn']; exact h.cost⟩

/-- The state of the loop that picks: two rows of one's own beside the manager, the run's lists and the order. -/
structure ShJ (w wb : World) (p n : Nat) (ov : Value) (l0 : List Nat) (fv tv : Value) (fs : List Int) (Fs : List BF) (tvs : List Value) (wl : List Int) (k : Nat) (lv tv2 : Value) (x : World) (M : Mgr) (L : Lay) : Prop where
  fr : Front w p n x M L fv tv fs Fs tvs
  rp : RP n 1000000000 M fs Fs
  ord : M.order = l0
  orow : x.ownsRow 0 3 1 ov n (l0.map natV)
  oo : Off L p ov
  lr : x.ownsRow wb.heap.size 40 1 lv k ((List.range k).map fun i => .int .i64 (fs.getD (pckd wl fs.length i) 0))
  tr : x.ownsRow wb.heap.size 42 1 tv2 k ((List.range k).map fun i => tvs.getD (pckd wl fs.length i) (.bool false))
  lo : Off L p lv
  to_ : Off L p tv2
  fb : ∀ b, fv.ownBlock = some b → b < wb.heap.size
  tb : ∀ b, tv.ownBlock = some b → b < wb.heap.size
  wb_ : w.heap.size ≤ wb.heap.size
  wbx : wb.heap.size ≤ x.heap.size
section
variable {w wb : World} {p n : Nat} {ov : Value} {l0 : List Nat} {fv tv : Value} {fs : List Int} {Fs : List BF} {tvs : List Value} {wl : List Int} {k : Nat} {lv tv2 : Value} {x y : World} {M : Mgr} {L : Lay}
theorem ShJ.no (j : ShJ w wb p n ov l0 fv tv fs Fs tvs wl k lv tv2 x M L) (h : Kp No x y) : ShJ w wb p n ov l0 fv tv fs Fs tvs wl k lv tv2 y M L :=
  ⟨j.fr.no h, j.rp, j.ord, ownsRow_kp j.orow h (fun _ _ z => z), j.oo, ownsRow_kp j.lr h (fun _ _ z => z), ownsRow_kp j.tr h (fun _ _ z => z), j.lo, j.to_, j.fb, j.tb, j.wb_, Nat.le_trans j.wbx h.size⟩
/-- Blocks that are none of the state's are changed. -/
theorem Front.kpA {A : Nat → Prop} (j : Front w p n x M L fv tv fs Fs tvs) (h : Kp A x y) (hL : ∀ b, L.at p b → ¬ A b) (hw : ∀ b, A b → w.heap.size ≤ b) (hf : ∀ b, fv.ownBlock = some b → ¬ A b) (ht : ∀ b, tv.ownBlock = some b → ¬ A b)
    (hb : ∀ (i : Nat) (z : Value) (F : BF), tvs[i]? = some z → Fs[i]? = some F → ∀ b, z.ownBlock = some b → ¬ A b) : Front w p n y M L fv tv fs Fs tvs :=
  ⟨⟨j.own.rep.kp h (fun b hb hx => hL b hx hb), j.own.kp.trans (A' := A) (fun b hb => .inr (hw b hb)) h, j.own.own⟩, ownsRow_kp j.frow h hf, ownsRow_kp j.trow h ht, j.fo, j.tof, j.tlen, j.flen, fun i z F h1 h2 => ⟨(j.tabs i z F h1 h2).1.kp h (hb i z F h1 h2), (j.tabs i z F h1 h2).2⟩⟩
/-- One Ref and one table more. -/
theorem ShJ.push {A1 A2 x1 x2 : World} {g5 cap5 g6 cap6 : Nat} {fq : Int} {tq : Value} (j : ShJ w wb p n ov l0 fv tv fs Fs tvs wl k lv tv2 x M L) (h1 : fs.getD (pckd wl fs.length k) 0 = fq) (h2 : tvs.getD (pckd wl fs.length k) (.bool false) = tq)
    (kA1 : Kp No x A1) (hs1 : A1.heap.size = x.heap.size + 1)
    (own5 : x1.ownsRow wb.heap.size 40 1 (.slice (some ⟨g5, 0, none⟩) (k + 1) cap5) (k + 1) (((List.range k).map fun i => (Value.int .i64 (fs.getD (pckd wl fs.length i) 0))) ++ [.int .i64 fq])) (gr5 : A1.grownBy x1 lv.ownBlock) (at5 : lv.ownBlock = some g5 ∨ g5 = A1.heap.size)
    (kA2 : Kp No x1 A2) (hs2 : A2.heap.size = x1.heap.size + 1)
    (own6 : x2.ownsRow wb.heap.size 42 1 (.slice (some ⟨g6, 0, none⟩) (k + 1) cap6) (k + 1) (((List.range k).map fun i => tvs.getD (pckd wl fs.length i) (.bool false)) ++ [tq])) (gr6 : A2.grownBy x2 tv2.ownBlock) (at6 : tv2.ownBlock = some g6 ∨ g6 = A2.heap.size) :
    ShJ w wb p n ov l0 fv tv fs Fs tvs wl (k + 1) (.slice (some ⟨g5, 0, none⟩) (k + 1) cap5) (.slice (some ⟨g6, 0, none⟩) (k + 1) cap6) x2 M L := by
  have k5 : Kp (fun b => lv.ownBlock = some b) x x1 := grown_no kA1 gr5
  have z : ∀ {q : World} {B e s u r t}, q.ownsRow B e s u r t → q.ownsRow 0 e s u r t := fun h => row_zero h
  have fr1 := j.fr.kpA k5 (fun b hb e => j.lo b e hb) (fun b e => Nat.le_trans j.wb_ (j.lr.lt b e).1) (fun b hb e => by have := j.fb b hb; have := (j.lr.lt b e).1; omega) (fun b hb e => by have := j.tb b hb; have := (j.lr.lt b e).1; omega)
    (fun i q F h1 h2 b hb e => row_ne (z (j.fr.tabs i q F h1 h2).1) (z j.lr) (by decide) hb e)
  have o1 := ownsRow_kp j.orow k5 (fun b hb e => row_ne j.orow (z j.lr) (by decide) hb e)
  have t1 := ownsRow_kp j.tr k5 (fun b hb e => row_ne (z j.tr) (z j.lr) (by decide) hb e)
  have k6 : Kp (fun b => tv2.ownBlock = some b) x1 x2 := grown_no kA2 gr6
  have fr2 := fr1.kpA k6 (fun b hb e => j.to_ b e hb) (fun b e => Nat.le_trans j.wb_ (t1.lt b e).1) (fun b hb e => by have := j.fb b hb; have := (t1.lt b e).1; omega) (fun b hb e => by have := j.tb b hb; have := (t1.lt b e).1; omega)
    (fun i q F h1 h2 b hb e => row_ne (z (fr1.tabs i q F h1 h2).1) (z t1) (by decide) hb e)
  have o2 := ownsRow_kp o1 k6 (fun b hb e => row_ne o1 (z t1) (by decide) hb e)
  have l2 := ownsRow_kp own5 k6 (fun b hb e => row_ne (z own5) (z t1) (by decide) hb e)
  refine ⟨fr2, j.rp, j.ord, o2, j.oo, by rw [range_snoc, h1]; exact l2, by rw [range_snoc, h2]; exact own6, fun b hb hx => ?_, fun b hb hx => ?_, j.fb, j.tb, j.wb_, Nat.le_trans j.wbx (Nat.le_trans k5.size k6.size)⟩
  · simp [Value.ownBlock] at hb
    subst hb
    rcases at5 with e | e
    · exact j.lo _ e hx
    · have := j.fr.own.rep.lt _ hx; omega
  · simp [Value.ownBlock] at hb
    subst hb
    rcases at6 with e | e
    · exact j.to_ _ e hx
    · have := fr1.own.rep.lt _ hx; omega
/-- 'Shaped' of a picked Ref. -/
theorem ShJ.shaped {f : Int} {e : Ending} (j : ShJ w wb p n ov l0 fv tv fs Fs tvs wl k lv tv2 x M L) (h : Ret p L x (topM M f) (.bool true) e y) : e = .returned (.bool true) ∧ ∃ L', ShJ w wb p n ov l0 fv tv fs Fs tvs wl k lv tv2 y (topM M f) L' := by
  obtain ⟨L', he, r, kp, fx⟩ := h
  obtain ⟨_, wf2⟩ := j.fr.step ⟨L', he, r, kp, fx⟩
  have off : ∀ v, Off L p v → (∀ b, v.ownBlock = some b → b < x.heap.size) → Off L' p v := fun v h hl => h.step fx hl
  refine ⟨he, L', ⟨⟨r, j.fr.own.kp.trans (A' := L.at p) (fun b hb => .inr (j.fr.own.own b hb)) kp, fun b hb => ?_⟩, ownsRow_kp j.fr.frow kp j.fr.fo, ownsRow_kp j.fr.trow kp j.fr.tof, off _ j.fr.fo (fun b hb => (j.fr.frow.lt b hb).2), off _ j.fr.tof (fun b hb => (j.fr.trow.lt b hb).2), j.fr.tlen, j.fr.flen,
    fun i q F h1 h2 => ⟨(j.fr.tabs i q F h1 h2).1.kp kp (j.fr.tabs i q F h1 h2).2, off _ (j.fr.tabs i q F h1 h2).2 (fun b hb => ((j.fr.tabs i q F h1 h2).1.lt b hb).2)⟩⟩, j.rp.top1 _, by rw [(topM_same j.fr.own.rep.wf f).2.1]; exact j.ord, ownsRow_kp j.orow kp j.oo, off _ j.oo (fun b hb => (j.orow.lt b hb).2),
    ownsRow_kp j.lr kp j.lo, ownsRow_kp j.tr kp j.to_, off _ j.lo (fun b hb => (j.lr.lt b hb).2), off _ j.to_ (fun b hb => (j.tr.lt b hb).2), j.fb, j.tb, j.wb_, Nat.le_trans j.wbx kp.size⟩
  rcases fx b hb with h1 | h1
  · exact j.fr.own.own b h1
  · have := j.fr.own.kp.size; omega
/-- All are picked. -/
theorem ShJ.done (j : ShJ w wb p n ov l0 fv tv fs Fs tvs wl wl.length lv tv2 x M L) : PkJ w p n x M L fv tv fs Fs tvs wl lv tv2 :=
  ⟨j.fr, by rw [lsP_row]; exact ownsRow_mono j.lr j.wb_, ownsRow_mono j.tr j.wb_, j.lo, j.to_⟩
end
def ShR (w wb : World) (p n : Nat) (ov : Value) (l0 : List Nat) (fv tv : Value) (fs : List Int) (Fs : List BF) (tvs : List Value) (wl : List Int) (gk : Nat) (s1 s2 s3 : Value) (x : World) : Prop :=
  ∃ k lv tv2 M L, k + gk = wl.length ∧ s3 = .int .i64 (k : Int) ∧ lv = s1 ∧ tv2 = s2 ∧ ShJ w wb p n ov l0 fv tv fs Fs tvs wl k lv tv2 x M L

set_option maxRecDepth 1000000 in
set_option maxHeartbeats 16000000 in
theorem ReorderShapes_walk (x : Int) (l : List Stp) (al : List ActT) (wl : List Int) {sv av wv : Value} {w : World} (hs : StepsAt w sv l) (ha : ActsAt w av al) (hwl : IntsAt w wv wl) :
    Calls Tryz.prog 3 #[.int .i64 x, sv, av, wv] w fun e w' => e = .returned (.bool true) ∧ Kp No w w' := by
  obtain ⟨i0, hi0, hz0, hz1, hz2⟩ := info_parts info_ref'
  obtain ⟨j0, hj0, hy0, hy1, hy2⟩ := info_parts info_func'
  obtain ⟨hn1, hn6⟩ := nv_le x
  have VA := Lib.hid (fun w => Vars_ok x w)
  generalize nv x = n at *
  have ST := Lib.hid hs
  have AT := Lib.hid ha
  have WT := Lib.hid hwl
  obtain ⟨ao, c, rfl, _⟩ := hs
  obtain ⟨ao2, c2, rfl, hm2, _⟩ := ha
  obtain ⟨ao3, c3, rfl, hm3, _⟩ := hwl
  unfold maxLen at hm2 hm3
  by_cases hg : l.length ≤ 12 ∧ al.length ≤ 8 ∧ wl.length ≤ 5
  case neg =>
    by_cases g1 : (12 : Int) < l.length
    · go_enter Tryz.func3, Tryz.ntmps3
      go_wp2_with fail
      refine (rawake_ok w).mono ?_
      rintro e w0 ⟨rfl, k0⟩
      have K0 := Lib.hid k0
      clear k0
      go_wp2_with fail
      go_ret
      exact ⟨rfl, K0.out⟩
    · by_cases g2 : (8 : Int) < al.length
      · go_enter Tryz.func3, Tryz.ntmps3
        go_wp2_with fail
        refine (rawake_ok w).mono ?_
        rintro e w0 ⟨rfl, k0⟩
        have K0 := Lib.hid k0
        clear k0
        go_wp2_with fail
        go_ret
        exact ⟨rfl, K0.out⟩
      · have g3 : (5 : Int) < wl.length := by omega
        go_enter Tryz.func3, Tryz.ntmps3
        go_wp2_with fail
        refine (rawake_ok w).mono ?_
        rintro e w0 ⟨rfl, k0⟩
        have K0 := Lib.hid k0
        clear k0
        go_wp2_with fail
        go_ret
        exact ⟨rfl, K0.out⟩
  obtain ⟨g1, g2, g3⟩ := hg
  have g1i : ¬ (12 : Int) < l.length := by omega
  have g2i : ¬ (8 : Int) < al.length := by omega
  have g3i : ¬ (5 : Int) < wl.length := by omega
  have d1 : decide ((12 : Int) < l.length) = false := decide_eq_false g1i
  have d2 : decide ((8 : Int) < al.length) = false := decide_eq_false g2i
  have d3 : decide ((5 : Int) < wl.length) = false := decide_eq_false g3i
  have HG := Lib.hid (And.intro g1 (And.intro g2 g3))
  have HN := Lib.hid (And.intro hn1 hn6)
  clear g1 g2 g3
  go_enter Tryz.func3, Tryz.ntmps3
  go_wp2_with fail
  refine (rawake_ok w).mono ?_
  rintro e w0 ⟨rfl, k0⟩
  have K0 := Lib.hid k0
  clear k0
  go_wp2_with fail
  refine (VA.out w0).mono ?_
  rintro e w0' ⟨rfl, rfl⟩
  go_wp2_with fail
  refine (New_own (n := n) (by omega) K0.out).mono ?_
  rintro e w1 ⟨p, L1, rfl, s1, k1⟩
  have S1 := Lib.hid s1
  clear s1 k1
  go_wp2_with fail
  refine (Run_own hn6 hn1 S1.out (by have := HG.out.1; omega) ST.out).mono ?_
  rintro e w4 ⟨fv, tv, L2, tvs, rfl, fr⟩
  obtain ⟨rp, hFl⟩ := run_rp hn1 hn6 l (by have := HG.out.1; omega)
  have hord : (runM (Mgr.new n) n l).1.order = List.range n := by rw [runM_order]; rfl
  generalize runM (Mgr.new n) n l = X at *
  generalize runF n l = Fs at *
  obtain ⟨M, fs⟩ := X
  simp only at fr rp hord
  have hpos := rp.pos
  have hfl : fs.length ≤ 100 := by rw [← fr.flen, hFl]; have := HG.out.1; omega
  obtain ⟨gf, cf, gt, ct, rfl, rfl, lf, lt⟩ := fr.forms (by omega)
  have FR := Lib.hid fr
  have RPH := Lib.hid rp
  have HORD := Lib.hid hord
  have hfp : 0 < fs.length := by omega
  clear fr rp hFl hord hpos S1 lf lt K0 VA ST
  go_wp2_with fail
  refine (Identity_ok n HN.out.2 w4).mono ?_
  rintro e w5 ⟨idv, rfl, row, k5⟩
  have J0 : Hid (KeR w p n al.length (.slice (some ⟨gf, 0, none⟩) fs.length cf) (.slice (some ⟨gt, 0, none⟩) fs.length ct) fs Fs tvs M al.length idv (.int .i64 0) w5) := Lib.hid ⟨0, List.range n, M, L2, idv, by omega, rfl, rfl,
    ⟨FR.out.no k5, HORD.out, PermL.range n, List.length_range, fun _ => rfl, fun _ _ _ => rfl⟩,
    ⟨SrcAt.of_row row, by rw [List.length_range]; exact hn1, fun g o m c e hg => by
      have h1 := (row.lt g (by rw [e]; rfl)).1
      have h2 := FR.out.own.rep.lt g hg
      omega, ownsRow_mono row (Nat.zero_le _)⟩, by have := RPH.out.cost; omega⟩
  obtain ⟨ai, ci, rfl, _⟩ := ownsRow_len (row_zero row)
  rw [List.length_range] at J0 ⊢
  clear row k5 FR HORD
  go_wp2
  go_loopg [12, 13] al.length (fun gk so si y => KeR w p n al.length (.slice (some ⟨gf, 0, none⟩) fs.length cf) (.slice (some ⟨gt, 0, none⟩) fs.length ct) fs Fs tvs M gk so si y)
  case atStart => exact J0.out
  case round =>
    clear J0
    obtain ⟨k, l1, M1, L3, ov, hk, rfl, eo, j, V, nb⟩ := hrel
    subst eo
    have HK := Lib.hid hk
    have J := Lib.hid j
    have VV := Lib.hid V
    have NB := Lib.hid nb
    obtain ⟨ao1, co1, rfl⟩ := V.src.form
    by_cases hlt : k < al.length
    · have hlti : (k : Int) < al.length := by omega
      obtain ⟨ao', c', hv', _, hcells⟩ := AT.out.no j.fr.own.kp
      have hv1 : ao2 = ao' := by injection hv'
      subst hv1
      rcases hcells with hcells | ⟨g, o, rfl, hg, hcells⟩
      · rw [hcells] at hlt; simp at hlt
      obtain ⟨⟨A0, A1, A2⟩, hAk⟩ : ∃ s, al[k]? = some s := ⟨al[k], by simp [hlt]⟩
      obtain ⟨f0, f1, f2⟩ := hcells k _ hAk
      simp only at f0 f1 f2
      have BD : DoB n M M1 := ⟨HN.out.1, HN.out.2, RPH.out.wf, RPH.out.cost, by have := HG.out.2.1; omega⟩
      have DO := Lib.hid (Do_ok A0 A1 A2 j BD V hfp (by omega))
      clear hcells hv' hk j V nb hAk BD
      go_wp2_with fail
      refine DO.out.mono ?_
      rintro e w6 ⟨rv, l2, M2, L4, rfl, j2, V2, nb2⟩
      have J2 := Lib.hid j2
      have VH2 := Lib.hid V2
      have NB2 := Lib.hid nb2
      have hl2 : l2.length ≤ 6 := by rw [j2.len]; exact HN.out.2
      have C5 := Lib.hid (RPerm_ok n (l2.map Int.ofNat) (by have := HN.out.2; omega) (by rw [List.length_map]; omega) V2.src.toI)
      rw [permB_iff.2 (permI_of j2.perm j2.len)] at C5
      obtain ⟨ar, cr, rfl⟩ := V2.src.form
      clear j2 V2 nb2 DO f0 f1 f2
      go_wp2_with fail
      refine C5.out.mono ?_
      rintro e w7 ⟨rfl, m7, rfl⟩
      have JN : Hid (KeR w p n al.length (.slice (some ⟨gf, 0, none⟩) fs.length cf) (.slice (some ⟨gt, 0, none⟩) fs.length ct) fs Fs tvs M (al.length - (k + 1)) (.slice ar l2.length cr) (.int .i64 ((k + 1 : Nat) : Int)) (w6.drewN m7)) := Lib.hid ⟨k + 1, l2, M2, L4, _, by omega, rfl, rfl, J2.out.no (Kp.drewN m7), VH2.out.no (Kp.drewN m7), by have := NB.out; have := NB2.out; omega⟩
      clear C5 J2 VH2
      go_wp2
      go_roundg (al.length - (k + 1))
      case measure => have := HK.out; omega
      case rel => exact JN.out
    · obtain rfl : k = al.length := by omega
      have hge : ¬ (al.length : Int) < al.length := by omega
      have RP1 := Lib.hid (j.rp RPH.out (c' := 1000000000) (by have := HG.out.2; omega))
      have S0 : Hid (ShR w wr p n (.slice ao1 l1.length co1) l1 (.slice (some ⟨gf, 0, none⟩) fs.length cf) (.slice (some ⟨gt, 0, none⟩) fs.length ct) fs Fs tvs wl wl.length (.slice none 0 0) (.slice none 0 0) (.int .i64 0) wr) := Lib.hid
        ⟨0, _, _, M1, L3, by omega, rfl, rfl, rfl, j.fr, RP1.out, j.ord, (by rw [← j.len]; exact V.row), V.own, World.ownsRow_nil _ _ _ _, World.ownsRow_nil _ _ _ _, fun b hb => by simp [Value.ownBlock] at hb, fun b hb => by simp [Value.ownBlock] at hb, fun b hb => (j.fr.frow.lt b hb).2, fun b hb => (j.fr.trow.lt b hb).2, j.fr.own.kp.size, Nat.le_refl _⟩
      have HL1 : Hid (l1.length = n ∧ PermL l1) := Lib.hid ⟨j.len, j.perm⟩
      have hl16 : l1.length ≤ 6 := by rw [j.len]; exact HN.out.2
      clear hk hlt j V nb J VV NB AT
      generalize wr = wb at *
      go_wp2
      go_loopg [16, 17, 18] wl.length (fun gk s1 s2 s3 y => ShR w wb p n (.slice ao1 l1.length co1) l1 (.slice (some ⟨gf, 0, none⟩) fs.length cf) (.slice (some ⟨gt, 0, none⟩) fs.length ct) fs Fs tvs wl gk s1 s2 s3 y)
      case atStart => exact S0.out
      case round =>
        clear S0
        obtain ⟨k, lv, tv2, M3, L5, hk, rfl, e11, e12, j⟩ := hrel
        subst e11 e12
        by_cases hlt : k < wl.length
        · have hqq := pick_lt (wl.getD k 0) (n := fs.length) hfp
          have PK := Lib.hid (fun y => Pick_ok (wl.getD k 0) fs.length y hfp (by omega))
          obtain ⟨ao', c', hv', _, hcells⟩ := WT.out.no j.fr.own.kp
          have hv1 : ao3 = ao' := by injection hv'
          subst hv1
          rcases hcells with hcells | ⟨g, o, rfl, hg, hcells⟩
          · rw [hcells] at hlt; simp at hlt
          have hc : wr.cell? ⟨g, o + k, none⟩ = some (.int .i64 (wl.getD k 0)) := hcells k _ (by simp [hlt])
          have cf1 := j.fr.cellF hqq
          have ct1 := j.fr.cellT hqq
          have hlti : (k : Int) < wl.length := by omega
          have HK := Lib.hid hk
          have J := Lib.hid j
          have lrow := j.lr
          have trow := j.tr
          have hz4 : gt < wr.heap.size := World.block_lt_of_cell? _ _ ct1
          have hzw : wb.heap.size ≤ wr.heap.size := j.wbx
          have PQ : pckd wl fs.length k = pick (wl.getD k 0) fs.length := rfl
          have PUSH := Lib.hid (fun A1 A2 x1 x2 g5 cap5 g6 cap6 => j.push (A1 := A1) (A2 := A2) (x1 := x1) (x2 := x2) (g5 := g5) (cap5 := cap5) (g6 := g6) (cap6 := cap6) (fq := fs.getD (pckd wl fs.length k) 0) (tq := tvs.getD (pckd wl fs.length k) (.bool false)) rfl rfl)
          have SHP : Hid (∀ (y : World) (k' : Nat) (lv' tv' : Value) (L' : Lay), ShJ w wb p n (.slice ao1 l1.length co1) l1 (.slice (some ⟨gf, 0, none⟩) fs.length cf) (.slice (some ⟨gt, 0, none⟩) fs.length ct) fs Fs tvs wl k' lv' tv' y M3 L' →
              Calls Tryz.prog 12 #[ptr p, .int .i64 (fs.getD (pick (wl.getD k 0) fs.length) 0), tvs.getD (pick (wl.getD k 0) fs.length) (.bool false), .int .i64 (n : Int), .slice ao1 l1.length co1] y (Ret p L' y (topM M3 (fs.getD (pick (wl.getD k 0) fs.length) 0)) (.bool true))) := Lib.hid (fun y k' lv' tv' L' j => by
            obtain ⟨va, sa, ua⟩ := j.rp.at hqq
            obtain ⟨tb, tof⟩ := j.fr.tabAt hqq
            refine Shaped_ok (B := w.heap.size) (B3 := 0) _ HN.out.2 j.rp.nn j.fr.own.rep va ?_ tof (by rw [j.ord]; exact j.orow) j.oo j.rp.cost
            rw [show M3.sem (fs.getD (pick (wl.getD k 0) fs.length) 0).toNat = Fs.getD (pick (wl.getD k 0) fs.length) (fun _ => false) from funext sa]
            exact tb)
          have CKS : Hid (∀ (y : World) (k' : Nat) (lv' tv' : Value) (M' : Mgr) (L' : Lay), ShJ w wb p n (.slice ao1 l1.length co1) l1 (.slice (some ⟨gf, 0, none⟩) fs.length cf) (.slice (some ⟨gt, 0, none⟩) fs.length ct) fs Fs tvs wl k' lv' tv' y M' L' →
              y.cell? ⟨gf, pick (wl.getD k 0) fs.length, none⟩ = some (.int .i64 (fs.getD (pick (wl.getD k 0) fs.length) 0)) ∧ y.cell? ⟨gt, pick (wl.getD k 0) fs.length, none⟩ = some (tvs.getD (pick (wl.getD k 0) fs.length) (.bool false))) := Lib.hid (fun y k' lv' tv' M' L' j => ⟨j.fr.cellF hqq, j.fr.cellT hqq⟩)
          rw [PQ] at PUSH
          clear hk j hcells hv' PQ
          generalize ((List.range k).map fun i => (Value.int .i64 (fs.getD (pckd wl fs.length i) 0))) = lxs at *
          generalize ((List.range k).map fun i => tvs.getD (pckd wl fs.length i) (.bool false)) = txs at *
          generalize wl.getD k 0 = y at *
          have hqi : (pick y fs.length : Int) < fs.length := by omega
          obtain ⟨gq, cq, htq, _⟩ := (J.out.fr.tabAt hqq).1.form
          generalize pick y fs.length = qq at *
          generalize fs.getD qq 0 = fq at *
          rw [htq] at ct1 PUSH SHP CKS
          clear htq
          go_wp2_with fail
          refine (PK.out wr).mono ?_
          rintro e wr' ⟨rfl, rfl⟩
          clear PK hc
          go_upto_region 25 with (at_builtin; refine wpList_append_lies _ rfl (.tmp 93) (.tmp 98) _ rfl wb.heap.size 40 i0 _ 1 8 Tryz.underlying29 hi0 hz0 hz1 hz2 rfl (by omega) lv k lxs rfl (lrow.alloc _) ⟨wr.heap.size, 0, none⟩ 1 1 [.int .i64 fq] rfl rfl (World.news_of_block (heap_alloc_new _ _)) (by simp [Value.oneCell']) (by omega) (by unfold maxLen; omega) (by omega) (by simp; omega) (wr.heap.size + 1) (by simp) ?_; intro g5 cap5 w5 hown5 hgrow5 hat5 hlt5)
          have kg : Kp (fun b => lv.ownBlock = some b) wr w5 := grown_no (Kp.alloc _) hgrow5
          have trow5 := ownsRow_kp trow kg (fun b e z => row_ne (row_zero trow) (row_zero lrow) (by decide) e z)
          have c5 : w5.cell? ⟨gt, qq, none⟩ = some (.slice (some ⟨gq, 0, none⟩) (2 ^ n) cq) := by rw [kg.cell hz4 (fun e => by have := J.out.tb gt rfl; have := (J.out.lr.lt gt e).1; omega)]; exact ct1
          have hsz5 := kg.size
          have P5 := Lib.hid (fun x2 g6 cap6 => PUSH.out _ (w5.alloc (.cells #[.slice (some ⟨gq, 0, none⟩) (2 ^ n) cq] 42)) w5 x2 g5 cap5 g6 cap6 (Kp.alloc _) (by simp) hown5 hgrow5 (by simpa using hat5) (Kp.alloc _) (by simp))
          clear cf1 ct1 hown5 hgrow5 hat5 hlt5 lrow trow kg PUSH
          go_wp2_with (at_builtin; refine wpList_append_lies _ rfl (.tmp 100) (.tmp 105) _ rfl wb.heap.size 42 j0 _ 1 24 Tryz.underlying30 hj0 hy0 hy1 hy2 rfl (by omega) tv2 k txs rfl (trow5.alloc _) ⟨w5.heap.size, 0, none⟩ 1 1 [.slice (some ⟨gq, 0, none⟩) (2 ^ n) cq] rfl rfl (World.news_of_block (heap_alloc_new _ _)) (by simp [Value.oneCell']) (by omega) (by unfold maxLen; omega) (by omega) (by simp; omega) (w5.heap.size + 1) (by simp) ?_; intro g6 cap6 w6 hown6 hgrow6 hat6 hlt6)
          have J6 := Lib.hid (P5.out w6 g6 cap6 hown6 hgrow6 (by simpa using hat6))
          have JD := Lib.hid (J6.out.no Kp.drew)
          have S0 := Lib.hid (CKS.out _ _ _ _ _ _ JD.out)
          have CA := Lib.hid (SHP.out _ _ _ _ _ JD.out)
          clear hown6 hgrow6 hat6 hlt6 trow5 c5 P5 SHP
          go_upto_region 26 with (fail)
          go_region_held3 (fun x => x.cell? ⟨gf, qq, none⟩ = some (.int .i64 fq) ∧ x.cell? ⟨gt, qq, none⟩ = some (.slice (some ⟨gq, 0, none⟩) (2 ^ n) cq)) (first | exact S0.out | exact SB.out)
            (first | (go_at_call 12; (with_reducible refine CA.out.mono ?_); intro e wb2 hr; obtain ⟨rfl, L', jb⟩ := JD.out.shaped hr; have SB := Lib.hid (CKS.out _ _ _ _ _ _ jb); have JB := Lib.hid jb; clear hr jb))
          all_goals
            go_wp2_with fail
            go_roundg (wl.length - (k + 1))
            case measure => have := HK.out; omega
            case rel => exact ⟨k + 1, _, _, _, _, by have := HK.out; omega, by go_num, rfl, rfl, JB.out⟩
        · obtain rfl : k = wl.length := by omega
          have hge2 : ¬ (wl.length : Int) < wl.length := by omega
          have PJ := Lib.hid j.done
          have pk := pkv (wl := wl) j.rp
          have hval : ∀ f, f ∈ lsP wl fs → M3.valid f = true := fun f hf => pk.mem hf
          obtain ⟨N, R, n1, r1, n2, r2, sav, hin, hNl, hRl⟩ := saved_both j.fr.own.rep.wf hval
          have hNL : N.length ≤ 1000000000 := Nat.le_trans hNl j.rp.cost
          rw [lsP_len] at hRl
          have HRL := Lib.hid hRl
          have TOT : Hid (∀ y, Kp No wr y → Calls Tryz.prog 17 #[ptr p, lv] y fun e w' => e = .returned (.int .i64 (N.length : Int)) ∧ Kp No y w') := Lib.hid (fun y ky => by
            have := Total_ok (lsP wl fs) (j.fr.own.rep.no ky) (PJ.out.no ky).lsrc (by rw [lsP_len]; have := HG.out.2.2; omega) (by have := j.rp.cost; unfold big; omega)
            rw [n1] at this
            exact this)
          have TOT2 : Hid (∀ (y : World) (v : Value) (B : Nat), Kp No wr y → y.ownsRow B 40 1 v (2 + wl.length) ([.int .i64 (-1), .int .i64 1] ++ (lsP wl fs).map intV) → Calls Tryz.prog 17 #[ptr p, v] y fun e w' => e = .returned (.int .i64 (N.length : Int)) ∧ Kp No y w') := Lib.hid (fun y v B ky row => by
            have hl : (-1 :: 1 :: lsP wl fs).length = 2 + wl.length := by rw [List.length_cons, List.length_cons, lsP_len]; omega
            have := Total_ok (-1 :: 1 :: lsP wl fs) (j.fr.own.rep.no ky) (by rw [hl]; exact SrcAt.of_row row) (by rw [hl]; have := HG.out.2.2; omega) (by have := j.rp.cost; unfold big; omega)
            rw [saveM_two j.fr.own.rep.wf, n1] at this
            exact this)
          have SAV := Lib.hid (Save_ok (lsP wl fs) j.fr.own.rep PJ.out.lsrc (by rw [lsP_len]; have := HG.out.2.2; omega) (by have := j.rp.cost; unfold big; omega))
          rw [n1, r1] at SAV
          have RSV : Hid (∀ y, Kp No wr y → Calls Tryz.prog 14 #[tv2, .slice ao1 l1.length co1] y (SavePost y N R)) := Lib.hid (fun y ky => by
            have tabs : TabsV M3 y tv2 (tlsP wl fs tvs) ((lsP wl fs).map Int.toNat) := by
              have h := ((PJ.out.no ky).tabs pk)
              have e : ((lsP wl fs).map Int.toNat).map M3.sem = FlP wl fs Fs := by
                have h1 := pk.vld
                unfold Go.Proofs.YtngbodmooddjbaaGreat.vld at h1
                rw [List.filter_eq_self.2 (fun f hf => pk.mem hf)] at h1
                exact h1
              unfold TabsV
              rw [e, j.rp.nn]
              exact h
            have := RSave_ok (by rw [j.rp.nn]; exact HN.out.2) j.fr.own.rep.wf (rs := (lsP wl fs).map Int.toNat) (fun f hf => by
              obtain ⟨g, hg, rfl⟩ := List.mem_map.1 hf
              obtain ⟨q, rfl, sq, _⟩ := Mgr.valid_nat j.fr.own.rep.wf (hval g hg)
              rw [Int.toNat_natCast]; exact sq) j.rp.cost tabs (by rw [List.length_map, lsP_len]; have := HG.out.2.2; omega) (B3 := 0) (ov := .slice ao1 l1.length co1) (by rw [j.rp.nn, j.ord]; exact ownsRow_kp j.orow ky (fun _ _ h => h)) sav hin
            rw [n2, r2] at this
            exact this)
          have LROW : Hid (∀ y, Kp No wr y → SrcAt y lv 1 wl.length ((lsP wl fs).map intV)) := Lib.hid (fun y ky => by have := (PJ.out.no ky).lsrc; rw [lsP_len] at this; exact this)
          have KW := Lib.hid j.fr.own.kp
          have HONE : Hid (∀ z ∈ (lsP wl fs).map intV, z.oneCell' = true) := Lib.hid (fun z hz => by obtain ⟨y, _, rfl⟩ := List.mem_map.1 hz; rfl)
          have hw5 : wl.length ≤ 5 := HG.out.2.2
          obtain ⟨alv, clv, rfl, _⟩ := ownsRow_len (row_zero j.lr)
          obtain ⟨atv, ctv, rfl, _⟩ := ownsRow_len (row_zero j.tr)
          clear hk hlt j pk hval n1 r1 n2 r2 sav hin hNl WT hRl
          go_wp2_with fail
          refine SAV.out.mono ?_
          rintro e w6 ⟨nv, rv, rfl, nrow, rrow, k6⟩
          have NR := Lib.hid nrow
          have RR := Lib.hid rrow
          have K6 := Lib.hid k6
          have RS6 := Lib.hid (RSV.out w6 k6)
          obtain ⟨an, cn, rfl, _⟩ := ownsRow_len (row_zero nrow)
          obtain ⟨ar, cr, rfl, _⟩ := ownsRow_len (row_zero rrow)
          clear nrow rrow k6 SAV RSV
          go_wp2_with fail
          refine RS6.out.mono ?_
          rintro e w7 ⟨nv7, rv7, rfl, nrow, rrow, k7⟩
          have K7 := Lib.hid (K6.out.trans_no k7)
          have NE := Lib.hid (Nodes_eq ((SrcAt.of_row NR.out).no k7) (SrcAt.of_row nrow) hNL)
          have IE : Hid (∀ m, Calls Tryz.prog 16 #[.slice ar R.length cr, rv7] (w7.drewN m) fun e w' => e = .returned (.bool true) ∧ ∃ m', w' = (w7.drewN m).drewN m') := Lib.hid (fun m =>
            Ints_eq (((SrcAt.of_row RR.out).no k7).no (Kp.drewN m)) ((SrcAt.of_row rrow).no (Kp.drewN m)) (by have := HRL.out; omega))
          obtain ⟨an7, cn7, rfl, _⟩ := ownsRow_len (row_zero nrow)
          obtain ⟨ar7, cr7, rfl, _⟩ := ownsRow_len (row_zero rrow)
          clear nrow rrow k7 RS6 NR RR
          go_wp2_with fail
          refine NE.out.mono ?_
          rintro e w8 ⟨rfl, m8, rfl⟩
          go_wp2_with fail
          refine (IE.out m8).mono ?_
          rintro e w9 ⟨rfl, m9, rfl⟩
          have K9 := Lib.hid ((K7.out.trans_no (Kp.drewN m8)).trans_no (Kp.drewN m9))
          clear NE IE
          generalize (w7.drewN m8).drewN m9 = w9 at *
          have T9 := Lib.hid (TOT.out w9 K9.out)
          go_wp2_with fail
          refine T9.out.mono ?_
          rintro e w10 ⟨rfl, k10⟩
          have K10 := Lib.hid (K9.out.trans_no k10)
          clear k10 T9 TOT
          have LIT : Hid ((w10.alloc (.cells #[.int .i64 (-1), .int .i64 1] 40)).ownsRow w10.heap.size 40 1 (.slice (some ⟨w10.heap.size, 0, none⟩) 2 2) 2 [.int .i64 (-1), .int .i64 1]) := Lib.hid ⟨rfl, .inr ⟨w10.heap.size, 2, #[.int .i64 (-1), .int .i64 1], rfl, Nat.le_refl _, heap_alloc_new _ _, Nat.le_refl _, by simp [maxLen_val], rfl, rfl⟩⟩
          have LS10 := Lib.hid (LROW.out _ (K10.out.trans_no (Kp.alloc (.cells #[.int .i64 (-1), .int .i64 1] 40))))
          go_wp2_with (at_builtin; refine wpList_append_srcW rfl _ _ rfl (base := w10.heap.size) (v := .slice (some ⟨w10.heap.size, 0, none⟩) 2 2) Tryz.underlying29 hi0 hz0 hz1 hz2 rfl (by omega) rfl LIT.out rfl LS10.out HONE.out (by unfold maxLen; omega) (by omega) (by simp) ?_; intro v11 w11 hown hgrow hat)
          have K11 : Hid (Kp No wr w11) := Lib.hid (by
            have kg : Kp (fun b => (Value.slice (some ⟨w10.heap.size, 0, none⟩) 2 2).ownBlock = some b) w10 w11 := grown_no (Kp.alloc _) hgrow
            exact K10.out.trans (A' := fun b => (Value.slice (some ⟨w10.heap.size, 0, none⟩) 2 2).ownBlock = some b) (fun b e => .inr (by simp [Value.ownBlock] at e; have := K10.out.size; omega)) kg)
          have T11 := Lib.hid (TOT2.out w11 v11 _ K11.out hown)
          clear hown hgrow hat TOT2 LIT LS10
          refine T11.out.mono ?_
          rintro e w12 ⟨rfl, k12⟩
          have KF := Lib.hid (KW.out.trans_no (K11.out.trans_no k12))
          clear k12 T11
          go_wp2_with fail
          go_ret
          exact ⟨by simp, KF.out⟩

end Go.Proofs.YtngbodmooddjbaaGreat
