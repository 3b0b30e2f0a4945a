/-
  Walks: 'Run' of the package netverifylaw26.
-/
import Derived.Test.YtngbodmooddjbaaRunJ
import Derived.Deep.RegionHeld3
namespace Go.Proofs.Ytngbodmooddjbaa
open Go.RowKit

theorem info_ref : (Try.prog.info? 27).map (fun i => (i.zero, i.size, i.bytes)) = some (some (.int .i64 0), 1, 8) := by kernel_rfl
theorem info_func : (Try.prog.info? 45).map (fun i => (i.zero, i.size, i.bytes)) = some (some (.slice none 0 0), 1, 24) := by kernel_rfl

theorem varsF_length : ∀ m, (varsF m).length = m + 2
  | 0 => rfl
  | m + 1 => by simp [varsF, varsF_length m]
theorem runF_length (n : Nat) (l : List Stp) : (runF n l).length = n + 2 + l.length := by
  have : ∀ (l : List Stp) (X : List BF), (l.foldl (stepF n) X).length = X.length + l.length := by
    intro l
    induction l with
    | nil => intro X; rfl
    | cons s l ih => intro X; rw [List.foldl_cons, ih]; simp [stepF]; omega
  unfold runF; rw [this, varsF_length]

def VR (w : World) (p n : Nat) (L0 : Lay) (M : Mgr) (gk : Nat) (s8 s9 s10 : Value) (wr : World) : Prop :=
  ∃ k L fv tv tvs, k + gk = n ∧ s10 = .int .i64 (k : Int) ∧ fv = s8 ∧ tv = s9 ∧ RJ w p n L0 wr (varsM M k).1 L fv tv (varsM M k).2 (varsF k) tvs

def SR (w : World) (p n : Nat) (L0 : Lay) (M : Mgr) (l : List Stp) (gk : Nat) (s8 s9 s11 : Value) (wr : World) : Prop :=
  ∃ k L fv tv tvs, k + gk = l.length ∧ s11 = .int .i64 (k : Int) ∧ fv = s8 ∧ tv = s9 ∧ RJ w p n L0 wr (runM M n (l.take k)).1 L fv tv (runM M n (l.take k)).2 (runF n (l.take k)) tvs

def RunPost (w : World) (p n : Nat) (L0 : Lay) (M : Mgr) (l : List Stp) (e : Ending) (w' : World) : Prop :=
  ∃ fv tv L tvs, e = .returned (.tuple #[fv, tv]) ∧ RJ w p n L0 w' (runM M n l).1 L fv tv (runM M n l).2 (runF n l) tvs

theorem run_start {w w1 w2 w3 : World} {p n : Nat} {L : Lay} {M : Mgr} {t0 t1 : Value} (R : Rep w p M L) (k1 : w1 = w.alloc (.cells #[.int .i64 0, .int .i64 1] 27)) (k2 : Kp No w1 w2) (h0 : Tb w1.heap.size w2 t0 (tab n (fun _ => false)))
    (k3 : Kp No w2 w3) (h1 : Tb w2.heap.size w3 t1 (tab n (fun _ => true))) :
    RJ w p n L (w3.alloc (.cells #[t0, t1] 45)) (varsM M 0).1 L (.slice (some ⟨w.heap.size, 0, none⟩) 2 2) (.slice (some ⟨w3.heap.size, 0, none⟩) 2 2) (varsM M 0).2 (varsF 0) [t0, t1] := by
  subst k1
  have ka : Kp No w (w.alloc (.cells #[.int .i64 0, .int .i64 1] 27)) := Kp.alloc _
  have kb : Kp No (w.alloc (.cells #[.int .i64 0, .int .i64 1] 27)) (w3.alloc (.cells #[t0, t1] 45)) := (k2.trans_no k3).trans_no (Kp.alloc _)
  have kall := ka.trans_no kb
  have s2 := k2.size
  have s3 := k3.size
  simp at s2
  refine ⟨⟨R.no kall, kall.of_no, fun _ h => .inl h⟩, ?_, ?_, ?_, ?_, rfl, rfl, ?_⟩
  · have : (w.alloc (.cells #[.int .i64 0, .int .i64 1] 27)).ownsRow w.heap.size 27 1 (.slice (some ⟨w.heap.size, 0, none⟩) 2 2) 2 [.int .i64 0, .int .i64 1] :=
      ⟨rfl, .inr ⟨w.heap.size, 2, #[.int .i64 0, .int .i64 1], rfl, Nat.le_refl _, heap_alloc_new _ _, Nat.le_refl _, by simp [maxLen_val], rfl, rfl⟩⟩
    exact ownsRow_kp this kb (fun _ _ x => x)
  · exact ⟨rfl, .inr ⟨w3.heap.size, 2, #[t0, t1], rfl, by omega, heap_alloc_new _ _, Nat.le_refl _, by simp [maxLen_val], rfl, rfl⟩⟩
  · intro k hk hx
    simp [Value.ownBlock] at hk
    have := R.lt k hx; omega
  · intro k hk hx
    simp [Value.ownBlock] at hk
    have := R.lt k hx; omega
  · intro i x F h1' h2'
    match i, h1', h2' with
    | 0, h1', h2' =>
      simp [varsF] at h1' h2'
      subst h1'; subst h2'
      refine ⟨((h0.no k3).no (Kp.alloc _)).mono (by simp), fun k hk hx => ?_⟩
      have := (h0.lt k hk).1
      simp at this
      have := R.lt k hx; omega
    | 1, h1', h2' =>
      simp [varsF] at h1' h2'
      subst h1'; subst h2'
      refine ⟨(h1.no (Kp.alloc _)).mono (by omega), fun k hk hx => ?_⟩
      have := (h1.lt k hk).1
      have := R.lt k hx; omega
    | i + 2, h1', _ => simp at h1'

theorem run_next {M : Mgr} {n k : Nat} {l : List Stp} {s : Stp} (h : l[k]? = some s) : runM M n (l.take (k + 1)) = stepM n (runM M n (l.take k)) s ∧ runF n (l.take (k + 1)) = stepF n (runF n (l.take k)) s := by
  obtain ⟨hk, e⟩ := List.getElem?_eq_some_iff.1 h
  rw [List.take_succ_eq_append_getElem hk, e]
  unfold runM runF
  rw [List.foldl_append, List.foldl_append]
  exact ⟨rfl, rfl⟩

/-- The box of a step. -/
structure Bx (x : World) (b : Nat) (s0 s1 s2 s3 : Int) : Prop where
  lt : b < x.heap.size
  c0 : x.cell? ⟨b, 0, none⟩ = some (.int .i64 s0)
  c1 : x.cell? ⟨b, 1, none⟩ = some (.int .i64 s1)
  c2 : x.cell? ⟨b, 2, none⟩ = some (.int .i64 s2)
  c3 : x.cell? ⟨b, 3, none⟩ = some (.int .i64 s3)
theorem Bx.kp {A : Nat → Prop} {x y : World} {b : Nat} {s0 s1 s2 s3 : Int} (h : Bx x b s0 s1 s2 s3) (k : Kp A x y) (hA : ¬ A b) : Bx y b s0 s1 s2 s3 := by
  have e : ∀ i, y.cell? ⟨b, i, none⟩ = x.cell? ⟨b, i, none⟩ := fun i => k.cell h.lt hA
  exact ⟨Nat.lt_of_lt_of_le h.lt k.size, by rw [e]; exact h.c0, by rw [e]; exact h.c1, by rw [e]; exact h.c2, by rw [e]; exact h.c3⟩

structure RB (w : World) (p n : Nat) (L0 : Lay) (wr : World) (M : Mgr) (L : Lay) (fv tv : Value) (fs : List Int) (Fs : List BF) (tvs : List Value) (b : Nat) (s0 s1 s2 s3 : Int) : Prop where
  j : RJ w p n L0 wr M L fv tv fs Fs tvs
  bx : Bx wr b s0 s1 s2 s3
  nb : ¬ L.at p b

section
variable {w : World} {p n : Nat} {L0 : Lay} {wr w' : World} {M M' : Mgr} {L : Lay} {fv tv : Value} {fs : List Int} {Fs : List BF} {tvs : List Value} {b : Nat} {s0 s1 s2 s3 : Int}
theorem RB.start {ty : Nat} (j : RJ w p n L0 wr M L fv tv fs Fs tvs) : RB w p n L0 (wr.alloc (.cells #[.int .i64 s0, .int .i64 s1, .int .i64 s2, .int .i64 s3] ty)) M L fv tv fs Fs tvs wr.heap.size s0 s1 s2 s3 := by
  refine ⟨j.no (Kp.alloc _), ⟨by simp, ?_, ?_, ?_, ?_⟩, fun hx => ?_⟩
  · simp only [World.cell?]; rw [heap_alloc_new]; rfl
  · simp only [World.cell?]; rw [heap_alloc_new]; rfl
  · simp only [World.cell?]; rw [heap_alloc_new]; rfl
  · simp only [World.cell?]; rw [heap_alloc_new]; rfl
  · have := j.sd.rep.lt _ hx; omega
theorem RB.no (r : RB w p n L0 wr M L fv tv fs Fs tvs b s0 s1 s2 s3) (k : Kp No wr w') : RB w p n L0 w' M L fv tv fs Fs tvs b s0 s1 s2 s3 := ⟨r.j.no k, r.bx.kp k (fun x => x), r.nb⟩
theorem RB.ret {v : Value} {e : Ending} (r : RB w p n L0 wr M L fv tv fs Fs tvs b s0 s1 s2 s3) (h : Ret p L wr M' v e w') : e = .returned v ∧ ∃ L', RB w p n L0 w' M' L' fv tv fs Fs tvs b s0 s1 s2 s3 := by
  obtain ⟨he, L', j', k', f'⟩ := r.j.ret h
  refine ⟨he, L', j', r.bx.kp k' r.nb, fun hx => ?_⟩
  rcases f' b hx with h1 | h1
  · exact r.nb h1
  · have := r.bx.lt; omega
theorem RJ.cellF {gf m cf : Nat} (j : RJ w p n L0 wr M L (.slice (some ⟨gf, 0, none⟩) m cf) tv fs Fs tvs) {i : Nat} (hi : i < fs.length) : wr.cell? ⟨gf, i, none⟩ = some (.int .i64 (fs.getD i 0)) := by
  obtain ⟨g, cap, hv, _, _, _, hc, _⟩ := ownsRow_open j.frow (by omega)
  cases hv
  exact hc i _ (by simp [intV, hi])
theorem RJ.cellT {gt m ct : Nat} (j : RJ w p n L0 wr M L fv (.slice (some ⟨gt, 0, none⟩) m ct) fs Fs tvs) {i : Nat} (hi : i < fs.length) : wr.cell? ⟨gt, i, none⟩ = some (tvs.getD i (.bool false)) := by
  have ht := j.tlen
  obtain ⟨g, cap, hv, _, _, _, hc, _⟩ := ownsRow_open j.trow (by omega)
  cases hv
  exact hc i _ (by simp [show i < tvs.length by omega])
theorem RJ.tabAt (j : RJ w p n L0 wr M L fv tv fs Fs tvs) {i : Nat} (hi : i < fs.length) : Tb w.heap.size wr (tvs.getD i (.bool false)) (Go.Proofs.Ytngbodmooddjbaa.tab n (Fs.getD i (fun _ => false))) ∧ Off L p (tvs.getD i (.bool false)) := by
  have h1 := j.tlen
  have h2 := j.flen
  exact j.tabs i _ _ (by simp [show i < tvs.length by omega]) (by simp [show i < Fs.length by omega])
end

/-- Which place a number picks. -/
def PK (m : Nat) (s : Int) (i : Nat) : Prop := pick s m = i
theorem Pick_q {m : Nat} {s : Int} {i : Nat} (h : PK m s i) (h0 : 0 < m) (h1 : m ≤ 9223372036854775807) (x : World) :
    Calls Try.prog 20 #[.int .i64 s, .int .i64 (m : Int)] x fun e w' => e = .returned (.int .i64 (i : Int)) ∧ w' = x := by
  refine (Pick_ok s m x h0 h1).mono ?_
  rintro e w' ⟨he, hw⟩
  exact ⟨by rw [he, show pick s m = i from h], hw.symm⟩

/-- After an operation of a step. -/
def PT (w : World) (p n : Nat) (L0 : Lay) (fv tv : Value) (fs : List Int) (Fs : List BF) (tvs : List Value) (b : Nat) (s0 s1 s2 s3 : Int) (X : Mgr × Int) (F : BF) (s16 s17 : Value) (x : World) : Prop :=
  ∃ L' tx, .int .i64 X.2 = s16 ∧ tx = s17 ∧ RB w p n L0 x X.1 L' fv tv fs Fs tvs b s0 s1 s2 s3 ∧ Tb w.heap.size x tx (tab n F) ∧ Off L' p tx

theorem PT.mk' {w : World} {p n : Nat} {L0 : Lay} {fv tv : Value} {fs : List Int} {Fs : List BF} {tvs : List Value} {b : Nat} {s0 s1 s2 s3 : Int} {X : Mgr × Int} {F : BF} {wa wb : World} {La : Lay} {tx : Value}
    (ra : RB w p n L0 wa X.1 La fv tv fs Fs tvs b s0 s1 s2 s3) (htx : Tb wa.heap.size wb tx (tab n F)) (k : Kp No wa wb) : PT w p n L0 fv tv fs Fs tvs b s0 s1 s2 s3 X F (.int .i64 X.2) tx wb :=
  ⟨La, tx, rfl, rfl, ra.no k, htx.mono ra.j.sd.kp.size, off_new ra.j.sd.rep htx⟩

set_option maxRecDepth 100000 in
set_option maxHeartbeats 4000000 in
theorem Run_ok {p n : Nat} {M : Mgr} {L : Lay} (hn : n ≤ 6) (hn1 : 1 ≤ n) (l : List Stp) {sv : Value} {w : World} (R : Rep w p M L) (hMn : M.n = n) (hlen : l.length ≤ 40) (hc : M.nodes.length ≤ 1000000000) (hs : StepsAt w sv l)
    (hso : l ≠ [] → ∀ g o n c, sv = .slice (some ⟨g, o, none⟩) n c → ¬ L.at p g) :
    Calls Try.prog 19 #[ptr p, .int .i64 (n : Int), sv] w (RunPost w p n L M l) := by
  have VS := Lib.hid (vars_spec R.wf hMn hn hc)
  have RS := Lib.hid (run_spec R.wf hMn hn hn1 hc l)
  have HR := Lib.hid R
  have ST := Lib.hid hs
  have SO := Lib.hid hso
  obtain ⟨i0, hi0, hz0, hz1, hz2⟩ := info_parts info_ref
  obtain ⟨j0, hj0, hy0, hy1, hy2⟩ := info_parts info_func
  clear R hs hso hMn
  go_enter Try.func19, Try.ntmps19
  go_wp2_with fail
  refine (Const_ok n false hn _).mono ?_
  rintro e w2 ⟨t0, rfl, h0, k2⟩
  obtain ⟨g0, c0, rfl, _⟩ := h0.form
  have H0 := Lib.hid h0
  have K2 := Lib.hid k2
  clear h0 k2
  go_wp2_with fail
  refine (Const_ok n true hn w2).mono ?_
  rintro e w3 ⟨t1, rfl, h1, k3⟩
  obtain ⟨g1, c1, rfl, _⟩ := h1.form
  have J0 : Hid (VR w p n L M n (.slice (some ⟨w.heap.size, 0, none⟩) 2 2) (.slice (some ⟨w3.heap.size, 0, none⟩) 2 2) (.int .i64 0) (w3.alloc (.cells #[.slice (some ⟨g0, 0, none⟩) (2 ^ n) c0, .slice (some ⟨g1, 0, none⟩) (2 ^ n) c1] 45))) :=
    ⟨0, L, _, _, _, by omega, rfl, rfl, rfl, run_start HR.out rfl K2.out H0.out k3 h1⟩
  clear h1 k3 H0 K2
  go_upto_block 0 with (fail)
  generalize (w3.alloc (.cells #[.slice (some ⟨g0, 0, none⟩) (2 ^ n) c0, .slice (some ⟨g1, 0, none⟩) (2 ^ n) c1] 45)) = w4 at *
  go_cut [8, 9] (fun s8 s9 x => ∃ L1 fv tv tvs, fv = s8 ∧ tv = s9 ∧ RJ w p n L x (varsM M n).1 L1 fv tv (varsM M n).2 (varsF n) tvs)
  case first =>
    as_aux_lemma =>
      go_wp2_with fail
      go_loopg [8, 9, 10] n (fun gk s8 s9 s10 wr => VR w p n L M gk s8 s9 s10 wr)
      case atStart => exact J0.out
      case round =>
        clear J0
        obtain ⟨k, L1, fv, tv, tvs, hk, rfl, e8, e9, j⟩ := hrel
        subst e8 e9
        by_cases hlt : k < n
        · have rp := VS.out k (by omega)
          have rp1 := VS.out (k + 1) (by omega)
          have hb : ((varsM M k).1.varM (k : Int)).1.nodes.length ≤ big := by have := rp1.cost; unfold big; show (varsM M (k + 1)).1.nodes.length ≤ _; omega
          have hfl : (varsM M k).2.length ≤ 100 := by rw [← rp.len, varsF_length]; omega
          have htl : tvs.length ≤ 100 := by rw [j.tlen]; exact hfl
          have HC := Lib.hid (Var_ok (k : Int) j.sd.rep hb)
          have HK := Lib.hid hk
          have HJ := Lib.hid j
          have hlti : (k : Int) < n := by omega
          have EN : Hid ((varsM M (k + 1)) = (((varsM M k).1.varM (k : Int)).1, (varsM M k).2 ++ [((varsM M k).1.varM (k : Int)).2])) := Lib.hid rfl
          clear rp rp1 hb hk j
          go_wp2_with fail
          refine HC.out.mono ?_
          intro e wa ha
          obtain ⟨rfl, La, ja, _⟩ := HJ.out.ret ha
          clear ha HJ HC
          have EN2 := EN
          clear EN
          generalize (varsM M k).1.varM (k : Int) = X at *
          generalize (varsM M k).2 = fs at *
          have of := ja.frow
          have JA := Lib.hid ja
          have hbb : w.heap.size ≤ wa.heap.size := ja.sd.kp.size
          clear ja
          go_upto_region 7 with (at_builtin; refine wpList_append_lies _ rfl (.tmp 29) (.tmp 33) _ rfl w.heap.size 27 i0 _ 1 8 Try.underlying38 hi0 hz0 hz1 hz2 rfl (by omega) fv fs.length (fs.map intV) rfl (of.alloc _) ⟨wa.heap.size, 0, none⟩ 1 1 [.int .i64 X.2] rfl rfl (World.news_of_block (heap_alloc_new _ _)) (by simp [Value.oneCell']) (by omega) (by unfold maxLen; omega) (by omega) (by simp; omega) (wa.heap.size + 1) (by simp) ?_; intro g cap wb hown hgrow hat hlt2)
          have hrs := JA.out.pushF (Kp.alloc _) (by simp) hown hgrow (by simpa using hat)
          obtain ⟨sdB, frB, trB, foB, tbB, _, _⟩ := hrs
          have SDB := Lib.hid sdB
          have FRB := Lib.hid frB
          have TRB := Lib.hid trB
          have FOB := Lib.hid foB
          have TBB := Lib.hid tbB
          clear hown hgrow hat hlt2 sdB frB trB foB tbB of
          go_wp2_with fail
          refine (RVar_ok n k hn hlt wb).mono ?_
          rintro e wc ⟨tx, rfl, htx, ktx⟩
          obtain ⟨gx, cx, rfl, _⟩ := htx.form
          have ox := off_new SDB.out.rep htx
          have trc := ownsRow_kp TRB.out ktx (fun _ _ x => x)
          have hbc : w.heap.size ≤ wc.heap.size := (SDB.out.kp.trans_no ktx).size
          have FIN : Hid (∀ (A w' : World) (g' cap' : Nat), Kp No wc A → A.heap.size = wc.heap.size + 1 → w'.ownsRow w.heap.size 45 1 (.slice (some ⟨g', 0, none⟩) (tvs.length + 1) cap') (tvs.length + 1) (tvs ++ [.slice (some ⟨gx, 0, none⟩) (2 ^ n) cx]) → A.grownBy w' tv.ownBlock → (tv.ownBlock = some g' ∨ g' = A.heap.size) →
              RJ w p n L w' X.1 La (.slice (some ⟨g, 0, none⟩) (fs.length + 1) cap) (.slice (some ⟨g', 0, none⟩) (tvs.length + 1) cap') (fs ++ [X.2]) (varsF k ++ [fun a => a k]) (tvs ++ [.slice (some ⟨gx, 0, none⟩) (2 ^ n) cx])) := Lib.hid (fun A w' g' cap' kA hs hown hgrow hat =>
            RJ.pushT (SDB.out.no ktx) (ownsRow_kp FRB.out ktx (fun _ _ x => x)) trc FOB.out JA.out.tof JA.out.tlen JA.out.flen (fun i x F h1 h2 => ⟨(TBB.out i x F h1 h2).1.no ktx, (TBB.out i x F h1 h2).2⟩) (htx.mono SDB.out.kp.size) ox kA hs hown hgrow hat)
          clear htx ktx ox SDB FRB TRB FOB TBB JA
          generalize 2 ^ n = NN at *
          go_upto_region 5 with (at_builtin; refine wpList_append_lies _ rfl (.tmp 35) (.tmp 39) _ rfl w.heap.size 45 j0 _ 1 24 Try.underlying39 hj0 hy0 hy1 hy2 rfl (by omega) tv tvs.length tvs rfl (trc.alloc _) ⟨wc.heap.size, 0, none⟩ 1 1 [.slice (some ⟨gx, 0, none⟩) NN cx] rfl rfl (World.news_of_block (heap_alloc_new _ _)) (by simp [Value.oneCell']) (by omega) (by unfold maxLen; omega) (by omega) (by simp; omega) (wc.heap.size + 1) (by simp) ?_; intro g' cap' wd hown hgrow hat hlt2)
          have JN := Lib.hid (FIN.out _ wd g' cap' (Kp.alloc _) (by simp) hown hgrow (by simpa using hat))
          clear hown hgrow hat hlt2 trc FIN
          go_wp2
          go_roundg (n - (k + 1))
          case measure => have := HK.out; omega
          case rel => exact ⟨k + 1, La, _, _, _, by omega, by go_num, rfl, rfl, by rw [EN2.out]; exact JN.out⟩
        · obtain rfl : k = n := by omega
          have hge : ¬ ((k : Int) < k) := by omega
          have J1 : Hid (RJ w p k L wr (varsM M k).1 L1 fv tv (varsM M k).2 (varsF k) tvs) := Lib.hid j
          clear j hk
          go_wp2_with fail
          go_meet
          case rel => exact ⟨L1, fv, tv, tvs, rfl, rfl, J1.out⟩
  case rest =>
  clear J0
  obtain ⟨L1, fv0, tv0, tvs0, e8, e9, j⟩ := hcut
  subst e8 e9

  have j2 : RJ w p n L _ (runM M n (l.take 0)).1 L1 fv0 tv0 (runM M n (l.take 0)).2 (runF n (l.take 0)) tvs0 := j
  have J1 := Lib.hid (show SR w p n L M l l.length fv0 tv0 (.int .i64 0) _ from ⟨0, L1, _, _, _, by omega, rfl, rfl, rfl, j2⟩)
  clear j2
  clear j
  clear VS
  clear L1
  go_wp2_with fail
  go_loopg [8, 9, 11] l.length (fun gk s8 s9 s11 wr => SR w p n L M l gk s8 s9 s11 wr)
  case atStart => exact J1.out
  case round =>
    clear J1
    obtain ⟨k, L1, fv, tv, tvs, hk, rfl, e8, e9, j⟩ := hrel
    subst e8 e9
    obtain ⟨ao, c, rfl, hst⟩ := ST.out.kp j.sd.kp SO.out
    by_cases hlt : k < l.length
    · obtain ⟨⟨s0, s1, s2, s3⟩, hs⟩ : ∃ s, l[k]? = some s := ⟨l[k], by simp [hlt]⟩
      rcases hst with rfl | ⟨g, o, rfl, hg, hst⟩
      · simp at hlt
      obtain ⟨q0, q1, q2, q3⟩ := hst k _ hs
      clear hst
      simp only at q0 q1 q2 q3
      have rp := RS.out k (by omega)
      obtain ⟨en1, en2⟩ := run_next (M := M) (n := n) hs
      have os := step_spec hn hn1 rp (s0, s1, s2, s3)
      have FIN0 : Hid (∀ w' L' fv' tv' tvs', RJ w p n L w' (opM n (runM M n (l.take k)).1 (runM M n (l.take k)).2 (s0, s1, s2, s3)).1 L' fv' tv' ((runM M n (l.take k)).2 ++ [(opM n (runM M n (l.take k)).1 (runM M n (l.take k)).2 (s0, s1, s2, s3)).2]) (runF n (l.take k) ++ [opF n (runF n (l.take k)) (s0, s1, s2, s3)]) tvs' →
          SR w p n L M l (l.length - (k + 1)) fv' tv' (.int .i64 ((k + 1 : Nat) : Int)) w') := Lib.hid (fun w' L' fv' tv' tvs' jn => ⟨k + 1, L', _, _, tvs', by omega, rfl, rfl, rfl, by rw [en1, en2]; exact jn⟩)
      have hFl : (runF n (l.take k)).length ≤ 100 := by rw [runF_length, List.length_take]; omega
      clear en1 en2
      generalize runM M n (l.take k) = X at *
      generalize runF n (l.take k) = Fs at *
      obtain ⟨M1, fs⟩ := X
      simp only at j rp os FIN0
      have hp := rp.pos
      have hlf : fs.length ≤ 100 := by rw [← j.flen]; exact hFl
      have la := pick_lt s1 (n := fs.length) (by omega)
      have lb := pick_lt s2 (n := fs.length) (by omega)
      have lc := pick_lt s3 (n := fs.length) (by omega)
      obtain ⟨gf, cf, rfl, _⟩ := ownsRow_open j.frow (by omega)
      have ht := j.tlen
      obtain ⟨gt, ct, rfl, _⟩ := ownsRow_open j.trow (by omega)
      have hc6 := pick_lt s0 (n := 6) (by omega)
      have hcb := pick_lt s2 (n := n) (by omega)
      have NB : Hid ((M1.notM (fs.getD (pick s1 fs.length) 0)).1.nodes.length ≤ big) := Lib.hid (by
        have := (not_ops hn rp la).1.len; have := rp.cost; unfold big; omega)
      have OB : Hid ((opM n M1 fs (s0, s1, s2, s3)).1.nodes.length ≤ big) := Lib.hid (by have := os.next.cost; unfold big; omega)
      have UA : Hid (Upto n (Fs.getD (pick s1 fs.length) (fun _ => false))) := Lib.hid (rp.at la).2.2
      have RB0 := Lib.hid (RB.start (s0 := s0) (s1 := s1) (s2 := s2) (s3 := s3) (ty := 108) j)
      have hlti : (k : Int) < l.length := by omega
      have hlm : (l.length : Int) ≤ 9223372036854775807 := by omega
      have HK := Lib.hid hk
      have LEN := Lib.hid hlen
      have PQ := Lib.hid (fun (s : Int) (i : Nat) (h : PK fs.length s i) (x : World) => Pick_q h (by omega) (by omega) x)
      have PQ6 := Lib.hid (fun (s : Int) (i : Nat) (h : PK 6 s i) (x : World) => Pick_q h (by omega) (by omega) x)
      have PQn := Lib.hid (fun (s : Int) (i : Nat) (h : PK n s i) (x : World) => Pick_q h (by omega) (by omega) x)
      have OPM : Hid (∀ N X, M1.notM (fs.getD (pick s1 fs.length) 0) = N → X = opM n M1 fs (s0, s1, s2, s3) → (pick s0 6 = 1 → X = N.1.andM (fs.getD (pick s1 fs.length) 0) (fs.getD (pick s2 fs.length) 0)) ∧ (pick s0 6 = 2 → X = N.1.orM (fs.getD (pick s1 fs.length) 0) (fs.getD (pick s2 fs.length) 0)) ∧
          (pick s0 6 = 3 → X = N.1.xorM (fs.getD (pick s1 fs.length) 0) (fs.getD (pick s2 fs.length) 0)) ∧ (pick s0 6 = 4 → X = N.1.iteM (fs.getD (pick s1 fs.length) 0) (fs.getD (pick s2 fs.length) 0) (fs.getD (pick s3 fs.length) 0)) ∧
          (pick s0 6 = 5 → X = N.1.restrictM (fs.getD (pick s1 fs.length) 0) (pick s2 n : Int) (lastBit s3)) ∧ (pick s0 6 = 0 → X = N)) := Lib.hid (by
        rintro N X rfl rfl
        refine ⟨fun h => ?_, fun h => ?_, fun h => ?_, fun h => ?_, fun h => ?_, fun h => ?_⟩ <;> simp [opM, h])
      have OPF : Hid (∀ F, F = opF n Fs (s0, s1, s2, s3) → (pick s0 6 = 1 → F = fun a => Fs.getD (pick s1 fs.length) (fun _ => false) a && Fs.getD (pick s2 fs.length) (fun _ => false) a) ∧ (pick s0 6 = 2 → F = fun a => Fs.getD (pick s1 fs.length) (fun _ => false) a || Fs.getD (pick s2 fs.length) (fun _ => false) a) ∧
          (pick s0 6 = 3 → F = fun a => Fs.getD (pick s1 fs.length) (fun _ => false) a ^^ Fs.getD (pick s2 fs.length) (fun _ => false) a) ∧ (pick s0 6 = 4 → F = fun a => if Fs.getD (pick s1 fs.length) (fun _ => false) a then Fs.getD (pick s2 fs.length) (fun _ => false) a else Fs.getD (pick s3 fs.length) (fun _ => false) a) ∧
          (pick s0 6 = 5 → F = fun a => Fs.getD (pick s1 fs.length) (fun _ => false) (Mgr.upd a (pick s2 n) (lastBit s3))) ∧ (pick s0 6 = 0 → F = fun a => !Fs.getD (pick s1 fs.length) (fun _ => false) a)) := Lib.hid (by
        rintro F rfl
        have e := j.flen
        refine ⟨fun h => ?_, fun h => ?_, fun h => ?_, fun h => ?_, fun h => ?_, fun h => ?_⟩ <;> simp [opF, h, e])
      have CL : Hid (∀ x M' L', RB w p n L x M' L' (.slice (some ⟨gf, 0, none⟩) fs.length cf) (.slice (some ⟨gt, 0, none⟩) tvs.length ct) fs Fs tvs wr.heap.size s0 s1 s2 s3 →
          x.cell? ⟨gf, pick s1 fs.length, none⟩ = some (.int .i64 (fs.getD (pick s1 fs.length) 0)) ∧ x.cell? ⟨gf, pick s2 fs.length, none⟩ = some (.int .i64 (fs.getD (pick s2 fs.length) 0)) ∧ x.cell? ⟨gf, pick s3 fs.length, none⟩ = some (.int .i64 (fs.getD (pick s3 fs.length) 0)) ∧
          x.cell? ⟨gt, pick s1 fs.length, none⟩ = some (tvs.getD (pick s1 fs.length) (.bool false)) ∧ x.cell? ⟨gt, pick s2 fs.length, none⟩ = some (tvs.getD (pick s2 fs.length) (.bool false)) ∧ x.cell? ⟨gt, pick s3 fs.length, none⟩ = some (tvs.getD (pick s3 fs.length) (.bool false)) ∧
          x.cell? ⟨wr.heap.size, 2, none⟩ = some (.int .i64 s2) ∧ x.cell? ⟨wr.heap.size, 3, none⟩ = some (.int .i64 s3)) :=
        Lib.hid (fun x M' L' r => ⟨r.j.cellF la, r.j.cellF lb, r.j.cellF lc, r.j.cellT la, r.j.cellT lb, r.j.cellT lc, r.bx.c2, r.bx.c3⟩)
      have TB : Hid (∀ x M' L', RB w p n L x M' L' (.slice (some ⟨gf, 0, none⟩) fs.length cf) (.slice (some ⟨gt, 0, none⟩) tvs.length ct) fs Fs tvs wr.heap.size s0 s1 s2 s3 →
          Tb w.heap.size x (tvs.getD (pick s1 fs.length) (.bool false)) (tab n (Fs.getD (pick s1 fs.length) (fun _ => false))) ∧ Tb w.heap.size x (tvs.getD (pick s2 fs.length) (.bool false)) (tab n (Fs.getD (pick s2 fs.length) (fun _ => false))) ∧ Tb w.heap.size x (tvs.getD (pick s3 fs.length) (.bool false)) (tab n (Fs.getD (pick s3 fs.length) (fun _ => false)))) :=
        Lib.hid (fun x M' L' r => ⟨(r.j.tabAt la).1, (r.j.tabAt lb).1, (r.j.tabAt lc).1⟩)
      generalize hX : opM n M1 fs (s0, s1, s2, s3) = X at *
      generalize hF : opF n Fs (s0, s1, s2, s3) = F at *
      have OPM1 := Lib.hid (OPM.out _ X rfl rfl)
      have OPF1 := Lib.hid (OPF.out F rfl)
      clear hX hF OPM OPF os rp RS
      generalize hN : M1.notM (fs.getD (pick s1 fs.length) 0) = N at *
      have NC : Hid (∀ x L', RB w p n L x M1 L' (.slice (some ⟨gf, 0, none⟩) fs.length cf) (.slice (some ⟨gt, 0, none⟩) tvs.length ct) fs Fs tvs wr.heap.size s0 s1 s2 s3 → Calls Try.prog 27 #[ptr p, .int .i64 (fs.getD (pick s1 fs.length) 0)] x (Ret p L' x N.1 (.int .i64 N.2))) :=
        Lib.hid (fun x L' r => by have := Not_ok (fs.getD (pick s1 fs.length) 0) r.j.sd.rep (by rw [hN]; exact NB.out); rw [hN] at this; exact this)
      clear hN NB
      generalize fs.getD (pick s1 fs.length) 0 = fa at *
      generalize fs.getD (pick s2 fs.length) 0 = fb at *
      generalize fs.getD (pick s3 fs.length) 0 = fc at *
      generalize Fs.getD (pick s1 fs.length) (fun _ => false) = Fa at *
      generalize Fs.getD (pick s2 fs.length) (fun _ => false) = Fb at *
      generalize Fs.getD (pick s3 fs.length) (fun _ => false) = Fc at *
      generalize tvs.getD (pick s1 fs.length) (.bool false) = ta at *
      generalize tvs.getD (pick s2 fs.length) (.bool false) = tb at *
      generalize tvs.getD (pick s3 fs.length) (.bool false) = tc at *
      generalize hk1 : pick s1 fs.length = ia at *
      generalize hk2 : pick s2 fs.length = ib at *
      generalize hk3 : pick s3 fs.length = ic at *
      generalize hk0 : pick s0 6 = op at *
      generalize hkb : pick s2 n = vb at *
      replace hk1 : PK fs.length s1 ia := hk1
      replace hk2 : PK fs.length s2 ib := hk2
      replace hk3 : PK fs.length s3 ic := hk3
      replace hk0 : PK 6 s0 op := hk0
      replace hkb : PK n s2 vb := hkb
      have lai : (ia : Int) < fs.length := by omega
      have lbi : (ib : Int) < fs.length := by omega
      have lci : (ic : Int) < fs.length := by omega
      have lati : (ia : Int) < tvs.length := by omega
      have lbti : (ib : Int) < tvs.length := by omega
      have lcti : (ic : Int) < tvs.length := by omega
      have hlfi : (fs.length : Int) ≤ 100 := by omega
      have hlti2 : (tvs.length : Int) ≤ 100 := by omega
      have HT := Lib.hid ht
      have HC6 := Lib.hid hc6
      have HCB := Lib.hid hcb
      have HLF := Lib.hid hlf
      clear hk hlen hlt j ht la lb lc hFl hlf hp hc6 hcb
      go_upto_region 17 with (fail)
      have RBX := Lib.hid (RB0.out.bx)
      generalize hWA : wr.alloc (.cells #[.int .i64 s0, .int .i64 s1, .int .i64 s2, .int .i64 s3] 108) = WA at *
      generalize hbb : wr.heap.size = bb at *
      have b1 := RBX.out.c1
      have b2 := RBX.out.c2
      have b3 := RBX.out.c3
      clear q0 q1 q2 q3 hWA hbb
      go_quiet ((go_at_call 20; exact Calls.quiet_of_same (PQ.out _ _ (by assumption) _)))
      go_upto_region 13 with (fail)
      generalize hWB : WA.drewN _ = WB at *
      have RB1 := Lib.hid (by have := RB0.out.no (hWB ▸ Kp.drewN _); exact this)
      clear RB0 RBX b1 b2 b3 hWB hk1 hk2 hk3
      go_cut [16, 17] (fun s16 s17 x => PT w p n L (.slice (some ⟨gf, 0, none⟩) fs.length cf) (.slice (some ⟨gt, 0, none⟩) tvs.length ct) fs Fs tvs bb s0 s1 s2 s3 N (fun a => !Fa a) s16 s17 x)
      case first =>
        as_aux_lemma =>
          have RB2 := Lib.hid (RB1.out.no Kp.drew)
          have S0 := Lib.hid (CL.out _ _ _ RB2.out)
          have NC1 := Lib.hid (NC.out _ _ RB2.out)
          go_region_held3 (fun x => x.cell? ⟨gf, ia, none⟩ = some (.int .i64 fa) ∧ x.cell? ⟨gt, ia, none⟩ = some ta) (first | exact ⟨S0.out.1, S0.out.2.2.2.1⟩ | exact ⟨SA.out.1, SA.out.2.2.2.1⟩ | exact ⟨SB.out.1, SB.out.2.2.2.1⟩)
            (first | (go_at_call 27; refine NC1.out.mono ?_; intro e wa ha; obtain ⟨rfl, La, ra⟩ := RB2.out.ret ha; have SA := Lib.hid (CL.out _ _ _ ra); have RA := Lib.hid ra; clear ha ra) | (go_at_call 61; refine (RNot_ok hn (TB.out _ _ _ RA.out).1).mono ?_; rintro e wb ⟨tx, rfl, htx, ktx⟩; have SB := Lib.hid (CL.out _ _ _ (RA.out.no ktx)); have HTX := Lib.hid htx; have KTX := Lib.hid ktx; clear htx ktx))
          all_goals
            go_wp2_with fail
            go_meet
            case rel => exact PT.mk' RA.out HTX.out KTX.out
      case rest =>
      clear NC RB1
      obtain ⟨L2, tx, e16, e17, rb, htb, hof⟩ := hcut
      subst e16 e17
      have b0 := rb.bx.c0
      have PT0 := Lib.hid (show PT w p n L (.slice (some ⟨gf, 0, none⟩) fs.length cf) (.slice (some ⟨gt, 0, none⟩) tvs.length ct) fs Fs tvs bb s0 s1 s2 s3 N (fun a => !Fa a) (.int .i64 N.2) tx _ from ⟨L2, tx, rfl, rfl, rb, htb, hof⟩)
      have RB1 := Lib.hid rb
      clear rb htb hof
      go_wp2_with fail
      refine (PQ6.out _ _ hk0 _).mono ?_
      rintro e wp ⟨rfl, rfl⟩
      go_upto_block 4 with (fail)
      go_cut [16, 17] (fun s16 s17 x => PT w p n L (.slice (some ⟨gf, 0, none⟩) fs.length cf) (.slice (some ⟨gt, 0, none⟩) tvs.length ct) fs Fs tvs bb s0 s1 s2 s3 X F s16 s17 x)
      case first =>
        by_cases o1 : op = 1
        · as_aux_lemma =>
            subst o1
            obtain rfl := OPM1.out.1 rfl
            obtain rfl := OPF1.out.1 rfl
            clear OPM1 OPF1 PT0
            have RB2 := Lib.hid (RB1.out.no Kp.drew)
            have S0 := Lib.hid (CL.out _ _ _ RB2.out)
            have MC := Lib.hid (And_ok fa fb RB2.out.j.sd.rep OB.out)
            go_upto_region 21 with (fail)
            go_region_held3 (fun x => x.cell? ⟨gf, ia, none⟩ = some (.int .i64 fa) ∧ x.cell? ⟨gf, ib, none⟩ = some (.int .i64 fb) ∧ x.cell? ⟨gt, ia, none⟩ = some ta ∧ x.cell? ⟨gt, ib, none⟩ = some tb) (first | exact ⟨S0.out.1, S0.out.2.1, S0.out.2.2.2.1, S0.out.2.2.2.2.1⟩ | exact ⟨SA.out.1, SA.out.2.1, SA.out.2.2.2.1, SA.out.2.2.2.2.1⟩ | exact ⟨SB.out.1, SB.out.2.1, SB.out.2.2.2.1, SB.out.2.2.2.2.1⟩)
              (first | (go_at_call 15; refine MC.out.mono ?_; intro e wa ha; obtain ⟨rfl, La, ra⟩ := RB2.out.ret ha; have SA := Lib.hid (CL.out _ _ _ ra); have RA := Lib.hid ra; clear ha ra) | (go_at_call 62; refine (RAnd_ok hn (TB.out _ _ _ RA.out).1 (TB.out _ _ _ RA.out).2.1).mono ?_; rintro e wb ⟨ty, rfl, htx, ktx⟩; have SB := Lib.hid (CL.out _ _ _ (RA.out.no ktx)); have HTX := Lib.hid htx; have KTX := Lib.hid ktx; clear htx ktx))
            all_goals
              go_wp2_with fail
              go_meet
              case rel => exact PT.mk' RA.out HTX.out KTX.out
        by_cases o2 : op = 2
        · as_aux_lemma =>
            subst o2
            obtain rfl := OPM1.out.2.1 rfl
            obtain rfl := OPF1.out.2.1 rfl
            clear OPM1 OPF1 PT0
            have RB2 := Lib.hid (RB1.out.no Kp.drew)
            have S0 := Lib.hid (CL.out _ _ _ RB2.out)
            have MC := Lib.hid (Or_ok fa fb RB2.out.j.sd.rep OB.out)
            go_upto_region 21 with (fail)
            go_region_held3 (fun x => x.cell? ⟨gf, ia, none⟩ = some (.int .i64 fa) ∧ x.cell? ⟨gf, ib, none⟩ = some (.int .i64 fb) ∧ x.cell? ⟨gt, ia, none⟩ = some ta ∧ x.cell? ⟨gt, ib, none⟩ = some tb) (first | exact ⟨S0.out.1, S0.out.2.1, S0.out.2.2.2.1, S0.out.2.2.2.2.1⟩ | exact ⟨SA.out.1, SA.out.2.1, SA.out.2.2.2.1, SA.out.2.2.2.2.1⟩ | exact ⟨SB.out.1, SB.out.2.1, SB.out.2.2.2.1, SB.out.2.2.2.2.1⟩)
              (first | (go_at_call 13; refine MC.out.mono ?_; intro e wa ha; obtain ⟨rfl, La, ra⟩ := RB2.out.ret ha; have SA := Lib.hid (CL.out _ _ _ ra); have RA := Lib.hid ra; clear ha ra) | (go_at_call 63; refine (ROr_ok hn (TB.out _ _ _ RA.out).1 (TB.out _ _ _ RA.out).2.1).mono ?_; rintro e wb ⟨ty, rfl, htx, ktx⟩; have SB := Lib.hid (CL.out _ _ _ (RA.out.no ktx)); have HTX := Lib.hid htx; have KTX := Lib.hid ktx; clear htx ktx))
            all_goals
              go_wp2_with fail
              go_meet
              case rel => exact PT.mk' RA.out HTX.out KTX.out
        by_cases o3 : op = 3
        · as_aux_lemma =>
            subst o3
            obtain rfl := OPM1.out.2.2.1 rfl
            obtain rfl := OPF1.out.2.2.1 rfl
            clear OPM1 OPF1 PT0
            have RB2 := Lib.hid (RB1.out.no Kp.drew)
            have S0 := Lib.hid (CL.out _ _ _ RB2.out)
            have MC := Lib.hid (Xor_ok fa fb RB2.out.j.sd.rep OB.out)
            go_upto_region 21 with (fail)
            go_region_held3 (fun x => x.cell? ⟨gf, ia, none⟩ = some (.int .i64 fa) ∧ x.cell? ⟨gf, ib, none⟩ = some (.int .i64 fb) ∧ x.cell? ⟨gt, ia, none⟩ = some ta ∧ x.cell? ⟨gt, ib, none⟩ = some tb) (first | exact ⟨S0.out.1, S0.out.2.1, S0.out.2.2.2.1, S0.out.2.2.2.2.1⟩ | exact ⟨SA.out.1, SA.out.2.1, SA.out.2.2.2.1, SA.out.2.2.2.2.1⟩ | exact ⟨SB.out.1, SB.out.2.1, SB.out.2.2.2.1, SB.out.2.2.2.2.1⟩)
              (first | (go_at_call 64; refine MC.out.mono ?_; intro e wa ha; obtain ⟨rfl, La, ra⟩ := RB2.out.ret ha; have SA := Lib.hid (CL.out _ _ _ ra); have RA := Lib.hid ra; clear ha ra) | (go_at_call 65; refine (RXor_ok hn (TB.out _ _ _ RA.out).1 (TB.out _ _ _ RA.out).2.1).mono ?_; rintro e wb ⟨ty, rfl, htx, ktx⟩; have SB := Lib.hid (CL.out _ _ _ (RA.out.no ktx)); have HTX := Lib.hid htx; have KTX := Lib.hid ktx; clear htx ktx))
            all_goals
              go_wp2_with fail
              go_meet
              case rel => exact PT.mk' RA.out HTX.out KTX.out
        by_cases o4 : op = 4
        · as_aux_lemma =>
            subst o4
            obtain rfl := OPM1.out.2.2.2.1 rfl
            obtain rfl := OPF1.out.2.2.2.1 rfl
            clear OPM1 OPF1 PT0
            have RB2 := Lib.hid (RB1.out.no Kp.drew)
            have S0 := Lib.hid (CL.out _ _ _ RB2.out)
            have MC := Lib.hid (Ite_ok fa fb fc RB2.out.j.sd.rep OB.out)
            go_upto_region 29 with (fail)
            go_region_held3 (fun x => x.cell? ⟨gf, ia, none⟩ = some (.int .i64 fa) ∧ x.cell? ⟨gf, ib, none⟩ = some (.int .i64 fb) ∧ x.cell? ⟨gf, ic, none⟩ = some (.int .i64 fc) ∧ x.cell? ⟨gt, ia, none⟩ = some ta ∧ x.cell? ⟨gt, ib, none⟩ = some tb ∧ x.cell? ⟨gt, ic, none⟩ = some tc) (first | exact ⟨S0.out.1, S0.out.2.1, S0.out.2.2.1, S0.out.2.2.2.1, S0.out.2.2.2.2.1, S0.out.2.2.2.2.2.1⟩ | exact ⟨SA.out.1, SA.out.2.1, SA.out.2.2.1, SA.out.2.2.2.1, SA.out.2.2.2.2.1, SA.out.2.2.2.2.2.1⟩ | exact ⟨SB.out.1, SB.out.2.1, SB.out.2.2.1, SB.out.2.2.2.1, SB.out.2.2.2.2.1, SB.out.2.2.2.2.2.1⟩)
              (first | (go_at_call 50; refine MC.out.mono ?_; intro e wa ha; obtain ⟨rfl, La, ra⟩ := RB2.out.ret ha; have SA := Lib.hid (CL.out _ _ _ ra); have RA := Lib.hid ra; clear ha ra) | (go_at_call 66; refine (RIte_ok hn (TB.out _ _ _ RA.out).1 (TB.out _ _ _ RA.out).2.1 (TB.out _ _ _ RA.out).2.2).mono ?_; rintro e wb ⟨ty, rfl, htx, ktx⟩; have SB := Lib.hid (CL.out _ _ _ (RA.out.no ktx)); have HTX := Lib.hid htx; have KTX := Lib.hid ktx; clear htx ktx))
            all_goals
              go_wp2_with fail
              go_meet
              case rel => exact PT.mk' RA.out HTX.out KTX.out
        by_cases o5 : op = 5
        · as_aux_lemma =>
            subst o5
            obtain rfl := OPM1.out.2.2.2.2.1 rfl
            obtain rfl := OPF1.out.2.2.2.2.1 rfl
            clear OPM1 OPF1 PT0
            have RB2 := Lib.hid (RB1.out.no Kp.drew)
            have S0 := Lib.hid (CL.out _ _ _ RB2.out)
            have MC : Hid (Calls Try.prog 67 #[ptr p, .int .i64 fa, .int .i64 (vb : Int), .bool (bits BinOp.and IntKind.i64 s3 1 == 1)] _ _) := Lib.hid (Restrict_ok fa (vb : Int) (lastBit s3) RB2.out.j.sd.rep OB.out)
            have TC : Hid (∀ x tv, Tb w.heap.size x tv (tab n Fa) → Calls Try.prog 68 #[tv, .int .i64 (vb : Int), .bool (bits BinOp.and IntKind.i64 s3 1 == 1)] x (TPost x (tab n (fun a => Fa (Mgr.upd a vb (lastBit s3)))))) := Lib.hid (fun x tv h => RRestrict_ok hn HCB.out (lastBit s3) UA.out h)
            go_upto_region 29 with (fail)
            go_region_held3 (fun x => x.cell? ⟨gf, ia, none⟩ = some (.int .i64 fa) ∧ x.cell? ⟨gt, ia, none⟩ = some ta ∧ x.cell? ⟨bb, 2, none⟩ = some (.int .i64 s2) ∧ x.cell? ⟨bb, 3, none⟩ = some (.int .i64 s3)) (first | exact ⟨S0.out.1, S0.out.2.2.2.1, S0.out.2.2.2.2.2.2⟩ | exact ⟨SA.out.1, SA.out.2.2.2.1, SA.out.2.2.2.2.2.2⟩ | exact ⟨SB.out.1, SB.out.2.2.2.1, SB.out.2.2.2.2.2.2⟩)
              (first | (go_at_call 20; refine (PQn.out _ _ hkb _).mono ?_; rintro e wq ⟨rfl, rfl⟩) | (go_at_call 67; refine MC.out.mono ?_; intro e wa ha; obtain ⟨rfl, La, ra⟩ := RB2.out.ret ha; have SA := Lib.hid (CL.out _ _ _ ra); have RA := Lib.hid ra; clear ha ra) | (go_at_call 68; refine (TC.out _ _ (TB.out _ _ _ RA.out).1).mono ?_; rintro e wb ⟨ty, rfl, htx, ktx⟩; have SB := Lib.hid (CL.out _ _ _ (RA.out.no ktx)); have HTX := Lib.hid htx; have KTX := Lib.hid ktx; clear htx ktx))
            all_goals
              go_wp2_with fail
              go_meet
              case rel => exact PT.mk' RA.out HTX.out KTX.out
        obtain rfl : op = 0 := by have := HC6.out; omega
        obtain rfl := OPM1.out.2.2.2.2.2 rfl
        obtain rfl := OPF1.out.2.2.2.2.2 rfl
        go_wp2_with fail
        go_meet
        case rel => exact PT0.out
      case rest =>
      clear PT0 RB1 OPM1 OPF1 TB CL b0
      obtain ⟨L3, tz, e16, e17, rb, htz, hof⟩ := hcut
      subst e16 e17
      obtain ⟨gx, cx, rfl, _⟩ := htz.form
      have JA := Lib.hid rb.j
      have HTZ := Lib.hid htz
      have OFZ := Lib.hid hof
      have hbb : w.heap.size ≤ _ := rb.j.sd.kp.size
      have of := rb.j.frow
      clear rb htz hof
      go_upto_region 26 with (at_builtin; refine wpList_append_lies _ rfl (.tmp 201) (.tmp 203) _ rfl w.heap.size 27 i0 _ 1 8 Try.underlying38 hi0 hz0 hz1 hz2 rfl (by omega) (.slice (some ⟨gf, 0, none⟩) fs.length cf) fs.length (fs.map intV) rfl (of.alloc _) ⟨wc.heap.size, 0, none⟩ 1 1 [.int .i64 X.2] rfl rfl (World.news_of_block (heap_alloc_new _ _)) (by simp [Value.oneCell']) (by omega) (by unfold maxLen; omega) (by omega) (by simp; omega) (wc.heap.size + 1) (by simp) ?_; intro g2 cap wb hown hgrow hat hlt2)
      have hrs := JA.out.pushF (Kp.alloc _) (by simp) hown hgrow (by simpa using hat)
      obtain ⟨sdB, frB, trB, foB, tbB, tbO, _⟩ := hrs
      have HTB := Lib.hid (tbO _ _ HTZ.out)
      have hbc : w.heap.size ≤ wb.heap.size := sdB.kp.size
      have FIN1 : Hid (∀ (A w' : World) (g' cap' : Nat), Kp No wb A → A.heap.size = wb.heap.size + 1 → w'.ownsRow w.heap.size 45 1 (.slice (some ⟨g', 0, none⟩) (tvs.length + 1) cap') (tvs.length + 1) (tvs ++ [.slice (some ⟨gx, 0, none⟩) (2 ^ n) cx]) → A.grownBy w' (Value.slice (some ⟨gt, 0, none⟩) tvs.length ct).ownBlock → ((Value.slice (some ⟨gt, 0, none⟩) tvs.length ct).ownBlock = some g' ∨ g' = A.heap.size) →
          RJ w p n L w' X.1 L3 (.slice (some ⟨g2, 0, none⟩) (fs.length + 1) cap) (.slice (some ⟨g', 0, none⟩) (tvs.length + 1) cap') (fs ++ [X.2]) (Fs ++ [F]) (tvs ++ [.slice (some ⟨gx, 0, none⟩) (2 ^ n) cx])) := Lib.hid (fun A w' g' cap' kA hs hown hgrow hat =>
        RJ.pushT sdB frB trB foB JA.out.tof JA.out.tlen JA.out.flen tbB HTB.out OFZ.out kA hs hown hgrow hat)
      clear hown hgrow hat hlt2 sdB frB foB tbB tbO of HTZ OFZ JA HTB
      generalize 2 ^ n = NN at *
      go_upto_region 10 with (at_builtin; refine wpList_append_lies _ rfl (.tmp 205) (.tmp 207) _ rfl w.heap.size 45 j0 _ 1 24 Try.underlying39 hj0 hy0 hy1 hy2 rfl (by omega) (.slice (some ⟨gt, 0, none⟩) tvs.length ct) tvs.length tvs rfl (trB.alloc _) ⟨wb.heap.size, 0, none⟩ 1 1 [.slice (some ⟨gx, 0, none⟩) NN cx] rfl rfl (World.news_of_block (heap_alloc_new _ _)) (by simp [Value.oneCell']) (by omega) (by unfold maxLen; omega) (by omega) (by simp; omega) (wb.heap.size + 1) (by simp) ?_; intro g' cap' wd hown hgrow hat hlt2)
      have JN := Lib.hid (FIN0.out _ _ _ _ _ (FIN1.out _ wd g' cap' (Kp.alloc _) (by simp) hown hgrow (by simpa using hat)))
      clear hown hgrow hat hlt2 trB FIN1 FIN0
      go_wp2
      go_roundg (l.length - (k + 1))
      case measure => have := HK.out; omega
      case rel =>
        first | exact JN.out | (have h1 := LEN.out; have h2 := HK.out; have e : (Value.int IntKind.i64 ((k + 1 : Nat) : Int)) = .int .i64 (IntKind.i64.wrap ((k : Int) + 1)) := (by go_num); exact e ▸ JN.out)
    · obtain rfl : k = l.length := by omega
      have hge : ¬ ((l.length : Int) < l.length) := by omega
      have J1 := Lib.hid j
      clear j hk
      go_wp2_with fail
      go_ret2
      refine ⟨fv, tv, L1, tvs, rfl, ?_⟩
      have := J1.out
      rw [List.take_length] at this
      exact this
end Go.Proofs.Ytngbodmooddjbaa
