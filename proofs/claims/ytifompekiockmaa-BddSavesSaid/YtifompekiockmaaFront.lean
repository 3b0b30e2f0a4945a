/-
  The first half of the laws of chapter 26: the state behind 'Run' in a manager of the law's own.
-/
import Derived.Test.YtifompekiockmaaRun
import Derived.Test.YtifompekiockmaaAgr
namespace Go.Proofs.Ytifompekiockmaa
open Go.RowKit

theorem Mgr.new_n (n : Nat) : (Mgr.new n).n = n := by simp [Mgr.n, Mgr.new]
theorem nvars_nat {n : Nat} (h : n ≤ 256) : nvars (n : Int) = n := by unfold nvars; rw [if_neg (by omega), if_neg (by omega)]; omega

/-- The state behind 'Run': the law began at w. -/
structure Front (w : World) (p n : Nat) (wr : World) (M : Mgr) (L : Lay) (fv tv : Value) (fs : List Int) (Fs : List BF) (tvs : List Value) : Prop where
  own : Own w p wr M L
  frow : wr.ownsRow w.heap.size 26 1 fv fs.length (fs.map intV)
  trow : wr.ownsRow w.heap.size 43 1 tv tvs.length tvs
  fo : Off L p fv
  tof : Off L p tv
  tlen : tvs.length = fs.length
  flen : Fs.length = fs.length
  tabs : ∀ (i : Nat) (x : Value) (F : BF), tvs[i]? = some x → Fs[i]? = some F → Tb w.heap.size wr x (tab n F) ∧ Off L p x

section
variable {w : World} {p n : Nat} {L0 : Lay} {w1 wr w' : World} {M0 M M' : Mgr} {L : Lay} {fv tv : Value} {fs : List Int} {Fs : List BF} {tvs : List Value}

theorem Front.of_run (s : Own w p w1 M0 L0) (j : RJ w1 p n L0 wr M L fv tv fs Fs tvs) : Front w p n wr M L fv tv fs Fs tvs := by
  have hs := s.kp.size
  refine ⟨⟨j.sd.rep, s.kp.trans (A' := L0.at p) (fun x hx => .inr (s.own x hx)) j.sd.kp, fun x hx => ?_⟩, ownsRow_mono j.frow hs, ownsRow_mono j.trow hs, j.fo, j.tof, j.tlen, j.flen, fun i x F h1 h2 => ⟨(j.tabs i x F h1 h2).1.mono hs, (j.tabs i x F h1 h2).2⟩⟩
  rcases j.sd.fr x hx with h | h
  · exact s.own x h
  · omega

theorem Front.no (j : Front w p n wr M L fv tv fs Fs tvs) (k : Kp No wr w') : Front w p n w' M L fv tv fs Fs tvs :=
  ⟨j.own.no k, ownsRow_kp j.frow k (fun _ _ x => x), ownsRow_kp j.trow k (fun _ _ x => x), j.fo, j.tof, j.tlen, j.flen, fun i x F h1 h2 => ⟨(j.tabs i x F h1 h2).1.no k, (j.tabs i x F h1 h2).2⟩⟩

theorem Front.step {v : Value} {e : Ending} (j : Front w p n wr M L fv tv fs Fs tvs) (h : Ret p L wr M' v e w') : e = .returned v ∧ ∃ L', Front w p n w' M' L' fv tv fs Fs tvs := by
  obtain ⟨L1, he, r1, k1, f1⟩ := h
  refine ⟨he, L1, ⟨⟨r1, j.own.kp.trans (A' := L.at p) (fun x hx => .inr (j.own.own x hx)) k1, fun x hx => ?_⟩, ownsRow_kp j.frow k1 j.fo, ownsRow_kp j.trow k1 j.tof, j.fo.step f1 (fun k hk => (j.frow.lt k hk).2), j.tof.step f1 (fun k hk => (j.trow.lt k hk).2), j.tlen, j.flen,
    fun i x F h1 h2 => ⟨(j.tabs i x F h1 h2).1.kp k1 (j.tabs i x F h1 h2).2, (j.tabs i x F h1 h2).2.step f1 (fun k hk => ((j.tabs i x F h1 h2).1.lt k hk).2)⟩⟩⟩
  rcases f1 x hx with h1 | h1
  · exact j.own.own x h1
  · have := j.own.kp.size; omega

theorem Front.cellF {gf m cf : Nat} (j : Front w p n wr M L (.slice (some ⟨gf, 0, none⟩) m cf) tv fs Fs tvs) {i : Nat} (hi : i < fs.length) : wr.cell? ⟨gf, i, none⟩ = some (.int .i64 (fs.getD i 0)) := by
  obtain ⟨g, cap, hv, _, _, _, hc, _⟩ := ownsRow_open j.frow (by omega)
  cases hv
  exact hc i _ (by simp [intV, hi])
theorem Front.cellT {gt m ct : Nat} (j : Front w p n wr M L fv (.slice (some ⟨gt, 0, none⟩) m ct) fs Fs tvs) {i : Nat} (hi : i < fs.length) : wr.cell? ⟨gt, i, none⟩ = some (tvs.getD i (.bool false)) := by
  have ht := j.tlen
  obtain ⟨g, cap, hv, _, _, _, hc, _⟩ := ownsRow_open j.trow (by omega)
  cases hv
  exact hc i _ (by simp [show i < tvs.length by omega])
theorem Front.tabAt (j : Front w p n wr M L fv tv fs Fs tvs) {i : Nat} (hi : i < fs.length) : Tb w.heap.size wr (tvs.getD i (.bool false)) (Go.Proofs.Ytifompekiockmaa.tab n (Fs.getD i (fun _ => false))) ∧ Off L p (tvs.getD i (.bool false)) := by
  have h1 := j.tlen
  have h2 := j.flen
  exact j.tabs i _ _ (by simp [show i < tvs.length by omega]) (by simp [show i < Fs.length by omega])
theorem Front.forms (j : Front w p n wr M L fv tv fs Fs tvs) (h : 0 < fs.length) : ∃ gf cf gt ct, fv = .slice (some ⟨gf, 0, none⟩) fs.length cf ∧ tv = .slice (some ⟨gt, 0, none⟩) fs.length ct ∧ gf < wr.heap.size ∧ gt < wr.heap.size := by
  obtain ⟨gf, cf, h1, _⟩ := ownsRow_open j.frow h
  have ht := j.tlen
  obtain ⟨gt, ct, h2, _⟩ := ownsRow_open j.trow (by omega)
  refine ⟨gf, cf, gt, ct, h1, by rw [h2, ht], (j.frow.lt gf (by rw [h1]; rfl)).2, (j.trow.lt gt (by rw [h2]; rfl)).2⟩
end

/-- The lists of a run. -/
theorem run_rp {n : Nat} (h1 : 1 ≤ n) (h6 : n ≤ 6) (l : List Stp) (h40 : l.length ≤ 40) : RP n 50000 (runM (Mgr.new n) n l).1 (runM (Mgr.new n) n l).2 (runF n l) ∧ (runF n l).length = n + 2 + l.length := by
  have := run_spec (Mgr.new_wf n) (Mgr.new_n n) h6 h1 (c := 2) (by simp [Mgr.new]) l l.length (Nat.le_refl _)
  rw [List.take_length] at this
  refine ⟨⟨this.wf, this.nn, this.len, this.pos, this.sem, ?_⟩, runF_length n l⟩
  have := this.cost
  omega

/-- 'New' of a law. -/
theorem New_own {n : Nat} (hn : n ≤ 256) {w w0 : World} (k0 : Kp No w w0) : Calls Try.prog 18 #[.int .i64 (n : Int)] w0 fun e w1 => ∃ p L, e = .returned (ptr p) ∧ Own w p w1 (Mgr.new n) L ∧ Kp No w w1 := by
  have := New_ok (n : Int) w0
  rw [nvars_nat hn] at this
  refine this.mono ?_
  rintro e w1 ⟨p, L1, rfl, R1, k1, o1⟩
  exact ⟨p, L1, rfl, ⟨R1, k0.trans_no k1, fun x hx => Nat.le_trans k0.size (o1 x hx)⟩, k0.trans_no k1⟩

/-- 'Run' of a law. -/
theorem Run_own {p n : Nat} {L : Lay} (hn : n ≤ 6) (hn1 : 1 ≤ n) {l : List Stp} {sv : Value} {w w1 : World} (s : Own w p w1 (Mgr.new n) L) (hlen : l.length ≤ 40) (hs : StepsAt w sv l) :
    Calls Try.prog 33 #[ptr p, .int .i64 (n : Int), sv] w1 fun e w2 => ∃ fv tv L2 tvs, e = .returned (.tuple #[fv, tv]) ∧ Front w p n w2 (runM (Mgr.new n) n l).1 L2 fv tv (runM (Mgr.new n) n l).2 (runF n l) tvs := by
  have hoff : ∀ g o n c, sv = .slice (some ⟨g, o, none⟩) n c → l ≠ [] → g < w.heap.size := fun g o n c e hne => by
    obtain ⟨ao, c', hv, h⟩ := hs
    rcases h with h | ⟨g', o', rfl, hg, _⟩
    · exact (hne h).elim
    · rw [hv] at e; cases e; exact hg
  have hs1 : StepsAt w1 sv l := hs.kp s.kp (fun _ _ _ _ _ _ x => x)
  refine (Run_ok hn hn1 l s.rep (Mgr.new_n n) hlen (by simp [Mgr.new]) hs1 (fun he g o n' c e hx => ?_)).mono ?_
  · have := hoff g o n' c e he
    have := s.own g hx
    omega
  · rintro e w2 ⟨fv, tv, L2, tvs, rfl, j⟩
    exact ⟨fv, tv, L2, tvs, rfl, Front.of_run s j⟩

end Go.Proofs.Ytifompekiockmaa
