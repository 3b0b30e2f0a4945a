/-
  The manager behind 'Run' has the variables in plain order; its bank; 'Compose'.
-/
import Derived.Test.YtngbodmooddjbaaQw
import Derived.Test.YtngbodmooddjbaaFront
namespace Go.Proofs.Ytngbodmooddjbaa
open Go.RowKit

theorem step_plain {n c : Nat} {M : Mgr} {fs : List Int} {Fs : List BF} (hn : n ≤ 6) (h1 : 1 ≤ n) (h : RP n c M fs Fs) (pl : M.Plain) (s : Stp) : (opM n M fs s).1.Plain := by
  have hp := h.pos
  have la := pick_lt s.2.1 (n := fs.length) (by omega)
  have lb := pick_lt s.2.2.1 (n := fs.length) (by omega)
  have lc := pick_lt s.2.2.2 (n := fs.length) (by omega)
  obtain ⟨on, un⟩ := not_ops hn h la
  have hN := h.grow on (c + 384) (Nat.le_refl _)
  obtain ⟨va, sa, ua⟩ := hN.at la
  obtain ⟨vb, sb, ub⟩ := hN.at lb
  obtain ⟨vc, sc, uc⟩ := hN.at lc
  have pn := on.plain pl
  have fin : ∀ {F : BF} {k : Nat} {R : Mgr × Int}, Mgr.OpS (M.notM (fs.getD (pick s.2.1 fs.length) 0)).1 F k R.1 R.2 → opM n M fs s = R → (opM n M fs s).1.Plain := fun {F k R} o e1 => by
    rw [e1]; exact o.plain pn
  unfold opM at fin
  by_cases h1' : pick s.1 6 = 1
  · have u : Upto n (fun a => (Fs.getD (pick s.2.1 fs.length) (fun _ => false)) a && (Fs.getD (pick s.2.2.1 fs.length) (fun _ => false)) a) := fun a b hab => by show (_ && _) = (_ && _); rw [ua a b hab, ub a b hab]
    have o := Mgr.andM_ops hN.wf va vb (F := _) (fun a => by rw [sa, sb]) (Mgr.states_any (u.reads hN.nn))
    unfold opM
    exact fin o (by simp only [h1', if_true])
  · by_cases h2 : pick s.1 6 = 2
    · have u : Upto n (fun a => (Fs.getD (pick s.2.1 fs.length) (fun _ => false)) a || (Fs.getD (pick s.2.2.1 fs.length) (fun _ => false)) a) := fun a b hab => by show (_ || _) = (_ || _); rw [ua a b hab, ub a b hab]
      have o := Mgr.orM_ops hN.wf va vb (F := _) (fun a => by rw [sa, sb]) (Mgr.states_any (u.reads hN.nn))
      unfold opM
      exact fin o (by rw [if_neg h1', if_pos h2])
    · by_cases h3 : pick s.1 6 = 3
      · have u : Upto n (fun a => (Fs.getD (pick s.2.1 fs.length) (fun _ => false)) a ^^ (Fs.getD (pick s.2.2.1 fs.length) (fun _ => false)) a) := fun a b hab => by show (_ ^^ _) = (_ ^^ _); rw [ua a b hab, ub a b hab]
        have ut : Upto n (fun a => !(M.notM (fs.getD (pick s.2.1 fs.length) 0)).1.sem (fs.getD (pick s.2.2.1 fs.length) 0).toNat a) := fun a b hab => by show (!_) = (!_); rw [sb, sb, ub a b hab]
        have o := Mgr.xorM_ops hN.wf va vb (F := _) (fun a => by rw [sa, sb]) (Mgr.states_any (u.reads hN.nn)) (Mgr.states_any (ut.reads hN.nn))
        unfold opM
        exact fin o (by rw [if_neg h1', if_neg h2, if_pos h3])
      · by_cases h4 : pick s.1 6 = 4
        · have u : Upto n (fun a => if (Fs.getD (pick s.2.1 fs.length) (fun _ => false)) a then (Fs.getD (pick s.2.2.1 fs.length) (fun _ => false)) a else (Fs.getD (pick s.2.2.2 fs.length) (fun _ => false)) a) := fun a b hab => by
            show (if _ then _ else _) = (if _ then _ else _); rw [ua a b hab, ub a b hab, uc a b hab]
          have o := Mgr.iteM_ops hN.wf va vb vc (F := _) (fun a => by rw [sa, sb, sc]) (Mgr.states_any (u.reads hN.nn))
          unfold opM
          exact fin o (by rw [if_neg h1', if_neg h2, if_neg h3, if_pos h4])
        · by_cases h5 : pick s.1 6 = 5
          · have hv := pick_lt s.2.2.1 (n := n) (by omega)
            have u : Upto n (fun a => (Fs.getD (pick s.2.1 fs.length) (fun _ => false)) (Mgr.upd a (pick s.2.2.1 n) (lastBit s.2.2.2))) := fun a b hab => ua _ _ (fun v hv => by
              unfold Mgr.upd; split
              · rfl
              · exact hab v hv)
            have o := Mgr.restrictM_ops hN.wf va (v := pick s.2.2.1 n) (by rw [hN.nn]; exact hv) (lastBit s.2.2.2) (F := _) (fun a => by rw [sa]) (Mgr.states_any (u.reads hN.nn))
            unfold opM
            exact fin o (by rw [if_neg h1', if_neg h2, if_neg h3, if_neg h4, if_pos h5])
          · unfold opM
            simp only [h1', h2, h3, h4, h5, if_false]
            exact pn
theorem vars_plain {n : Nat} {M : Mgr} (wf : M.WF) (hn : M.n = n) (h6 : n ≤ 6) (pl : M.Plain) : ∀ k, k ≤ n → (varsM M k).1.Plain
  | 0, _ => pl
  | k + 1, hk => by
    have ih := vars_spec wf hn h6 (Nat.le_refl _) k (by omega)
    exact (Mgr.varM_ops ih.wf (v := k) (by rw [ih.nn]; omega)).plain (vars_plain wf hn h6 pl k (by omega))
theorem run_plain {n : Nat} (h1 : 1 ≤ n) (h6 : n ≤ 6) (l : List Stp) : (runM (Mgr.new n) n l).1.Plain := by
  have key : ∀ k, k ≤ l.length → (runM (Mgr.new n) n (l.take k)).1.Plain := fun k => by
    induction k with
    | zero => intro _; simpa [runM] using vars_plain (Mgr.new_wf n) (Mgr.new_n n) h6 (Qk.new n).pl n (Nat.le_refl _)
    | succ k ih =>
      intro hk
      have i1 := ih (by omega)
      have i2 := run_spec (Mgr.new_wf n) (Mgr.new_n n) h6 h1 (c := 2) (by simp [Mgr.new]) l k (by omega)
      rw [List.take_succ_eq_append_getElem (by omega)]
      have := step_plain h6 h1 i2 i1 (l[k]'(by omega))
      unfold runM runF at *
      rw [List.foldl_append]
      simp only [List.foldl_cons, List.foldl_nil, stepM]
      exact this
  have := key l.length (Nat.le_refl _)
  rw [List.take_length] at this
  exact this
theorem Qk.of_rp {n c : Nat} {M : Mgr} {fs : List Int} {Fs : List BF} (h : RP n c M fs Fs) (pl : M.Plain) : Qk n c M (fs.zip Fs) := by
  refine ⟨h.wf, h.nn, pl, h.cost, fun x hx => ?_⟩
  obtain ⟨i, hi, e⟩ := List.getElem_of_mem hx
  have hi3 : i < min fs.length Fs.length := by simpa using hi
  have hi2 : i < fs.length ∧ i < Fs.length := by omega
  rw [List.getElem_zip] at e
  subst e
  obtain ⟨a, b, _⟩ := h.sem i fs[i] Fs[i] (by simp [hi2.1]) (by simp [hi2.2])
  exact ⟨a, b⟩
theorem mem_zipQ {fs : List Int} {Fs : List Bfn} {i : Nat} (hi : i < fs.length) (hl : Fs.length = fs.length) : (fs.getD i 0, Fs.getD i (fun _ => false)) ∈ fs.zip Fs := by
  have h2 : i < Fs.length := by omega
  have : (fs.zip Fs)[i]? = some (fs[i], Fs[i]) := by rw [List.getElem?_zip_eq_some]; simp [hi, h2]
  have := List.mem_of_getElem? this
  simpa [hi, h2] using this
theorem Rd.upto {n : Nat} {F : Bfn} (h : Rd 0 n F) : Upto n F := fun a b hab => h a b (fun v _ hv => hab v hv)

/-- 'Compose'. -/
def coF (v : Nat) (F G : Bfn) : Bfn := fun a => if G a then F (Mgr.upd a v true) else F (Mgr.upd a v false)
theorem Rd.co {n v : Nat} {F G : Bfn} (hF : Rd 0 n F) (hG : Rd 0 n G) : Rd 0 n (coF v F G) := fun a b hab => by
  have h1 := hF.upd (v := v) true a b hab
  have h2 := hF.upd (v := v) false a b hab
  dsimp only at h1 h2
  unfold coF
  rw [hG a b hab, h1, h2]
end Go.Proofs.Ytngbodmooddjbaa
