/-
  Lists with numbers that are no variables; the state behind Run with a list beside it.
-/
import Derived.Test.YtngbodmooddjbaaQt
import Derived.Test.YtngbodmooddjbaaQi
namespace Go.Proofs.Ytngbodmooddjbaa
open Go.RowKit

theorem SrcAt.nats {w : World} {v : Value} {m : List Nat} (h : SrcAt w v 1 (m.map Int.ofNat).length ((m.map Int.ofNat).map intV)) : SrcAt w v 1 m.length (m.map natV) := by
  have e : (m.map Int.ofNat).map intV = m.map natV := by rw [List.map_map]; rfl
  rw [e, List.length_map] at h
  exact h

section
variable {p n c : Nat} {M : Mgr} {L : Lay} {w : World} {B : List (Int × Bfn)} {f g : Int} {F G : Bfn}
set_option maxRecDepth 100000 in
theorem AndEx_bad (R : Rep w p M L) (hf : M.valid f = true) (hg : M.valid g = true) (l : List Int) (hl : l.length ≤ 1000000) (hv : varsB M.n l = false) {dv : Value} (hd : SrcAt w dv 1 l.length (l.map intV)) :
    Calls Try.prog 16 #[ptr p, .int .i64 f, .int .i64 g, dv] w fun e w' => e = .returned (.int .i64 (-1)) ∧ w = w' := by
  have VF := Lib.hid (valid_as f true R hf)
  have VG := Lib.hid (valid_as g true R hg)
  have VV := Lib.hid (variables_ok l hl R hd)
  rw [hv] at VV
  obtain ⟨ao, cp, rfl⟩ := hd.form
  clear R hd
  go_enter Try.func16, Try.ntmps16
  go_wp2_with fail
  refine VF.out.mono ?_
  rintro e w' ⟨rfl, rfl⟩
  go_wp2_with fail
  refine VG.out.mono ?_
  rintro e w' ⟨rfl, rfl⟩
  go_wp2_with fail
  refine VV.out.mono ?_
  rintro e w' ⟨rfl, rfl⟩
  go_wp2_with fail
  go_ret
  exact ⟨rfl, rfl⟩
set_option maxRecDepth 100000 in
theorem Exists_bad (R : Rep w p M L) (wf : M.WF) (hf : M.valid f = true) (l : List Int) (hl : l.length ≤ 1000000) (hv : varsB M.n l = false) {dv : Value} (hd : SrcAt w dv 1 l.length (l.map intV)) :
    Calls Try.prog 25 #[ptr p, .int .i64 f, dv] w fun e w' => e = .returned (.int .i64 (-1)) ∧ w = w' := by
  have AE := Lib.hid (AndEx_bad (g := 1) R hf (Mgr.valid_one wf) l hl hv hd)
  obtain ⟨ao, cp, rfl⟩ := hd.form
  clear R hd
  go_enter Try.func25, Try.ntmps25
  go_wp2_with fail
  refine AE.out.mono ?_
  rintro e w' ⟨rfl, rfl⟩
  go_wp2_with fail
  go_ret
  exact ⟨rfl, rfl⟩
set_option maxRecDepth 100000 in
theorem ForAll_bad (hn : n ≤ 6) (R : Rep w p M L) (b : Qk n c M B) (hc : c ≤ 800000000000) (hf : (f, F) ∈ B) (l : List Int) (hl : l.length ≤ 1000000) (hv : varsB n l = false) {dv : Value} (hd : SrcAt w dv 1 l.length (l.map intV)) (hoff : ∀ g o m cc, dv = .slice (some ⟨g, o, none⟩) m cc → ¬ L.at p g) :
    Calls Try.prog 26 #[ptr p, .int .i64 f, dv] w fun e w' => ∃ M', Ret p L w M' (.int .i64 (-1)) e w' ∧ Qk n (c + 16777300) M' B := by
  have N1 := Lib.hid (NotS hn R b (by omega) hf)
  have S0 := Lib.hid (Sd.start R)
  have HD := Lib.hid hd
  have OFF := Lib.hid hoff
  have LL := Lib.hid hl
  obtain ⟨ao, cp, rfl⟩ := hd.form
  clear R b hf hd hoff hl
  go_enter Try.func26, Try.ntmps26
  go_wp2_with fail
  refine N1.out.mono ?_
  rintro e w1 ⟨r1, M1, ret1, q1, _⟩
  have K1 : Hid (Kp (L.at p) w w1) := Lib.hid (by obtain ⟨_, _, _, k, _⟩ := ret1; exact k)
  obtain ⟨rfl, L1, s1⟩ := S0.out.step ret1
  have S1 := Lib.hid s1
  have Q1 := Lib.hid q1
  have HD1 := Lib.hid (HD.out.kp K1.out (fun _ g o m cc h => OFF.out g o m cc h))
  clear ret1 s1 q1 N1 S0
  go_wp2_with fail
  refine (Exists_bad S1.out.rep Q1.out.wf (Q1.out.at (.head _)).1 l LL.out (by rw [Q1.out.nn]; exact hv) HD1.out).mono ?_
  rintro e w' ⟨rfl, rfl⟩
  go_wp2_with fail
  refine (Not_inv S1.out.rep (valid_m1 M1) (by have := Q1.out.cost; unfold big; omega)).mono ?_
  intro e w2 h2
  obtain ⟨rfl, L2, s2⟩ := S1.out.step h2
  have FIN : Hid (∃ M', Ret p L w M' (.int .i64 (-1)) (.returned (.int .i64 (-1))) w2 ∧ Qk n (c + 16777300) M' B) := Lib.hid ⟨M1, s2.ret _, Q1.out.tail⟩
  clear h2 s2 S1 Q1
  go_wp2_with fail
  go_ret
  exact FIN.out
end

/-! ### the state behind Run with a list beside it -/
structure FrL (w : World) (p n : Nat) (y : World) (M : Mgr) (L : Lay) (fv tv : Value) (fs : List Int) (Fs : List BF) (tvs : List Value) (lv : Value) (m : Nat) (xs : List Value) : Prop where
  fr : Front w p n y M L fv tv fs Fs tvs
  row : y.ownsRow w.heap.size 3 1 lv m xs
  off : Off L p lv
section
variable {w : World} {p n m : Nat} {y z : World} {M M' : Mgr} {L : Lay} {fv tv lv : Value} {fs : List Int} {Fs : List BF} {tvs xs : List Value}
theorem FrL.no (s : FrL w p n y M L fv tv fs Fs tvs lv m xs) (k : Kp No y z) : FrL w p n z M L fv tv fs Fs tvs lv m xs := ⟨s.fr.no k, ownsRow_kp s.row k (fun _ _ x => x), s.off⟩
theorem FrL.step {v : Value} {e : Ending} (s : FrL w p n y M L fv tv fs Fs tvs lv m xs) (h : Ret p L y M' v e z) : e = .returned v ∧ ∃ L', FrL w p n z M' L' fv tv fs Fs tvs lv m xs := by
  have h' := h
  obtain ⟨L1, he, r1, k1, f1⟩ := h
  have j := s.fr
  refine ⟨he, L1, ⟨⟨⟨r1, j.own.kp.trans (A' := L.at p) (fun x hx => .inr (j.own.own x hx)) k1, fun x hx => ?_⟩, ownsRow_kp j.frow k1 j.fo, ownsRow_kp j.trow k1 j.tof, j.fo.step f1 (fun k hk => (j.frow.lt k hk).2), j.tof.step f1 (fun k hk => (j.trow.lt k hk).2), j.tlen, j.flen,
    fun i x F h1 h2 => ⟨(j.tabs i x F h1 h2).1.kp k1 (j.tabs i x F h1 h2).2, (j.tabs i x F h1 h2).2.step f1 (fun k hk => ((j.tabs i x F h1 h2).1.lt k hk).2)⟩⟩, ownsRow_kp s.row k1 s.off, s.off.step f1 (fun k hk => (s.row.lt k hk).2)⟩⟩
  rcases f1 x hx with h1 | h1
  · exact j.own.own x h1
  · have := j.own.kp.size; omega
theorem FrL.src (s : FrL w p n y M L fv tv fs Fs tvs lv m xs) : SrcAt y lv 1 m xs := SrcAt.of_row s.row
theorem FrL.offS (s : FrL w p n y M L fv tv fs Fs tvs lv m xs) : ∀ g o k cc, lv = .slice (some ⟨g, o, none⟩) k cc → ¬ L.at p g := fun g o k cc h => s.off g (by rw [h]; rfl)
end

end Go.Proofs.Ytngbodmooddjbaa
