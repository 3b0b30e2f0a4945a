/-
  Walks: 'Top' of the package bdd.
-/
import Derived.Test.YtifompekiockmaaW10
import Derived.Deep.RegionHeld3
namespace Go.Proofs.Ytifompekiockmaa
open Go.RowKit

/-- What 'Top' returns. -/
def topV (M : Mgr) (f : Int) : Value := if M.valid f = true ∧ 2 ≤ f.toNat then .tuple #[.int .i64 (M.nd f.toNat).1, .int .i64 ((M.nd f.toNat).2.1 : Int), .int .i64 ((M.nd f.toNat).2.2 : Int), .bool true] else .tuple #[.int .i64 0, .int .i64 0, .int .i64 0, .bool false]
def topM (M : Mgr) (f : Int) : Mgr := if M.valid f = true ∧ 2 ≤ f.toNat then (M.show (M.nd f.toNat).2.1).show (M.nd f.toNat).2.2 else M

theorem Mgr.show_stored {M : Mgr} {f g : Nat} (h : M.stored g) : (M.show f).stored g := h

structure TpJ (w : World) (p : Nat) (L0 : Lay) (x : World) (M : Mgr) (L : Lay) (b : Nat) (v : Int) (lo hi : Nat) : Prop where
  sd : Sd w p L0 x M L
  bx : x.heap[b]? = some (box3 v lo hi)
  nb : ¬ L.at p b
theorem TpJ.no {w : World} {p : Nat} {L0 : Lay} {x y : World} {M : Mgr} {L : Lay} {b : Nat} {v : Int} {lo hi : Nat} (j : TpJ w p L0 x M L b v lo hi) (k : Kp No x y) : TpJ w p L0 y M L b v lo hi := ⟨j.sd.no k, by rw [k.block _ (heap_lt j.bx) (fun z => z)]; exact j.bx, j.nb⟩
theorem TpJ.step {w : World} {p : Nat} {L0 : Lay} {x y : World} {M M' : Mgr} {L : Lay} {b : Nat} {v : Int} {lo hi : Nat} {u : Value} {e : Ending} (j : TpJ w p L0 x M L b v lo hi) (h : Ret p L x M' u e y) : e = .returned u ∧ ∃ L', TpJ w p L0 y M' L' b v lo hi := by
  obtain ⟨L', he, r, k, f⟩ := h
  refine ⟨he, L', ⟨r, j.sd.kp.trans j.sd.fr k, fun z hz => ?_⟩, by rw [k.block b (heap_lt j.bx) j.nb]; exact j.bx, fun hx => ?_⟩
  · rcases f z hz with h1 | h1
    · exact j.sd.fr z h1
    · right; have := j.sd.kp.size; omega
  · rcases f b hx with h1 | h1
    · exact j.nb h1
    · have := heap_lt j.bx; omega
theorem TpJ.cells {w : World} {p : Nat} {L0 : Lay} {x : World} {M : Mgr} {L : Lay} {b : Nat} {v : Int} {lo hi : Nat} (j : TpJ w p L0 x M L b v lo hi) : x.cell? ⟨b, 0, none⟩ = some (.int .i64 v) ∧ x.cell? ⟨b, 1, none⟩ = some (.int .i64 (lo : Int)) ∧ x.cell? ⟨b, 2, none⟩ = some (.int .i64 (hi : Int)) := by
  refine ⟨?_, ?_, ?_⟩ <;> simp [World.cell?, j.bx]

set_option maxRecDepth 100000 in
set_option maxHeartbeats 1000000 in
theorem Top_ok {p : Nat} {M : Mgr} {L : Lay} (f : Int) {w : World} (R : Rep w p M L) : Calls Try.prog 44 #[ptr p, .int .i64 f] w (Ret p L w (topM M f) (topV M f)) := by
  by_cases hf : M.valid f = true
  · obtain ⟨n, rfl, sf, _⟩ := Mgr.valid_nat R.wf hf
    by_cases h2 : 2 ≤ n
    · have e1 : topM M (n : Int) = (M.show (M.nd n).2.1).show (M.nd n).2.2 := if_pos ⟨hf, by simpa using h2⟩
      have e2 : topV M (n : Int) = .tuple #[.int .i64 (M.nd n).1, .int .i64 ((M.nd n).2.1 : Int), .int .i64 ((M.nd n).2.2 : Int), .bool true] := if_pos ⟨hf, by simpa using h2⟩
      rw [e1, e2]
      obtain ⟨F, raw, _⟩ := R.raw
      obtain ⟨bn, cn, hsn, hcn, hcm, hnd⟩ := raw.node_cells R.wf
      have lt := M.stored_lt R.wf sf
      obtain ⟨n0, n1, n2⟩ := hnd n lt
      have bnlt := World.block_lt_of_cell? _ _ n0
      have c2 := raw.c2
      rw [hsn] at c2
      have plt := raw.plt
      unfold natV at n1 n2
      obtain ⟨_, _, sl, sh, _⟩ := Mgr.node_of R.wf sf h2
      have hm := maxLen_val
      have hle2 : M.nodes.length ≤ 9223372036854775807 := by omega
      have b1 : (n : Int) < M.nodes.length := by omega
      have J0 : TpJ w p L (w.alloc (box3 (M.nd n).1 (M.nd n).2.1 (M.nd n).2.2)) M L w.heap.size (M.nd n).1 (M.nd n).2.1 (M.nd n).2.2 :=
        ⟨(Sd.start R).no (Kp.alloc _), heap_alloc_new _ _, fun h => by have := R.lt _ h; omega⟩
      have VAL := Lib.hid (valid_as (n : Int) true R hf)
      have HJ := Lib.hid (J0.no Kp.drew)
      have S0 := Lib.hid HJ.out.cells
      have C1 := Lib.hid (show_ok _ HJ.out.sd.rep sl)
      have C2 : Hid (∀ (x : World) (L' : Lay), Rep x p (M.show (M.nd n).2.1) L' → Calls Try.prog 46 #[ptr p, .int .i64 ((M.nd n).2.2 : Int)] x (Ret p L' x ((M.show (M.nd n).2.1).show (M.nd n).2.2) (.int .i64 ((M.nd n).2.2 : Int)))) :=
        Lib.hid (fun x L' Rx => show_ok _ Rx sh)
      clear J0 raw hsn hnd hcn hcm hm e1 e2 hf sf sl sh R
      generalize M.nodes.length = nl at *
      generalize M.nd n = x at *
      go_enter Try.func44, Try.ntmps44
      go_wp2_with fail
      refine VAL.out.mono ?_
      rintro e w' ⟨rfl, rfl⟩
      go_wp2_with fail
      refine (constant_no _ _ h2).mono ?_
      rintro e w' ⟨rfl, rfl⟩
      go_upto_region 4 with (fail)
      clear VAL c2 n0 n1 n2
      go_region_held3 (fun y => y.cell? ⟨w.heap.size, 0, none⟩ = some (.int .i64 x.1) ∧ y.cell? ⟨w.heap.size, 1, none⟩ = some (.int .i64 (x.2.1 : Int)) ∧ y.cell? ⟨w.heap.size, 2, none⟩ = some (.int .i64 (x.2.2 : Int))) (first | exact S0.out | exact SA.out | exact SB.out)
        (first | (go_at_call 46; (with_reducible refine C1.out.mono ?_); intro e wa ha; obtain ⟨rfl, La, ja⟩ := HJ.out.step ha; have SA := Lib.hid ja.cells; have JA := Lib.hid ja; clear ha ja) | (go_at_call 46; (with_reducible refine (C2.out _ _ JA.out.sd.rep).mono ?_); intro e wb hb; obtain ⟨rfl, Lb, jb⟩ := JA.out.step hb; have SB := Lib.hid jb.cells; have JB := Lib.hid jb; clear hb jb))
      all_goals
        go_wp2_with fail
        refine bodyPost_ret (v := .tuple #[.int .i64 x.1, .int .i64 (x.2.1 : Int), .int .i64 (x.2.2 : Int), .bool true]) (by simp [results, Try.results44, go_sem]) rfl ?_
        exact JB.out.sd.ret _
    · have e1 : topM M (n : Int) = M := if_neg (fun x => h2 (by simpa using x.2))
      have e2 : topV M (n : Int) = .tuple #[.int .i64 0, .int .i64 0, .int .i64 0, .bool false] := if_neg (fun x => h2 (by simpa using x.2))
      rw [e1, e2]
      have h2' : n < 2 := by omega
      have VAL := Lib.hid (valid_as (n : Int) true R hf)
      clear e1 e2 hf h2
      go_enter Try.func44, Try.ntmps44
      go_wp2_with fail
      refine VAL.out.mono ?_
      rintro e w' ⟨rfl, rfl⟩
      go_wp2_with fail
      refine (constant_yes _ _ h2').mono ?_
      rintro e w' ⟨rfl, rfl⟩
      go_wp2_with fail
      refine bodyPost_ret (v := .tuple #[.int .i64 0, .int .i64 0, .int .i64 0, .bool false]) (by simp [results, Try.results44, go_sem]) rfl ?_
      exact Ret.same R
  · have e1 : topM M f = M := if_neg (fun x => hf x.1)
    have e2 : topV M f = .tuple #[.int .i64 0, .int .i64 0, .int .i64 0, .bool false] := if_neg (fun x => hf x.1)
    rw [e1, e2]
    have VAL := Lib.hid (valid_as f false R (by simpa using hf))
    clear e1 e2 hf
    go_enter Try.func44, Try.ntmps44
    go_wp2_with fail
    refine VAL.out.mono ?_
    rintro e w' ⟨rfl, rfl⟩
    go_wp2_with fail
    refine bodyPost_ret (v := .tuple #[.int .i64 0, .int .i64 0, .int .i64 0, .bool false]) (by simp [results, Try.results44, go_sem]) rfl ?_
    exact Ret.same R

end Go.Proofs.Ytifompekiockmaa
