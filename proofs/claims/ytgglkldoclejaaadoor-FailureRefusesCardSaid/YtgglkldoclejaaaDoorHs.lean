/-
  The state of a function of the package header on the way: the manager, its Refs, the table of the fields.
-/
import Derived.Test.YtgglkldoclejaaaDoorQ
import Derived.Test.YtgglkldoclejaaaDoorHp
import Derived.Test.YtgglkldoclejaaaDoorCopy
namespace Go.Proofs.YtgglkldoclejaaaDoor
open Go.RowKit

/-- The table of the fields lies in its variable. -/
def Gl (w : World) : Prop := ∀ i, i < 10 → w.cell? ⟨0, i, none⟩ = some (.int .i64 ([0, 32, 32, 32, 64, 8, 72, 16, 88, 16].getD i 0))
theorem Gl.lt {w : World} (h : Gl w) : 0 < w.heap.size := World.block_lt_of_cell? _ _ (h 0 (by omega))
theorem Gl.kp {A : Nat → Prop} {w w' : World} (h : Gl w) (k : Kp A w w') (hn : ¬ A 0) : Gl w' := fun i hi => by rw [k.cell h.lt hn]; exact h i hi
theorem Gl.no {w w' : World} (h : Gl w) (k : Kp No w w') : Gl w' := h.kp k (fun x => x)

structure Hf (w0 : World) (p : Nat) (L0 : Lay) (n c : Nat) (w : World) (M : Mgr) (L : Lay) (B : List (Int × Bfn)) : Prop where
  sd : Sd w0 p L0 w M L
  qk : Qk n c M B
  gl : Gl w
  off : ¬ L.at p 0

section
variable {w0 w w' : World} {p n c : Nat} {L0 L : Lay} {M M' : Mgr} {B : List (Int × Bfn)}
theorem Hf.rep (h : Hf w0 p L0 n c w M L B) : Rep w p M L := h.sd.rep
theorem Hf.start (R : Rep w p M L) (q : Qk n c M B) (g : Gl w) (o : ¬ L.at p 0) : Hf w p L n c w M L B := ⟨Sd.start R, q, g, o⟩
theorem Hf.no (h : Hf w0 p L0 n c w M L B) (k : Kp No w w') : Hf w0 p L0 n c w' M L B := ⟨h.sd.no k, h.qk, h.gl.no k, h.off⟩
theorem Hf.sub {B' : List (Int × Bfn)} (h : Hf w0 p L0 n c w M L B) (hb : ∀ x, x ∈ B' → x ∈ B) : Hf w0 p L0 n c w M L B' := ⟨h.sd, h.qk.sub hb, h.gl, h.off⟩
theorem Hf.mono {c' : Nat} (h : Hf w0 p L0 n c w M L B) (hc : c ≤ c') : Hf w0 p L0 n c' w M L B := ⟨h.sd, h.qk.mono hc, h.gl, h.off⟩
theorem Hf.consts (h : Hf w0 p L0 n c w M L B) : Hf w0 p L0 n c w M L ((0, fun _ => false) :: (1, fun _ => true) :: B) := ⟨h.sd, h.qk.consts, h.gl, h.off⟩
theorem Hf.cong {r : Int} {F G : Bfn} (h : Hf w0 p L0 n c w M L ((r, F) :: B)) (e : ∀ a, F a = G a) : Hf w0 p L0 n c w M L ((r, G) :: B) := ⟨h.sd, h.qk.cong e, h.gl, h.off⟩
theorem Hf.ret_step {v : Value} {e : Ending} (h : Hf w0 p L0 n c w M L B) (r : Ret p L w M' v e w') {c' : Nat} {B' : List (Int × Bfn)} (q : Qk n c' M' B') : e = .returned v ∧ ∃ L', Hf w0 p L0 n c' w' M' L' B' := by
  obtain ⟨L', he, rr, k, f⟩ := r
  refine ⟨he, L', ⟨rr, h.sd.kp.trans h.sd.fr k, fun x hx => ?_⟩, q, h.gl.kp k h.off, fun hx => ?_⟩
  · rcases f x hx with h1 | h1
    · exact h.sd.fr x h1
    · right; have := h.sd.kp.size; omega
  · rcases f _ hx with h1 | h1
    · exact h.off h1
    · have := h.gl.lt; omega
theorem Hf.step {F : Bfn} {e : Ending} {c' : Nat} (h : Hf w0 p L0 n c w M L B) (o : OpQ p n c' L w F B e w') : ∃ r M' L', e = .returned (.int .i64 r) ∧ 0 ≤ r ∧ Hf w0 p L0 n c' w' M' L' ((r, F) :: B) := by
  obtain ⟨r, M', hr, q, h0⟩ := o
  obtain ⟨he, L', hf⟩ := h.ret_step hr q
  exact ⟨r, M', L', he, h0, hf⟩
/-- A Ref of the bank is handed back. -/
theorem Hf.ret {B0 : List (Int × Bfn)} {r : Int} {F : Bfn} {c' : Nat} (h : Hf w0 p L0 n c w M L B) (hm : (r, F) ∈ B) (hb : ∀ x, x ∈ B0 → x ∈ B) (hc : c ≤ c') : OpQ p n c' L0 w0 F B0 (.returned (.int .i64 r)) w :=
  ⟨r, M, h.sd.ret _, (h.qk.mono hc).sub (fun x hx => by
    rcases List.mem_cons.1 hx with rfl | hx
    · exact hm
    · exact hb x hx), h.qk.nonneg hm⟩
end

/-- 'Failure'. -/
theorem Failure_ok (x : Int) (w : World) : Calls Tryd.prog 16 #[.int .i64 x] w fun e w' => e = .returned (.int .i64 (if 0 ≤ x ∧ x < 12 then x else -1)) ∧ w = w' := by
  by_cases h0 : 0 ≤ x
  · by_cases h1 : x < 12
    · rw [if_pos ⟨h0, h1⟩]
      go_enter Tryd.func16, Tryd.ntmps16
      go_wp2_with fail
      go_ret
      exact ⟨rfl, rfl⟩
    · rw [if_neg (fun h => h1 h.2)]
      go_enter Tryd.func16, Tryd.ntmps16
      go_wp2_with fail
      go_ret
      exact ⟨rfl, rfl⟩
  · rw [if_neg (fun h => h0 h.1)]
    go_enter Tryd.func16, Tryd.ntmps16
    go_wp2_with fail
    go_ret
    exact ⟨rfl, rfl⟩

end Go.Proofs.YtgglkldoclejaaaDoor
