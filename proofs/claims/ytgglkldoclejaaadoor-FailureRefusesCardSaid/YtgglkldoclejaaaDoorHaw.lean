/-
  Walks: 'awake' of the package netverifylaw30.
-/
import Derived.Test.YtgglkldoclejaaaDoorHw5
namespace Go.Proofs.YtgglkldoclejaaaDoor
open Go.RowKit

set_option maxRecDepth 100000 in
theorem HNew_ok (w : World) : Calls Tryd.prog 29 #[] w (NewPost' w 220) := by
  have N := Lib.hid (New_ok 220 w)
  rw [show nvars 220 = 220 from rfl] at N
  go_enter Tryd.func29, Tryd.ntmps29
  go_wp2_with fail
  refine N.out.mono ?_
  rintro e w1 ⟨p, L, rfl, R, k, o⟩
  have F : Hid (NewPost' w 220 (.returned (ptr p)) w1) := Lib.hid ⟨p, L, rfl, R, k, o⟩
  clear R k o N
  go_wp2_with fail
  go_ret
  exact F.out

/-- The state behind 'New' of a law that began at w. -/
theorem hf_new {w w0 w1 : World} {p : Nat} {L : Lay} (g : Gl w) (k0 : Kp No w w0) (R : Rep w1 p (Mgr.new 220) L) (k : Kp No w0 w1) (o : ∀ x, L.at p x → w0.heap.size ≤ x) : Hf w1 p L 220 2 w1 (Mgr.new 220) L [] :=
  Hf.start R (Qk.new 220) ((g.no k0).no k) (fun h => by have := o _ h; have := g.lt; have := k0.size; omega)
theorem Hf.kpNo {w w1 wr : World} {p n c : Nat} {L1 L : Lay} {M : Mgr} {B : List (Int × Bfn)} (h : Hf w1 p L1 n c wr M L B) (k1 : Kp No w w1) (o : ∀ x, L1.at p x → w.heap.size ≤ x) : Kp No w wr :=
  k1.trans (A' := L1.at p) (fun x hx => .inr (o x hx)) h.sd.kp

def gL (G : Nat → Bool) : List Bool := (List.range 220).map G
theorem boolRow_gL (G : Nat → Bool) : boolRow G = (gL G).map .bool := by unfold boolRow gL; rw [List.map_map]; rfl
theorem gL_len (G : Nat → Bool) : (gL G).length = 220 := by simp [gL]
theorem gL_at (G : Nat → Bool) {v : Nat} (h : v < 220) : asg (gL G) v = G v := by simp [asg, gL, h]
theorem bools_row {w : World} {B : Nat} {v : Value} {G : Nat → Bool} (h : w.ownsRow B 4 1 v 220 (boolRow G)) : Bools w v (gL G) := by
  rw [boolRow_gL] at h
  refine Bools.of_row (base := B) (e := 4) ?_
  rw [gL_len]; exact h
theorem dnL_enc (dn : Nat → Bool) (p q : Pkt) : dnL (asg (gL (encF dn p q))) 12 = dnL dn 12 := by
  unfold dnL
  refine List.filter_congr (fun v hv => ?_)
  have := List.mem_range.1 hv
  rw [gL_at _ (by omega), enc_link _ _ _ this]
theorem src_new (w : World) (l : List Int) (t : TypeId) : SrcAt (w.alloc (.cells (l.map intV).toArray t)) (.slice (some ⟨w.heap.size, 0, none⟩) l.length l.length) 1 l.length (l.map intV) := by
  refine ⟨_, _, rfl, by simp, .inr ⟨w.heap.size, 0, rfl, by simp, fun j u hu => ?_⟩⟩
  have h := heap_alloc_new w (.cells (l.map intV).toArray t)
  rw [Nat.zero_add, cell_of_row _ _ _ _ _ _ h]
  simpa using hu

theorem rgF_enc (dn : Nat → Bool) {p q : Pkt} (hp : p.ok) (hq : q.ok) {k : Nat} (hk : k < 5) (nx : Bool) (lo hi : Nat) : rgF k nx lo hi (asg (gL (encF dn p q))) = decide (lo ≤ (if nx then q else p).f k ∧ (if nx then q else p).f k ≤ hi) := by
  unfold rgF
  rw [fval_enc dn hp hq hk nx (fun v hv => gL_at _ hv)]
/-- The state anew, from here on. -/
theorem Hf.rebase {w0 w : World} {p n c : Nat} {L0 L : Lay} {M : Mgr} {B : List (Int × Bfn)} (h : Hf w0 p L0 n c w M L B) : Hf w p L n c w M L B := Hf.start h.rep h.qk h.gl h.off

def pk0 : Pkt := ⟨1, 2, 6, 7, 8⟩
def pkz : Pkt := ⟨0, 0, 0, 0, 0⟩
theorem pk0_ok : pk0.ok := ⟨by decide, by decide, by decide, by decide, by decide⟩
theorem pkz_ok : pkz.ok := ⟨by decide, by decide, by decide, by decide, by decide⟩

set_option maxRecDepth 100000 in
set_option maxHeartbeats 2000000 in
theorem hawake_ok {w : World} (g : Gl w) : Calls Tryd.prog 15 #[] w fun e w' => e = .returned (.bool true) ∧ Kp No w w' := by
  have GLW := Lib.hid g
  have P0 := Lib.hid (PkAt.new w pk0 29)
  have NEW := Lib.hid (HNew_ok (w.alloc (.cells #[.int .u32 1, .int .u32 2, .int .i64 6, .int .i64 7, .int .i64 8] 29)))
  have KA : Hid (Kp No w (w.alloc (.cells #[.int .u32 1, .int .u32 2, .int .i64 6, .int .i64 7, .int .i64 8] 29))) := Lib.hid (Kp.alloc _)
  have HSA : Hid ((w.alloc (.cells #[.int .u32 1, .int .u32 2, .int .i64 6, .int .i64 7, .int .i64 8] 29)).heap.size = w.heap.size + 1) := Lib.hid (by simp)
  clear g
  go_enter Tryd.func15, Tryd.ntmps15
  go_wp2_with fail
  change Calls _ _ _ (w.alloc (.cells #[.int .u32 1, .int .u32 2, .int .i64 6, .int .i64 7, .int .i64 8] 29)) _
  refine NEW.out.mono ?_
  rintro e w1 ⟨p, L1, rfl, R1, k1, o1⟩
  have P1 : Hid (PkAt w1 w.heap.size pk0) := Lib.hid (P0.out.no k1)
  have H1 := Lib.hid (hf_new GLW.out KA.out R1 k1 o1)
  have K1 := Lib.hid (KA.out.trans_no k1)
  have O1 : Hid (∀ x, L1.at p x → w.heap.size ≤ x) := Lib.hid (fun x hx => by have := o1 x hx; have := HSA.out; omega)
  have hz1 : w.heap.size < w1.heap.size := by have := k1.size; have := HSA.out; omega
  obtain ⟨c0, c1, c2, c3, c4⟩ := P1.out
  have EN := Lib.hid (Encode_ok [1] pk0 pkz pk0_ok.in32 pkz_ok.in32 (w := w1.alloc (.cells #[.int .i64 1] 3)) (H1.out.gl.no (Kp.alloc _)) (src_new w1 [1] 3) (by decide))
  have c0' : w1.cell? ⟨w.heap.size, 0, none⟩ = some (.int .u32 1) := c0
  have c1' : w1.cell? ⟨w.heap.size, 1, none⟩ = some (.int .u32 2) := c1
  have c2' : w1.cell? ⟨w.heap.size, 2, none⟩ = some (.int .i64 6) := c2
  have c3' : w1.cell? ⟨w.heap.size, 3, none⟩ = some (.int .i64 7) := c3
  have c4' : w1.cell? ⟨w.heap.size, 4, none⟩ = some (.int .i64 8) := c4
  clear R1 k1 o1 NEW P0 KA c0 c1 c2 c3 c4 HSA
  go_wp2_with fail
  refine Calls.mono EN.out ?_
  rintro e w2 ⟨ga, rfl, row, k2⟩
  have k2' := (Kp.alloc (w := w1) (.cells #[.int .i64 1] 3)).trans_no k2
  have ROW := Lib.hid row
  have H2 := Lib.hid (H1.out.no k2')
  have P2 := Lib.hid (P1.out.no k2')
  have DE := Lib.hid (Decode_ok H2.out.gl (bools_row row))
  clear row k2 c0' c1' c2' c3' c4' EN
  go_wp2_with fail
  refine DE.out.mono ?_
  rintro e w3 ⟨dv, rfl, drow, k3⟩
  rw [dnL_enc] at drow
  rw [getP_enc (dnF [1]) pk0_ok pkz_ok false (fun v hv => gL_at _ hv), getP_enc (dnF [1]) pk0_ok pkz_ok true (fun v hv => gL_at _ hv), if_neg (by simp), if_pos rfl]
  have hdn : dnL (dnF [1]) 12 = [1] := by decide
  rw [hdn] at drow
  obtain ⟨gd, cd, hdv, _, _, _, hdc, _⟩ := ownsRow_open drow (by decide)
  have hd0 : w3.cell? ⟨gd, 0, none⟩ = some (.int .i64 1) := hdc 0 _ rfl
  subst hdv
  have hgd : gd < w3.heap.size := (drow.lt gd rfl).2
  have H3 := Lib.hid (H2.out.no k3)
  have P3 := P2.out.no k3
  obtain ⟨c0, c1, c2, c3, c4⟩ := P3
  have c0' : w3.cell? ⟨w.heap.size, 0, none⟩ = some (.int .u32 1) := c0
  have c1' : w3.cell? ⟨w.heap.size, 1, none⟩ = some (.int .u32 2) := c1
  have c2' : w3.cell? ⟨w.heap.size, 2, none⟩ = some (.int .i64 6) := c2
  have c3' : w3.cell? ⟨w.heap.size, 3, none⟩ = some (.int .i64 7) := c3
  have c4' : w3.cell? ⟨w.heap.size, 4, none⟩ = some (.int .i64 8) := c4
  have K12 := Lib.hid (k2'.trans_no k3)
  have hz3 : w.heap.size < w3.heap.size := by have := k2'.size; have := k3.size; omega
  have ROW3 := Lib.hid (ownsRow_kp ROW.out k3 (fun _ _ z => z))
  clear drow k3 c0 c1 c2 c3 c4 hdc DE hdn k2'
  unfold pktV pk0 pkz
  go_wp2_with fail
  have k4 : Kp No w3 ((w3.alloc (.cells #[.int .u32 1, .int .u32 2, .int .i64 6, .int .i64 7, .int .i64 8] 29)).alloc (.cells #[.int .u32 0, .int .u32 0, .int .i64 0, .int .i64 0, .int .i64 0] 29)) := (Kp.alloc _).trans_no (Kp.alloc _)
  have H4 := Lib.hid (H3.out.no k4).rebase
  have ROW4 := Lib.hid (ownsRow_kp ROW3.out k4 (fun _ _ z => z))
  have KW4 := Lib.hid ((K1.out.trans_no K12.out).trans_no k4)
  have OFF : Hid (∀ k, (Value.slice (some ⟨ga, 0, none⟩) 220 220).ownBlock = some k → ¬ L1.at p k) := Lib.hid (fun k e hx => by have h1 := (ROW.out.lt k e).1; have h2 := H1.out.rep.lt k hx; simp at h1; omega)
  clear k4
  change Calls _ _ _ ((w3.alloc (.cells #[.int .u32 1, .int .u32 2, .int .i64 6, .int .i64 7, .int .i64 8] 29)).alloc (.cells #[.int .u32 0, .int .u32 0, .int .i64 0, .int .i64 0, .int .i64 0] 29)) _
  generalize (w3.alloc (.cells #[.int .u32 1, .int .u32 2, .int .i64 6, .int .i64 7, .int .i64 8] 29)).alloc (.cells #[.int .u32 0, .int .u32 0, .int .i64 0, .int .i64 0, .int .i64 0] 29) = w4 at *
  refine Calls.mono (Range_ok 4 (by omega) false 8 9 (by omega) (by omega) H4.out.rep H4.out.qk H4.out.gl H4.out.off (by omega)) ?_
  intro e w5 h5
  obtain ⟨r5, M5, L5, rfl, _, f5⟩ := H4.out.step h5
  have H5 := Lib.hid f5
  have EV := Lib.hid (EvalQ f5.rep f5.qk (.head _) (bools_row (ownsRow_kp ROW4.out f5.sd.kp OFF.out)))
  rw [rgF_enc (dnF [1]) pk0_ok pkz_ok (by omega) false 8 9, show decide (8 ≤ (if false = true then pkz else pk0).f 4 ∧ (if false = true then pkz else pk0).f 4 ≤ 9) = true from by decide] at EV
  clear h5 f5
  go_wp2_with fail
  refine EV.out.mono ?_
  rintro e w6 ⟨rfl, k6⟩
  have H6 := Lib.hid (H5.out.no k6)
  clear k6 EV H5
  go_wp2_with fail
  refine Calls.mono (Range_ok 4 (by omega) false 9 9 (by omega) (by omega) H6.out.rep H6.out.qk H6.out.gl H6.out.off (by omega)) ?_
  intro e w7 h7
  obtain ⟨r7, M7, L7, rfl, _, f7⟩ := H6.out.step h7
  have H7 := Lib.hid f7
  have EV := Lib.hid (EvalQ f7.rep f7.qk (.head _) (bools_row (ownsRow_kp ROW4.out f7.sd.kp OFF.out)))
  rw [rgF_enc (dnF [1]) pk0_ok pkz_ok (by omega) false 9 9, show decide (9 ≤ (if false = true then pkz else pk0).f 4 ∧ (if false = true then pkz else pk0).f 4 ≤ 9) = false from by decide] at EV
  clear h7 f7
  go_wp2_with fail
  refine EV.out.mono ?_
  rintro e w8 ⟨rfl, k8⟩
  have KF := Lib.hid ((H7.out.no k8).kpNo KW4.out O1.out)
  clear k8 EV H7
  go_wp2_with fail
  go_ret
  exact ⟨rfl, KF.out⟩

end Go.Proofs.YtgglkldoclejaaaDoor
