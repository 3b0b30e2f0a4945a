/-
 Walks: 'Backward' of the package slices at Refs, translations and rules (printed by gen_tb.py).
-/
import Derived.Test.YtdgnbbmgcgfibaaGreatDoorKr
import Derived.RangeFuncWrites
import Derived.RangeFuncCalls
import Derived.OrdersIn
import Derived.OrdersHeld
import Derived.WalkKit
import Derived.TacticsInMore
import Derived.RangeFuncNested
import Derived.RangeFuncBound
import Derived.RangeFuncLeaves
import Derived.RangeFuncBox
import Derived.Shelf.Abstract
import Derived.Shelf.RegionOpen
import Derived.OwnWalkIn
import Derived.LoopNIn
import Derived.LoopIn
namespace Go.Proofs.YtdgnbbmgcgfibaaGreatDoor
open Go.RowKit

/-! ### an operation within a round is carried out as elsewhere -/
section
variable {P : Program} {l n : Nat} {Q : Exit → Act → World → Prop}
theorem calls_round {f : FuncId} {args : Array Value} {w : World} {R R' : Ending → World → Prop} (h : Calls P f args w R) (e : ∀ e w', R e w' → R' e w') : CallsIn (Fence.wide.inRound l) n P f args w R' :=
 CallsIn.inRound l (callsIn_wide.2 (h.mono e))
theorem upon_in {o : Oper} {a : Act} {K : Act → World → Prop} (hQ : ¬ LetsOut Q) (r : Result Next) (h : o.upon P a K Q r) : o.uponIn (Fence.wide.inRound l) n P a K Q r := by
 cases r with
 | ok v w =>
  cases v with
  | value v => exact h
  | skip => exact h
  | defer d => exact h
  | enter f args =>
   refine ⟨fun h => (by cases h), calls_round h (fun e w' he => ?_)⟩
   cases e with
   | returned v => exact he
   | panicked c => exact he
   | outgrown => exact absurd he hQ
  | row r args =>
   refine ⟨fun h => (by cases h), fun c cs _ => ?_⟩
   obtain ⟨v, w', hr, s⟩ := h c cs
   exact ⟨v, w', hr, stepsIn_wide.2 s⟩
  | _ => exact h.elim
 | halt x w =>
  cases x with
  | panic v => exact h
  | _ => exact h.elim
theorem oper_round {o : Oper} {a : Act} {w : World} {K : Act → World → Prop} (hd : ∀ c, o.op ≠ .defer c) (hQ : ¬ LetsOut Q) (h : o.wp P a w K Q) : o.wpIn (Fence.wide.inRound l) n P a w K Q :=
 ⟨fun _ _ => trivial, by
  rw [show (Fence.wide.inRound l).round = some l from rfl, Oper.semAt_some l a.eval o hd]
  exact upon_in hQ _ h⟩
theorem any_round {md : Region.Mode} {ops : Array Oper} (hd : ∀ (i : Nat) (o : Oper), ops[i]? = some o → ∀ c, o.op ≠ .defer c) (hQ : ¬ LetsOut Q) :
  ∀ (fuel : Nat) (listed : Array Bool) (a : Act) (w : World), wpAny P md ops Q fuel listed a w → wpAnyIn (Fence.wide.inRound l) n P md ops Q fuel listed a w
 | 0, _, _, _, h => h
 | fuel + 1, listed, a, w, h => by
  refine ⟨h.1, fun i hi => ?_⟩
  have q := h.2 i hi
  unfold wpOp at q
  unfold wpOpIn
  cases ho : ops[i]? with
  | none => rw [ho] at q; exact any_round hd hQ fuel _ a w q
  | some o =>
   rw [ho] at q
   dsimp only at q ⊢
   split at q
   ·rename_i hw
    rw [if_pos hw]
    refine Oper.wpIn_mono (fun a' w' h' => any_round hd hQ fuel _ a' w' h') (oper_round (hd i o ho) hQ ?_)
    rcases q with q | q
    ·exact q
    ·exact absurd q.2 hQ
   ·rename_i hw
    rw [if_neg hw]
    exact ⟨fun _ _ => trivial, any_round hd hQ fuel _ _ w q⟩
def calmOps (ops : Array Oper) : Bool := ops.all fun o => match o.op with | .defer _ => false | _ => true
theorem calm_spec {ops : Array Oper} (h : calmOps ops = true) (i : Nat) (o : Oper) (hi : ops[i]? = some o) (c : Call) : o.op ≠ .defer c := fun e => by
 obtain ⟨hl, rfl⟩ := Array.getElem?_eq_some_iff.1 hi
 unfold calmOps at h
 have := Array.all_eq_true.1 h i hl
 rw [e] at this
 cases this
theorem region_round {id : Nat} {ops : Array Oper} {S : World → Prop} {a : Act} {w : World} (hm : P.follows .mixedOrders = true) (hd : calmOps ops = true) (hQ : ¬ LetsOut Q) (hS : S w.drew)
  (h : S w.drew → wpAnyH P .any ops Q S ops.size (Array.replicate ops.size false) a w.drew) : (Code.region id ops true).wpIn (Fence.wide.inRound l) n P Q a w :=
 wpIn_region_any hm (any_round (calm_spec hd) hQ _ _ _ _ (wpAny_of_held _ _ _ _ (h hS)))
end

/-! ### the loop -/
def isRec : Obj → Bool
 | .loop _ => true
 | .deferred _ => true
 | _ => false
def KeepsRec (W W' : World) : Prop := ∀ (k : Nat) (o : Obj), W.heap[k]? = some o → isRec o = true → W'.heap[k]? = some o
theorem KeepsRec.refl (W : World) : KeepsRec W W := fun _ _ h _ => h
theorem KeepsRec.trans {A B C : World} (h : KeepsRec A B) (k : KeepsRec B C) : KeepsRec A C := fun i o hi ho => k i o (h i o hi ho) ho

def roundEnd {α : Type} (I : List α → World → Prop) (R : World → World → Prop) (xs : List α) (W : World) : Exit → Act → World → Prop
 | .normal, _, W' => KeepsRec W W' ∧ R W W' ∧ I xs W'
 | _, _, _ => False
def HandsOn {α : Type} (F : Fence) (n : Nat) (P : Program) (gf : Nat) (lb : Array Value) (encs : α → Array Value) (R : World → World → Prop) (xs : List α) (w : World) : Prop :=
 ∀ (l : Nat) (J : List α → World → Prop) (W : World), Below w.heap.size w W →
  (∀ pre x W1, J pre W1 → pre ++ [x] <+: xs → YieldAt F (n - 1) P l (encs x) W1 fun e W' => e = .returned (.bool true) ∧ J (pre ++ [x]) W' ∧ R W1 W') →
  J [] W → CallsIn F n P gf (#[.func (.yield l) #[] #[]] ++ lb) W fun e W' => (∃ v, e = .returned v) ∧ J xs W'

theorem range_calls {α : Type} {F : Fence} {n : Nat} {P : Program} {g : Operand} {ps : Array Tmp} {assign body : Code} {Q : Exit → Act → World → Prop} {a : Act} {w : World} {gf : Nat} {lb : Array Value} {encs : α → Array Value} {R : World → World → Prop} {xs : List α}
  (hro : F.round = none) (h1 : 1 ≤ n) (hg : a.eval g = .func (.func gf) #[] lb) (hFg : F.fn gf) (eg : ∀ args w, (callFunc gf args).run P w = .ok (.enter gf args) w)
  (hseq : HandsOn F (n - 1) P gf lb encs R xs w) (hps : ∀ x, (encs x).size = ps.size)
  (hRt : ∀ {A B C : World}, R A B → R B C → R A C) (hRp : ∀ (W : World) (l : Nat) (o : Obj), w.heap.size ≤ l → R W (W.putObj l o))
  (I : List α → World → Prop) (hal : ∀ s W o, I s W → I s (W.alloc o)) (hput : ∀ s W l o o', I s W → w.heap.size ≤ l → W.heap[l]? = some o → isRec o = true → I s (W.putObj l o'))
  (h0 : I [] w) (Ax : α → Act → World → Prop) (hAx : ∀ x a' W l o o', Ax x a' W → W.heap[l]? = some o → isRec o = true → Ax x a' (W.putObj l o'))
  (hassign : ∀ (l : Nat) (pre : List α) (x : α) (W : World) (K : Act → World → Prop), I pre W → pre ++ [x] <+: xs → (∀ a' W', KeepsRec W W' → R W W' → I pre W' → Ax x a' W' → K a' W') →
   assign.wpIn (F.inRound l) (n - 1 - 1) P (Exit.then K (fun _ _ _ => False)) { tmps := (ps.zip (encs x)).foldl (fun t (p, v) => t.setIfInBounds p v) a.tmps, defers := [] } W)
  (hbody : ∀ (l : Nat) (pre : List α) (x : α) (a' : Act) (W : World), I pre W → pre ++ [x] <+: xs → Ax x a' W → body.wpIn (F.inRound l) (n - 1 - 1) P (roundEnd I R (pre ++ [x]) W) a' W)
  (hdone : ∀ (D : Nat) (W : World), w.heap.size ≤ D → I xs W → W.heap[D]? = some (.deferred (some [])) → Q .normal { a with defers := { target := .collected D, args := #[] } :: a.defers } W) :
  (Code.rangeFunc g ps assign body).wpIn F n P Q a w := by
 refine wpIn_rangeFunc (fun fn hfn => ?_)
 rw [hro]
 -- the record of the loop
 obtain ⟨rec, hrec⟩ : ∃ rec : LoopState → Loop, rec = fun st => { state := st, pending := none, fn, tmps := a.tmps, params := ps, assign, body, defers := w.heap.size } := ⟨_, rfl⟩
 obtain ⟨W1, hW1⟩ : ∃ W1, W1 = (w.alloc (.deferred (some []))).alloc (.loop (rec .ready)) := ⟨_, rfl⟩
 have b1 : Below w.heap.size w W1 := by rw [hW1]; exact ((Below.refl _ w).alloc (Nat.le_refl _) _).alloc (by simp) _
 -- what holds ahead of each round: the record is ready, the deferred calls are none
 obtain ⟨J, hJ⟩ : ∃ J : List α → World → Prop, J = fun pre W => I pre W ∧ W.heap[w.heap.size + 1]? = some (.loop (rec .ready)) ∧ W.heap[w.heap.size]? = some (.deferred (some [])) := ⟨_, rfl⟩
 have j0 : J [] W1 := by
  rw [hJ, hW1]
  refine ⟨hal _ _ _ (hal _ _ _ h0), ?_, ?_⟩
  ·have := World.alloc_heap_new (w.alloc (.deferred (some []))) (.loop (rec .ready))
   rwa [World.size_alloc] at this
  ·rw [Below.heap_alloc _ _ _ (by simp)]
   exact World.alloc_heap_new w _
 refine ⟨w.heap.size + 1, [{ target := .collected w.heap.size, args := #[] }], W1, { target := .fn (.func gf) lb, args := #[.func (.yield (w.heap.size + 1)) #[] #[]] }, W1, gf, #[.func (.yield (w.heap.size + 1)) #[] #[]] ++ lb, W1, ?_, ?_, ?_, ?_, fun _ => h1, ?_⟩
 ·rw [hW1, hrec]; exact run_enterLoop_outer _ _ _ _ _
 ·simp only [resolve, hg]
  simp [go_sem]
 ·intro f' hf'
  simp [Target.leads] at hf'
  subst hf'
  exact hFg
 ·simp [invoke, go_sem, eg]
 refine (hseq (w.heap.size + 1) J W1 b1 (fun pre x W hj hp => ?_) j0).mono ?_
 ·rw [hJ] at hj
  obtain ⟨hi, hl, hk⟩ := hj
  refine ⟨fn, (ps.zip (encs x)).foldl (fun t (p, v) => t.setIfInBounds p v) a.tmps, assign, body, ?_, ?_⟩
  ·have := run_yield (P := P) (args := encs x) hl (by rw [hrec]; exact hps x)
   rw [hrec] at this
   exact this
  refine roundIn_of_wpIn hfn (hassign _ pre x W _ hi hp (fun a' W' kr hr hi' hax => ?_))
  have hl' := kr _ _ hl rfl
  have hk' := kr _ _ hk rfl
  have hlt' : w.heap.size + 1 < W'.heap.size := (Array.getElem?_eq_some_iff.1 hl').1
  refine ⟨W'.putObj (w.heap.size + 1) (.loop (rec .busy)), ?_, ?_⟩
  ·have := run_beginRound (P := P) hl' (by rw [hrec])
   rw [hrec] at this ⊢
   exact this
  have hl2 : (W'.putObj (w.heap.size + 1) (.loop (rec .busy))).heap[w.heap.size + 1]? = some (.loop (rec .busy)) := World.putObj_heap_same hlt'
  have hk2 : (W'.putObj (w.heap.size + 1) (.loop (rec .busy))).heap[w.heap.size]? = some (.deferred (some [])) := (World.putObj_heap_other (by omega)).trans hk'
  refine wpIn_mono (hbody _ pre x a' _ (hput _ _ _ _ _ hi' (by omega) hl' rfl) hp (hAx _ _ _ _ _ _ hax hl' rfl)) (fun e a3 W3 he => ?_)
  cases e with
  | normal =>
   obtain ⟨k3, r3, i3⟩ := he
   have hl3 := k3 _ _ hl2 rfl
   have hk3 := k3 _ _ hk2 rfl
   have hend := run_endRound (P := P) none hl3
   refine ⟨.bool true, W3.putObj (w.heap.size + 1) (.loop (rec .ready)), ?_, rfl, ?_, ?_⟩
   ·rw [hrec] at hend ⊢
    exact hend
   ·rw [hJ]
    exact ⟨hput _ _ _ _ _ i3 (by omega) hl3 rfl, World.putObj_heap_same (Array.getElem?_eq_some_iff.1 hl3).1, (World.putObj_heap_other (by omega)).trans hk3⟩
   ·exact hRt (hRt (hRt hr (hRp W' _ _ (by omega))) r3) (hRp W3 _ _ (by omega))
  | _ => exact he.elim
 ·rintro e W2 ⟨⟨v, rfl⟩, hj⟩
  rw [hJ] at hj
  obtain ⟨hi, hl, hk⟩ := hj
  have hend := run_endLoop (P := P) hl (by rw [hrec]; simp)
  refine ⟨none, W2.putObj (w.heap.size + 1) (.loop { rec .ready with state := .exhausted }), ?_, ?_⟩
  ·rw [hrec] at hend ⊢
   exact hend
  ·exact hdone _ _ (Nat.le_refl _) (hput _ _ _ _ _ hi (by omega) hl rfl) ((World.putObj_heap_other (by omega)).trans hk)

end Go.Proofs.YtdgnbbmgcgfibaaGreatDoor

namespace Go.Proofs.YtdgnbbmgcgfibaaGreatDoor
open Go.RowKit Go.Shelf

attribute [local go_sem] Oper.semAt_some

def bkN (n k : Nat) : List Nat := (List.range k).map fun j => n - 1 - j
theorem bkN_succ (n k : Nat) : bkN n (k + 1) = bkN n k ++ [n - 1 - k] := by simp [bkN, List.range_succ]
theorem bkN_len (n k : Nat) : (bkN n k).length = k := by simp [bkN]
theorem bkN_pre (n : Nat) {k m : Nat} (h : k ≤ m) : bkN n k <+: bkN n m := by
 have e : bkN n k = (bkN n m).take k := by
  apply List.ext_getElem
  ·simp [bkN, h]
  ·intro i h1 h2
   simp [bkN]
 rw [e]
 exact List.take_prefix _ _
def BkR (Bs b : Nat) (A B : World) : Prop := B.heap[Bs]? = A.heap[Bs]? ∧ B.heap[b]? = A.heap[b]?
theorem BkR.trans {Bs b : Nat} {A B C : World} (h : BkR Bs b A B) (k : BkR Bs b B C) : BkR Bs b A C := ⟨k.1.trans h.1, k.2.trans h.2⟩
theorem BkR.put {Bs b n : Nat} (h1 : Bs < n) (h2 : b < n) (W : World) (l : Nat) (o : Obj) (hl : n ≤ l) : BkR Bs b W (W.putObj l o) := ⟨World.putObj_heap_other (by omega), World.putObj_heap_other (by omega)⟩

set_option maxRecDepth 100000 in
set_option maxHeartbeats 4000000 in
theorem backR_in (n : Nat) (hn : 1 ≤ n) (l Bs b o cap len : Nat) (hreach : len ≤ 10000000000000) (v0 : Nat → Int) (J : List Nat → World → Prop)
  (hY : ∀ (pre : List Nat) (x : Nat) (W : World), J pre W → pre ++ [x] <+: bkN len len → YieldAt Fence.wide (n - 1) Tryz.prog l #[.int .i64 (x : Int), .int .i64 (v0 x)] W fun e W' => e = .returned (.bool true) ∧ J (pre ++ [x]) W' ∧ BkR Bs b W W')
  (W : World) (hBs : W.cell? ⟨Bs, 0, none⟩ = some (.slice (some ⟨b, o, none⟩) len cap)) (hc : ∀ j, j < len → W.cell? ⟨b, o + j, none⟩ = some (.int .i64 (v0 j))) (h0 : J [] W) :
  CallsIn Fence.wide n Tryz.prog 93 #[.func (.yield l) #[] #[], .pointer (some ⟨Bs, 0, none⟩)] W fun e W' => (∃ v, e = .returned v) ∧ J (bkN len len) W' := by
 have hw : IntKind.i64.wrap ((len : Int) - 1) = (len : Int) - 1 := IntWalk.i64_in _ ⟨by omega, by omega⟩
 refine callsIn_of_wp Tryz.func93 rfl trivial ?_ rfl
 simp only [Tryz.ntmps93, List.size_toArray, List.length_cons, List.length_nil, Nat.reduceAdd, Nat.reduceSub, Array.replicate_succ, Array.replicate_zero, List.push_toArray, List.append_toArray, List.nil_append, List.cons_append]
 gi_wp2
 gi_loopw [3] (fun i wr => ∃ k : Nat, k ≤ len ∧ i = .int .i64 ((len : Int) - 1 - (k : Int)) ∧ J (bkN len k) wr ∧ wr.cell? ⟨Bs, 0, none⟩ = some (.slice (some ⟨b, o, none⟩) len cap) ∧ ∀ j, j < len → wr.cell? ⟨b, o + j, none⟩ = some (.int .i64 (v0 j)))
  (fun i _ => (intOf i + 1).toNat)
 case atStart => exact ⟨0, Nat.zero_le _, by simp, h0, hBs, hc⟩
 case round =>
  obtain ⟨k, hk, rfl, hJs, hBs', hcs'⟩ := hrel
  have HCS := Lib.hid hcs'
  have HBS := Lib.hid hBs'
  by_cases hlt : k < len
  ·obtain ⟨i, hi⟩ : ∃ i : Nat, (len : Int) - 1 - (k : Int) = (i : Int) := ⟨len - 1 - k, by omega⟩
   have hii : i = len - 1 - k := by omega
   have hsucc := bkN_succ len k
   rw [← hii] at hsucc
   have c0 := hcs' i (by omega)
   obtain ⟨fn, tmps, assign, body, hy, hR⟩ := hY _ i wr hJs (by rw [← hsucc]; exact bkN_pre len (by omega))
   have HII := Lib.hid hi
   have HS := Lib.hid hsucc
   have HK := Lib.hid hlt
   rw [hi]
   clear hi hii hcs' hsucc
   generalize v0 i = x0 at *
   have hge : (0 : Int) ≤ (i : Int) := by omega
   have hil : (i : Int) < (len : Int) := by have := HII.out; omega
   have hw1 : IntKind.i64.wrap ((i : Int) - 1) = (i : Int) - 1 := IntWalk.i64_in _ ⟨by omega, by omega⟩
   gi_wp2
   refine hR.mono ?_
   rintro e W3 ⟨rfl, hJ3, hk3⟩
   gi_wp2
   go_roundw
   case rel =>
    exact ⟨k + 1, HK.out, by have := HII.out; exact congrArg (Value.int .i64) (by omega), by rw [HS.out]; exact hJ3, (World.cell?_of_block hk3.1).trans HBS.out, fun j hj => by
     have h := HCS.out j hj
     have t : ∀ z, W3.cell? ⟨b, z, none⟩ = wr.cell? ⟨b, z, none⟩ := fun z => World.cell?_of_block hk3.2
     simp only [t]
     exact h⟩
   case measure => simp [intOf]
  ·obtain rfl : k = len := by omega
   have hneg : ¬ (0 : Int) ≤ (k : Int) - 1 - (k : Int) := by omega
   gi_wp2
   go_end0
   exact ⟨⟨_, rfl⟩, hJs⟩
set_option maxRecDepth 100000 in
set_option maxHeartbeats 4000000 in
theorem backR_nil (n : Nat) (l Bs cap : Nat) (ao : Option Addr) (J : List Nat → World → Prop)
  (W : World) (hBs : W.cell? ⟨Bs, 0, none⟩ = some (.slice ao 0 cap)) (h0 : J [] W) :
  CallsIn Fence.wide n Tryz.prog 93 #[.func (.yield l) #[] #[], .pointer (some ⟨Bs, 0, none⟩)] W fun e W' => (∃ v, e = .returned v) ∧ J (bkN 0 0) W' := by
 refine callsIn_of_wp Tryz.func93 rfl trivial ?_ rfl
 simp only [Tryz.ntmps93, List.size_toArray, List.length_cons, List.length_nil, Nat.reduceAdd, Nat.reduceSub, Array.replicate_succ, Array.replicate_zero, List.push_toArray, List.append_toArray, List.nil_append, List.cons_append]
 gi_wp2
 gi_loopw [3] (fun i wr => i = .int .i64 (-1) ∧ J [] wr)
  (fun i _ => (intOf i + 1).toNat)
 case atStart => exact ⟨rfl, h0⟩
 case round =>
  obtain ⟨rfl, hJs⟩ := hrel
  gi_wp2
  go_end0
  exact ⟨⟨_, rfl⟩, hJs⟩
set_option maxHeartbeats 1000000 in
theorem BackR_ok (a : Option Addr) (len cap : Nat) (w : World) :
  Calls Tryz.prog 59 #[.slice a len cap] w fun e w' => e = .returned (.func (.func 93) #[] #[.pointer (some ⟨w.heap.size, 0, none⟩)]) ∧ w' = w.alloc (.cells #[.slice a len cap] 105) := by
 go_enter Tryz.func59, Tryz.ntmps59
 go_wp2_with fail
 go_ret
 exact ⟨rfl, rfl⟩
theorem backR_hands (n : Nat) (hn : 1 ≤ n) (Bs b o cap len : Nat) (ao : Option Addr) (hao : ao = some ⟨b, o, none⟩ ∨ len = 0) (hreach : len ≤ 10000000000000) (v0 : Nat → Int) (w : World) (hBw : Bs < w.heap.size) (hbw : b < w.heap.size)
  (hBs : w.cell? ⟨Bs, 0, none⟩ = some (.slice ao len cap)) (hc : ∀ j, j < len → w.cell? ⟨b, o + j, none⟩ = some (.int .i64 (v0 j))) :
  HandsOn Fence.wide n Tryz.prog 93 #[.pointer (some ⟨Bs, 0, none⟩)] (fun x : Nat => #[Value.int .i64 (x : Int), .int .i64 (v0 x)]) (BkR Bs b) (bkN len len) w := fun l J W hW hY h0 => by
 rcases hao with rfl | rfl
 ·exact backR_in n hn l Bs b o cap len hreach v0 J hY W ((hW.cell (p := ⟨Bs, 0, none⟩) hBw).trans hBs) (fun j hj => by
  have t : ∀ z, W.cell? ⟨b, z, none⟩ = w.cell? ⟨b, z, none⟩ := fun z => hW.cell (p := ⟨b, z, none⟩) hbw
  simp only [t]
  exact hc j hj) h0
 ·exact backR_nil n l Bs cap ao J W ((hW.cell (p := ⟨Bs, 0, none⟩) hBw).trans hBs) h0

set_option maxRecDepth 100000 in
set_option maxHeartbeats 4000000 in
theorem backT_in (n : Nat) (hn : 1 ≤ n) (l Bs b o cap len : Nat) (hreach : len ≤ 10000000000000) (v0 : Nat → Int) (v1 : Nat → Nat) (v2 : Nat → Nat) (v3 : Nat → Int) (v4 : Nat → Int) (v5 : Nat → Int) (v6 : Nat → ByteArray) (v7 : Nat → Nat) (v8 : Nat → Nat) (J : List Nat → World → Prop)
  (hY : ∀ (pre : List Nat) (x : Nat) (W : World), J pre W → pre ++ [x] <+: bkN len len → YieldAt Fence.wide (n - 1) Tryz.prog l #[.int .i64 (x : Int), .agg #[.int .i64 (v0 x), .int .u32 ((v1 x : Nat) : Int), .int .u32 ((v2 x : Nat) : Int), .int .i64 (v3 x), .int .i64 (v4 x), .int .i64 (v5 x), .string (v6 x), .int .u32 ((v7 x : Nat) : Int), .int .u32 ((v8 x : Nat) : Int)]] W fun e W' => e = .returned (.bool true) ∧ J (pre ++ [x]) W' ∧ BkR Bs b W W')
  (W : World) (hBs : W.cell? ⟨Bs, 0, none⟩ = some (.slice (some ⟨b, o, none⟩) len cap)) (hc : ∀ j, j < len → W.cell? ⟨b, o + j * 9, none⟩ = some (.int .i64 (v0 j)) ∧ W.cell? ⟨b, o + j * 9 + 1, none⟩ = some (.int .u32 ((v1 j : Nat) : Int)) ∧ W.cell? ⟨b, o + j * 9 + 2, none⟩ = some (.int .u32 ((v2 j : Nat) : Int)) ∧ W.cell? ⟨b, o + j * 9 + 3, none⟩ = some (.int .i64 (v3 j)) ∧ W.cell? ⟨b, o + j * 9 + 4, none⟩ = some (.int .i64 (v4 j)) ∧ W.cell? ⟨b, o + j * 9 + 5, none⟩ = some (.int .i64 (v5 j)) ∧ W.cell? ⟨b, o + j * 9 + 6, none⟩ = some (.string (v6 j)) ∧ W.cell? ⟨b, o + j * 9 + 7, none⟩ = some (.int .u32 ((v7 j : Nat) : Int)) ∧ W.cell? ⟨b, o + j * 9 + 8, none⟩ = some (.int .u32 ((v8 j : Nat) : Int))) (h0 : J [] W) :
  CallsIn Fence.wide n Tryz.prog 58 #[.func (.yield l) #[] #[], .pointer (some ⟨Bs, 0, none⟩)] W fun e W' => (∃ v, e = .returned v) ∧ J (bkN len len) W' := by
 have hw : IntKind.i64.wrap ((len : Int) - 1) = (len : Int) - 1 := IntWalk.i64_in _ ⟨by omega, by omega⟩
 refine callsIn_of_wp Tryz.func58 rfl trivial ?_ rfl
 simp only [Tryz.ntmps58, List.size_toArray, List.length_cons, List.length_nil, Nat.reduceAdd, Nat.reduceSub, Array.replicate_succ, Array.replicate_zero, List.push_toArray, List.append_toArray, List.nil_append, List.cons_append]
 gi_wp2
 gi_loopw [3] (fun i wr => ∃ k : Nat, k ≤ len ∧ i = .int .i64 ((len : Int) - 1 - (k : Int)) ∧ J (bkN len k) wr ∧ wr.cell? ⟨Bs, 0, none⟩ = some (.slice (some ⟨b, o, none⟩) len cap) ∧ ∀ j, j < len → wr.cell? ⟨b, o + j * 9, none⟩ = some (.int .i64 (v0 j)) ∧ wr.cell? ⟨b, o + j * 9 + 1, none⟩ = some (.int .u32 ((v1 j : Nat) : Int)) ∧ wr.cell? ⟨b, o + j * 9 + 2, none⟩ = some (.int .u32 ((v2 j : Nat) : Int)) ∧ wr.cell? ⟨b, o + j * 9 + 3, none⟩ = some (.int .i64 (v3 j)) ∧ wr.cell? ⟨b, o + j * 9 + 4, none⟩ = some (.int .i64 (v4 j)) ∧ wr.cell? ⟨b, o + j * 9 + 5, none⟩ = some (.int .i64 (v5 j)) ∧ wr.cell? ⟨b, o + j * 9 + 6, none⟩ = some (.string (v6 j)) ∧ wr.cell? ⟨b, o + j * 9 + 7, none⟩ = some (.int .u32 ((v7 j : Nat) : Int)) ∧ wr.cell? ⟨b, o + j * 9 + 8, none⟩ = some (.int .u32 ((v8 j : Nat) : Int)))
  (fun i _ => (intOf i + 1).toNat)
 case atStart => exact ⟨0, Nat.zero_le _, by simp, h0, hBs, hc⟩
 case round =>
  obtain ⟨k, hk, rfl, hJs, hBs', hcs'⟩ := hrel
  have HCS := Lib.hid hcs'
  have HBS := Lib.hid hBs'
  by_cases hlt : k < len
  ·obtain ⟨i, hi⟩ : ∃ i : Nat, (len : Int) - 1 - (k : Int) = (i : Int) := ⟨len - 1 - k, by omega⟩
   have hii : i = len - 1 - k := by omega
   have hsucc := bkN_succ len k
   rw [← hii] at hsucc
   obtain ⟨c0, c1, c2, c3, c4, c5, c6, c7, c8⟩ := hcs' i (by omega)
   obtain ⟨fn, tmps, assign, body, hy, hR⟩ := hY _ i wr hJs (by rw [← hsucc]; exact bkN_pre len (by omega))
   have HII := Lib.hid hi
   have HS := Lib.hid hsucc
   have HK := Lib.hid hlt
   rw [hi]
   clear hi hii hcs' hsucc
   generalize v0 i = x0 at *
   generalize v1 i = x1 at *
   generalize v2 i = x2 at *
   generalize v3 i = x3 at *
   generalize v4 i = x4 at *
   generalize v5 i = x5 at *
   generalize v6 i = x6 at *
   generalize v7 i = x7 at *
   generalize v8 i = x8 at *
   have hge : (0 : Int) ≤ (i : Int) := by omega
   have hil : (i : Int) < (len : Int) := by have := HII.out; omega
   have hw1 : IntKind.i64.wrap ((i : Int) - 1) = (i : Int) - 1 := IntWalk.i64_in _ ⟨by omega, by omega⟩
   gi_wp2
   refine hR.mono ?_
   rintro e W3 ⟨rfl, hJ3, hk3⟩
   gi_wp2
   go_roundw
   case rel =>
    exact ⟨k + 1, HK.out, by have := HII.out; exact congrArg (Value.int .i64) (by omega), by rw [HS.out]; exact hJ3, (World.cell?_of_block hk3.1).trans HBS.out, fun j hj => by
     have h := HCS.out j hj
     have t : ∀ z, W3.cell? ⟨b, z, none⟩ = wr.cell? ⟨b, z, none⟩ := fun z => World.cell?_of_block hk3.2
     simp only [t]
     exact h⟩
   case measure => simp [intOf]
  ·obtain rfl : k = len := by omega
   have hneg : ¬ (0 : Int) ≤ (k : Int) - 1 - (k : Int) := by omega
   gi_wp2
   go_end0
   exact ⟨⟨_, rfl⟩, hJs⟩
set_option maxRecDepth 100000 in
set_option maxHeartbeats 4000000 in
theorem backT_nil (n : Nat) (l Bs cap : Nat) (ao : Option Addr) (J : List Nat → World → Prop)
  (W : World) (hBs : W.cell? ⟨Bs, 0, none⟩ = some (.slice ao 0 cap)) (h0 : J [] W) :
  CallsIn Fence.wide n Tryz.prog 58 #[.func (.yield l) #[] #[], .pointer (some ⟨Bs, 0, none⟩)] W fun e W' => (∃ v, e = .returned v) ∧ J (bkN 0 0) W' := by
 refine callsIn_of_wp Tryz.func58 rfl trivial ?_ rfl
 simp only [Tryz.ntmps58, List.size_toArray, List.length_cons, List.length_nil, Nat.reduceAdd, Nat.reduceSub, Array.replicate_succ, Array.replicate_zero, List.push_toArray, List.append_toArray, List.nil_append, List.cons_append]
 gi_wp2
 gi_loopw [3] (fun i wr => i = .int .i64 (-1) ∧ J [] wr)
  (fun i _ => (intOf i + 1).toNat)
 case atStart => exact ⟨rfl, h0⟩
 case round =>
  obtain ⟨rfl, hJs⟩ := hrel
  gi_wp2
  go_end0
  exact ⟨⟨_, rfl⟩, hJs⟩
set_option maxHeartbeats 1000000 in
theorem BackT_ok (a : Option Addr) (len cap : Nat) (w : World) :
  Calls Tryz.prog 26 #[.slice a len cap] w fun e w' => e = .returned (.func (.func 58) #[] #[.pointer (some ⟨w.heap.size, 0, none⟩)]) ∧ w' = w.alloc (.cells #[.slice a len cap] 26) := by
 go_enter Tryz.func26, Tryz.ntmps26
 go_wp2_with fail
 go_ret
 exact ⟨rfl, rfl⟩
theorem backT_hands (n : Nat) (hn : 1 ≤ n) (Bs b o cap len : Nat) (ao : Option Addr) (hao : ao = some ⟨b, o, none⟩ ∨ len = 0) (hreach : len ≤ 10000000000000) (v0 : Nat → Int) (v1 : Nat → Nat) (v2 : Nat → Nat) (v3 : Nat → Int) (v4 : Nat → Int) (v5 : Nat → Int) (v6 : Nat → ByteArray) (v7 : Nat → Nat) (v8 : Nat → Nat) (w : World) (hBw : Bs < w.heap.size) (hbw : b < w.heap.size)
  (hBs : w.cell? ⟨Bs, 0, none⟩ = some (.slice ao len cap)) (hc : ∀ j, j < len → w.cell? ⟨b, o + j * 9, none⟩ = some (.int .i64 (v0 j)) ∧ w.cell? ⟨b, o + j * 9 + 1, none⟩ = some (.int .u32 ((v1 j : Nat) : Int)) ∧ w.cell? ⟨b, o + j * 9 + 2, none⟩ = some (.int .u32 ((v2 j : Nat) : Int)) ∧ w.cell? ⟨b, o + j * 9 + 3, none⟩ = some (.int .i64 (v3 j)) ∧ w.cell? ⟨b, o + j * 9 + 4, none⟩ = some (.int .i64 (v4 j)) ∧ w.cell? ⟨b, o + j * 9 + 5, none⟩ = some (.int .i64 (v5 j)) ∧ w.cell? ⟨b, o + j * 9 + 6, none⟩ = some (.string (v6 j)) ∧ w.cell? ⟨b, o + j * 9 + 7, none⟩ = some (.int .u32 ((v7 j : Nat) : Int)) ∧ w.cell? ⟨b, o + j * 9 + 8, none⟩ = some (.int .u32 ((v8 j : Nat) : Int))) :
  HandsOn Fence.wide n Tryz.prog 58 #[.pointer (some ⟨Bs, 0, none⟩)] (fun x : Nat => #[Value.int .i64 (x : Int), .agg #[.int .i64 (v0 x), .int .u32 ((v1 x : Nat) : Int), .int .u32 ((v2 x : Nat) : Int), .int .i64 (v3 x), .int .i64 (v4 x), .int .i64 (v5 x), .string (v6 x), .int .u32 ((v7 x : Nat) : Int), .int .u32 ((v8 x : Nat) : Int)]]) (BkR Bs b) (bkN len len) w := fun l J W hW hY h0 => by
 rcases hao with rfl | rfl
 ·exact backT_in n hn l Bs b o cap len hreach v0 v1 v2 v3 v4 v5 v6 v7 v8 J hY W ((hW.cell (p := ⟨Bs, 0, none⟩) hBw).trans hBs) (fun j hj => by
  have t : ∀ z, W.cell? ⟨b, z, none⟩ = w.cell? ⟨b, z, none⟩ := fun z => hW.cell (p := ⟨b, z, none⟩) hbw
  simp only [t]
  exact hc j hj) h0
 ·exact backT_nil n l Bs cap ao J W ((hW.cell (p := ⟨Bs, 0, none⟩) hBw).trans hBs) h0

set_option maxRecDepth 100000 in
set_option maxHeartbeats 4000000 in
theorem backU_in (n : Nat) (hn : 1 ≤ n) (l Bs b o cap len : Nat) (hreach : len ≤ 10000000000000) (v0 : Nat → Bool) (v1 : Nat → Int) (v2 : Nat → Nat) (v3 : Nat → Nat) (v4 : Nat → Nat) (v5 : Nat → Nat) (v6 : Nat → Int) (v7 : Nat → Int) (v8 : Nat → Int) (v9 : Nat → Int) (J : List Nat → World → Prop)
  (hY : ∀ (pre : List Nat) (x : Nat) (W : World), J pre W → pre ++ [x] <+: bkN len len → YieldAt Fence.wide (n - 1) Tryz.prog l #[.int .i64 (x : Int), .agg #[.bool (v0 x), .int .i64 (v1 x), .int .u32 ((v2 x : Nat) : Int), .int .u32 ((v3 x : Nat) : Int), .int .u32 ((v4 x : Nat) : Int), .int .u32 ((v5 x : Nat) : Int), .int .i64 (v6 x), .int .i64 (v7 x), .int .i64 (v8 x), .int .i64 (v9 x)]] W fun e W' => e = .returned (.bool true) ∧ J (pre ++ [x]) W' ∧ BkR Bs b W W')
  (W : World) (hBs : W.cell? ⟨Bs, 0, none⟩ = some (.slice (some ⟨b, o, none⟩) len cap)) (hc : ∀ j, j < len → W.cell? ⟨b, o + j * 10, none⟩ = some (.bool (v0 j)) ∧ W.cell? ⟨b, o + j * 10 + 1, none⟩ = some (.int .i64 (v1 j)) ∧ W.cell? ⟨b, o + j * 10 + 2, none⟩ = some (.int .u32 ((v2 j : Nat) : Int)) ∧ W.cell? ⟨b, o + j * 10 + 3, none⟩ = some (.int .u32 ((v3 j : Nat) : Int)) ∧ W.cell? ⟨b, o + j * 10 + 4, none⟩ = some (.int .u32 ((v4 j : Nat) : Int)) ∧ W.cell? ⟨b, o + j * 10 + 5, none⟩ = some (.int .u32 ((v5 j : Nat) : Int)) ∧ W.cell? ⟨b, o + j * 10 + 6, none⟩ = some (.int .i64 (v6 j)) ∧ W.cell? ⟨b, o + j * 10 + 7, none⟩ = some (.int .i64 (v7 j)) ∧ W.cell? ⟨b, o + j * 10 + 8, none⟩ = some (.int .i64 (v8 j)) ∧ W.cell? ⟨b, o + j * 10 + 9, none⟩ = some (.int .i64 (v9 j))) (h0 : J [] W) :
  CallsIn Fence.wide n Tryz.prog 101 #[.func (.yield l) #[] #[], .pointer (some ⟨Bs, 0, none⟩)] W fun e W' => (∃ v, e = .returned v) ∧ J (bkN len len) W' := by
 have hw : IntKind.i64.wrap ((len : Int) - 1) = (len : Int) - 1 := IntWalk.i64_in _ ⟨by omega, by omega⟩
 refine callsIn_of_wp Tryz.func101 rfl trivial ?_ rfl
 simp only [Tryz.ntmps101, List.size_toArray, List.length_cons, List.length_nil, Nat.reduceAdd, Nat.reduceSub, Array.replicate_succ, Array.replicate_zero, List.push_toArray, List.append_toArray, List.nil_append, List.cons_append]
 gi_wp2
 gi_loopw [3] (fun i wr => ∃ k : Nat, k ≤ len ∧ i = .int .i64 ((len : Int) - 1 - (k : Int)) ∧ J (bkN len k) wr ∧ wr.cell? ⟨Bs, 0, none⟩ = some (.slice (some ⟨b, o, none⟩) len cap) ∧ ∀ j, j < len → wr.cell? ⟨b, o + j * 10, none⟩ = some (.bool (v0 j)) ∧ wr.cell? ⟨b, o + j * 10 + 1, none⟩ = some (.int .i64 (v1 j)) ∧ wr.cell? ⟨b, o + j * 10 + 2, none⟩ = some (.int .u32 ((v2 j : Nat) : Int)) ∧ wr.cell? ⟨b, o + j * 10 + 3, none⟩ = some (.int .u32 ((v3 j : Nat) : Int)) ∧ wr.cell? ⟨b, o + j * 10 + 4, none⟩ = some (.int .u32 ((v4 j : Nat) : Int)) ∧ wr.cell? ⟨b, o + j * 10 + 5, none⟩ = some (.int .u32 ((v5 j : Nat) : Int)) ∧ wr.cell? ⟨b, o + j * 10 + 6, none⟩ = some (.int .i64 (v6 j)) ∧ wr.cell? ⟨b, o + j * 10 + 7, none⟩ = some (.int .i64 (v7 j)) ∧ wr.cell? ⟨b, o + j * 10 + 8, none⟩ = some (.int .i64 (v8 j)) ∧ wr.cell? ⟨b, o + j * 10 + 9, none⟩ = some (.int .i64 (v9 j)))
  (fun i _ => (intOf i + 1).toNat)
 case atStart => exact ⟨0, Nat.zero_le _, by simp, h0, hBs, hc⟩
 case round =>
  obtain ⟨k, hk, rfl, hJs, hBs', hcs'⟩ := hrel
  have HCS := Lib.hid hcs'
  have HBS := Lib.hid hBs'
  by_cases hlt : k < len
  ·obtain ⟨i, hi⟩ : ∃ i : Nat, (len : Int) - 1 - (k : Int) = (i : Int) := ⟨len - 1 - k, by omega⟩
   have hii : i = len - 1 - k := by omega
   have hsucc := bkN_succ len k
   rw [← hii] at hsucc
   obtain ⟨c0, c1, c2, c3, c4, c5, c6, c7, c8, c9⟩ := hcs' i (by omega)
   obtain ⟨fn, tmps, assign, body, hy, hR⟩ := hY _ i wr hJs (by rw [← hsucc]; exact bkN_pre len (by omega))
   have HII := Lib.hid hi
   have HS := Lib.hid hsucc
   have HK := Lib.hid hlt
   rw [hi]
   clear hi hii hcs' hsucc
   generalize v0 i = x0 at *
   generalize v1 i = x1 at *
   generalize v2 i = x2 at *
   generalize v3 i = x3 at *
   generalize v4 i = x4 at *
   generalize v5 i = x5 at *
   generalize v6 i = x6 at *
   generalize v7 i = x7 at *
   generalize v8 i = x8 at *
   generalize v9 i = x9 at *
   have hge : (0 : Int) ≤ (i : Int) := by omega
   have hil : (i : Int) < (len : Int) := by have := HII.out; omega
   have hw1 : IntKind.i64.wrap ((i : Int) - 1) = (i : Int) - 1 := IntWalk.i64_in _ ⟨by omega, by omega⟩
   gi_wp2
   refine hR.mono ?_
   rintro e W3 ⟨rfl, hJ3, hk3⟩
   gi_wp2
   go_roundw
   case rel =>
    exact ⟨k + 1, HK.out, by have := HII.out; exact congrArg (Value.int .i64) (by omega), by rw [HS.out]; exact hJ3, (World.cell?_of_block hk3.1).trans HBS.out, fun j hj => by
     have h := HCS.out j hj
     have t : ∀ z, W3.cell? ⟨b, z, none⟩ = wr.cell? ⟨b, z, none⟩ := fun z => World.cell?_of_block hk3.2
     simp only [t]
     exact h⟩
   case measure => simp [intOf]
  ·obtain rfl : k = len := by omega
   have hneg : ¬ (0 : Int) ≤ (k : Int) - 1 - (k : Int) := by omega
   gi_wp2
   go_end0
   exact ⟨⟨_, rfl⟩, hJs⟩
set_option maxRecDepth 100000 in
set_option maxHeartbeats 4000000 in
theorem backU_nil (n : Nat) (l Bs cap : Nat) (ao : Option Addr) (J : List Nat → World → Prop)
  (W : World) (hBs : W.cell? ⟨Bs, 0, none⟩ = some (.slice ao 0 cap)) (h0 : J [] W) :
  CallsIn Fence.wide n Tryz.prog 101 #[.func (.yield l) #[] #[], .pointer (some ⟨Bs, 0, none⟩)] W fun e W' => (∃ v, e = .returned v) ∧ J (bkN 0 0) W' := by
 refine callsIn_of_wp Tryz.func101 rfl trivial ?_ rfl
 simp only [Tryz.ntmps101, List.size_toArray, List.length_cons, List.length_nil, Nat.reduceAdd, Nat.reduceSub, Array.replicate_succ, Array.replicate_zero, List.push_toArray, List.append_toArray, List.nil_append, List.cons_append]
 gi_wp2
 gi_loopw [3] (fun i wr => i = .int .i64 (-1) ∧ J [] wr)
  (fun i _ => (intOf i + 1).toNat)
 case atStart => exact ⟨rfl, h0⟩
 case round =>
  obtain ⟨rfl, hJs⟩ := hrel
  gi_wp2
  go_end0
  exact ⟨⟨_, rfl⟩, hJs⟩
set_option maxHeartbeats 1000000 in
theorem BackU_ok (a : Option Addr) (len cap : Nat) (w : World) :
  Calls Tryz.prog 66 #[.slice a len cap] w fun e w' => e = .returned (.func (.func 101) #[] #[.pointer (some ⟨w.heap.size, 0, none⟩)]) ∧ w' = w.alloc (.cells #[.slice a len cap] 74) := by
 go_enter Tryz.func66, Tryz.ntmps66
 go_wp2_with fail
 go_ret
 exact ⟨rfl, rfl⟩
theorem backU_hands (n : Nat) (hn : 1 ≤ n) (Bs b o cap len : Nat) (ao : Option Addr) (hao : ao = some ⟨b, o, none⟩ ∨ len = 0) (hreach : len ≤ 10000000000000) (v0 : Nat → Bool) (v1 : Nat → Int) (v2 : Nat → Nat) (v3 : Nat → Nat) (v4 : Nat → Nat) (v5 : Nat → Nat) (v6 : Nat → Int) (v7 : Nat → Int) (v8 : Nat → Int) (v9 : Nat → Int) (w : World) (hBw : Bs < w.heap.size) (hbw : b < w.heap.size)
  (hBs : w.cell? ⟨Bs, 0, none⟩ = some (.slice ao len cap)) (hc : ∀ j, j < len → w.cell? ⟨b, o + j * 10, none⟩ = some (.bool (v0 j)) ∧ w.cell? ⟨b, o + j * 10 + 1, none⟩ = some (.int .i64 (v1 j)) ∧ w.cell? ⟨b, o + j * 10 + 2, none⟩ = some (.int .u32 ((v2 j : Nat) : Int)) ∧ w.cell? ⟨b, o + j * 10 + 3, none⟩ = some (.int .u32 ((v3 j : Nat) : Int)) ∧ w.cell? ⟨b, o + j * 10 + 4, none⟩ = some (.int .u32 ((v4 j : Nat) : Int)) ∧ w.cell? ⟨b, o + j * 10 + 5, none⟩ = some (.int .u32 ((v5 j : Nat) : Int)) ∧ w.cell? ⟨b, o + j * 10 + 6, none⟩ = some (.int .i64 (v6 j)) ∧ w.cell? ⟨b, o + j * 10 + 7, none⟩ = some (.int .i64 (v7 j)) ∧ w.cell? ⟨b, o + j * 10 + 8, none⟩ = some (.int .i64 (v8 j)) ∧ w.cell? ⟨b, o + j * 10 + 9, none⟩ = some (.int .i64 (v9 j))) :
  HandsOn Fence.wide n Tryz.prog 101 #[.pointer (some ⟨Bs, 0, none⟩)] (fun x : Nat => #[Value.int .i64 (x : Int), .agg #[.bool (v0 x), .int .i64 (v1 x), .int .u32 ((v2 x : Nat) : Int), .int .u32 ((v3 x : Nat) : Int), .int .u32 ((v4 x : Nat) : Int), .int .u32 ((v5 x : Nat) : Int), .int .i64 (v6 x), .int .i64 (v7 x), .int .i64 (v8 x), .int .i64 (v9 x)]]) (BkR Bs b) (bkN len len) w := fun l J W hW hY h0 => by
 rcases hao with rfl | rfl
 ·exact backU_in n hn l Bs b o cap len hreach v0 v1 v2 v3 v4 v5 v6 v7 v8 v9 J hY W ((hW.cell (p := ⟨Bs, 0, none⟩) hBw).trans hBs) (fun j hj => by
  have t : ∀ z, W.cell? ⟨b, z, none⟩ = w.cell? ⟨b, z, none⟩ := fun z => hW.cell (p := ⟨b, z, none⟩) hbw
  simp only [t]
  exact hc j hj) h0
 ·exact backU_nil n l Bs cap ao J W ((hW.cell (p := ⟨Bs, 0, none⟩) hBw).trans hBs) h0

end Go.Proofs.YtdgnbbmgcgfibaaGreatDoor
