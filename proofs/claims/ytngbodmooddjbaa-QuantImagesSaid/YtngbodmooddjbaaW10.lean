/-
  Walks: 'New' of the package bdd.
-/
import Derived.Test.YtngbodmooddjbaaW7
import Derived.Test.YtngbodmooddjbaaBdd
import Derived.Deep.LoopGhost
import Derived.LoopTactic
namespace Go.Proofs.Ytngbodmooddjbaa
open Go.RowKit

def seenF (S : List Nat) : Int → Option Bool := fun x => if 0 ≤ x ∧ x.toNat ∈ S then some true else none

theorem seenF_cons (S : List Nat) (f : Nat) : (fun x : Int => if x = (f : Int) then some true else seenF S x) = seenF (f :: S) := by
  funext x
  unfold seenF
  by_cases e : x = (f : Int)
  · subst e; simp
  · rw [if_neg e]
    by_cases h0 : 0 ≤ x
    · have : x.toNat ≠ f := by omega
      simp [this]
    · simp [h0]

theorem seenF_at (S : List Nat) (f : Nat) : seenF S (f : Int) = if f ∈ S then some true else none := by
  unfold seenF; simp

theorem zeroBool (w : World) : (zeroValue 4).run Try.prog w = .ok (.bool false) w := by kernel_rfl

def WPost (J : World → List Nat → Prop) (bs : Nat) (st : List Nat × List Nat) (e : Ending) (w' : World) : Prop :=
  e = .returned (.tuple #[]) ∧ J w' st.2 ∧ MapAs w' bs intV Value.bool (seenF st.1)

/-- What 'walk' asks of the function that it calls. -/
structure Visits (M : Mgr) (p : Nat) (L : Lay) (bs : Nat) (fid : Nat) (caps : Array Value) (bd : Nat) (J : World → List Nat → Prop) : Prop where
  go : ∀ (w : World) (f : Int), (callFunc fid (#[.int .i64 f] ++ caps)).run Try.prog w = .ok (.enter fid (#[.int .i64 f] ++ caps)) w
  rep : ∀ w V, J w V → Rep w p M L
  kp : ∀ w w' V, J w V → Kp (fun k => k = bs) w w' → J w' V
  call : ∀ w V f S, J w V → M.stored f → 2 ≤ f → V.length < bd → MapAs w bs intV Value.bool (seenF S) →
    Calls Try.prog fid (#[.int .i64 (f : Int)] ++ caps) w (WPost J bs (S, V ++ [f]))

set_option maxRecDepth 100000 in
set_option maxHeartbeats 1000000 in
theorem walk_step {M : Mgr} {p : Nat} {L : Lay} {bs fid bd : Nat} {caps : Array Value} {J : World → List Nat → Prop} (vis : Visits M p L bs fid caps bd J) {k : Nat}
    (ih : ∀ (f : Nat) (w : World) (S V : List Nat), M.n - M.depth f < k → M.stored f → J w V → MapAs w bs intV Value.bool (seenF S) → (M.walkS k (S, V) f).2.length ≤ bd →
      Calls Try.prog 72 #[ptr p, .int .i64 f, .map (some bs), .func (.func fid) #[] caps] w (WPost J bs (M.walkS k (S, V) f)))
    (f : Nat) (w : World) (S V : List Nat) (hk : M.n - M.depth f < k + 1) (hf : M.stored f) (hJ : J w V) (hm : MapAs w bs intV Value.bool (seenF S)) (hb : (M.walkS (k + 1) (S, V) f).2.length ≤ bd) :
    Calls Try.prog 72 #[ptr p, .int .i64 f, .map (some bs), .func (.func fid) #[] caps] w (WPost J bs (M.walkS (k + 1) (S, V) f)) := by
  have IH := Lib.hid ih
  have VIS := Lib.hid vis
  clear ih vis
  by_cases h2 : f < 2
  · have e : M.walkS (k + 1) (S, V) f = (S, V) := by unfold Mgr.walkS; rw [if_pos (.inl h2)]
    rw [e]
    have POST : Hid (WPost J bs (S, V) (.returned (.tuple #[])) w) := ⟨rfl, hJ, hm⟩
    clear hm hJ e hk hf hb
    go_enter Try.func72, Try.ntmps72
    go_wp2_with (go_at_call 109; refine (constant_yes _ _ h2).mono ?_; rintro e w' ⟨rfl, rfl⟩)
    go_end0
    exact POST.out
  · have h2' : 2 ≤ f := by omega
    have hlk := hm.lookup keyRef Try.underlying119 zeroBool (f : Int) false
    rw [seenF_at] at hlk
    by_cases hs : f ∈ S
    · have e : M.walkS (k + 1) (S, V) f = (S, V) := by unfold Mgr.walkS; rw [if_pos (.inr hs)]
      rw [e]
      have POST : Hid (WPost J bs (S, V) (.returned (.tuple #[])) w) := ⟨rfl, hJ, hm⟩
      have lk1 : (Instr.lookup 119 (.map (some bs)) (.int .i64 f) false).run Try.prog w = .ok (.bool true) w := by rw [if_pos hs] at hlk; exact hlk
      clear hm hJ e hk hf hlk hb
      go_enter Try.func72, Try.ntmps72
      go_wp2_with (go_at_call 109; refine (constant_no _ _ h2').mono ?_; rintro e w' ⟨rfl, rfl⟩)
      go_end0
      exact POST.out
    · have e : M.walkS (k + 1) (S, V) f = ((M.walkS k (M.walkS k (f :: S, V) (M.nd f).2.1) (M.nd f).2.2).1, (M.walkS k (M.walkS k (f :: S, V) (M.nd f).2.1) (M.nd f).2.2).2 ++ [f]) := by
        conv => lhs; unfold Mgr.walkS
        rw [if_neg (by simp; exact ⟨by omega, hs⟩)]
      rw [e] at hb ⊢
      simp only [List.length_append, List.length_singleton] at hb
      have l1 := M.walkS_len k (M.walkS k (f :: S, V) (M.nd f).2.1) (M.nd f).2.2
      have HB1 : Hid ((M.walkS k (f :: S, V) (M.nd f).2.1).2.length ≤ bd) := Lib.hid (by omega)
      have HB2 : Hid ((M.walkS k (M.walkS k (f :: S, V) (M.nd f).2.1) (M.nd f).2.2).2.length < bd) := Lib.hid (by omega)
      have lk1 : (Instr.lookup 119 (.map (some bs)) (.int .i64 f) false).run Try.prog w = .ok (.bool false) w := by rw [if_neg hs] at hlk; exact hlk
      have R := VIS.out.rep w V hJ
      obtain ⟨_, _, sl, sh, _, dl, dh⟩ := Mgr.node_of R.wf hf h2'
      have q1 := Mgr.depth_le R.wf sl
      have q2 := Mgr.depth_le R.wf sh
      obtain ⟨w1, hup, hm1, hk1, _⟩ := hm.update keyRef Try.underlying119 (f : Int) true
      have up : (Instr.mapUpdate 119 (.map (some bs)) (.int .i64 f) (.bool true)).run Try.prog w = .ok () w1 := hup 0
      rw [seenF_cons] at hm1
      have J1 := VIS.out.kp w w1 V hJ hk1
      have lt := M.stored_lt R.wf hf
      have cells : ∀ (x : World) (U : List Nat), J x U → ∃ bn cn, x.cell? ⟨p, 2, none⟩ = some (.slice (some ⟨bn, 0, none⟩) M.nodes.length cn) ∧ M.nodes.length ≤ 9223372036854775807 ∧
          x.cell? ⟨bn, f * 3 + 1, none⟩ = some (.int .i64 ((M.nd f).2.1 : Int)) ∧ x.cell? ⟨bn, f * 3 + 2, none⟩ = some (.int .i64 ((M.nd f).2.2 : Int)) := by
        intro x U hx
        have Rx := VIS.out.rep x U hx
        obtain ⟨F, raw, _⟩ := Rx.raw
        obtain ⟨bn, cn, hsn, hcn, hcm, hnd⟩ := raw.node_cells Rx.wf
        obtain ⟨_, n1, n2⟩ := hnd f lt
        have c2 := raw.c2
        rw [hsn] at c2
        have := maxLen_val
        exact ⟨bn, cn, c2, by omega, n1, n2⟩
      have CELLS := Lib.hid cells
      have b1 : (f : Int) < M.nodes.length := by omega
      obtain ⟨bn, cn, c2, hle, n1, n2⟩ := cells w1 V J1
      have HJ1 := Lib.hid J1
      have HM1 := Lib.hid hm1
      have SL := Lib.hid sl
      have SH := Lib.hid sh
      have HF := Lib.hid hf
      have QL : Hid (M.n - M.depth (M.nd f).2.1 < k) := Lib.hid (by omega)
      have QH : Hid (M.n - M.depth (M.nd f).2.2 < k) := Lib.hid (by omega)
      clear hm hJ e hk hf hlk R sl sh dl dh q1 q2 hup hm1 hk1 J1 cells hs h2 hb l1
      generalize M.nodes.length = nn at *
      go_enter Try.func72, Try.ntmps72
      go_wp2_with (go_at_call 109; refine (constant_no _ _ h2').mono ?_; rintro e w' ⟨rfl, rfl⟩)
      refine (IH.out _ w1 (f :: S) V QL.out SL.out HJ1.out HM1.out HB1.out).mono ?_
      rintro e w2 ⟨rfl, J2, hm2⟩
      clear c2 n1 n2 HJ1 HM1 up lk1 HB1
      generalize hst1 : M.walkS k (f :: S, V) (M.nd f).2.1 = st1 at *
      clear hst1
      obtain ⟨bn2, cn2, c2, _, n1, n2⟩ := CELLS.out w2 _ J2
      have HJ2 := Lib.hid J2
      have HM2 := Lib.hid hm2
      clear J2 hm2
      go_wp2_with fail
      refine (IH.out _ w2 st1.1 st1.2 QH.out SH.out HJ2.out HM2.out (Nat.le_of_lt HB2.out)).mono ?_
      rintro e w3 ⟨rfl, J3, hm3⟩
      clear c2 n1 n2 HJ2 HM2
      have e12 : (st1.1, st1.2) = st1 := rfl
      rw [e12] at J3 hm3
      generalize hst2 : M.walkS k st1 (M.nd f).2.2 = st2 at *
      have HST2 := Lib.hid hst2
      clear hst2
      have HC := Lib.hid (VIS.out.call w3 st2.2 f st2.1 J3 HF.out h2' HB2.out hm3)
      have hgo := VIS.out.go w3 (f : Int)
      clear J3 hm3
      go_wp2_with fail
      refine HC.out.mono ?_
      rintro e w4 ⟨rfl, J4, hm4⟩
      have POST : Hid (WPost J bs (st2.1, st2.2 ++ [f]) (.returned (.tuple #[])) w4) := ⟨rfl, J4, hm4⟩
      clear J4 hm4 hgo
      go_wp2_with fail
      go_end0
      exact POST.out

theorem walk_ok {M : Mgr} {p : Nat} {L : Lay} {bs fid bd : Nat} {caps : Array Value} {J : World → List Nat → Prop} (vis : Visits M p L bs fid caps bd J) : ∀ (k f : Nat) (w : World) (S V : List Nat),
    M.n - M.depth f < k → M.stored f → J w V → MapAs w bs intV Value.bool (seenF S) → (M.walkS k (S, V) f).2.length ≤ bd →
    Calls Try.prog 72 #[ptr p, .int .i64 f, .map (some bs), .func (.func fid) #[] caps] w (WPost J bs (M.walkS k (S, V) f))
  | 0, f, w, S, V, hk, hf, hJ, hm, hb => by omega
  | k + 1, f, w, S, V, hk, hf, hJ, hm, hb => walk_step vis (fun f w S V hk hf hJ hm hb => walk_ok vis k f w S V hk hf hJ hm hb) f w S V hk hf hJ hm hb

end Go.Proofs.Ytngbodmooddjbaa

namespace Go.Proofs.Ytngbodmooddjbaa
open Go.RowKit

/-! ### Size -/
/-- The state while 'Size' counts. -/
structure SizeJ (w0 : World) (p : Nat) (M : Mgr) (L : Lay) (B bs : Nat) (w : World) (V : List Nat) : Prop where
  rep : Rep w p M L
  kp : Kp (fun k => k = B ∨ k = bs) w0 w
  box : w.heap[B]? = some (.cells #[.int .i64 (V.length : Int)] 3 (0, 0))

set_option maxHeartbeats 400000 in
theorem size_visit {w0 : World} {p : Nat} {M : Mgr} {L : Lay} {B bs : Nat} (hbs : B ≠ bs) (hBL : ¬ L.at p B) (w : World) (V : List Nat) (f : Nat) (S : List Nat) (hJ : SizeJ w0 p M L B bs w V) (hl : V.length < 9223372036854775807)
    (hm : MapAs w bs intV Value.bool (seenF S)) :
    Calls Try.prog 77 (#[.int .i64 (f : Int)] ++ #[.pointer (some ⟨B, 0, none⟩)]) w (WPost (SizeJ w0 p M L B bs) bs (S, V ++ [f])) := by
  have c : w.cell? ⟨B, 0, none⟩ = some (.int .i64 (V.length : Int)) := by simp [World.cell?, hJ.box]
  have z : w.frozen? ⟨B, 0, none⟩ = false := by simp [World.frozen?, hJ.box]
  have POST : Hid (WPost (SizeJ w0 p M L B bs) bs (S, V ++ [f]) (.returned (.tuple #[])) (w.setCell ⟨B, 0, none⟩ (.int .i64 ((V.length : Int) + 1)))) := by
    have hk : Kp (fun k => k = B) w (w.setCell ⟨B, 0, none⟩ (.int .i64 ((V.length : Int) + 1))) := (Kp.setCell _ _).mono (fun _ _ e => e)
    refine ⟨rfl, ⟨hJ.rep.kp hk (fun k e => by rw [e]; exact hBL), (hJ.kp.trans (A' := fun k => k = B ∨ k = bs) (fun k h => .inl h) (hk.mono (fun k _ e => .inl e))), ?_⟩, hm.kp hk (fun e => hbs e.symm)⟩
    rw [setCell_heap hJ.box]
    simp
  clear hJ hm
  show Calls Try.prog 77 #[.int .i64 (f : Int), .pointer (some ⟨B, 0, none⟩)] w _
  generalize V.length = n at *
  go_enter Try.func77, Try.ntmps77
  go_wp2
  go_end0
  exact POST.out

theorem seenF_nil : seenF [] = fun _ => none := by funext x; simp [seenF]

def Mgr.sizeM (M : Mgr) (f : Int) : Nat := if M.valid f = true then M.size f.toNat else 0

set_option maxRecDepth 100000 in
set_option maxHeartbeats 400000 in
theorem Size_ok {p : Nat} {M : Mgr} {L : Lay} (f : Int) {w : World} (R : Rep w p M L) :
    Calls Try.prog 31 #[ptr p, .int .i64 f] w fun e w' => e = .returned (.int .i64 (M.sizeM f : Int)) ∧ Kp No w w' := by
  by_cases hf : M.valid f = true
  · have e : M.sizeM f = M.size f.toNat := if_pos hf
    rw [e]
    obtain ⟨n, rfl, sf, _⟩ := Mgr.valid_nat R.wf hf
    rw [Int.toNat_natCast]
    have hmm := @run_makeMap Try.prog
    have SF := Lib.hid hf
    have hle : M.nodes.length ≤ 9223372036854775807 := by
      obtain ⟨F, raw, _⟩ := R.raw
      obtain ⟨a, c, _, h⟩ := ownsRow_len raw.nodes
      have := maxLen_val
      omega
    have hsz := M.size_le R.wf sf
    have HSZ : Hid ((M.walkS (M.n + 1) ([], []) n).2.length ≤ 9223372036854775807) := Lib.hid (by show M.size n ≤ _; omega)
    -- the blocks of the call's own
    have R2 : Rep ((w.alloc (.cells #[.int .i64 0] 3)).alloc (.map #[] 0)) p M L := (R.no (Kp.alloc _)).no (Kp.alloc _)
    have hBL : ¬ L.at p w.heap.size := fun h => by have := R.lt _ h; omega
    have hbL : ¬ L.at p (w.heap.size + 1) := fun h => by have := R.lt _ h; omega
    have hbx : ((w.alloc (.cells #[.int .i64 0] 3)).alloc (.map #[] 0)).heap[w.heap.size]? = some (.cells #[.int .i64 0] 3 (0, 0)) := by
      rw [Below.heap_alloc _ _ _ (by simp)]; exact heap_alloc_new _ _
    have J0 : SizeJ w p M L w.heap.size (w.heap.size + 1) ((w.alloc (.cells #[.int .i64 0] 3)).alloc (.map #[] 0)) [] :=
      ⟨R2, ((Kp.alloc _).trans_no (Kp.alloc _)).of_no, hbx⟩
    have hm0 : MapAs ((w.alloc (.cells #[.int .i64 0] 3)).alloc (.map #[] 0)) (w.heap.size + 1) intV Value.bool (seenF []) := by
      have := MapAs.empty (w.alloc (.cells #[.int .i64 0] 3)) intV Value.bool
      rw [← seenF_nil] at this
      simpa using this
    have vis : Visits M p L (w.heap.size + 1) 77 #[.pointer (some ⟨w.heap.size, 0, none⟩)] 9223372036854775807 (SizeJ w p M L w.heap.size (w.heap.size + 1)) :=
      ⟨fun w f => by kernel_rfl, fun _ _ h => h.rep, fun w1 w2 V h k => ⟨h.rep.kp k (fun x e => by rw [e]; exact hbL), h.kp.trans (A' := fun k => k = w.heap.size ∨ k = w.heap.size + 1) (fun k h => .inl h) (k.mono (fun x _ e => .inr e)), by
        rw [k.block _ (heap_lt h.box) (by omega)]; exact h.box⟩,
        fun w1 V f S h _ _ hl hm => size_visit (by omega) hBL w1 V f S h hl hm⟩
    have CALL := Lib.hid (walk_ok vis (M.n + 1) n _ [] [] (by omega) sf J0 hm0 HSZ.out)
    have FIN : Hid (∀ (w' : World) (V : List Nat), SizeJ w p M L w.heap.size (w.heap.size + 1) w' V → Kp No w w') := Lib.hid (fun w' V h => h.kp.mono (fun k hk e => by rcases e with e | e <;> omega))
    clear vis J0 hm0 hbx R2 hBL hbL hsz hle HSZ sf hf e
    go_enter Try.func31, Try.ntmps31
    go_wp2_with fail
    refine (valid_as _ true R SF.out).mono ?_
    rintro e w' ⟨rfl, rfl⟩
    go_wp2_with fail
    refine CALL.out.mono ?_
    rintro e w1 ⟨rfl, J1, hm1⟩
    have c1 : w1.cell? ⟨w.heap.size, 0, none⟩ = some (.int .i64 (((M.walkS (M.n + 1) ([], []) n).2.length : Nat) : Int)) := by simp [World.cell?, J1.box]
    have K1 := Lib.hid (FIN.out _ _ J1)
    have e2 : (M.walkS (M.n + 1) ([], []) n).2.length = M.size n := rfl
    rw [e2] at c1
    clear J1 hm1 e2
    go_wp2_with fail
    go_ret
    exact ⟨rfl, K1.out⟩
  · have e : M.sizeM f = 0 := if_neg hf
    rw [e]
    have SF : Hid (M.valid f = false) := Lib.hid (by simpa using hf)
    clear hf e
    go_enter Try.func31, Try.ntmps31
    go_wp2_with fail
    refine (valid_as _ false R SF.out).mono ?_
    rintro e w' ⟨rfl, rfl⟩
    go_wp2_with fail
    go_ret
    exact ⟨rfl, Kp.refl _ _⟩

/-! ### Eval -/
/-- A slice of bools that reads as a list. -/
def Bools (w : World) (v : Value) (l : List Bool) : Prop :=
  ∃ ao c, v = .slice ao l.length c ∧ l.length ≤ maxLen ∧ (l = [] ∨ ∃ g o, ao = some ⟨g, o, none⟩ ∧ ∀ i b, l[i]? = some b → w.cell? ⟨g, o + i, none⟩ = some (.bool b))

theorem Bools.kp {A : Nat → Prop} {w w' : World} {v : Value} {l : List Bool} (h : Bools w v l) (hk : Kp A w w') (hA : ∀ g o n c, v = .slice (some ⟨g, o, none⟩) n c → ¬ A g) : Bools w' v l := by
  obtain ⟨ao, c, hv, hl, h⟩ := h
  refine ⟨ao, c, hv, hl, ?_⟩
  rcases h with h | ⟨g, o, rfl, h⟩
  · exact .inl h
  · refine .inr ⟨g, o, rfl, fun i b hi => ?_⟩
    have h0 := h i b hi
    rw [hk.cell (World.block_lt_of_cell? _ _ h0) (hA g o _ _ hv)]
    exact h0
theorem Bools.no {w w' : World} {v : Value} {l : List Bool} (h : Bools w v l) (hk : Kp No w w') : Bools w' v l := h.kp hk (fun _ _ _ _ _ x => x)

theorem Bools.of_row {w : World} {base : Nat} {v : Value} {l : List Bool} {e : TypeId} (h : w.ownsRow base e 1 v l.length (l.map .bool)) : Bools w v l := by
  rcases h.2 with ⟨rfl, h0⟩ | ⟨g, cap, cur, rfl, hb, hg, h1, h2, h3, h4⟩
  · exact ⟨none, 0, by rw [h0], by rw [h0]; simp, .inl (List.eq_nil_of_length_eq_zero h0)⟩
  · by_cases e : l = []
    · exact ⟨_, _, rfl, Nat.le_trans h1 h2, .inl e⟩
    · obtain ⟨g', cap', hv, _, _, _, hc, _⟩ := ownsRow_open h (List.length_pos_iff.2 e)
      cases hv
      refine ⟨_, _, rfl, Nat.le_trans h1 h2, .inr ⟨g, 0, rfl, fun i b hi => ?_⟩⟩
      rw [Nat.zero_add]
      exact hc i _ (by simp [hi])

/-- The assignment that a list is: what it lacks is false. -/
def asg (l : List Bool) : Nat → Bool := fun v => l.getD v false

def Mgr.evalM (M : Mgr) (f : Int) (l : List Bool) : Bool := if M.valid f = true then M.sem f.toNat (asg l) else false

def EvR (M : Mgr) (n : Nat) (l : List Bool) (w : World) (k : Nat) (s : Value) (wr : World) : Prop :=
  ∃ f : Nat, s = .int .i64 (f : Int) ∧ M.stored f ∧ M.n - M.depth f < k ∧ M.sem f (asg l) = M.sem n (asg l) ∧ Kp No w wr

set_option maxRecDepth 100000 in
set_option maxHeartbeats 1000000 in
theorem Eval_ok {p : Nat} {M : Mgr} {L : Lay} (f : Int) {v : Value} {l : List Bool} {w : World} (R : Rep w p M L) (hl : Bools w v l) :
    Calls Try.prog 76 #[ptr p, .int .i64 f, v] w fun e w' => e = .returned (.bool (M.evalM f l)) ∧ Kp No w w' := by
  by_cases hf : M.valid f = true
  · have e : M.evalM f l = M.sem f.toNat (asg l) := if_pos hf
    rw [e]
    obtain ⟨n, rfl, sf, _⟩ := Mgr.valid_nat R.wf hf
    rw [Int.toNat_natCast]
    have SF := Lib.hid hf
    have ST := Lib.hid sf
    have BL := Lib.hid hl
    obtain ⟨ao, c, rfl, hlen, _⟩ := hl
    have hm := maxLen_val
    have hle : l.length ≤ 9223372036854775807 := by omega
    have RR := Lib.hid R
    clear hf sf e hm hlen R
    go_enter Try.func76, Try.ntmps76
    go_wp2_with fail
    refine (valid_as _ true RR.out SF.out).mono ?_
    rintro e w' ⟨rfl, rfl⟩
    go_wp2_with fail
    go_loopg [1] (M.n + 1) (fun k s wr => EvR M n l w k s wr)
    case atStart => exact ⟨n, rfl, ST.out, by omega, rfl, Kp.refl _ _⟩
    case round =>
      obtain ⟨f, rfl, sf, hk, hs, kp⟩ := hrel
      have Rw := RR.out.no kp
      by_cases h2 : f < 2
      · have HS : Hid (M.sem n (asg l) = ((f : Int) == 1)) := Lib.hid (by
          rw [← hs, M.sem_const _ _ h2, Bool.eq_iff_iff]; simp; omega)
        have KP := Lib.hid kp
        clear hs sf hk kp
        go_wp2_with fail
        refine (constant_yes _ _ h2).mono ?_
        rintro e w' ⟨rfl, rfl⟩
        go_wp2_with fail
        go_ret
        exact ⟨by rw [HS.out]; rfl, KP.out⟩
      · have h2' : 2 ≤ f := by omega
        obtain ⟨F, raw, _⟩ := Rw.raw
        obtain ⟨bn, cn, hsn, hcn, hcm, hnd⟩ := raw.node_cells Rw.wf
        have lt := M.stored_lt Rw.wf sf
        obtain ⟨n0, n1, n2⟩ := hnd f lt
        obtain ⟨v0, v1, sl, sh, _, dl, dh⟩ := Mgr.node_of Rw.wf sf h2'
        have hsem := Mgr.sem_node Rw.wf sf h2' (asg l)
        have q1 := Mgr.depth_le Rw.wf sl
        have q2 := Mgr.depth_le Rw.wf sh
        have c2 := raw.c2
        rw [hsn] at c2
        have hm := maxLen_val
        have hle2 : M.nodes.length ≤ 9223372036854775807 := by omega
        have b1 : (f : Int) < M.nodes.length := by omega
        have bnlt := World.block_lt_of_cell? _ _ n0
        unfold natV at n1 n2
        obtain ⟨x, hx⟩ := Int.eq_ofNat_of_zero_le v0
        rw [hx] at n0 hsem
        simp only [Int.toNat_natCast] at hsem
        have REL : Hid (∀ (g : Nat) (w' : World), M.stored g → M.depth f < M.depth g → M.depth g ≤ M.n → M.sem g (asg l) = M.sem f (asg l) → Kp No wr w' → ∃ k', k' < gk ∧ EvR M n l w k' (.int .i64 (g : Int)) w') := Lib.hid (fun g w' sg dg dn e kw =>
          ⟨M.n - M.depth g + 1, by omega, g, rfl, sg, by omega, e.trans hs, kp.trans_no kw⟩)
        have bl := BL.out.no kp
        have SL := Lib.hid sl
        have SH := Lib.hid sh
        have DL := Lib.hid dl
        have DH := Lib.hid dh
        have Q1 := Lib.hid q1
        have Q2 := Lib.hid q2
        by_cases hxl : x < l.length
        · obtain ⟨ao', c', hv', _, hcells⟩ := bl
          cases hv'
          rcases hcells with hcells | ⟨g, o, rfl, hcells⟩
          · subst hcells; simp at hxl
          have hb := hcells x (l[x]) (by simp [hxl])
          have hxi : (x : Int) < l.length := by omega
          have hav : asg l x = l[x] := by simp [asg, hxl]
          have glt := World.block_lt_of_cell? _ _ hb
          simp only [hav] at hsem
          cases hbx : l[x] with
          | true =>
            rw [hbx] at hb
            simp only [hbx] at hsem
            have HSE : Hid (M.sem f (asg l) = M.sem (M.nd f).2.2 (asg l)) := Lib.hid (by rw [hsem]; simp)
            clear raw hsn hnd hcn hcm hm sl sh dl dh hsem v0 v1 hx hs kp hk sf Rw lt h2 hcells hav hbx q1 q2
            generalize M.nodes.length = nn at *
            generalize l.length = ll at *
            go_wp2_with fail
            refine (constant_no _ _ h2').mono ?_
            rintro e w' ⟨rfl, rfl⟩
            go_wp2_with fail
            obtain ⟨k', hk', hrel⟩ := REL.out _ _ SH.out DH.out Q2.out HSE.out.symm (Kp.alloc _)
            go_roundg k'
            case measure => exact hk'
            case rel => exact hrel
          | false =>
            rw [hbx] at hb
            simp only [hbx] at hsem
            have HSE : Hid (M.sem f (asg l) = M.sem (M.nd f).2.1 (asg l)) := Lib.hid (by rw [hsem]; simp)
            clear raw hsn hnd hcn hcm hm sl sh dl dh hsem v0 v1 hx hs kp hk sf Rw lt h2 hcells hav hbx q1 q2
            generalize M.nodes.length = nn at *
            generalize l.length = ll at *
            go_wp2_with fail
            refine (constant_no _ _ h2').mono ?_
            rintro e w' ⟨rfl, rfl⟩
            go_wp2_with fail
            obtain ⟨k', hk', hrel⟩ := REL.out _ _ SL.out DL.out Q1.out HSE.out.symm (Kp.alloc _)
            go_roundg k'
            case measure => exact hk'
            case rel => exact hrel
        · have hav : asg l x = false := by simp [asg, List.getElem?_eq_none (Nat.le_of_not_lt hxl)]
          simp only [hav] at hsem
          have HSE : Hid (M.sem f (asg l) = M.sem (M.nd f).2.1 (asg l)) := Lib.hid (by rw [hsem]; simp)
          have hxi : ¬ (x : Int) < l.length := by omega
          have hxd : decide ((x : Int) < (l.length : Int)) = false := by simp; omega
          clear raw hsn hnd hcn hcm hm sl sh dl dh hsem v0 v1 hx hs kp hk sf bl Rw lt h2 hav q1 q2
          generalize M.nodes.length = nn at *
          generalize l.length = ll at *
          go_wp2_with fail
          refine (constant_no _ _ h2').mono ?_
          rintro e w' ⟨rfl, rfl⟩
          go_wp2_with fail
          obtain ⟨k', hk', hrel⟩ := REL.out _ _ SL.out DL.out Q1.out HSE.out.symm (Kp.alloc _)
          go_roundg k'
          case measure => exact hk'
          case rel => exact hrel
  · have e : M.evalM f l = false := if_neg hf
    rw [e]
    have SF : Hid (M.valid f = false) := Lib.hid (by simpa using hf)
    clear hf e hl
    go_enter Try.func76, Try.ntmps76
    go_wp2_with fail
    refine (valid_as _ false R SF.out).mono ?_
    rintro e w' ⟨rfl, rfl⟩
    go_wp2_with fail
    go_ret
    exact ⟨rfl, Kp.refl _ _⟩

end Go.Proofs.Ytngbodmooddjbaa

namespace Go.Proofs.Ytngbodmooddjbaa
open Go.RowKit

/-- A new manager. -/
def Mgr.new (n : Nat) : Mgr := { order := List.range n, level := List.range n, nodes := [(-1, 0, 0), (-1, 0, 0)], shown := [true, true], free := [] }

theorem Mgr.new_wf (n : Nat) : (Mgr.new n).WF where
  len := rfl
  ol := fun v hv => by
    have : v < n := by simpa [Mgr.n, Mgr.new] using hv
    simp [Mgr.lev, Mgr.ord, Mgr.new, Mgr.n, this]
  lo_ := fun v hv => by
    have : v < n := by simpa [Mgr.n, Mgr.new] using hv
    simp [Mgr.lev, Mgr.ord, Mgr.new, Mgr.n, this]
  two := by simp [Mgr.new]
  nd0 := rfl
  nd1 := rfl
  sh := rfl
  sh0 := rfl
  sh1 := rfl
  shst := fun f hf => by
    rcases Nat.lt_or_ge f 2 with h | h
    · exact .inl h
    · have : (Mgr.new n).vis f = false := by
        unfold Mgr.vis
        simp only [Mgr.new, List.getD_eq_getElem?_getD]
        rw [List.getElem?_eq_none (by simpa using h)]; rfl
      rw [this] at hf; cases hf
  node := fun f h2 hl => by
    have : f < 2 := by simpa [Mgr.new] using hl
    omega
  inj := fun f g h2 _ hl => by
    have : f < 2 := by simpa [Mgr.new] using hl
    omega
  fr := fun f hf => by simp [Mgr.new] at hf
  fnd := by simp [Mgr.new]

theorem Mgr.new_uq (n : Nat) : (Mgr.new n).uq = fun _ => none := by
  funext x
  unfold Mgr.uq
  split
  · cases h : (Mgr.new n).find (x.1, x.2.1.toNat, x.2.2.toNat) with
    | none => rfl
    | some r =>
      obtain ⟨h2, hl, _⟩ := Mgr.find_some h
      have : r < 2 := by simpa [Mgr.new] using hl
      omega
  · rfl

section
variable {w : World} {p : Nat} {L : Lay} {order level : List Nat} {nodes : List Nd} {shown : List Bool} {free : List Nat} {U F : Trip → Option Nat}
theorem Raw.pushOrder {w' : World} {v : Value} (R : Raw w p L order level nodes shown free U F) (hk : Kp (fun k => L.so.ownBlock = some k) w w') (order' : List Nat)
    (hn : w'.ownsRow 0 3 1 v order'.length (order'.map natV)) (hd : ∀ k, L.sl.ownBlock = some k → L.so.ownBlock ≠ some k) : Raw (w'.setCell ⟨p, 0, none⟩ v) p { L with so := v } order' level nodes shown free U F := by
  have mg : w'.heap[p]? = _ := (hk.block p R.plt (R.row_mgr R.order (by decide))).trans R.mgr
  have np : v.ownBlock ≠ some p := fun e => by
    obtain ⟨c1, g1⟩ := ownsRow_block hn e
    rw [mg] at g1
    cases g1
  have row : ∀ {e s n u x}, e ≠ 3 → e ≠ 95 → w.ownsRow 0 e s u n x → (w'.setCell ⟨p, 0, none⟩ v).ownsRow 0 e s u n x := fun h1 h2 h =>
    ownsRow_set (ownsRow_kp h hk (fun k e x => row_ne h R.order h1 e x)) (R.row_mgr h h2)
  exact {
    mgr := by rw [setCell_heap mg]; rfl
    order := ownsRow_set hn np
    level := ownsRow_set (ownsRow_kp R.level hk hd) (R.row_mgr R.level (by decide))
    nodes := row (by decide) (by decide) R.nodes
    shown := row (by decide) (by decide) R.shown
    free := row (by decide) (by decide) R.free
    uniq := (R.uniq.kp hk (row_map R.order R.uniq)).kp (Kp.setCell _ _) (fun x => R.map_ne R.uniq x)
    memo := (R.memo.kp hk (row_map R.order R.memo)).kp (Kp.setCell _ _) (fun x => R.map_ne R.memo x)
    ne := R.ne }

theorem Raw.pushLevel {w' : World} {v : Value} (R : Raw w p L order level nodes shown free U F) (hk : Kp (fun k => L.sl.ownBlock = some k) w w') (level' : List Nat)
    (hn : w'.ownsRow 0 3 1 v level'.length (level'.map natV)) (hd : ∀ k, L.so.ownBlock = some k → L.sl.ownBlock ≠ some k) : Raw (w'.setCell ⟨p, 1, none⟩ v) p { L with sl := v } order level' nodes shown free U F := by
  have mg : w'.heap[p]? = _ := (hk.block p R.plt (R.row_mgr R.level (by decide))).trans R.mgr
  have np : v.ownBlock ≠ some p := fun e => by
    obtain ⟨c1, g1⟩ := ownsRow_block hn e
    rw [mg] at g1
    cases g1
  have row : ∀ {e s n u x}, e ≠ 3 → e ≠ 95 → w.ownsRow 0 e s u n x → (w'.setCell ⟨p, 1, none⟩ v).ownsRow 0 e s u n x := fun h1 h2 h =>
    ownsRow_set (ownsRow_kp h hk (fun k e x => row_ne h R.level h1 e x)) (R.row_mgr h h2)
  exact {
    mgr := by rw [setCell_heap mg]; rfl
    order := ownsRow_set (ownsRow_kp R.order hk hd) (R.row_mgr R.order (by decide))
    level := ownsRow_set hn np
    nodes := row (by decide) (by decide) R.nodes
    shown := row (by decide) (by decide) R.shown
    free := row (by decide) (by decide) R.free
    uniq := (R.uniq.kp hk (row_map R.level R.uniq)).kp (Kp.setCell _ _) (fun x => R.map_ne R.uniq x)
    memo := (R.memo.kp hk (row_map R.level R.memo)).kp (Kp.setCell _ _) (fun x => R.map_ne R.memo x)
    ne := R.ne }
end

/-- The state in the loop of 'New', behind k rounds. -/
structure NewJ (w : World) (p k : Nat) (wr : World) (L : Lay) : Prop where
  raw : Raw wr p L (List.range k) (List.range k) [(-1, 0, 0), (-1, 0, 0)] [true, true] [] (fun _ => none) (fun _ => none)
  kp : Kp No w wr
  own : ∀ x, L.at p x → w.heap.size ≤ x
  ap : ∀ x, L.so.ownBlock = some x → L.sl.ownBlock ≠ some x

def NewR (w : World) (p n gk : Nat) (s : Value) (wr : World) : Prop := ∃ k L, k + gk = n ∧ s = .int .i64 (k : Int) ∧ NewJ w p k wr L

def NewPost' (w : World) (n : Nat) (e : Ending) (w' : World) : Prop := ∃ p L, e = .returned (ptr p) ∧ Rep w' p (Mgr.new n) L ∧ Kp No w w' ∧ ∀ x, L.at p x → w.heap.size ≤ x

theorem NewJ.start (w : World) : NewJ w (w.heap.size + 5) 0
    ((((((w.alloc (.cells #[.int .i64 (-1), .int .i64 0, .int .i64 0, .int .i64 (-1), .int .i64 0, .int .i64 0] 89)).alloc (.cells #[.bool true, .bool true] 4)).alloc (.map #[] 0)).alloc (.map #[] 0)).alloc (.map #[] 0)).alloc
      (.cells #[.slice none 0 0, .slice none 0 0, .slice (some ⟨w.heap.size, 0, none⟩) 2 2, .slice (some ⟨w.heap.size + 1, 0, none⟩) 2 2, .slice none 0 0, .map (some (w.heap.size + 2)), .map (some (w.heap.size + 3)), .map (some (w.heap.size + 4))] 95))
    { so := .slice none 0 0, sl := .slice none 0 0, sn := .slice (some ⟨w.heap.size, 0, none⟩) 2 2, ss := .slice (some ⟨w.heap.size + 1, 0, none⟩) 2 2, sf := .slice none 0 0, bu := w.heap.size + 2, bm := w.heap.size + 3, bc := w.heap.size + 4 } := by
  refine ⟨⟨?_, World.ownsRow_nil _ _ _ _, World.ownsRow_nil _ _ _ _, ?_, ?_, World.ownsRow_nil _ _ _ _, ?_, ?_, by simp⟩, ?_, ?_, ?_⟩
  · have := heap_alloc_new (((((w.alloc (.cells #[.int .i64 (-1), .int .i64 0, .int .i64 0, .int .i64 (-1), .int .i64 0, .int .i64 0] 89)).alloc (.cells #[.bool true, .bool true] 4)).alloc (.map #[] 0)).alloc (.map #[] 0)).alloc (.map #[] 0))
      (.cells #[.slice none 0 0, .slice none 0 0, .slice (some ⟨w.heap.size, 0, none⟩) 2 2, .slice (some ⟨w.heap.size + 1, 0, none⟩) 2 2, .slice none 0 0, .map (some (w.heap.size + 2)), .map (some (w.heap.size + 3)), .map (some (w.heap.size + 4))] 95)
    simpa using this
  · refine ⟨rfl, .inr ⟨w.heap.size, 2, #[.int .i64 (-1), .int .i64 0, .int .i64 0, .int .i64 (-1), .int .i64 0, .int .i64 0], rfl, Nat.zero_le _, ?_, Nat.le_refl _, by simp [maxLen_val], rfl, rfl⟩⟩
    rw [Below.heap_alloc _ _ _ (by simp; omega), Below.heap_alloc _ _ _ (by simp; omega), Below.heap_alloc _ _ _ (by simp; omega), Below.heap_alloc _ _ _ (by simp; omega), Below.heap_alloc _ _ _ (by simp)]
    exact heap_alloc_new _ _
  · refine ⟨rfl, .inr ⟨w.heap.size + 1, 2, #[.bool true, .bool true], rfl, Nat.zero_le _, ?_, Nat.le_refl _, by simp [maxLen_val], rfl, rfl⟩⟩
    rw [Below.heap_alloc _ _ _ (by simp), Below.heap_alloc _ _ _ (by simp), Below.heap_alloc _ _ _ (by simp), Below.heap_alloc _ _ _ (by simp)]
    have := heap_alloc_new (w.alloc (.cells #[.int .i64 (-1), .int .i64 0, .int .i64 0, .int .i64 (-1), .int .i64 0, .int .i64 0] 89)) (.cells #[.bool true, .bool true] 4)
    simpa using this
  · have := MapAs.empty ((w.alloc (.cells #[.int .i64 (-1), .int .i64 0, .int .i64 0, .int .i64 (-1), .int .i64 0, .int .i64 0] 89)).alloc (.cells #[.bool true, .bool true] 4)) tripV natV
    refine MapAs.kp ?_ (Kp.alloc _) (fun x => x)
    refine MapAs.kp ?_ (Kp.alloc _) (fun x => x)
    refine MapAs.kp ?_ (Kp.alloc _) (fun x => x)
    simpa using this
  · have := MapAs.empty (((w.alloc (.cells #[.int .i64 (-1), .int .i64 0, .int .i64 0, .int .i64 (-1), .int .i64 0, .int .i64 0] 89)).alloc (.cells #[.bool true, .bool true] 4)).alloc (.map #[] 0)) tripV natV
    refine MapAs.kp ?_ (Kp.alloc _) (fun x => x)
    refine MapAs.kp ?_ (Kp.alloc _) (fun x => x)
    simpa using this
  · exact (((((Kp.alloc _).trans_no (Kp.alloc _)).trans_no (Kp.alloc _)).trans_no (Kp.alloc _)).trans_no (Kp.alloc _)).trans_no (Kp.alloc _)
  · intro x hx
    simp [Lay.at, Value.ownBlock] at hx
    omega
  · intro x hx
    simp [Value.ownBlock] at hx

theorem info_int : (Try.prog.info? 3).map (fun i => (i.zero, i.size, i.bytes)) = some (some (.int .i64 0), 1, 8) := by kernel_rfl

/-- 'New': the number of variables. -/
def nvars (v : Int) : Nat := if v < 0 then 0 else if 256 < v then 256 else v.toNat

theorem NewJ.order {w : World} {p k : Nat} {wr A w1 : World} {L : Lay} {g cap : Nat} (j : NewJ w p k wr L) (kA : Kp No wr A) (hs : A.heap.size = wr.heap.size + 1)
    (hown : w1.ownsRow 0 3 1 (.slice (some ⟨g, 0, none⟩) (k + 1) cap) (k + 1) ((List.range k).map natV ++ [.int .i64 (k : Int)])) (hgrow : A.grownBy w1 L.so.ownBlock) (hat : L.so.ownBlock = some g ∨ g = A.heap.size) :
    Raw (w1.setCell ⟨p, 0, none⟩ (.slice (some ⟨g, 0, none⟩) (k + 1) cap)) p { L with so := .slice (some ⟨g, 0, none⟩) (k + 1) cap } (List.range (k + 1)) (List.range k) [(-1, 0, 0), (-1, 0, 0)] [true, true] [] (fun _ => none) (fun _ => none) ∧
    Kp No w (w1.setCell ⟨p, 0, none⟩ (.slice (some ⟨g, 0, none⟩) (k + 1) cap)) ∧ w.heap.size ≤ g ∧ L.sl.ownBlock ≠ some g := by
  have kg : Kp (fun x => L.so.ownBlock = some x) wr w1 := grown_no kA hgrow
  have hsz := j.kp.size
  refine ⟨j.raw.pushOrder kg (List.range (k + 1)) ?_ (fun x h1 h2 => j.ap x h2 h1), ?_, ?_, ?_⟩
  · simpa [List.range_succ, natV] using hown
  · have k1 : Kp No w w1 := (j.kp.trans (A := No) (A' := No) (fun _ h => .inl h) (Kp.refl _ _)).trans (A := No) (A' := fun x => L.so.ownBlock = some x) (fun x h => .inr (j.own x (by simp [Lay.at, h]))) kg
    exact k1.trans (A' := fun x => x = p) (fun x h => .inr (j.own x (.inl h))) ((Kp.setCell _ _).mono (fun _ _ e => e))
  · rcases hat with h | h
    · exact j.own g (by simp [Lay.at, h])
    · omega
  · intro h
    rcases hat with h2 | h2
    · exact j.ap g h2 h
    · have := j.raw.lt g (by simp [Lay.at, h]); omega

theorem NewJ.level {w : World} {p k : Nat} {wr A w1 : World} {L : Lay} {g cap : Nat} (raw : Raw wr p L (List.range (k + 1)) (List.range k) [(-1, 0, 0), (-1, 0, 0)] [true, true] [] (fun _ => none) (fun _ => none)) (kp : Kp No w wr)
    (own : ∀ x, L.at p x → w.heap.size ≤ x) (ap : ∀ x, L.so.ownBlock = some x → L.sl.ownBlock ≠ some x) (kA : Kp No wr A) (hs : A.heap.size = wr.heap.size + 1)
    (hown : w1.ownsRow 0 3 1 (.slice (some ⟨g, 0, none⟩) (k + 1) cap) (k + 1) ((List.range k).map natV ++ [.int .i64 (k : Int)])) (hgrow : A.grownBy w1 L.sl.ownBlock) (hat : L.sl.ownBlock = some g ∨ g = A.heap.size) :
    NewJ w p (k + 1) (w1.setCell ⟨p, 1, none⟩ (.slice (some ⟨g, 0, none⟩) (k + 1) cap)) { L with sl := .slice (some ⟨g, 0, none⟩) (k + 1) cap } := by
  have kg : Kp (fun x => L.sl.ownBlock = some x) wr w1 := grown_no kA hgrow
  have hsz := kp.size
  have hg : w.heap.size ≤ g := by
    rcases hat with h | h
    · exact own g (by simp [Lay.at, h])
    · omega
  refine ⟨raw.pushLevel kg (List.range (k + 1)) ?_ ap, ?_, ?_, ?_⟩
  · simpa [List.range_succ, natV] using hown
  · have k1 : Kp No w w1 := kp.trans (A := No) (A' := fun x => L.sl.ownBlock = some x) (fun x h => .inr (own x (by simp [Lay.at, h]))) kg
    exact k1.trans (A' := fun x => x = p) (fun x h => .inr (own x (.inl h))) ((Kp.setCell _ _).mono (fun _ _ e => e))
  · intro x hx
    rcases hx with h | h | h | h | h | h | h | h
    · exact own x (.inl h)
    · exact own x (.inr (.inl h))
    · exact own x (.inr (.inr (.inl h)))
    · exact own x (by simp [Lay.at] at h ⊢; simp [h])
    · simp [Value.ownBlock] at h; omega
    · exact own x (by simp [Lay.at] at h ⊢; simp [h])
    · exact own x (by simp [Lay.at] at h ⊢; simp [h])
    · exact own x (by simp [Lay.at] at h ⊢; simp [h])
  · intro x h1 h2
    simp [Value.ownBlock] at h2
    subst h2
    simp only at h1
    rcases hat with h | h
    · exact ap _ h1 h
    · have := raw.lt g (by simp [Lay.at, h1]); omega

set_option maxRecDepth 100000 in
set_option maxHeartbeats 1000000 in
theorem New_ok (v : Int) (w : World) : Calls Try.prog 12 #[.int .i64 v] w (NewPost' w (nvars v)) := by
  obtain ⟨n, hn, hn2⟩ : ∃ n : Nat, n = nvars v ∧ n ≤ 256 := ⟨_, rfl, by unfold nvars; split; omega; split <;> omega⟩
  rw [← hn]
  have HN := Lib.hid hn
  clear hn
  have hmm := @run_makeMap Try.prog
  go_enter Try.func12, Try.ntmps12
  go_upto_region 1 with fail
  go_cut [3] (fun s x => s = .int .i64 (n : Int) ∧ x = w)
  case first =>
    by_cases h0 : v < 0
    · have E : Hid (n = 0) := Lib.hid (by rw [HN.out]; unfold nvars; rw [if_pos h0])
      have h0' : (0 : Int) > v := h0
      go_wp2
      go_meet
      case rel => exact ⟨by rw [E.out]; rfl, rfl⟩
    · by_cases h1 : 256 < v
      · have E : Hid (n = 256) := Lib.hid (by rw [HN.out]; unfold nvars; rw [if_neg h0, if_pos h1])
        have h2 : ¬ v < 0 := h0
        go_wp2
        go_meet
        case rel => exact ⟨by rw [E.out]; rfl, rfl⟩
      · have E : Hid ((n : Int) = v) := Lib.hid (by rw [HN.out]; unfold nvars; rw [if_neg h0, if_neg h1]; omega)
        go_wp2
        go_meet
        case rel => exact ⟨by rw [E.out], rfl⟩
  case rest =>
  obtain ⟨hs, hw⟩ := hcut
  replace hw := hw.symm
  subst hs hw
  go_wp2
  have J0 := NewJ.start w
  have HJ0 : NewR w (w.heap.size + 1 + 1 + 1 + 1 + 1) n n (.int .i64 0) _ := ⟨0, _, by omega, rfl, J0⟩
  have H0 := Lib.hid HJ0
  clear J0 HJ0 hmm
  generalize w.heap.size + 1 + 1 + 1 + 1 + 1 = p at *
  obtain ⟨i0, hi0, hz0, hz1, hz2⟩ := info_parts info_int
  go_loopg [19] n (fun gk s wr => NewR w p n gk s wr)
  case atStart => exact H0.out
  case round =>
    clear H0
    obtain ⟨k, L, hk, rfl, j⟩ := hrel
    by_cases hlt : k < n
    · have c0 := j.raw.c0
      have z0 := j.raw.fz 0
      have o0 := j.raw.order
      rw [List.length_range] at o0
      have plt := j.raw.plt
      have hb1 : ∀ x, L.so.ownBlock = some x → x ≠ p := fun x hx e => j.raw.row_mgr j.raw.order (by decide) (e ▸ hx)
      have HJ := Lib.hid j
      have HB1 := Lib.hid hb1
      have HK := Lib.hid hk
      clear j hb1 hk
      have hlti : (k : Int) < n := by omega
      go_upto_region 7 with (at_builtin; refine wpList_append_lies _ rfl (.tmp 26) (.tmp 28) _ rfl 0 3 i0 _ 1 8 Try.underlying33 hi0 hz0 hz1 hz2 rfl (by omega) L.so k ((List.range k).map natV) rfl (o0.alloc _) ⟨wr.heap.size, 0, none⟩ 1 1 [.int .i64 (k : Int)] rfl rfl (World.news_of_block (heap_alloc_new _ _)) (by simp [Value.oneCell']) (by omega) (by unfold maxLen; omega) (by omega) (by omega) (wr.heap.size + 1) (by simp) ?_; intro g cap w1 hown hgrow hat hlt2; have q2 : w1.cell? ⟨p, 0, none⟩ = some L.so := (hgrow.cell_far ⟨p, 0, none⟩ (by simp; omega) (fun e => HB1.out p e.symm rfl)).trans ((World.cell?_alloc_lt _ _ _ plt).trans c0); have q3 : w1.frozen? ⟨p, 0, none⟩ = false := (hgrow.frozen_far ⟨p, 0, none⟩ (by simp; omega) (fun e => HB1.out p e.symm rfl)).trans ((World.frozen?_alloc_old _ _ _ (by simp; omega)).trans z0))
      obtain ⟨rawB, kpB, hg, hgl⟩ := HJ.out.order (Kp.alloc _) (by simp) hown hgrow (by simpa using hat)
      have ownB : ∀ x, Lay.at { L with so := .slice (some ⟨g, 0, none⟩) (k + 1) cap } p x → w.heap.size ≤ x := fun x hx => by
        rcases hx with h | h | h | h | h
        · exact HJ.out.own x (.inl h)
        · exact HJ.out.own x (.inr (.inl h))
        · exact HJ.out.own x (.inr (.inr (.inl h)))
        · simp [Value.ownBlock] at h; omega
        · exact HJ.out.own x (.inr (.inr (.inr (.inr h))))
      have apB : ∀ x, (Lay.so { L with so := .slice (some ⟨g, 0, none⟩) (k + 1) cap }).ownBlock = some x → (Lay.sl { L with so := .slice (some ⟨g, 0, none⟩) (k + 1) cap }).ownBlock ≠ some x := fun x hx => by
        simp [Value.ownBlock] at hx; subst hx; exact hgl
      clear hown hgrow hat hlt2 q2 q3 c0 z0 o0 plt HB1 HJ hg hgl
      generalize (w1.setCell ⟨p, 0, none⟩ (.slice (some ⟨g, 0, none⟩) (k + 1) cap)) = WB at *
      have HSL : Hid ({ L with so := Value.slice (some ⟨g, 0, none⟩) (k + 1) cap } = { L with so := Value.slice (some ⟨g, 0, none⟩) (k + 1) cap }) := rfl
      generalize { L with so := Value.slice (some ⟨g, 0, none⟩) (k + 1) cap } = LB at *
      clear HSL
      have c1 := rawB.c1
      have z1 := rawB.fz 1
      have o1 := rawB.level
      rw [List.length_range] at o1
      have pltB := rawB.plt
      have hb1 : ∀ x, LB.sl.ownBlock = some x → x ≠ p := fun x hx e => rawB.row_mgr rawB.level (by decide) (e ▸ hx)
      have RB := Lib.hid rawB
      have KB := Lib.hid kpB
      have OB := Lib.hid ownB
      have AB := Lib.hid apB
      have HB1 := Lib.hid hb1
      clear rawB kpB ownB apB hb1
      go_upto_region 8 with (at_builtin; refine wpList_append_lies _ rfl (.tmp 36) (.tmp 38) _ rfl 0 3 i0 _ 1 8 Try.underlying33 hi0 hz0 hz1 hz2 rfl (by omega) LB.sl k ((List.range k).map natV) rfl (o1.alloc _) ⟨WB.heap.size, 0, none⟩ 1 1 [.int .i64 (k : Int)] rfl rfl (World.news_of_block (heap_alloc_new _ _)) (by simp [Value.oneCell']) (by omega) (by unfold maxLen; omega) (by omega) (by omega) (WB.heap.size + 1) (by simp) ?_; intro g' cap' w2 hown hgrow hat hlt2; have q2 : w2.cell? ⟨p, 1, none⟩ = some LB.sl := (hgrow.cell_far ⟨p, 1, none⟩ (by simp; omega) (fun e => HB1.out p e.symm rfl)).trans ((World.cell?_alloc_lt _ _ _ pltB).trans c1); have q3 : w2.frozen? ⟨p, 1, none⟩ = false := (hgrow.frozen_far ⟨p, 1, none⟩ (by simp; omega) (fun e => HB1.out p e.symm rfl)).trans ((World.frozen?_alloc_old _ _ _ (by simp; omega)).trans z1))
      have JN := Lib.hid (NewJ.level RB.out KB.out OB.out AB.out (Kp.alloc _) (by simp) hown hgrow (by simpa using hat))
      clear hown hgrow hat hlt2 q2 q3 c1 z1 o1 pltB HB1 RB KB OB AB
      go_wp2
      go_roundg (n - (k + 1))
      case measure => have := HK.out; omega
      case rel => exact ⟨k + 1, _, by omega, by go_num, JN.out⟩
    · have hkn : k = n := by omega
      have FIN : Hid (NewPost' w n (.returned (ptr p)) wr) := Lib.hid (by
        subst hkn
        refine ⟨p, L, rfl, ⟨⟨fun _ => none, ?_, fun x r h => by cases h⟩, Mgr.new_wf k⟩, j.kp, j.own⟩
        rw [Mgr.new_uq k]
        exact j.raw)
      have hlti : ¬ (k : Int) < n := by omega
      have hltd : decide ((k : Int) < (n : Int)) = false := by simp; omega
      clear j hkn hk hlt
      go_wp2
      go_ret
      exact FIN.out

end Go.Proofs.Ytngbodmooddjbaa
