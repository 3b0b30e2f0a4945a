/-
  Walks: 'Size', 'Eval' and 'New' of the package bdd.
-/
import Derived.Test.YtgglkldoclejaaaDoorW8
import Derived.Deep.LoopGhost
namespace Go.Proofs.YtgglkldoclejaaaDoor
open Go.RowKit

/-! ### Size -/
/-- The state while 'Size' counts. -/
structure SizeJ (w0 : World) (p : Nat) (M : Mgr) (L : Lay) (B bs : Nat) (w : World) (V : List Nat) : Prop where
  rep : Rep w p M L
  kp : Kp (fun k => k = B ∨ k = bs) w0 w
  box : w.heap[B]? = some (.cells #[.int .i64 (V.length : Int)] 3 (0, 0))

set_option maxHeartbeats 400000 in
theorem size_visit {w0 : World} {p : Nat} {M : Mgr} {L : Lay} {B bs : Nat} (hbs : B ≠ bs) (hBL : ¬ L.at p B) (w : World) (V : List Nat) (f : Nat) (S : List Nat) (hJ : SizeJ w0 p M L B bs w V) (hl : V.length < 9223372036854775807)
    (hm : MapAs w bs intV Value.bool (seenF S)) :
    Calls Tryd.prog 66 (#[.int .i64 (f : Int)] ++ #[.pointer (some ⟨B, 0, none⟩)]) w (WPost (SizeJ w0 p M L B bs) bs (S, V ++ [f])) := by
  have c : w.cell? ⟨B, 0, none⟩ = some (.int .i64 (V.length : Int)) := by simp [World.cell?, hJ.box]
  have z : w.frozen? ⟨B, 0, none⟩ = false := by simp [World.frozen?, hJ.box]
  have POST : Hid (WPost (SizeJ w0 p M L B bs) bs (S, V ++ [f]) (.returned (.tuple #[])) (w.setCell ⟨B, 0, none⟩ (.int .i64 ((V.length : Int) + 1)))) := by
    have hk : Kp (fun k => k = B) w (w.setCell ⟨B, 0, none⟩ (.int .i64 ((V.length : Int) + 1))) := (Kp.setCell _ _).mono (fun _ _ e => e)
    refine ⟨rfl, ⟨hJ.rep.kp hk (fun k e => by rw [e]; exact hBL), (hJ.kp.trans (A' := fun k => k = B ∨ k = bs) (fun k h => .inl h) (hk.mono (fun k _ e => .inl e))), ?_⟩, hm.kp hk (fun e => hbs e.symm)⟩
    rw [setCell_heap hJ.box]
    simp
  clear hJ hm
  show Calls Tryd.prog 66 #[.int .i64 (f : Int), .pointer (some ⟨B, 0, none⟩)] w _
  generalize V.length = n at *
  go_enter Tryd.func66, Tryd.ntmps66
  go_wp2
  go_end0
  exact POST.out

theorem seenF_nil : seenF [] = fun _ => none := by funext x; simp [seenF]

def Mgr.sizeM (M : Mgr) (f : Int) : Nat := if M.valid f = true then M.size f.toNat else 0

set_option maxRecDepth 100000 in
set_option maxHeartbeats 400000 in
theorem Size_ok {p : Nat} {M : Mgr} {L : Lay} (f : Int) {w : World} (R : Rep w p M L) :
    Calls Tryd.prog 36 #[ptr p, .int .i64 f] w fun e w' => e = .returned (.int .i64 (M.sizeM f : Int)) ∧ Kp No w w' := by
  by_cases hf : M.valid f = true
  · have e : M.sizeM f = M.size f.toNat := if_pos hf
    rw [e]
    obtain ⟨n, rfl, sf, _⟩ := Mgr.valid_nat R.wf hf
    rw [Int.toNat_natCast]
    have hmm := @run_makeMap Tryd.prog
    have SF := Lib.hid hf
    have hle : M.nodes.length ≤ 9223372036854775807 := by
      obtain ⟨F, raw, _⟩ := R.raw
      obtain ⟨a, c, _, h⟩ := ownsRow_len raw.nodes
      have := maxLen_val
      omega
    have hsz := M.size_le R.wf sf
    have HSZ : Hid ((M.walkS (M.n + 1) ([], []) n).2.length ≤ 9223372036854775807) := Lib.hid (by show M.size n ≤ _; omega)
    -- the blocks of the call's own
    have R2 : Rep ((w.alloc (.cells #[.int .i64 0] 3)).alloc (.map #[] 0)) p M L := (R.no (Kp.alloc _)).no (Kp.alloc _)
    have hBL : ¬ L.at p w.heap.size := fun h => by have := R.lt _ h; omega
    have hbL : ¬ L.at p (w.heap.size + 1) := fun h => by have := R.lt _ h; omega
    have hbx : ((w.alloc (.cells #[.int .i64 0] 3)).alloc (.map #[] 0)).heap[w.heap.size]? = some (.cells #[.int .i64 0] 3 (0, 0)) := by
      rw [Below.heap_alloc _ _ _ (by simp)]; exact heap_alloc_new _ _
    have J0 : SizeJ w p M L w.heap.size (w.heap.size + 1) ((w.alloc (.cells #[.int .i64 0] 3)).alloc (.map #[] 0)) [] :=
      ⟨R2, ((Kp.alloc _).trans_no (Kp.alloc _)).of_no, hbx⟩
    have hm0 : MapAs ((w.alloc (.cells #[.int .i64 0] 3)).alloc (.map #[] 0)) (w.heap.size + 1) intV Value.bool (seenF []) := by
      have := MapAs.empty (w.alloc (.cells #[.int .i64 0] 3)) intV Value.bool
      rw [← seenF_nil] at this
      simpa using this
    have vis : Visits M p L (w.heap.size + 1) 66 #[.pointer (some ⟨w.heap.size, 0, none⟩)] 9223372036854775807 (SizeJ w p M L w.heap.size (w.heap.size + 1)) :=
      ⟨fun w f => by kernel_rfl, fun _ _ h => h.rep, fun w1 w2 V h k => ⟨h.rep.kp k (fun x e => by rw [e]; exact hbL), h.kp.trans (A' := fun k => k = w.heap.size ∨ k = w.heap.size + 1) (fun k h => .inl h) (k.mono (fun x _ e => .inr e)), by
        rw [k.block _ (heap_lt h.box) (by omega)]; exact h.box⟩,
        fun w1 V f S h _ _ hl hm => size_visit (by omega) hBL w1 V f S h hl hm⟩
    have CALL := Lib.hid (walk_ok vis (M.n + 1) n _ [] [] (by omega) sf J0 hm0 HSZ.out)
    have FIN : Hid (∀ (w' : World) (V : List Nat), SizeJ w p M L w.heap.size (w.heap.size + 1) w' V → Kp No w w') := Lib.hid (fun w' V h => h.kp.mono (fun k hk e => by rcases e with e | e <;> omega))
    clear vis J0 hm0 hbx R2 hBL hbL hsz hle HSZ sf hf e
    go_enter Tryd.func36, Tryd.ntmps36
    go_wp2_with fail
    refine (valid_as _ true R SF.out).mono ?_
    rintro e w' ⟨rfl, rfl⟩
    go_wp2_with fail
    refine CALL.out.mono ?_
    rintro e w1 ⟨rfl, J1, hm1⟩
    have c1 : w1.cell? ⟨w.heap.size, 0, none⟩ = some (.int .i64 (((M.walkS (M.n + 1) ([], []) n).2.length : Nat) : Int)) := by simp [World.cell?, J1.box]
    have K1 := Lib.hid (FIN.out _ _ J1)
    have e2 : (M.walkS (M.n + 1) ([], []) n).2.length = M.size n := rfl
    rw [e2] at c1
    clear J1 hm1 e2
    go_wp2_with fail
    go_ret
    exact ⟨rfl, K1.out⟩
  · have e : M.sizeM f = 0 := if_neg hf
    rw [e]
    have SF : Hid (M.valid f = false) := Lib.hid (by simpa using hf)
    clear hf e
    go_enter Tryd.func36, Tryd.ntmps36
    go_wp2_with fail
    refine (valid_as _ false R SF.out).mono ?_
    rintro e w' ⟨rfl, rfl⟩
    go_wp2_with fail
    go_ret
    exact ⟨rfl, Kp.refl _ _⟩

/-! ### Eval -/
/-- A slice of bools that reads as a list. -/
def Bools (w : World) (v : Value) (l : List Bool) : Prop :=
  ∃ ao c, v = .slice ao l.length c ∧ l.length ≤ maxLen ∧ (l = [] ∨ ∃ g o, ao = some ⟨g, o, none⟩ ∧ ∀ i b, l[i]? = some b → w.cell? ⟨g, o + i, none⟩ = some (.bool b))

theorem Bools.kp {A : Nat → Prop} {w w' : World} {v : Value} {l : List Bool} (h : Bools w v l) (hk : Kp A w w') (hA : ∀ g o n c, v = .slice (some ⟨g, o, none⟩) n c → ¬ A g) : Bools w' v l := by
  obtain ⟨ao, c, hv, hl, h⟩ := h
  refine ⟨ao, c, hv, hl, ?_⟩
  rcases h with h | ⟨g, o, rfl, h⟩
  · exact .inl h
  · refine .inr ⟨g, o, rfl, fun i b hi => ?_⟩
    have h0 := h i b hi
    rw [hk.cell (World.block_lt_of_cell? _ _ h0) (hA g o _ _ hv)]
    exact h0
theorem Bools.no {w w' : World} {v : Value} {l : List Bool} (h : Bools w v l) (hk : Kp No w w') : Bools w' v l := h.kp hk (fun _ _ _ _ _ x => x)

theorem Bools.of_row {w : World} {base : Nat} {v : Value} {l : List Bool} {e : TypeId} (h : w.ownsRow base e 1 v l.length (l.map .bool)) : Bools w v l := by
  rcases h.2 with ⟨rfl, h0⟩ | ⟨g, cap, cur, rfl, hb, hg, h1, h2, h3, h4⟩
  · exact ⟨none, 0, by rw [h0], by rw [h0]; simp, .inl (List.eq_nil_of_length_eq_zero h0)⟩
  · by_cases e : l = []
    · exact ⟨_, _, rfl, Nat.le_trans h1 h2, .inl e⟩
    · obtain ⟨g', cap', hv, _, _, _, hc, _⟩ := ownsRow_open h (List.length_pos_iff.2 e)
      cases hv
      refine ⟨_, _, rfl, Nat.le_trans h1 h2, .inr ⟨g, 0, rfl, fun i b hi => ?_⟩⟩
      rw [Nat.zero_add]
      exact hc i _ (by simp [hi])

/-- The assignment that a list is: what it lacks is false. -/
def asg (l : List Bool) : Nat → Bool := fun v => l.getD v false

def Mgr.evalM (M : Mgr) (f : Int) (l : List Bool) : Bool := if M.valid f = true then M.sem f.toNat (asg l) else false

def EvR (M : Mgr) (n : Nat) (l : List Bool) (w : World) (k : Nat) (s : Value) (wr : World) : Prop :=
  ∃ f : Nat, s = .int .i64 (f : Int) ∧ M.stored f ∧ M.n - M.depth f < k ∧ M.sem f (asg l) = M.sem n (asg l) ∧ Kp No w wr

set_option maxRecDepth 100000 in
set_option maxHeartbeats 1000000 in
theorem Eval_ok {p : Nat} {M : Mgr} {L : Lay} (f : Int) {v : Value} {l : List Bool} {w : World} (R : Rep w p M L) (hl : Bools w v l) :
    Calls Tryd.prog 32 #[ptr p, .int .i64 f, v] w fun e w' => e = .returned (.bool (M.evalM f l)) ∧ Kp No w w' := by
  by_cases hf : M.valid f = true
  · have e : M.evalM f l = M.sem f.toNat (asg l) := if_pos hf
    rw [e]
    obtain ⟨n, rfl, sf, _⟩ := Mgr.valid_nat R.wf hf
    rw [Int.toNat_natCast]
    have SF := Lib.hid hf
    have ST := Lib.hid sf
    have BL := Lib.hid hl
    obtain ⟨ao, c, rfl, hlen, _⟩ := hl
    have hm := maxLen_val
    have hle : l.length ≤ 9223372036854775807 := by omega
    have RR := Lib.hid R
    clear hf sf e hm hlen R
    go_enter Tryd.func32, Tryd.ntmps32
    go_wp2_with fail
    refine (valid_as _ true RR.out SF.out).mono ?_
    rintro e w' ⟨rfl, rfl⟩
    go_wp2_with fail
    go_loopg [1] (M.n + 1) (fun k s wr => EvR M n l w k s wr)
    case atStart => exact ⟨n, rfl, ST.out, by omega, rfl, Kp.refl _ _⟩
    case round =>
      obtain ⟨f, rfl, sf, hk, hs, kp⟩ := hrel
      have Rw := RR.out.no kp
      by_cases h2 : f < 2
      · have HS : Hid (M.sem n (asg l) = ((f : Int) == 1)) := Lib.hid (by
          rw [← hs, M.sem_const _ _ h2, Bool.eq_iff_iff]; simp; omega)
        have KP := Lib.hid kp
        clear hs sf hk kp
        go_wp2_with fail
        refine (constant_yes _ _ h2).mono ?_
        rintro e w' ⟨rfl, rfl⟩
        go_wp2_with fail
        go_ret
        exact ⟨by rw [HS.out]; rfl, KP.out⟩
      · have h2' : 2 ≤ f := by omega
        obtain ⟨F, raw, _⟩ := Rw.raw
        obtain ⟨bn, cn, hsn, hcn, hcm, hnd⟩ := raw.node_cells Rw.wf
        have lt := M.stored_lt Rw.wf sf
        obtain ⟨n0, n1, n2⟩ := hnd f lt
        obtain ⟨v0, v1, sl, sh, _, dl, dh⟩ := Mgr.node_of Rw.wf sf h2'
        have hsem := Mgr.sem_node Rw.wf sf h2' (asg l)
        have q1 := Mgr.depth_le Rw.wf sl
        have q2 := Mgr.depth_le Rw.wf sh
        have c2 := raw.c2
        rw [hsn] at c2
        have hm := maxLen_val
        have hle2 : M.nodes.length ≤ 9223372036854775807 := by omega
        have b1 : (f : Int) < M.nodes.length := by omega
        have bnlt := World.block_lt_of_cell? _ _ n0
        unfold natV at n1 n2
        obtain ⟨x, hx⟩ := Int.eq_ofNat_of_zero_le v0
        rw [hx] at n0 hsem
        simp only [Int.toNat_natCast] at hsem
        have REL : Hid (∀ (g : Nat) (w' : World), M.stored g → M.depth f < M.depth g → M.depth g ≤ M.n → M.sem g (asg l) = M.sem f (asg l) → Kp No wr w' → ∃ k', k' < gk ∧ EvR M n l w k' (.int .i64 (g : Int)) w') := Lib.hid (fun g w' sg dg dn e kw =>
          ⟨M.n - M.depth g + 1, by omega, g, rfl, sg, by omega, e.trans hs, kp.trans_no kw⟩)
        have bl := BL.out.no kp
        have SL := Lib.hid sl
        have SH := Lib.hid sh
        have DL := Lib.hid dl
        have DH := Lib.hid dh
        have Q1 := Lib.hid q1
        have Q2 := Lib.hid q2
        by_cases hxl : x < l.length
        · obtain ⟨ao', c', hv', _, hcells⟩ := bl
          cases hv'
          rcases hcells with hcells | ⟨g, o, rfl, hcells⟩
          · subst hcells; simp at hxl
          have hb := hcells x (l[x]) (by simp [hxl])
          have hxi : (x : Int) < l.length := by omega
          have hav : asg l x = l[x] := by simp [asg, hxl]
          have glt := World.block_lt_of_cell? _ _ hb
          simp only [hav] at hsem
          cases hbx : l[x] with
          | true =>
            rw [hbx] at hb
            simp only [hbx] at hsem
            have HSE : Hid (M.sem f (asg l) = M.sem (M.nd f).2.2 (asg l)) := Lib.hid (by rw [hsem]; simp)
            clear raw hsn hnd hcn hcm hm sl sh dl dh hsem v0 v1 hx hs kp hk sf Rw lt h2 hcells hav hbx q1 q2
            generalize M.nodes.length = nn at *
            generalize l.length = ll at *
            go_wp2_with fail
            refine (constant_no _ _ h2').mono ?_
            rintro e w' ⟨rfl, rfl⟩
            go_wp2_with fail
            obtain ⟨k', hk', hrel⟩ := REL.out _ _ SH.out DH.out Q2.out HSE.out.symm (Kp.alloc _)
            go_roundg k'
            case measure => exact hk'
            case rel => exact hrel
          | false =>
            rw [hbx] at hb
            simp only [hbx] at hsem
            have HSE : Hid (M.sem f (asg l) = M.sem (M.nd f).2.1 (asg l)) := Lib.hid (by rw [hsem]; simp)
            clear raw hsn hnd hcn hcm hm sl sh dl dh hsem v0 v1 hx hs kp hk sf Rw lt h2 hcells hav hbx q1 q2
            generalize M.nodes.length = nn at *
            generalize l.length = ll at *
            go_wp2_with fail
            refine (constant_no _ _ h2').mono ?_
            rintro e w' ⟨rfl, rfl⟩
            go_wp2_with fail
            obtain ⟨k', hk', hrel⟩ := REL.out _ _ SL.out DL.out Q1.out HSE.out.symm (Kp.alloc _)
            go_roundg k'
            case measure => exact hk'
            case rel => exact hrel
        · have hav : asg l x = false := by simp [asg, List.getElem?_eq_none (Nat.le_of_not_lt hxl)]
          simp only [hav] at hsem
          have HSE : Hid (M.sem f (asg l) = M.sem (M.nd f).2.1 (asg l)) := Lib.hid (by rw [hsem]; simp)
          have hxi : ¬ (x : Int) < l.length := by omega
          have hxd : decide ((x : Int) < (l.length : Int)) = false := by simp; omega
          clear raw hsn hnd hcn hcm hm sl sh dl dh hsem v0 v1 hx hs kp hk sf bl Rw lt h2 hav q1 q2
          generalize M.nodes.length = nn at *
          generalize l.length = ll at *
          go_wp2_with fail
          refine (constant_no _ _ h2').mono ?_
          rintro e w' ⟨rfl, rfl⟩
          go_wp2_with fail
          obtain ⟨k', hk', hrel⟩ := REL.out _ _ SL.out DL.out Q1.out HSE.out.symm (Kp.alloc _)
          go_roundg k'
          case measure => exact hk'
          case rel => exact hrel
  · have e : M.evalM f l = false := if_neg hf
    rw [e]
    have SF : Hid (M.valid f = false) := Lib.hid (by simpa using hf)
    clear hf e hl
    go_enter Tryd.func32, Tryd.ntmps32
    go_wp2_with fail
    refine (valid_as _ false R SF.out).mono ?_
    rintro e w' ⟨rfl, rfl⟩
    go_wp2_with fail
    go_ret
    exact ⟨rfl, Kp.refl _ _⟩

end Go.Proofs.YtgglkldoclejaaaDoor
