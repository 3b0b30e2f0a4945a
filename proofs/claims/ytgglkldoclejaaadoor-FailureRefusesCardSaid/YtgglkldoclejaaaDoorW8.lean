/-
  Walks: 'walk' of the package bdd, with any function that is called at each node.
-/
import Derived.Test.YtgglkldoclejaaaDoorW7
import Derived.Test.YtgglkldoclejaaaDoorReach
namespace Go.Proofs.YtgglkldoclejaaaDoor
open Go.RowKit

def seenF (S : List Nat) : Int → Option Bool := fun x => if 0 ≤ x ∧ x.toNat ∈ S then some true else none

theorem seenF_cons (S : List Nat) (f : Nat) : (fun x : Int => if x = (f : Int) then some true else seenF S x) = seenF (f :: S) := by
  funext x
  unfold seenF
  by_cases e : x = (f : Int)
  · subst e; simp
  · rw [if_neg e]
    by_cases h0 : 0 ≤ x
    · have : x.toNat ≠ f := by omega
      simp [this]
    · simp [h0]

theorem seenF_at (S : List Nat) (f : Nat) : seenF S (f : Int) = if f ∈ S then some true else none := by
  unfold seenF; simp

theorem zeroBool (w : World) : (zeroValue 4).run Tryd.prog w = .ok (.bool false) w := by kernel_rfl

def WPost (J : World → List Nat → Prop) (bs : Nat) (st : List Nat × List Nat) (e : Ending) (w' : World) : Prop :=
  e = .returned (.tuple #[]) ∧ J w' st.2 ∧ MapAs w' bs intV Value.bool (seenF st.1)

/-- What 'walk' asks of the function that it calls. -/
structure Visits (M : Mgr) (p : Nat) (L : Lay) (bs : Nat) (fid : Nat) (caps : Array Value) (bd : Nat) (J : World → List Nat → Prop) : Prop where
  go : ∀ (w : World) (f : Int), (callFunc fid (#[.int .i64 f] ++ caps)).run Tryd.prog w = .ok (.enter fid (#[.int .i64 f] ++ caps)) w
  rep : ∀ w V, J w V → Rep w p M L
  kp : ∀ w w' V, J w V → Kp (fun k => k = bs) w w' → J w' V
  call : ∀ w V f S, J w V → M.stored f → 2 ≤ f → V.length < bd → MapAs w bs intV Value.bool (seenF S) →
    Calls Tryd.prog fid (#[.int .i64 (f : Int)] ++ caps) w (WPost J bs (S, V ++ [f]))

set_option maxRecDepth 100000 in
set_option maxHeartbeats 1000000 in
theorem walk_step {M : Mgr} {p : Nat} {L : Lay} {bs fid bd : Nat} {caps : Array Value} {J : World → List Nat → Prop} (vis : Visits M p L bs fid caps bd J) {k : Nat}
    (ih : ∀ (f : Nat) (w : World) (S V : List Nat), M.n - M.depth f < k → M.stored f → J w V → MapAs w bs intV Value.bool (seenF S) → (M.walkS k (S, V) f).2.length ≤ bd →
      Calls Tryd.prog 65 #[ptr p, .int .i64 f, .map (some bs), .func (.func fid) #[] caps] w (WPost J bs (M.walkS k (S, V) f)))
    (f : Nat) (w : World) (S V : List Nat) (hk : M.n - M.depth f < k + 1) (hf : M.stored f) (hJ : J w V) (hm : MapAs w bs intV Value.bool (seenF S)) (hb : (M.walkS (k + 1) (S, V) f).2.length ≤ bd) :
    Calls Tryd.prog 65 #[ptr p, .int .i64 f, .map (some bs), .func (.func fid) #[] caps] w (WPost J bs (M.walkS (k + 1) (S, V) f)) := by
  have IH := Lib.hid ih
  have VIS := Lib.hid vis
  clear ih vis
  by_cases h2 : f < 2
  · have e : M.walkS (k + 1) (S, V) f = (S, V) := by unfold Mgr.walkS; rw [if_pos (.inl h2)]
    rw [e]
    have POST : Hid (WPost J bs (S, V) (.returned (.tuple #[])) w) := ⟨rfl, hJ, hm⟩
    clear hm hJ e hk hf hb
    go_enter Tryd.func65, Tryd.ntmps65
    go_wp2_with (go_at_call 63; refine (constant_yes _ _ h2).mono ?_; rintro e w' ⟨rfl, rfl⟩)
    go_end0
    exact POST.out
  · have h2' : 2 ≤ f := by omega
    have hlk := hm.lookup keyRef Tryd.underlying110 zeroBool (f : Int) false
    rw [seenF_at] at hlk
    by_cases hs : f ∈ S
    · have e : M.walkS (k + 1) (S, V) f = (S, V) := by unfold Mgr.walkS; rw [if_pos (.inr hs)]
      rw [e]
      have POST : Hid (WPost J bs (S, V) (.returned (.tuple #[])) w) := ⟨rfl, hJ, hm⟩
      have lk1 : (Instr.lookup 110 (.map (some bs)) (.int .i64 f) false).run Tryd.prog w = .ok (.bool true) w := by rw [if_pos hs] at hlk; exact hlk
      clear hm hJ e hk hf hlk hb
      go_enter Tryd.func65, Tryd.ntmps65
      go_wp2_with (go_at_call 63; refine (constant_no _ _ h2').mono ?_; rintro e w' ⟨rfl, rfl⟩)
      go_end0
      exact POST.out
    · have e : M.walkS (k + 1) (S, V) f = ((M.walkS k (M.walkS k (f :: S, V) (M.nd f).2.1) (M.nd f).2.2).1, (M.walkS k (M.walkS k (f :: S, V) (M.nd f).2.1) (M.nd f).2.2).2 ++ [f]) := by
        conv => lhs; unfold Mgr.walkS
        rw [if_neg (by simp; exact ⟨by omega, hs⟩)]
      rw [e] at hb ⊢
      simp only [List.length_append, List.length_singleton] at hb
      have l1 := M.walkS_len k (M.walkS k (f :: S, V) (M.nd f).2.1) (M.nd f).2.2
      have HB1 : Hid ((M.walkS k (f :: S, V) (M.nd f).2.1).2.length ≤ bd) := Lib.hid (by omega)
      have HB2 : Hid ((M.walkS k (M.walkS k (f :: S, V) (M.nd f).2.1) (M.nd f).2.2).2.length < bd) := Lib.hid (by omega)
      have lk1 : (Instr.lookup 110 (.map (some bs)) (.int .i64 f) false).run Tryd.prog w = .ok (.bool false) w := by rw [if_neg hs] at hlk; exact hlk
      have R := VIS.out.rep w V hJ
      obtain ⟨_, _, sl, sh, _, dl, dh⟩ := Mgr.node_of R.wf hf h2'
      have q1 := Mgr.depth_le R.wf sl
      have q2 := Mgr.depth_le R.wf sh
      obtain ⟨w1, hup, hm1, hk1, _⟩ := hm.update keyRef Tryd.underlying110 (f : Int) true
      have up : (Instr.mapUpdate 110 (.map (some bs)) (.int .i64 f) (.bool true)).run Tryd.prog w = .ok () w1 := hup 0
      rw [seenF_cons] at hm1
      have J1 := VIS.out.kp w w1 V hJ hk1
      have lt := M.stored_lt R.wf hf
      have cells : ∀ (x : World) (U : List Nat), J x U → ∃ bn cn, x.cell? ⟨p, 2, none⟩ = some (.slice (some ⟨bn, 0, none⟩) M.nodes.length cn) ∧ M.nodes.length ≤ 9223372036854775807 ∧
          x.cell? ⟨bn, f * 3 + 1, none⟩ = some (.int .i64 ((M.nd f).2.1 : Int)) ∧ x.cell? ⟨bn, f * 3 + 2, none⟩ = some (.int .i64 ((M.nd f).2.2 : Int)) := by
        intro x U hx
        have Rx := VIS.out.rep x U hx
        obtain ⟨F, raw, _⟩ := Rx.raw
        obtain ⟨bn, cn, hsn, hcn, hcm, hnd⟩ := raw.node_cells Rx.wf
        obtain ⟨_, n1, n2⟩ := hnd f lt
        have c2 := raw.c2
        rw [hsn] at c2
        have := maxLen_val
        exact ⟨bn, cn, c2, by omega, n1, n2⟩
      have CELLS := Lib.hid cells
      have b1 : (f : Int) < M.nodes.length := by omega
      obtain ⟨bn, cn, c2, hle, n1, n2⟩ := cells w1 V J1
      have HJ1 := Lib.hid J1
      have HM1 := Lib.hid hm1
      have SL := Lib.hid sl
      have SH := Lib.hid sh
      have HF := Lib.hid hf
      have QL : Hid (M.n - M.depth (M.nd f).2.1 < k) := Lib.hid (by omega)
      have QH : Hid (M.n - M.depth (M.nd f).2.2 < k) := Lib.hid (by omega)
      clear hm hJ e hk hf hlk R sl sh dl dh q1 q2 hup hm1 hk1 J1 cells hs h2 hb l1
      generalize M.nodes.length = nn at *
      go_enter Tryd.func65, Tryd.ntmps65
      go_wp2_with (go_at_call 63; refine (constant_no _ _ h2').mono ?_; rintro e w' ⟨rfl, rfl⟩)
      refine (IH.out _ w1 (f :: S) V QL.out SL.out HJ1.out HM1.out HB1.out).mono ?_
      rintro e w2 ⟨rfl, J2, hm2⟩
      clear c2 n1 n2 HJ1 HM1 up lk1 HB1
      generalize hst1 : M.walkS k (f :: S, V) (M.nd f).2.1 = st1 at *
      clear hst1
      obtain ⟨bn2, cn2, c2, _, n1, n2⟩ := CELLS.out w2 _ J2
      have HJ2 := Lib.hid J2
      have HM2 := Lib.hid hm2
      clear J2 hm2
      go_wp2_with fail
      refine (IH.out _ w2 st1.1 st1.2 QH.out SH.out HJ2.out HM2.out (Nat.le_of_lt HB2.out)).mono ?_
      rintro e w3 ⟨rfl, J3, hm3⟩
      clear c2 n1 n2 HJ2 HM2
      have e12 : (st1.1, st1.2) = st1 := rfl
      rw [e12] at J3 hm3
      generalize hst2 : M.walkS k st1 (M.nd f).2.2 = st2 at *
      have HST2 := Lib.hid hst2
      clear hst2
      have HC := Lib.hid (VIS.out.call w3 st2.2 f st2.1 J3 HF.out h2' HB2.out hm3)
      have hgo := VIS.out.go w3 (f : Int)
      clear J3 hm3
      go_wp2_with fail
      refine HC.out.mono ?_
      rintro e w4 ⟨rfl, J4, hm4⟩
      have POST : Hid (WPost J bs (st2.1, st2.2 ++ [f]) (.returned (.tuple #[])) w4) := ⟨rfl, J4, hm4⟩
      clear J4 hm4 hgo
      go_wp2_with fail
      go_end0
      exact POST.out

theorem walk_ok {M : Mgr} {p : Nat} {L : Lay} {bs fid bd : Nat} {caps : Array Value} {J : World → List Nat → Prop} (vis : Visits M p L bs fid caps bd J) : ∀ (k f : Nat) (w : World) (S V : List Nat),
    M.n - M.depth f < k → M.stored f → J w V → MapAs w bs intV Value.bool (seenF S) → (M.walkS k (S, V) f).2.length ≤ bd →
    Calls Tryd.prog 65 #[ptr p, .int .i64 f, .map (some bs), .func (.func fid) #[] caps] w (WPost J bs (M.walkS k (S, V) f))
  | 0, f, w, S, V, hk, hf, hJ, hm, hb => by omega
  | k + 1, f, w, S, V, hk, hf, hJ, hm, hb => walk_step vis (fun f w S V hk hf hJ hm hb => walk_ok vis k f w S V hk hf hJ hm hb) f w S V hk hf hJ hm hb

end Go.Proofs.YtgglkldoclejaaaDoor
