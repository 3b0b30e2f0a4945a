/-
  Walks: the law HeaderDecodes.
-/
import Derived.Test.YtgglkldoclejaaaDoorHl
import Derived.Test.YtgglkldoclejaaaDoorSave
import Derived.Deep.QuietTactic
import Derived.BigQuiet
namespace Go.Proofs.YtgglkldoclejaaaDoor
open Go.RowKit

theorem bval_bit (g : Nat → Bool) : ∀ k i, i < k → (bval g k).testBit i = g i
  | 0, _, h => by omega
  | k + 1, i, h => by
    have hb := bval_lt g k
    by_cases e : i = k
    · subst e
      simp only [bval]
      cases hg : g i
      · simp only [Bool.false_eq_true, if_false, Nat.add_zero]; exact Nat.testBit_lt_two_pow hb
      · simp only [if_true]
        rw [Nat.add_comm, Nat.testBit_two_pow_add_eq, Nat.testBit_lt_two_pow hb]; rfl
    · have ih := bval_bit g k i (by omega)
      simp only [bval]
      cases hg : g k
      · simp only [Bool.false_eq_true, if_false, Nat.add_zero]; exact ih
      · simp only [if_true]
        rw [Nat.add_comm, Nat.testBit_two_pow_add_gt (by omega), ih]

def dnI (a : Nat → Bool) : List Int := (dnL a 12).map (fun n : Nat => (n : Int))
/-- 'Encode' restores what 'Decode' read. -/
theorem enc_dec (a : Nat → Bool) {v : Nat} (hv : v < 220) : encF (dnF (dnI a)) (getP a false) (getP a true) v = a v := by
  by_cases h : v < 12
  · rw [enc_link _ _ _ h]
    unfold dnF dnI dnL
    rw [Bool.eq_iff_iff]
    simp only [decide_eq_true_eq, List.mem_map, List.mem_filter, List.mem_range]
    constructor
    · rintro ⟨u, ⟨_, hu⟩, e⟩
      obtain rfl : u = v := by omega
      exact hu
    · intro hu; exact ⟨v, ⟨h, hu⟩, rfl⟩
  · have bit : ∀ (nx : Bool) (b : Nat), b < 104 → (getP a nx).bit b = a (hvar b nx) := fun nx b hb => by
      unfold Pkt.bit
      have hf : fieldOf b < 5 := by
        unfold fieldOf
        (repeat' split) <;> omega
      have h1 : ff (fieldOf b) ≤ b ∧ b < ff (fieldOf b) + fw (fieldOf b) := by
        unfold fieldOf
        repeat' split
        all_goals (simp [ff, fw]; omega)
      rw [getP_f a nx hf]
      unfold fval
      rw [bval_bit _ _ _ (by omega)]
      unfold fbit fvar
      congr 2
      omega
    obtain ⟨nx, b, hb, e⟩ : ∃ (nx : Bool) (b : Nat), b < 104 ∧ v = hvar b nx := by
      by_cases hm : (v - 12) % 2 = 0
      · exact ⟨false, (v - 12) / 2, by omega, by unfold hvar; simp; omega⟩
      · exact ⟨true, (v - 12) / 2, by omega, by unfold hvar; simp; omega⟩
    rw [e, enc_bit, ← bit nx b hb]
    cases nx <;> rfl

def fullG (l : List Bool) (i : Nat) (v : Nat) : Bool := decide (v < i) && asg l v
theorem fullG_step (l : List Bool) (i : Nat) : Mgr.upd (fullG l i) i (asg l i) = fullG l (i + 1) := by
  funext v
  unfold Mgr.upd fullG
  by_cases h : v = i
  · subst h; simp
  · rw [if_neg h]
    have : decide (v < i) = decide (v < i + 1) := by rw [decide_eq_decide]; omega
    rw [this]
theorem fullG_end (l : List Bool) {i : Nat} (h : l.length ≤ i ∨ 220 ≤ i) (v : Nat) (hv : v < 220) : fullG l i v = asg l v := by
  unfold fullG
  by_cases hi : v < i
  · simp [hi]
  · have : asg l v = false := by unfold asg; rw [List.getD_eq_getElem?_getD, List.getElem?_eq_none (by omega)]; rfl
    rw [this]; simp

def DcR (w1 : World) (g : Nat) (l : List Bool) (gk : Nat) (s : Value) (wr : World) : Prop := ∃ i, i + gk = min l.length 220 ∧ s = .int .i64 (i : Int) ∧ PutJ w1 w1.heap.size g (fullG l i) wr
def DcE (w7 : World) (gk : Nat) (s : Value) (wr : World) : Prop := ∃ i m, i + gk = 220 ∧ s = .int .i64 (i : Int) ∧ wr = w7.drewN m

set_option maxRecDepth 100000 in
set_option maxHeartbeats 4000000 in
theorem HeaderDecodes_walk (l : List Bool) {av : Value} {w : World} (hb : Bools w av l) (g : Gl w) :
    Calls Tryd.prog 5 #[av] w fun e w' => e = .returned (.bool true) ∧ Kp No w w' := by
  obtain ⟨j0, hj0, hy0, hy1, hy2⟩ := info_parts info_bool
  have AW := Lib.hid (hawake_ok g)
  have GLW := Lib.hid g
  have HB := Lib.hid hb
  obtain ⟨ao, c, rfl, hlm, _⟩ := hb
  clear g
  by_cases h400 : l.length ≤ 400
  case neg =>
    have hl : (400 : Int) < l.length := by omega
    go_enter Tryd.func5, Tryd.ntmps5
    go_wp2_with fail
    refine AW.out.mono ?_
    rintro e w1 ⟨rfl, k1⟩
    have K1 := Lib.hid k1
    clear k1
    go_wp2_with fail
    go_ret
    exact ⟨rfl, K1.out⟩
  have hl : ¬ (400 : Int) < l.length := by omega
  obtain ⟨mk, hmk⟩ := Classical.axiomOfChoice make_bools
  have HMK := Lib.hid (fun W => (hmk W).2)
  have hrun := fun W => (hmk W).1
  clear hmk
  go_enter Tryd.func5, Tryd.ntmps5
  go_wp2_with fail
  refine AW.out.mono ?_
  rintro e w1 ⟨rfl, k1⟩
  have K1 := Lib.hid k1
  clear k1
  go_wp2_with fail
  have J0 : Hid (DcR w1 w1.heap.size l (min l.length 220) (.int .i64 0) (mk w1)) := Lib.hid (by
    obtain ⟨r1, k2⟩ := HMK.out w1
    have hlt := (GLW.out.no K1.out).lt
    refine ⟨0, by omega, rfl, ?_, k2.of_no, (GLW.out.no K1.out).no k2, by omega⟩
    have e : fullG l 0 = fun _ => false := by funext v; unfold fullG; simp
    rw [e]; exact r1)
  clear hrun HMK
  go_loopg [4] (min l.length 220) (fun gk s wr => DcR w1 w1.heap.size l gk s wr)
  case atStart => exact J0.out
  case round =>
    clear J0
    obtain ⟨i, hi, rfl, j⟩ := hrel
    have kw : Kp No w wr := K1.out.trans (A' := fun x => x = w1.heap.size) (fun x e => .inr (by have := K1.out.size; omega)) j.kp
    by_cases hlt : i < min l.length 220
    · obtain ⟨ao', c', hv', _, hcells⟩ := HB.out.no kw
      have hv1 : ao = ao' := by injection hv'
      subst hv1
      have hil : i < l.length := by omega
      rcases hcells with hcells | ⟨g, o, rfl, hcells⟩
      · rw [hcells] at hil; simp at hil
      have hc : wr.cell? ⟨g, o + i, none⟩ = some (.bool (asg l i)) := hcells i _ (by unfold asg; simp [hil])
      obtain ⟨c1, z1⟩ := j.cell (v := i) (by omega)
      have JN : Hid (DcR w1 w1.heap.size l (min l.length 220 - (i + 1)) (.int .i64 ((i + 1 : Nat) : Int)) (wr.setCell ⟨w1.heap.size, i, none⟩ (.bool (asg l i)))) := Lib.hid ⟨i + 1, by omega, rfl, by rw [← fullG_step]; exact j.put i (asg l i)⟩
      have h1 : (i : Int) < l.length := by omega
      have h2 : (i : Int) < 220 := by omega
      have HI := Lib.hid hi
      generalize asg l i = b at *
      generalize fullG l i i = old at *
      clear hi j kw hcells hv' hlt
      go_wp2_with fail
      go_roundg (min l.length 220 - (i + 1))
      case measure => have := HI.out; omega
      case rel => exact JN.out
    · have j2 := j.congr (fullG_end l (i := i) (by omega))
      have J := Lib.hid j2
      have KW := Lib.hid kw
      have SRC := Lib.hid (SrcAt.of_bools (HB.out.no kw))
      have HONE : Hid (∀ u ∈ l.map Value.bool, u.oneCell' = true) := Lib.hid (fun u hu => by obtain ⟨b, _, rfl⟩ := List.mem_map.1 hu; rfl)
      have stop : ¬ (i < l.length ∧ i < 220) := by omega
      clear j j2 kw
      by_cases h1 : (i : Int) < l.length
      · have h2 : ¬ (i : Int) < 220 := by omega
        clear stop hlt hi
        go_wp2_with (at_builtin; refine wpList_append_src rfl _ _ rfl (base := wr.heap.size) (v := .slice none 0 0) Tryd.underlying31 hj0 hy0 hy1 hy2 rfl (by omega) rfl (World.ownsRow_nil _ _ _ _) rfl SRC.out HONE.out (by unfold maxLen; omega) (by omega) (Nat.le_refl _) ?_; intro v2 w2 hown hgrow hat)
        have k2 : Kp No wr w2 := (Kp.grown hgrow).mono (fun x _ h => by simp [Value.ownBlock] at h)
        have row2 : w2.ownsRow wr.heap.size 4 1 v2 l.length (l.map Value.bool) := by simpa using hown
        have J2 := Lib.hid (J.out.no k2)
        have KW2 := Lib.hid (KW.out.trans_no k2)
        have DE := Lib.hid (Decode_ok J2.out.gl (Bools.of_row row2))
        obtain ⟨a2, c2, rfl, _⟩ := ownsRow_len (row_zero row2)
        clear hown hgrow hat k2 row2
        refine DE.out.mono ?_
        rintro e w3 ⟨dv, rfl, drow, k3⟩
        have J3 := Lib.hid (J2.out.no k3)
        have KW3 := Lib.hid (KW2.out.trans_no k3)
        have DROW := Lib.hid drow
        obtain ⟨a3, c3, rfl, _⟩ := ownsRow_len (row_zero drow)
        have GP := Lib.hid (getP_ok (asg l) false)
        have GQ := Lib.hid (getP_ok (asg l) true)
        have ED := Lib.hid (fun (v : Nat) (hv : v < 220) => enc_dec (asg l) hv)
        have EN := Lib.hid (fun (y : World) (h : Gl y) (s : SrcAt y (.slice a3 (dnL (asg l) 12).length c3) 1 (dnI (asg l)).length ((dnI (asg l)).map intV)) => Encode_ok (dnI (asg l)) (getP (asg l) false) (getP (asg l) true) GP.out.in32 GQ.out.in32 h s (by have := dnL_len (asg l) 12; simp [dnI]; omega))
        have VP := Lib.hid (fun (y : World) => ValidPacket_ok (getP (asg l) false) y)
        have VQ := Lib.hid (fun (y : World) => ValidPacket_ok (getP (asg l) true) y)
        rw [GP.out.vp] at VP
        rw [GQ.out.vp] at VQ
        generalize getP (asg l) false = pk at *
        generalize getP (asg l) true = qk at *
        clear drow k3 DE J2 KW2
        unfold pktV at EN VP VQ ⊢
        have k4 : Kp No w3 ((w3.alloc (.cells #[.int .u32 (pk.src : Int), .int .u32 (pk.dst : Int), .int .i64 pk.proto, .int .i64 pk.sport, .int .i64 pk.dport] 29)).alloc (.cells #[.int .u32 (qk.src : Int), .int .u32 (qk.dst : Int), .int .i64 qk.proto, .int .i64 qk.sport, .int .i64 qk.dport] 29)) := (Kp.alloc _).trans_no (Kp.alloc _)
        have PA : Hid (PkAt ((w3.alloc (.cells #[.int .u32 (pk.src : Int), .int .u32 (pk.dst : Int), .int .i64 pk.proto, .int .i64 pk.sport, .int .i64 pk.dport] 29)).alloc (.cells #[.int .u32 (qk.src : Int), .int .u32 (qk.dst : Int), .int .i64 qk.proto, .int .i64 qk.sport, .int .i64 qk.dport] 29)) w3.heap.size pk) := Lib.hid ((PkAt.new w3 pk 29).no (Kp.alloc _))
        have PB : Hid (PkAt ((w3.alloc (.cells #[.int .u32 (pk.src : Int), .int .u32 (pk.dst : Int), .int .i64 pk.proto, .int .i64 pk.sport, .int .i64 pk.dport] 29)).alloc (.cells #[.int .u32 (qk.src : Int), .int .u32 (qk.dst : Int), .int .i64 qk.proto, .int .i64 qk.sport, .int .i64 qk.dport] 29)) (w3.heap.size + 1) qk) := Lib.hid (by have := PkAt.new (w3.alloc (.cells #[.int .u32 (pk.src : Int), .int .u32 (pk.dst : Int), .int .i64 pk.proto, .int .i64 pk.sport, .int .i64 pk.dport] 29)) qk 29; simpa using this)
        have J4 := Lib.hid (J3.out.no k4)
        have KW4 := Lib.hid (KW3.out.trans_no k4)
        have SR4 : Hid (SrcAt ((w3.alloc (.cells #[.int .u32 (pk.src : Int), .int .u32 (pk.dst : Int), .int .i64 pk.proto, .int .i64 pk.sport, .int .i64 pk.dport] 29)).alloc (.cells #[.int .u32 (qk.src : Int), .int .u32 (qk.dst : Int), .int .i64 qk.proto, .int .i64 qk.sport, .int .i64 qk.dport] 29)) (.slice a3 (dnL (asg l) 12).length c3) 1 (dnI (asg l)).length ((dnI (asg l)).map intV)) := Lib.hid (by
          have := (SrcAt.of_row DROW.out).no k4
          have e : (dnI (asg l)).map intV = (dnL (asg l) 12).map natV := by unfold dnI; rw [List.map_map]; rfl
          rw [e, show (dnI (asg l)).length = (dnL (asg l) 12).length by simp [dnI]]
          exact this)
        clear k4
        go_wp2_with fail
        change Calls _ _ _ ((w3.alloc (.cells #[.int .u32 (pk.src : Int), .int .u32 (pk.dst : Int), .int .i64 pk.proto, .int .i64 pk.sport, .int .i64 pk.dport] 29)).alloc (.cells #[.int .u32 (qk.src : Int), .int .u32 (qk.dst : Int), .int .i64 qk.proto, .int .i64 qk.sport, .int .i64 qk.dport] 29)) _
        generalize (w3.alloc (.cells #[.int .u32 (pk.src : Int), .int .u32 (pk.dst : Int), .int .i64 pk.proto, .int .i64 pk.sport, .int .i64 pk.dport] 29)).alloc (.cells #[.int .u32 (qk.src : Int), .int .u32 (qk.dst : Int), .int .i64 qk.proto, .int .i64 qk.sport, .int .i64 qk.dport] 29) = w4 at *
        obtain ⟨c0, c1, c2, c3, c4⟩ := PA.out
        obtain ⟨d0, d1, d2, d3, d4⟩ := PB.out
        refine (EN.out _ J4.out.gl SR4.out).mono ?_
        rintro e w5 ⟨gb, rfl, brow, k5⟩
        have J5 := Lib.hid (J4.out.no k5)
        have KW5 := Lib.hid (KW4.out.trans_no k5)
        have PA5 := Lib.hid (PA.out.no k5)
        have PB5 := Lib.hid (PB.out.no k5)
        have BR5 := Lib.hid brow
        clear c0 c1 c2 c3 c4 d0 d1 d2 d3 d4 brow k5 J4 KW4 PA PB SR4 EN
        obtain ⟨c0, c1, c2, c3, c4⟩ := PA5.out
        go_wp2_with fail
        refine (VP.out _).mono ?_
        rintro e w6 ⟨rfl, k6⟩
        have J6 := Lib.hid (J5.out.no k6)
        have KW6 := Lib.hid (KW5.out.trans_no k6)
        have PB6 := Lib.hid (PB5.out.no k6)
        have BR6 := Lib.hid (ownsRow_kp BR5.out k6 (fun _ _ z => z))
        clear c0 c1 c2 c3 c4 k6 J5 KW5 PA5 PB5 BR5
        obtain ⟨d0, d1, d2, d3, d4⟩ := PB6.out
        go_wp2_with fail
        refine (VQ.out _).mono ?_
        rintro e w7 ⟨rfl, k7⟩
        have J7 := Lib.hid (J6.out.no k7)
        have KW7 := Lib.hid (KW6.out.trans_no k7)
        have BR7 := Lib.hid (ownsRow_kp BR6.out k7 (fun _ _ z => z))
        clear d0 d1 d2 d3 d4 k7 J6 KW6 PB6 BR6
        have CK : Hid (∀ m v, v < 220 → (w7.drewN m).cell? ⟨gb, v, none⟩ = some (.bool (asg l v)) ∧ (w7.drewN m).cell? ⟨w1.heap.size, v, none⟩ = some (.bool (asg l v))) := Lib.hid (fun m v hv => by
          refine ⟨?_, (J7.out.cell hv).1⟩
          obtain ⟨g', c', hq, _, _, _, hc, _⟩ := ownsRow_open BR7.out (by omega)
          cases hq
          have := hc v _ (boolRow_at _ hv)
          rw [ED.out v hv] at this
          exact this)
        clear BR7 J7
        go_wp2_with fail
        go_loopg [9] 220 (fun gk s wr => DcE w7 gk s wr)
        case atStart => exact ⟨0, 0, by omega, rfl, rfl⟩
        case round =>
          obtain ⟨i, m, hi, rfl, hw⟩ := hrel
          have HW := Lib.hid hw
          by_cases hlt : i < 220
          · obtain ⟨e1, e2⟩ := CK.out m i hlt
            rw [← hw] at e1 e2
            have hlti : (i : Int) < 220 := by omega
            have HI := Lib.hid hi
            generalize asg l i = b at *
            clear hi hw
            go_upto_region 17 with (fail)
            go_quiet (fail)
            cases b
            all_goals
              go_wp2_with fail
              go_roundg (220 - (i + 1))
              case measure => have := HI.out; omega
              case rel => exact ⟨i + 1, _, by omega, by go_num, by rw [HW.out, World.drewN_drewN]⟩
          · obtain rfl : i = 220 := by omega
            clear hi hlt hw
            go_wp2_with fail
            go_ret
            exact ⟨rfl, by rw [HW.out]; exact KW7.out.trans_no (Kp.drewN m)⟩
      · clear stop hlt hi
        go_wp2_with (at_builtin; refine wpList_append_src rfl _ _ rfl (base := wr.heap.size) (v := .slice none 0 0) Tryd.underlying31 hj0 hy0 hy1 hy2 rfl (by omega) rfl (World.ownsRow_nil _ _ _ _) rfl SRC.out HONE.out (by unfold maxLen; omega) (by omega) (Nat.le_refl _) ?_; intro v2 w2 hown hgrow hat)
        have k2 : Kp No wr w2 := (Kp.grown hgrow).mono (fun x _ h => by simp [Value.ownBlock] at h)
        have row2 : w2.ownsRow wr.heap.size 4 1 v2 l.length (l.map Value.bool) := by simpa using hown
        have J2 := Lib.hid (J.out.no k2)
        have KW2 := Lib.hid (KW.out.trans_no k2)
        have DE := Lib.hid (Decode_ok J2.out.gl (Bools.of_row row2))
        obtain ⟨a2, c2, rfl, _⟩ := ownsRow_len (row_zero row2)
        clear hown hgrow hat k2 row2
        refine DE.out.mono ?_
        rintro e w3 ⟨dv, rfl, drow, k3⟩
        have J3 := Lib.hid (J2.out.no k3)
        have KW3 := Lib.hid (KW2.out.trans_no k3)
        have DROW := Lib.hid drow
        obtain ⟨a3, c3, rfl, _⟩ := ownsRow_len (row_zero drow)
        have GP := Lib.hid (getP_ok (asg l) false)
        have GQ := Lib.hid (getP_ok (asg l) true)
        have ED := Lib.hid (fun (v : Nat) (hv : v < 220) => enc_dec (asg l) hv)
        have EN := Lib.hid (fun (y : World) (h : Gl y) (s : SrcAt y (.slice a3 (dnL (asg l) 12).length c3) 1 (dnI (asg l)).length ((dnI (asg l)).map intV)) => Encode_ok (dnI (asg l)) (getP (asg l) false) (getP (asg l) true) GP.out.in32 GQ.out.in32 h s (by have := dnL_len (asg l) 12; simp [dnI]; omega))
        have VP := Lib.hid (fun (y : World) => ValidPacket_ok (getP (asg l) false) y)
        have VQ := Lib.hid (fun (y : World) => ValidPacket_ok (getP (asg l) true) y)
        rw [GP.out.vp] at VP
        rw [GQ.out.vp] at VQ
        generalize getP (asg l) false = pk at *
        generalize getP (asg l) true = qk at *
        clear drow k3 DE J2 KW2
        unfold pktV at EN VP VQ ⊢
        have k4 : Kp No w3 ((w3.alloc (.cells #[.int .u32 (pk.src : Int), .int .u32 (pk.dst : Int), .int .i64 pk.proto, .int .i64 pk.sport, .int .i64 pk.dport] 29)).alloc (.cells #[.int .u32 (qk.src : Int), .int .u32 (qk.dst : Int), .int .i64 qk.proto, .int .i64 qk.sport, .int .i64 qk.dport] 29)) := (Kp.alloc _).trans_no (Kp.alloc _)
        have PA : Hid (PkAt ((w3.alloc (.cells #[.int .u32 (pk.src : Int), .int .u32 (pk.dst : Int), .int .i64 pk.proto, .int .i64 pk.sport, .int .i64 pk.dport] 29)).alloc (.cells #[.int .u32 (qk.src : Int), .int .u32 (qk.dst : Int), .int .i64 qk.proto, .int .i64 qk.sport, .int .i64 qk.dport] 29)) w3.heap.size pk) := Lib.hid ((PkAt.new w3 pk 29).no (Kp.alloc _))
        have PB : Hid (PkAt ((w3.alloc (.cells #[.int .u32 (pk.src : Int), .int .u32 (pk.dst : Int), .int .i64 pk.proto, .int .i64 pk.sport, .int .i64 pk.dport] 29)).alloc (.cells #[.int .u32 (qk.src : Int), .int .u32 (qk.dst : Int), .int .i64 qk.proto, .int .i64 qk.sport, .int .i64 qk.dport] 29)) (w3.heap.size + 1) qk) := Lib.hid (by have := PkAt.new (w3.alloc (.cells #[.int .u32 (pk.src : Int), .int .u32 (pk.dst : Int), .int .i64 pk.proto, .int .i64 pk.sport, .int .i64 pk.dport] 29)) qk 29; simpa using this)
        have J4 := Lib.hid (J3.out.no k4)
        have KW4 := Lib.hid (KW3.out.trans_no k4)
        have SR4 : Hid (SrcAt ((w3.alloc (.cells #[.int .u32 (pk.src : Int), .int .u32 (pk.dst : Int), .int .i64 pk.proto, .int .i64 pk.sport, .int .i64 pk.dport] 29)).alloc (.cells #[.int .u32 (qk.src : Int), .int .u32 (qk.dst : Int), .int .i64 qk.proto, .int .i64 qk.sport, .int .i64 qk.dport] 29)) (.slice a3 (dnL (asg l) 12).length c3) 1 (dnI (asg l)).length ((dnI (asg l)).map intV)) := Lib.hid (by
          have := (SrcAt.of_row DROW.out).no k4
          have e : (dnI (asg l)).map intV = (dnL (asg l) 12).map natV := by unfold dnI; rw [List.map_map]; rfl
          rw [e, show (dnI (asg l)).length = (dnL (asg l) 12).length by simp [dnI]]
          exact this)
        clear k4
        go_wp2_with fail
        change Calls _ _ _ ((w3.alloc (.cells #[.int .u32 (pk.src : Int), .int .u32 (pk.dst : Int), .int .i64 pk.proto, .int .i64 pk.sport, .int .i64 pk.dport] 29)).alloc (.cells #[.int .u32 (qk.src : Int), .int .u32 (qk.dst : Int), .int .i64 qk.proto, .int .i64 qk.sport, .int .i64 qk.dport] 29)) _
        generalize (w3.alloc (.cells #[.int .u32 (pk.src : Int), .int .u32 (pk.dst : Int), .int .i64 pk.proto, .int .i64 pk.sport, .int .i64 pk.dport] 29)).alloc (.cells #[.int .u32 (qk.src : Int), .int .u32 (qk.dst : Int), .int .i64 qk.proto, .int .i64 qk.sport, .int .i64 qk.dport] 29) = w4 at *
        obtain ⟨c0, c1, c2, c3, c4⟩ := PA.out
        obtain ⟨d0, d1, d2, d3, d4⟩ := PB.out
        refine (EN.out _ J4.out.gl SR4.out).mono ?_
        rintro e w5 ⟨gb, rfl, brow, k5⟩
        have J5 := Lib.hid (J4.out.no k5)
        have KW5 := Lib.hid (KW4.out.trans_no k5)
        have PA5 := Lib.hid (PA.out.no k5)
        have PB5 := Lib.hid (PB.out.no k5)
        have BR5 := Lib.hid brow
        clear c0 c1 c2 c3 c4 d0 d1 d2 d3 d4 brow k5 J4 KW4 PA PB SR4 EN
        obtain ⟨c0, c1, c2, c3, c4⟩ := PA5.out
        go_wp2_with fail
        refine (VP.out _).mono ?_
        rintro e w6 ⟨rfl, k6⟩
        have J6 := Lib.hid (J5.out.no k6)
        have KW6 := Lib.hid (KW5.out.trans_no k6)
        have PB6 := Lib.hid (PB5.out.no k6)
        have BR6 := Lib.hid (ownsRow_kp BR5.out k6 (fun _ _ z => z))
        clear c0 c1 c2 c3 c4 k6 J5 KW5 PA5 PB5 BR5
        obtain ⟨d0, d1, d2, d3, d4⟩ := PB6.out
        go_wp2_with fail
        refine (VQ.out _).mono ?_
        rintro e w7 ⟨rfl, k7⟩
        have J7 := Lib.hid (J6.out.no k7)
        have KW7 := Lib.hid (KW6.out.trans_no k7)
        have BR7 := Lib.hid (ownsRow_kp BR6.out k7 (fun _ _ z => z))
        clear d0 d1 d2 d3 d4 k7 J6 KW6 PB6 BR6
        have CK : Hid (∀ m v, v < 220 → (w7.drewN m).cell? ⟨gb, v, none⟩ = some (.bool (asg l v)) ∧ (w7.drewN m).cell? ⟨w1.heap.size, v, none⟩ = some (.bool (asg l v))) := Lib.hid (fun m v hv => by
          refine ⟨?_, (J7.out.cell hv).1⟩
          obtain ⟨g', c', hq, _, _, _, hc, _⟩ := ownsRow_open BR7.out (by omega)
          cases hq
          have := hc v _ (boolRow_at _ hv)
          rw [ED.out v hv] at this
          exact this)
        clear BR7 J7
        go_wp2_with fail
        go_loopg [9] 220 (fun gk s wr => DcE w7 gk s wr)
        case atStart => exact ⟨0, 0, by omega, rfl, rfl⟩
        case round =>
          obtain ⟨i, m, hi, rfl, hw⟩ := hrel
          have HW := Lib.hid hw
          by_cases hlt : i < 220
          · obtain ⟨e1, e2⟩ := CK.out m i hlt
            rw [← hw] at e1 e2
            have hlti : (i : Int) < 220 := by omega
            have HI := Lib.hid hi
            generalize asg l i = b at *
            clear hi hw
            go_upto_region 17 with (fail)
            go_quiet (fail)
            cases b
            all_goals
              go_wp2_with fail
              go_roundg (220 - (i + 1))
              case measure => have := HI.out; omega
              case rel => exact ⟨i + 1, _, by omega, by go_num, by rw [HW.out, World.drewN_drewN]⟩
          · obtain rfl : i = 220 := by omega
            clear hi hlt hw
            go_wp2_with fail
            go_ret
            exact ⟨rfl, by rw [HW.out]; exact KW7.out.trans_no (Kp.drewN m)⟩

end Go.Proofs.YtgglkldoclejaaaDoor
