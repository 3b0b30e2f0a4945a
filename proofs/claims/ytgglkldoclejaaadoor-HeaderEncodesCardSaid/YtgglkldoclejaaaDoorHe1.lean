/-
  Walks: 'links' of the package netverifylaw30.
-/
import Derived.Test.YtgglkldoclejaaaDoorHl
import Derived.Test.YtgglkldoclejaaaDoorKeep
namespace Go.Proofs.YtgglkldoclejaaaDoor
open Go.RowKit

def NatsRow (w0 w : World) (v : Value) (l : List Nat) : Prop := w.ownsRow w0.heap.size 3 1 v l.length (l.map natV)
def LkO (w : World) (a : Nat → Bool) (gk : Nat) (s3 s4 : Value) (wr : World) : Prop := ∃ k v, k + gk = 12 ∧ s4 = .int .i64 (k : Int) ∧ v = s3 ∧ NatsRow w wr v (dnL a k) ∧ Kp No w wr
def LkI (wr : World) (l : List Int) (i gk : Nat) (s5 s6 : Value) (x : World) : Prop := ∃ k, k + gk = l.length ∧ s6 = .int .i64 (k : Int) ∧ s5 = .bool (dnF (l.take k) i) ∧ wr = x
theorem dnF_step (l : List Int) {k i : Nat} (hk : k < l.length) : dnF (l.take (k + 1)) i = (dnF (l.take k) i || (l.getD k 0 == (i : Int))) := by
  have e : l.take (k + 1) = l.take k ++ [l.getD k 0] := by rw [List.take_succ_eq_append_getElem hk]; simp [hk]
  unfold dnF
  rw [e, Bool.eq_iff_iff]
  simp only [decide_eq_true_eq, Bool.or_eq_true, List.mem_append, List.mem_singleton, beq_iff_eq]
  constructor
  · rintro (h | h)
    · exact .inl h
    · exact .inr h.symm
  · rintro (h | h)
    · exact .inl h
    · exact .inr h.symm

set_option maxRecDepth 100000 in
set_option maxHeartbeats 2000000 in
theorem links_ok (l : List Int) {dv : Value} {w : World} (hd : SrcAt w dv 1 l.length (l.map intV)) (hl : l.length ≤ 1000000) :
    Calls Tryd.prog 25 #[dv] w fun e w' => ∃ v, e = .returned v ∧ NatsRow w w' v (dnL (dnF l) 12) ∧ Kp No w w' := by
  obtain ⟨i0, hi0, hz0, hz1, hz2⟩ := info_parts info_int
  have HD := Lib.hid hd
  obtain ⟨ao, c, rfl, _⟩ := hd
  have J0 : Hid (LkO w (dnF l) 12 (.slice none 0 0) (.int .i64 0) w) := Lib.hid ⟨0, _, by omega, rfl, rfl, World.ownsRow_nil _ _ _ _, Kp.refl _ _⟩
  go_enter Tryd.func25, Tryd.ntmps25
  go_wp2_with fail
  go_loopg [3, 4] 12 (fun gk s3 s4 wr => LkO w (dnF l) gk s3 s4 wr)
  case atStart => exact J0.out
  case round =>
    clear J0
    obtain ⟨i, v, hi, rfl, e3, row, kp⟩ := hrel
    subst e3
    by_cases hlt : i < 12
    · have hlti : (i : Int) < 12 := by omega
      have HI := Lib.hid hi
      have KP := Lib.hid kp
      have ROW := Lib.hid row
      have hsz := kp.size
      have hln := dnL_len (dnF l) i
      have SN := Lib.hid (dnL_succ (dnF l) i)
      have JI : Hid (LkI wr l i l.length (.bool false) (.int .i64 0) wr) := Lib.hid ⟨0, by omega, rfl, by simp [dnF], rfl⟩
      have SR := Lib.hid (HD.out.no kp)
      clear hi kp row
      go_wp2_with fail
      go_loopg [5, 6] l.length (fun gk s5 s6 x => LkI wr l i gk s5 s6 x)
      case atStart => exact JI.out
      case round =>
        clear JI
        obtain ⟨k, hk, rfl, rfl, rfl⟩ := hrel
        by_cases hkl : k < l.length
        · obtain ⟨ao', c', hv', _, hcells⟩ := SR.out
          have hv1 : ao = ao' := by injection hv'
          subst hv1
          rcases hcells with hcells | ⟨g, o, rfl, hg, hcells⟩
          · rw [hcells] at hkl; simp at hkl
          have hc : wr.cell? ⟨g, o + k, none⟩ = some (.int .i64 (l.getD k 0)) := hcells k _ (by simp [hkl, intV])
          have ST := Lib.hid (dnF_step l (i := i) hkl)
          have hkli : (k : Int) < l.length := by omega
          have HK := Lib.hid hk
          clear hk hcells hv'
          cases hb : dnF (l.take k) i
          · have JN : Hid (LkI wr l i (l.length - (k + 1)) (.bool (l.getD k 0 == (i : Int))) (.int .i64 ((k + 1 : Nat) : Int)) wr) := Lib.hid ⟨k + 1, by omega, rfl, by rw [ST.out, hb]; rfl, rfl⟩
            generalize l.getD k 0 = y at *
            clear hb ST
            go_wp2_with fail
            go_roundg (l.length - (k + 1))
            case measure => have := HK.out; omega
            case rel => exact JN.out
          · have JN : Hid (LkI wr l i (l.length - (k + 1)) (.bool true) (.int .i64 ((k + 1 : Nat) : Int)) wr) := Lib.hid ⟨k + 1, by omega, rfl, by rw [ST.out, hb]; rfl, rfl⟩
            generalize l.getD k 0 = y at *
            clear hb ST
            go_wp2_with fail
            go_roundg (l.length - (k + 1))
            case measure => have := HK.out; omega
            case rel => exact JN.out
        · obtain rfl : k = l.length := by omega
          rw [List.take_length]
          have hkli : ¬ (l.length : Int) < l.length := by omega
          clear hk hkl
          cases hb : dnF l i
          · have JN : Hid (LkO w (dnF l) (12 - (i + 1)) v (.int .i64 ((i + 1 : Nat) : Int)) wr) := Lib.hid ⟨i + 1, _, by omega, rfl, rfl, by rw [SN.out, hb, if_neg (by simp), List.append_nil]; exact ROW.out, KP.out⟩
            clear hb SN
            go_wp2_with fail
            go_roundg (12 - (i + 1))
            case measure => have := HI.out; omega
            case rel => exact JN.out
          · rw [hb, if_pos rfl] at SN
            have row : wr.ownsRow w.heap.size 3 1 v (dnL (dnF l) i).length ((dnL (dnF l) i).map natV) := ROW.out
            clear hb
            generalize dnL (dnF l) i = lst at *
            go_upto_region 4 with (at_builtin; refine wpList_append_lies _ rfl (.tmp 27) (.tmp 29) _ rfl w.heap.size 3 i0 _ 1 8 Tryd.underlying26 hi0 hz0 hz1 hz2 rfl (by omega) v lst.length (lst.map natV) rfl (row.alloc _) ⟨wr.heap.size, 0, none⟩ 1 1 [.int .i64 (i : Int)] rfl rfl (World.news_of_block (heap_alloc_new _ _)) (by simp [Value.oneCell']) (by omega) (by unfold maxLen; omega) (by omega) (by simp; omega) (wr.heap.size + 1) (by simp) ?_; intro g5 cap5 w3 hown hgrow hat hlt2)
            have JN : Hid (LkO w (dnF l) (12 - (i + 1)) (.slice (some ⟨g5, 0, none⟩) (lst.length + 1) cap5) (.int .i64 ((i + 1 : Nat) : Int)) w3) := Lib.hid (by
              have kg : Kp (fun z => v.ownBlock = some z) wr w3 := grown_no (Kp.alloc _) hgrow
              refine ⟨i + 1, _, by omega, rfl, rfl, ?_, KP.out.trans (A' := fun z => v.ownBlock = some z) (fun z hz => .inr (ROW.out.lt z hz).1) kg⟩
              rw [SN.out]
              unfold NatsRow
              rw [List.length_append, List.map_append]
              exact hown)
            clear hown hgrow hat hlt2 row
            go_wp2_with fail
            go_roundg (12 - (i + 1))
            case measure => have := HI.out; omega
            case rel => exact JN.out
    · obtain rfl : i = 12 := by omega
      have ROW := Lib.hid row
      have KP := Lib.hid kp
      clear hi hlt kp row
      go_wp2_with fail
      go_ret
      exact ⟨v, rfl, ROW.out, KP.out⟩

end Go.Proofs.YtgglkldoclejaaaDoor
