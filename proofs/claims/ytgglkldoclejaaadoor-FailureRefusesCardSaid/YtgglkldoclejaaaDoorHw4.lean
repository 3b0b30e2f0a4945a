/-
  Walks: 'Decode' of the package header.
-/
import Derived.Test.YtgglkldoclejaaaDoorHw3
import Derived.Deep.DrawnRows
namespace Go.Proofs.YtgglkldoclejaaaDoor
open Go.RowKit

def dnL (a : Nat → Bool) (k : Nat) : List Nat := (List.range k).filter a
theorem dnL_succ (a : Nat → Bool) (k : Nat) : dnL a (k + 1) = dnL a k ++ if a k then [k] else [] := by
  unfold dnL
  rw [List.range_succ, List.filter_append]; congr 1; simp [List.filter_cons]
theorem dnL_len (a : Nat → Bool) (k : Nat) : (dnL a k).length ≤ k := Nat.le_trans (List.length_filter_le _ _) (by simp)
def DecPost (w : World) (l : List Bool) (e : Ending) (w' : World) : Prop :=
  ∃ dv, e = .returned (.tuple #[dv, pktV (getP (asg l) false), pktV (getP (asg l) true)]) ∧ w'.ownsRow w.heap.size 3 1 dv (dnL (asg l) 12).length ((dnL (asg l) 12).map natV) ∧ Kp No w w'
def DecR (wB : World) (a : Nat → Bool) (gk : Nat) (s5 s7 : Value) (wr : World) : Prop := ∃ k v, k + gk = 12 ∧ s7 = .int .i64 (k : Int) ∧ v = s5 ∧ wr.ownsRow wB.heap.size 3 1 v (dnL a k).length ((dnL a k).map natV) ∧ Kp No wB wr

theorem zero_row {w : World} {b : Nat} {t : TypeId} (h : w.heap[b]? = some (.cells zeroPkt t (0, 0))) : w.cell? ⟨b, 0, none⟩ = some (.int .u32 0) ∧ w.cell? ⟨b, 1, none⟩ = some (.int .u32 0) ∧ w.cell? ⟨b, 2, none⟩ = some (.int .i64 0) ∧ w.cell? ⟨b, 3, none⟩ = some (.int .i64 0) ∧ w.cell? ⟨b, 4, none⟩ = some (.int .i64 0) ∧ ∀ i, w.frozen? ⟨b, i, none⟩ = false :=
  ⟨by rw [cell_of_row _ _ _ _ _ _ h]; rfl, by rw [cell_of_row _ _ _ _ _ _ h]; rfl, by rw [cell_of_row _ _ _ _ _ _ h]; rfl, by rw [cell_of_row _ _ _ _ _ _ h]; rfl, by rw [cell_of_row _ _ _ _ _ _ h]; rfl, fun i => by simp [World.frozen?, h]⟩

set_option maxRecDepth 100000 in
set_option maxHeartbeats 2000000 in
theorem Decode_ok {av : Value} {l : List Bool} {w : World} (g : Gl w) (hb : Bools w av l) : Calls Tryd.prog 23 #[av] w (DecPost w l) := by
  obtain ⟨i0, hi0, hz0, hz1, hz2⟩ := info_parts info_int
  have GLW := Lib.hid g
  have HB := Lib.hid hb
  have GET := Lib.hid (fun (x : World) (nx : Bool) (k : Kp No w x) => get_ok nx (GLW.out.no k) (HB.out.no k))
  obtain ⟨ao, c, rfl, _, _⟩ := hb
  clear g
  go_enter Tryd.func23, Tryd.ntmps23
  have KW := Lib.hid ((Kp.alloc (w := w) (.cells zeroPkt 29)).trans_no (Kp.alloc (.cells zeroPkt 29)))
  have R0 : Hid (((w.alloc (.cells zeroPkt 29)).alloc (.cells zeroPkt 29)).heap[w.heap.size]? = some (.cells zeroPkt 29 (0, 0))) := Lib.hid (by
    have h := heap_alloc_new w (.cells zeroPkt 29)
    rw [(Kp.alloc (w := w.alloc (.cells zeroPkt 29)) (.cells zeroPkt 29)).block _ (heap_lt h) (fun x => x)]
    exact h)
  have R1 : Hid (((w.alloc (.cells zeroPkt 29)).alloc (.cells zeroPkt 29)).heap[w.heap.size + 1]? = some (.cells zeroPkt 29 (0, 0))) := Lib.hid (by
    have h := heap_alloc_new (w.alloc (.cells zeroPkt 29)) (.cells zeroPkt 29)
    rw [show (w.alloc (.cells zeroPkt 29)).heap.size = w.heap.size + 1 by simp] at h
    exact h)
  have HSZ : Hid (((w.alloc (.cells zeroPkt 29)).alloc (.cells zeroPkt 29)).heap.size = w.heap.size + 2) := Lib.hid (by simp)
  go_wp2_with fail
  change Code.wp _ _ _ _ ((w.alloc (.cells zeroPkt 29)).alloc (.cells zeroPkt 29))
  generalize (w.alloc (.cells zeroPkt 29)).alloc (.cells zeroPkt 29) = wB at *
  have J0 : Hid (DecR wB (asg l) 12 (.slice none 0 0) (.int .i64 0) wB) := Lib.hid ⟨0, _, by omega, rfl, rfl, World.ownsRow_nil _ _ _ _, Kp.refl _ _⟩
  go_loopg [5, 7] 12 (fun gk s5 s7 wr => DecR wB (asg l) gk s5 s7 wr)
  case atStart => exact J0.out
  case round =>
    clear J0
    obtain ⟨k, v, hk, rfl, e5, row, kp⟩ := hrel
    subst e5
    by_cases hlt : k < 12
    · have hlti : (k : Int) < 12 := by omega
      have HK := Lib.hid hk
      have KP := Lib.hid kp
      have ROW := Lib.hid row
      have hsz := kp.size
      have hln := dnL_len (asg l) k
      have SN := Lib.hid (dnL_succ (asg l) k)
      obtain ⟨ao', c', hv', _, hcells⟩ := HB.out.no (KW.out.trans_no kp)
      have hv1 : ao = ao' := by injection hv'
      subst hv1
      cases hbit : asg l k
      · have JN : Hid (DecR wB (asg l) (12 - (k + 1)) v (.int .i64 ((k + 1 : Nat) : Int)) wr) := Lib.hid ⟨k + 1, _, by omega, rfl, rfl, by rw [SN.out, hbit, if_neg (by simp), List.append_nil]; exact row, kp⟩
        by_cases hvl : k < l.length
        · rcases hcells with hcells | ⟨g, o, rfl, hcells⟩
          · rw [hcells] at hvl; simp at hvl
          have hc : wr.cell? ⟨g, o + k, none⟩ = some (.bool false) := hcells k _ (by
            have : l.getD k false = false := hbit
            simp [hvl] at this ⊢; exact this)
          have hvi : (k : Int) < l.length := by omega
          clear hk kp row hcells hv' hbit SN
          go_wp2_with fail
          go_roundg (12 - (k + 1))
          case measure => have := HK.out; omega
          case rel => exact JN.out
        · have hvi : ¬ (k : Int) < l.length := by omega
          clear hk kp row hcells hv' hbit SN
          go_wp2_with fail
          go_roundg (12 - (k + 1))
          case measure => have := HK.out; omega
          case rel => exact JN.out
      · have hvl : k < l.length := by
          rcases Nat.lt_or_ge k l.length with h | h
          · exact h
          · unfold asg at hbit; rw [List.getD_eq_getElem?_getD, List.getElem?_eq_none h] at hbit; cases hbit
        rcases hcells with hcells | ⟨g, o, rfl, hcells⟩
        · rw [hcells] at hvl; simp at hvl
        have hc : wr.cell? ⟨g, o + k, none⟩ = some (.bool true) := hcells k _ (by
          have : l.getD k false = true := hbit
          simp [hvl] at this ⊢; exact this)
        have hvi : (k : Int) < l.length := by omega
        rw [hbit, if_pos rfl] at SN
        clear hk kp hcells hv' hbit
        generalize dnL (asg l) k = lst at *
        go_upto_region 7 with (at_builtin; refine wpList_append_lies _ rfl (.tmp 20) (.tmp 22) _ rfl wB.heap.size 3 i0 _ 1 8 Tryd.underlying26 hi0 hz0 hz1 hz2 rfl (by omega) v lst.length (lst.map natV) rfl (row.alloc _) ⟨wr.heap.size, 0, none⟩ 1 1 [.int .i64 (k : Int)] rfl rfl (World.news_of_block (heap_alloc_new _ _)) (by simp [Value.oneCell']) (by omega) (by unfold maxLen; omega) (by omega) (by simp; omega) (wr.heap.size + 1) (by simp) ?_; intro g5 cap5 w3 hown hgrow hat hlt2)
        have JN : Hid (DecR wB (asg l) (12 - (k + 1)) (.slice (some ⟨g5, 0, none⟩) (lst.length + 1) cap5) (.int .i64 ((k + 1 : Nat) : Int)) w3) := Lib.hid (by
          have kg : Kp (fun z => v.ownBlock = some z) wr w3 := grown_no (Kp.alloc _) hgrow
          refine ⟨k + 1, _, by omega, rfl, rfl, ?_, KP.out.trans (A' := fun z => v.ownBlock = some z) (fun z hz => .inr (ROW.out.lt z hz).1) kg⟩
          rw [SN.out, List.length_append, List.map_append]
          exact hown)
        clear hown hgrow hat hlt2 row
        go_wp2_with fail
        go_roundg (12 - (k + 1))
        case measure => have := HK.out; omega
        case rel => exact JN.out
    · obtain rfl : k = 12 := by omega
      have KP := Lib.hid kp
      have ROW := Lib.hid row
      have G1 := Lib.hid (GET.out wr false (KW.out.trans_no kp))
      clear kp row hk hlt
      go_wp2_with fail
      refine G1.out.mono ?_
      rintro e w1 ⟨rfl, k1⟩
      have K1 := Lib.hid (KP.out.trans_no k1)
      have KR1 := Lib.hid k1
      have G2 := Lib.hid (GET.out w1 true (KW.out.trans_no K1.out))
      clear k1 G1
      go_wp2_with fail
      refine G2.out.mono ?_
      rintro e w2 ⟨rfl, k2⟩
      have K2 := Lib.hid (K1.out.trans_no k2)
      obtain ⟨pk, hpk⟩ : ∃ pk, getP (asg l) false = pk := ⟨_, rfl⟩
      obtain ⟨qk, hqk⟩ : ∃ qk, getP (asg l) true = qk := ⟨_, rfl⟩
      rw [hpk, hqk]
      have HPK := Lib.hid hpk
      have HQK := Lib.hid hqk
      have RF := Lib.hid (ownsRow_kp ROW.out (KR1.out.trans_no k2) (fun _ _ z => z))
      obtain ⟨d0, d1, d2, d3, d4, z0⟩ := zero_row (by rw [K2.out.block _ (heap_lt R0.out) (fun x => x)]; exact R0.out)
      obtain ⟨e0, e1, e2, e3, e4, z1⟩ := zero_row (by rw [K2.out.block _ (heap_lt R1.out) (fun x => x)]; exact R1.out)
      unfold pktV
      clear hpk hqk k2 G2 GET
      go_wp2_with fail
      have FR : ∀ (a b : Nat) (x : World), Fresh (fun z => z = a ∨ z = b) (fun z => z = a ∨ z = b) x := fun _ _ _ _ h => .inl h
      have KF : Kp (fun z => z = w.heap.size ∨ z = w.heap.size + 1) w2 _ := ((Kp.set5 w2 w.heap.size (.int .u32 (pk.src : Int)) (.int .u32 (pk.dst : Int)) (.int .i64 pk.proto) (.int .i64 pk.sport) (.int .i64 pk.dport)).mono (fun _ _ h => .inl h)).trans (FR _ _ _) ((Kp.set5 _ (w.heap.size + 1) (.int .u32 (qk.src : Int)) (.int .u32 (qk.dst : Int)) (.int .i64 qk.proto) (.int .i64 qk.sport) (.int .i64 qk.dport)).mono (fun _ _ h => .inr h))
      have h2 := HSZ.out
      refine bodyPost_ret (v := .tuple #[v, pktV pk, pktV qk]) ?_ rfl ⟨v, by rw [HPK.out, HQK.out], ?_, (KW.out.trans_no K2.out).trans (A' := fun z => z = w.heap.size ∨ z = w.heap.size + 1) (fun x e => .inr (by omega)) KF⟩
      · unfold pktV
        simp [results, Tryd.results23, go_sem, d0, d1, d2, d3, d4, e0, e1, e2, e3, e4]
      · have := ownsRow_kp RF.out KF (fun z e h => by have := (RF.out.lt z e).1; omega)
        rcases this.2 with hx | ⟨g, cap, cur, hv, hg, r⟩
        · exact ⟨this.1, .inl hx⟩
        · exact ⟨this.1, .inr ⟨g, cap, cur, hv, by omega, r⟩⟩

end Go.Proofs.YtgglkldoclejaaaDoor
