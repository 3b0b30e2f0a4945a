/-
  Walks: 'Place' of the reference.
-/
import Derived.Test.YtngbodmooddjbaaGreatRsw
namespace Go.Proofs.YtngbodmooddjbaaGreat
open Go.RowKit

theorem setL_ins {xs : List Value} {n i : Nat} {u : Value} (hx : xs.length = n + 1) (hi : i ≤ n) : setL (setL xs (i + 1) ((xs.take n).drop i)) i [u] = (xs.take n).take i ++ [u] ++ (xs.take n).drop i := by
  have hd : ((xs.take n).drop i).length = n - i := by rw [List.length_drop, List.length_take]; omega
  have ha : ((xs.take n).take i).length = i := by rw [List.length_take, List.length_take]; omega
  apply List.ext_getElem?
  intro j
  rw [setL_get _ _ _ _ (by rw [setL_len, hx]; simp; omega), setL_get _ _ _ _ (by rw [hd, hx]; omega), hd, List.length_singleton]
  rcases Nat.lt_trichotomy j i with h | h | h
  · rw [if_neg (by omega), if_neg (by omega), List.append_assoc, List.getElem?_append_left (by rw [ha]; exact h), List.getElem?_take, if_pos h, List.getElem?_take, if_pos (by omega)]
  · subst h
    rw [if_pos (by omega), Nat.sub_self, List.append_assoc, List.getElem?_append_right (by rw [ha]; omega), ha, Nat.sub_self]
    rfl
  · rw [if_neg (by omega), List.getElem?_append_right (by rw [List.length_append, ha, List.length_singleton]; omega), List.length_append, ha, List.length_singleton]
    by_cases hj : j < n + 1
    · rw [if_pos (by omega)]
    · rw [if_neg (by omega), List.getElem?_eq_none (by omega), List.getElem?_eq_none (by rw [hd]; omega)]

set_option maxRecDepth 100000 in
set_option maxHeartbeats 4000000 in
theorem Place_ok {p : Nat} {M : Mgr} {L : Lay} {w : World} (v lv : Nat) (R : Rep w p M L) (hn : M.n ≤ 256) (hv : v < M.n) (hlv : lv < M.n) (hb : (visF M).length * 3 ^ M.n + M.n + 2 ≤ big) (hm : M.nodes.length ≤ 500000000000) :
    Calls Tryz.prog 40 #[ptr p, .int .i64 (v : Int), .int .i64 (lv : Int)] w fun e w' => e = .returned (.bool true) ∧ ∃ k, k < M.order.length ∧ M.order.getD k 0 = v ∧ ArS w p M L (plO M.order k lv v) w' := by
  have VS := Lib.hid (vars_ok R)
  unfold natV at VS
  have OS := Lib.hid (Order_ok R hn)
  have RR := Lib.hid R
  have HBM := Lib.hid (And.intro hb hm)
  have HN := Lib.hid (And.intro hn (And.intro hv hlv))
  have hvi : (v : Int) < M.n := by omega
  have hli : (lv : Int) < M.n := by omega
  have hni : (M.n : Int) ≤ 256 := by omega
  clear R hb hm hn hv hlv
  go_enter Tryz.func40, Tryz.ntmps40
  go_wp2_with (go_at_call 58; refine VS.out.mono ?_; rintro e w' ⟨rfl, rfl⟩)
  refine OS.out.mono ?_
  rintro e w1 ⟨ov, rfl, orow, k1⟩
  have IX := Lib.hid (SIdx_ok (l := M.order) (v := v) (show M.order.length ≤ 256 from HN.out.1) (RR.out.wf.perm.has HN.out.2.1) (SrcAt.of_row orow))
  have hpos : 0 < M.order.length := by have : M.order.length = M.n := rfl; have := HN.out.2.1; omega
  obtain ⟨g, cap, rfl, hc1, hc2, _, hcl, hzl⟩ := ownsRow_open (row_zero orow) hpos
  have OROW := Lib.hid orow
  have KK1 := Lib.hid k1
  clear orow k1 hcl hzl OS VS
  go_wp2_with fail
  refine IX.out.mono ?_
  rintro e w2 ⟨k, rfl, rfl, hkl, hke, _⟩
  have HKL := Lib.hid (And.intro hkl hke)
  by_cases hkv : k = lv
  · subst hkv
    have RET : Hid (∃ k', k' < M.order.length ∧ M.order.getD k' 0 = v ∧ ArS w p M L (plO M.order k' k v) w2) := Lib.hid ⟨k, hkl, hke, by
      have e : M.order[k] = v := by rw [← hke, List.getD_eq_getElem?_getD, List.getElem?_eq_getElem hkl]; rfl
      have h := plO_same hkl
      rw [e] at h
      rw [h]
      exact ArS.same RR.out KK1.out⟩
    clear hkl hke
    go_wp2_with fail
    go_ret
    exact ⟨rfl, RET.out⟩
  · have hkvi : ¬ ((k : Int) = (lv : Int)) := by omega
    have hki : (k : Int) < M.n := by have : M.order.length = M.n := rfl; omega
    clear hkl hke hkv
    obtain ⟨n, hn1⟩ : ∃ n, M.order.length = n + 1 := ⟨M.order.length - 1, by omega⟩
    have DC := Del_ok (l := M.order.map Int.ofNat) (k := k) (by rw [List.length_map, List.map_map]; exact OROW.out) (by rw [List.length_map]; exact HKL.out.1)
    rw [List.length_map, show ((k + 1 : Nat) : Int) = (k : Int) + 1 by omega, show k + 1 - k = 1 by omega, show M.order.length - 1 = n by omega] at DC
    have HDC := Lib.hid DC
    have HN1 := Lib.hid hn1
    clear DC hn1
    go_wp2_with fail
    refine HDC.out.mono ?_
    rintro e w3 ⟨rfl, q, hw3⟩
    obtain ⟨r3, k3⟩ := ownsRow_putRow (q := q) (l' := (M.order.map Int.ofNat).take k ++ (M.order.map Int.ofNat).drop (k + 1) ++ List.replicate 1 0) OROW.out (by
      have := HKL.out.1
      simp
      omega)
    rw [← hw3] at r3 k3
    clear hw3 HDC
    have K3 := Lib.hid (KK1.out.trans (A := No) (A' := fun z => z = g) (fun z e => .inr (by rw [e]; exact (OROW.out.lt g rfl).1)) k3)
    rw [HN1.out] at r3
    have gl3 := (r3.lt g rfl).2
    have IC := Lib.hid (Ins_ok (w := w3.alloc (.cells #[.int .i64 (v : Int)] 3)) (i := lv) (vb := w3.heap.size) (v := (v : Int)) (r3.alloc _) (fun x hx => by obtain ⟨y, _, rfl⟩ := List.mem_map.1 hx; rfl) (by have h1 : M.order.length = M.n := rfl; have := HN.out.2.2; have := HN1.out; omega) (heap_alloc_new _ _) (by omega))
    have R3 := Lib.hid r3
    clear r3 k3
    go_wp2_with fail
    refine IC.out.mono ?_
    rintro e w4 ⟨rfl, r4, k4⟩
    have K4 := Lib.hid ((K3.out.trans_no (Kp.alloc _)).trans (A := No) (A' := fun z => z = g) (fun z e => .inr (by rw [e]; exact (OROW.out.lt g rfl).1)) k4)
    have hk : k < M.order.length := HKL.out.1
    have ek : M.order[k] = v := by rw [← HKL.out.2, List.getD_eq_getElem?_getD, List.getElem?_eq_getElem hk]; rfl
    have rows : SrcAt w4 (.slice (some ⟨g, 0, none⟩) (n + 1) cap) 1 (plO M.order k lv v).length ((plO M.order k lv v).map natV) := by
      have h := SrcAt.of_row r4
      have hlv : lv ≤ n := by have h1 : M.order.length = M.n := rfl; have := HN.out.2.2; have := HN1.out; omega
      have hlx : (((M.order.map Int.ofNat).take k ++ (M.order.map Int.ofNat).drop (k + 1) ++ List.replicate 1 (0 : Int)).map intV).length = n + 1 := by
        have := HN1.out
        simp
        omega
      rw [setL_ins hlx hlv] at h
      have ecs : (((M.order.map Int.ofNat).take k ++ (M.order.map Int.ofNat).drop (k + 1) ++ List.replicate 1 (0 : Int)).map intV).take n = (M.order.eraseIdx k).map natV := by
        rw [List.map_append, List.take_append_of_le_length (by have := HN1.out; simp; omega), List.take_of_length_le (by have := HN1.out; simp; omega), eraseIdx_parts, List.map_append, List.map_append, ← List.map_take, ← List.map_drop, List.map_map, List.map_map]
        rfl
      rw [ecs] at h
      rw [plO_len hk, HN1.out]
      have e2 : (plO M.order k lv v).map natV = ((M.order.eraseIdx k).map natV).take lv ++ [Value.int .i64 (v : Int)] ++ ((M.order.eraseIdx k).map natV).drop lv := by
        unfold plO
        rw [List.map_append, List.map_append, List.map_take, List.map_drop]
        rfl
      rw [e2]
      exact h
    have AC := Lib.hid (Arrange_ok (RR.out.no K4.out) (RR.out.wf.perm.pl (i := lv) hk ek) (plO_len hk) HN.out.1 rows HBM.out.1 HBM.out.2)
    clear r4 k4 rows IC hk ek
    go_wp2_with fail
    refine AC.out.mono ?_
    intro e w5 h5
    obtain ⟨rfl, h6⟩ := h5
    have h7 : ArS w4 p M L (plO M.order k lv v) w5 := h6
    have RET : Hid (∃ k', k' < M.order.length ∧ M.order.getD k' 0 = v ∧ ArS w p M L (plO M.order k' lv v) w5) := Lib.hid ⟨k, HKL.out.1, HKL.out.2, h7.from K4.out⟩
    clear h6 h7
    go_wp2_with fail
    go_ret
    exact ⟨rfl, RET.out⟩

end Go.Proofs.YtngbodmooddjbaaGreat

namespace Go.Proofs.YtngbodmooddjbaaGreat
open Go.RowKit

set_option maxRecDepth 100000 in
set_option maxHeartbeats 4000000 in
theorem Place_bad {p : Nat} {M : Mgr} {L : Lay} {w : World} (v lv : Int) (R : Rep w p M L) (hn : M.n ≤ 256) (h : ¬ ((0 ≤ v ∧ v < M.n) ∧ 0 ≤ lv ∧ lv < M.n)) :
    Calls Tryz.prog 40 #[ptr p, .int .i64 v, .int .i64 lv] w fun e w' => e = .returned (.bool false) ∧ Kp No w w' := by
  have VS := Lib.hid (vars_ok R)
  unfold natV at VS
  have hni : (M.n : Int) ≤ 256 := by omega
  clear R
  by_cases h0 : v < 0
  · clear h
    go_enter Tryz.func40, Tryz.ntmps40
    go_wp2_with fail
    go_ret
    exact ⟨rfl, Kp.refl _ _⟩
  by_cases h1 : (M.n : Int) ≤ v
  · clear h
    go_enter Tryz.func40, Tryz.ntmps40
    go_wp2_with (go_at_call 58; refine VS.out.mono ?_; rintro e w' ⟨rfl, rfl⟩)
    go_ret
    exact ⟨rfl, Kp.refl _ _⟩
  by_cases h2 : lv < 0
  · clear h
    go_enter Tryz.func40, Tryz.ntmps40
    go_wp2_with (go_at_call 58; refine VS.out.mono ?_; rintro e w' ⟨rfl, rfl⟩)
    go_ret
    exact ⟨rfl, Kp.refl _ _⟩
  · have h3 : (M.n : Int) ≤ lv := by omega
    clear h
    go_enter Tryz.func40, Tryz.ntmps40
    go_wp2_with (go_at_call 58; refine VS.out.mono ?_; rintro e w' ⟨rfl, rfl⟩)
    go_ret
    exact ⟨rfl, Kp.refl _ _⟩

end Go.Proofs.YtngbodmooddjbaaGreat

namespace Go.Proofs.YtngbodmooddjbaaGreat
open Go.RowKit

def RplPost (w : World) (ov : Value) (l : List Nat) (r : List Nat) (b : Bool) (e : Ending) (w' : World) : Prop :=
  ∃ rv, e = .returned (.tuple #[rv, .bool b]) ∧ r.length = l.length ∧ SrcAt w' rv 1 r.length (r.map natV) ∧ Kp No w w' ∧ OffR w w' ov rv l r
set_option maxRecDepth 100000 in
set_option maxHeartbeats 4000000 in
theorem RefPlace_bad {w : World} {l : List Nat} {ov : Value} (v lv : Int) (src : SrcAt w ov 1 l.length (l.map natV)) (hn : l.length ≤ 256) (h : ¬ ((0 ≤ v ∧ v < l.length) ∧ 0 ≤ lv ∧ lv < l.length)) :
    Calls Tryz.prog 39 #[ov, .int .i64 v, .int .i64 lv] w (RplPost w ov l l false) := by
  have SRC := Lib.hid src
  obtain ⟨ao, co, rfl⟩ := src.form
  have hni : (l.length : Int) ≤ 256 := by omega
  have RET : Hid (RplPost w (.slice ao l.length co) l l false (.returned (.tuple #[.slice ao l.length co, .bool false])) w) := Lib.hid ⟨_, rfl, rfl, SRC.out, Kp.refl _ _, OffR.self _ _ _⟩
  clear src
  by_cases h0 : v < 0
  · clear h
    go_enter Tryz.func39, Tryz.ntmps39
    go_wp2_with fail
    go_ret2
    exact RET.out
  by_cases h1 : (l.length : Int) ≤ v
  · clear h
    go_enter Tryz.func39, Tryz.ntmps39
    go_wp2_with fail
    go_ret2
    exact RET.out
  by_cases h2 : lv < 0
  · clear h
    go_enter Tryz.func39, Tryz.ntmps39
    go_wp2_with fail
    go_ret2
    exact RET.out
  · have h3 : (l.length : Int) ≤ lv := by omega
    clear h
    go_enter Tryz.func39, Tryz.ntmps39
    go_wp2_with fail
    go_ret2
    exact RET.out

end Go.Proofs.YtngbodmooddjbaaGreat

namespace Go.Proofs.YtngbodmooddjbaaGreat
open Go.RowKit

def flV (l : List Nat) (v i : Nat) : List Nat := (l.take i).filter fun u => u != v
theorem flV_succ {l : List Nat} {v i : Nat} (h : i < l.length) : flV l v (i + 1) = if l[i] = v then flV l v i else flV l v i ++ [l[i]] := by
  unfold flV
  rw [List.take_succ_eq_append_getElem h, List.filter_append]
  by_cases e : l[i] = v
  · simp [e]
  · simp [e]
theorem flV_len (l : List Nat) (v i : Nat) : (flV l v i).length ≤ l.length := Nat.le_trans (List.length_filter_le _ _) (by rw [List.length_take]; omega)
theorem SrcAt.sub1 {w : World} {b0 g n cap : Nat} {t : TypeId} {vs : List Value} (h : w.ownsRow b0 t 1 (.slice (some ⟨g, 0, none⟩) n cap) n vs) {o m c : Nat} (hm : o + m ≤ n) : SrcAt w (.slice (some ⟨g, o, none⟩) m c) 1 m ((vs.drop o).take m) := by
  have hlen : vs.length = n * 1 := h.1
  refine ⟨_, c, rfl, by simp; omega, ?_⟩
  rcases Nat.eq_zero_or_pos m with h0 | h0
  · exact .inl (by subst h0; simp)
  · obtain ⟨g', c', hv, _, _, _, hc, _⟩ := ownsRow_open h (by omega)
    cases hv
    refine .inr ⟨g, o, rfl, (h.lt g rfl).2, fun j u hu => ?_⟩
    rw [List.getElem?_take] at hu
    split at hu
    · rw [List.getElem?_drop] at hu
      exact hc _ _ hu
    · cases hu
theorem SrcAt.nil1 {w : World} {a : Option Addr} {m c : Nat} {vs : List Value} (hm : m = 0) (hv : vs = []) : SrcAt w (.slice a m c) 1 m vs := by
  subst hm hv
  exact ⟨a, c, rfl, rfl, .inl rfl⟩
theorem flV_all {l : List Nat} {k v : Nat} (hn : l.Nodup) (hk : k < l.length) (e : l[k] = v) : flV l v l.length = l.eraseIdx k := by
  have h1 : l = l.take k ++ (l[k] :: l.drop (k + 1)) := by rw [List.getElem_cons_drop hk, List.take_append_drop]
  have hn' := hn
  rw [h1, e, List.nodup_append, List.nodup_cons] at hn'
  unfold flV
  rw [List.take_of_length_le (Nat.le_refl _), eraseIdx_parts]
  have h2 : (l.take k ++ (l[k] :: l.drop (k + 1))).filter (fun u => u != v) = l.take k ++ l.drop (k + 1) := by
    rw [List.filter_append, List.filter_cons_of_neg (by simp [e]), List.filter_eq_self.2 (fun u hu => ?_), List.filter_eq_self.2 (fun u hu => ?_)]
    · simp only [bne_iff_ne, ne_eq]
      rintro rfl
      exact hn'.2.1.1 hu
    · simp only [bne_iff_ne, ne_eq]
      rintro rfl
      exact hn'.2.2 u hu u (.head _) rfl
  rw [← h2, ← h1]
def FpR (w : World) (l : List Nat) (v gk : Nat) (s8 s9 : Value) (y : World) : Prop := ∃ i, i + gk = l.length ∧ s9 = .int .i64 (i : Int) ∧ y.ownsRow w.heap.size 3 1 s8 (flV l v i).length ((flV l v i).map natV) ∧ Kp No w y

/-- The new order lies in a row of the call's own. -/
def PlRow (w : World) (ov : Value) (l : List Nat) (r : List Nat) (e : Ending) (w' : World) : Prop :=
  ∃ rv, e = .returned (.tuple #[rv, .bool true]) ∧ r.length = l.length ∧ w'.ownsRow w.heap.size 3 1 rv r.length (r.map natV) ∧ Kp No w w' ∧ OffV w ov rv
set_option maxRecDepth 100000 in
set_option maxHeartbeats 4000000 in
theorem RefPlace_row {w : World} {l : List Nat} {ov : Value} (v lv k : Nat) (src : SrcAt w ov 1 l.length (l.map natV)) (hn : l.length ≤ 256) (hv : v < l.length) (hlv : lv < l.length) (hnd : l.Nodup) (hkl : k < l.length) (hke : l[k] = v) :
    Calls Tryz.prog 39 #[ov, .int .i64 (v : Int), .int .i64 (lv : Int)] w (PlRow w ov l (plO l k lv v)) := by
  obtain ⟨i0, hi0, hz0, hz1, hz2⟩ := info_parts info_int
  have SRC := Lib.hid src
  obtain ⟨ao, co, rfl⟩ := src.form
  have hni : (l.length : Int) ≤ 256 := by omega
  have hvi : (v : Int) < l.length := by omega
  have hlvi : (lv : Int) < l.length := by omega
  have J0 : Hid (FpR w l v l.length (.slice none 0 0) (.int .i64 0) w) := Lib.hid ⟨0, by omega, rfl, World.ownsRow_nil _ _ _ _, Kp.refl _ _⟩
  have RES : Hid (flV l v l.length = l.eraseIdx k ∧ (l.eraseIdx k).length + 1 = l.length ∧ (plO l k lv v).length = l.length) := Lib.hid ⟨flV_all hnd hkl hke, by rw [List.length_eraseIdx, if_pos hkl]; omega, plO_len hkl⟩
  clear hnd hke hkl
  clear src
  have dx : decide (l.length ≤ v) = false := decide_eq_false (by omega)
  have dy : decide (l.length ≤ lv) = false := decide_eq_false (by omega)
  go_enter Tryz.func39, Tryz.ntmps39
  go_wp2_with fail
  have HVL := Lib.hid (And.intro hv hlv)
  clear hv hlv hvi hlvi
  go_loopg [8, 9] l.length (fun gk s8 s9 y => FpR w l v gk s8 s9 y)
  case atStart => exact J0.out
  case round =>
    clear J0
    obtain ⟨i, hk, rfl, row, kp⟩ := hrel
    have ROW := Lib.hid row
    have KP := Lib.hid kp
    have HK := Lib.hid hk
    have hR := flV_len l v i
    have hsz := kp.size
    obtain ⟨ar, cr, rfl, _⟩ := ownsRow_len (row_zero row)
    by_cases hlt : i < l.length
    · have hlti : (i : Int) < l.length := by omega
      obtain ⟨g, o, cc, hvv, glt, hc⟩ := (SRC.out.no kp).cellAt (by omega)
      cases hvv
      have d1 := hc i (natV l[i]) (by simp [hlt])
      unfold natV at d1
      have SU := Lib.hid (flV_succ (v := v) hlt)
      by_cases e : l[i] = v
      · have JN : Hid (FpR w l v (l.length - (i + 1)) (.slice ar (flV l v i).length cr) (.int .i64 ((i + 1 : Nat) : Int)) wr) := Lib.hid ⟨i + 1, by omega, rfl, by rw [SU.out, if_pos e]; exact ROW.out, KP.out⟩
        rw [e] at d1
        clear hk row kp hc e
        generalize (flV l v i).length = m at *
        go_wp2_with fail
        go_roundg (l.length - (i + 1))
        case measure => have := HK.out; omega
        case rel => exact JN.out
      · have JN : Hid (∀ (g5 cap5 : Nat) (w3 : World), w3.ownsRow w.heap.size 3 1 (.slice (some ⟨g5, 0, none⟩) ((flV l v i).length + 1) cap5) ((flV l v i).length + 1) ((flV l v i).map natV ++ [.int .i64 ((l[i] : Nat) : Int)]) → Kp (fun z => (Value.slice ar (flV l v i).length cr).ownBlock = some z) wr w3 → FpR w l v (l.length - (i + 1)) (.slice (some ⟨g5, 0, none⟩) ((flV l v i).length + 1) cap5) (.int .i64 ((i + 1 : Nat) : Int)) w3) := Lib.hid (fun g5 cap5 w3 h kg => ⟨i + 1, by omega, rfl, by rw [SU.out, if_neg e, List.length_append, List.map_append]; exact h, KP.out.trans (A' := fun z => (Value.slice ar (flV l v i).length cr).ownBlock = some z) (fun z hz => .inr (ROW.out.lt z hz).1) kg⟩)
        have e1 : ¬ (((l[i] : Nat) : Int) = (v : Int)) := by omega
        clear hk kp hc e SU
        generalize l[i] = y at *
        generalize flV l v i = fl at *
        go_upto_region 8 with fail
        go_upto_region 6 with (at_builtin; refine wpList_append_lies _ rfl (.tmp 42) (.tmp 47) _ rfl w.heap.size 3 i0 _ 1 8 Tryz.underlying24 hi0 hz0 hz1 hz2 rfl (by omega) (.slice ar fl.length cr) fl.length (fl.map natV) rfl (row.alloc _) ⟨wr.heap.size, 0, none⟩ 1 1 [.int .i64 (y : Int)] rfl rfl (World.news_of_block (heap_alloc_new _ _)) (by simp [Value.oneCell']) (by omega) (by unfold maxLen; omega) (by omega) (by simp; omega) (wr.heap.size + 1) (by simp) ?_; intro g5 cap5 w3 hown hgrow hat hlt5)
        have JM := Lib.hid (JN.out g5 cap5 w3 hown (grown_no (Kp.alloc _) hgrow))
        clear hown hgrow hat hlt5 row
        go_wp2_with fail
        go_roundg (l.length - (i + 1))
        case measure => have := HK.out; omega
        case rel => exact JM.out
    · obtain rfl : i = l.length := by omega
      have hge : ¬ (l.length : Int) < l.length := by omega
      clear hk row kp
      rw [RES.out.1] at ROW
      have KP' := KP
      have hlvR : lv ≤ (l.eraseIdx k).length := by have := RES.out.2.1; have := HVL.out.2; omega
      have hnR : (l.eraseIdx k).length ≤ 256 := by have := RES.out.2.1; omega
      have hEQ : (flV l v l.length).length = (l.eraseIdx k).length := by rw [RES.out.1]
      rw [hEQ]
      clear hEQ hR
      have FIN : Hid (∀ (w4 : World) (g5 cap5 : Nat), w4.ownsRow w.heap.size 3 1 (.slice (some ⟨g5, 0, none⟩) l.length cap5) l.length ((plO l k lv v).map natV) → Kp No w w4 → PlRow w (.slice ao l.length co) l (plO l k lv v) (.returned (.tuple #[.slice (some ⟨g5, 0, none⟩) l.length cap5, .bool true])) w4) := Lib.hid (fun w4 g5 cap5 h kk =>
        ⟨_, rfl, RES.out.2.2, by rw [RES.out.2.2]; exact h, kk, OffV.row h⟩)
      have PLO : Hid (∀ (n' : Nat), n' = (l.eraseIdx k).length → ((((l.eraseIdx k).map natV).take lv ++ [Value.int .i64 (v : Int)]) ++ ((l.eraseIdx k).map natV).drop lv) = (plO l k lv v).map natV) := Lib.hid (fun _ _ => by
        unfold plO
        rw [List.map_append, List.map_append, List.map_take, List.map_drop]
        rfl)
      generalize l.eraseIdx k = R at *
      have HONE : Hid (∀ (q : List Nat), ∀ x ∈ q.map natV, x.oneCell' = true) := Lib.hid (fun q x hx => by obtain ⟨y, _, rfl⟩ := List.mem_map.1 hx; rfl)
      have HLR := Lib.hid (And.intro RES.out.2.1 hlvR)
      clear RES
      rcases ROW.out.2 with ⟨hx, h0⟩ | ⟨g, cap, cur, hx, hb, hg, hc1, hc2, h3, h4⟩
      · injection hx with e1 e2 e3
        subst e1 e3
        have eR : R = [] := List.length_eq_zero_iff.1 e2
        subst eR
        obtain rfl : lv = 0 := by simpa using hlvR
        clear h0 e2 hlvR hnR
        go_upto_region 10 with fail
        go_upto_region 11 with (at_builtin; refine wpList_append_lies _ rfl (.tmp 53) (.tmp 55) _ rfl w.heap.size 3 i0 _ 1 8 Tryz.underlying24 hi0 hz0 hz1 hz2 rfl (by omega) (.slice none 0 0) 0 [] rfl (World.ownsRow_nil _ _ _ _) ⟨wr.heap.size, 0, none⟩ 1 1 [.int .i64 (v : Int)] rfl rfl (World.news_of_block (heap_alloc_new _ _)) (by simp [Value.oneCell']) (by omega) (by unfold maxLen; omega) (by omega) (by simp; omega) (wr.heap.size + 1) (by simp) ?_; intro g5 cap5 w3 hown hgrow hat hlt5)
        have kg := KP.out.trans_no ((Kp.alloc _).trans_no ((Kp.grown hgrow).mono (fun x _ h => by simp [Value.ownBlock] at h)))
        have hown : w3.ownsRow w.heap.size 3 1 (.slice (some ⟨g5, 0, none⟩) 1 cap5) 1 [.int .i64 (v : Int)] := by simpa using hown
        have K3 := Lib.hid kg
        have hws := kg.size
        clear hgrow hat hlt5 kg
        go_wp2_with (at_builtin; refine wpList_append_src rfl (.tmp 57) (.tmp 60) rfl (base := w.heap.size) (v := .slice (some ⟨g5, 0, none⟩) 1 cap5) Tryz.underlying24 hi0 hz0 hz1 hz2 rfl (by omega) rfl hown rfl (SrcAt.nil1 (m := 0) rfl rfl) (fun x hx => by cases hx) (by unfold maxLen; omega) (by omega) (by omega) ?_; intro v4 w4 hown4 hgrow4 hat4)
        have e1 : l.length = 1 := by have := HLR.out.1; simp at this; omega
        have RET : Hid (PlRow w (.slice ao l.length co) l (plO l k 0 v) (.returned (.tuple #[v4, .bool true])) w4) := Lib.hid (by
          have h : w4.ownsRow w.heap.size 3 1 v4 1 [.int .i64 (v : Int)] := by simpa using hown4
          obtain ⟨g6, cap6, rfl, _⟩ := ownsRow_open (row_zero h) (by omega)
          have F := FIN.out w4 g6 cap6
          rw [e1, ← PLO.out 0 rfl] at F
          rw [e1]
          refine F h (K3.out.trans (A := No) (A' := fun k => (Value.slice (some ⟨g5, 0, none⟩) 1 cap5).ownBlock = some k) (fun z hz => .inr ?_) (Kp.grown hgrow4))
          exact (hown.lt z hz).1)
        go_ret2
        exact RET.out
      · injection hx with e1 _ e3
        subst e1 e3
        have hlc : (lv : Int) ≤ cr := by omega
        have SRC1 : Hid (SrcAt wr (.slice (some ⟨g, 0, none⟩) lv cr) 1 lv ((R.map natV).take lv)) := Lib.hid (by
          have h := SrcAt.sub1 ROW.out (o := 0) (m := lv) (c := cr) (by omega)
          rw [List.drop_zero] at h
          exact h)
        clear hb hg hc1 hc2 h3 h4
        go_upto_region 10 with (at_builtin; refine wpList_append_src rfl _ _ rfl (base := w.heap.size) (v := .slice none 0 0) Tryz.underlying24 hi0 hz0 hz1 hz2 rfl (by omega) rfl (World.ownsRow_nil _ _ _ _) rfl SRC1.out (fun x hx => HONE.out R x (List.mem_of_mem_take hx)) (by unfold maxLen; omega) (by omega) (by omega) ?_; intro vc w1 hown1 hgrow1 hat1)
        have hown1 : w1.ownsRow w.heap.size 3 1 vc lv ((R.map natV).take lv) := by simpa using hown1
        have k1 := KP.out.trans_no ((Kp.grown hgrow1).mono (fun x _ h => by simp [Value.ownBlock] at h))
        have hws := k1.size
        have K1 := Lib.hid k1
        have KR := Lib.hid (show Kp No wr w1 from (Kp.grown hgrow1).mono (fun x _ h => by simp [Value.ownBlock] at h))
        obtain ⟨ac, cc, rfl, _⟩ := ownsRow_len (row_zero hown1)
        have hgc : (Value.slice ac lv cc).ownBlock ≠ some g := fun e => by
          have g1 := (ROW.out.lt g rfl).2
          rcases hat1 with h | h
          · rw [e] at h
            simp [Value.ownBlock] at h
          · rw [e] at h
            have := Option.some.inj h
            omega
        clear hgrow1 hat1 k1
        go_upto_region 11 with (at_builtin; refine wpList_append_lies _ rfl (.tmp 53) (.tmp 55) _ rfl w.heap.size 3 i0 _ 1 8 Tryz.underlying24 hi0 hz0 hz1 hz2 rfl (by omega) (.slice ac lv cc) lv ((R.map natV).take lv) rfl (hown1.alloc _) ⟨w1.heap.size, 0, none⟩ 1 1 [.int .i64 (v : Int)] rfl rfl (World.news_of_block (heap_alloc_new _ _)) (by simp [Value.oneCell']) (by omega) (by unfold maxLen; omega) (by omega) (by simp; omega) (w1.heap.size + 1) (by simp) ?_; intro g5 cap5 w3 hown3 hgrow3 hat3 hlt5)
        have kg : Kp (fun k => (Value.slice ac lv cc).ownBlock = some k) w1 w3 := grown_no (Kp.alloc _) hgrow3
        have K3 := Lib.hid (K1.out.trans (A := No) (A' := fun k => (Value.slice ac lv cc).ownBlock = some k) (fun z hz => .inr (hown1.lt z hz).1) kg)
        have hws3 := K3.out.size
        have row3 := ownsRow_kp (ownsRow_kp ROW.out KR.out (fun _ _ h => h)) kg (fun k e h => by
          simp only [Value.ownBlock] at e
          have e := Option.some.inj e
          rw [← e] at h
          exact hgc h)
        have hrl : R.length ≤ cr := by
          rcases ROW.out.2 with ⟨hx, _⟩ | ⟨g', c', cur, hx, _, _, h1, _⟩
          · cases hx
          · injection hx with _ _ e; omega
        have hN : lv + 1 + (R.length - lv) = l.length := by have := HLR.out.1; omega
        have SRC2 : Hid (∀ a c, (a = lv ∨ R.length = lv) → SrcAt w3 (.slice (some ⟨g, a, none⟩) (R.length - lv) c) 1 (R.length - lv) ((R.map natV).drop lv)) := Lib.hid (fun a c ha => by
          by_cases e0 : R.length = lv
          · rw [e0, Nat.sub_self]
            exact SrcAt.nil1 rfl (by rw [List.drop_eq_nil_of_le (by simp; omega)])
          · obtain rfl : a = lv := ha.resolve_right e0
            have h := SrcAt.sub1 row3 (o := a) (m := R.length - a) (c := c) (by omega)
            rw [List.take_of_length_le (by simp)] at h
            exact h)
        have FIN4 : Hid (∀ (w4 : World) (v4 : Value), w4.ownsRow w.heap.size 3 1 v4 (lv + 1 + (R.length - lv)) ((((R.map natV).take lv) ++ [.int .i64 (v : Int)]) ++ (R.map natV).drop lv) → w3.grownBy w4 (some g5) → PlRow w (.slice ao l.length co) l (plO l k lv v) (.returned (.tuple #[v4, .bool true])) w4) := Lib.hid (fun w4 v4 h hg => by
          rw [hN, PLO.out R.length rfl] at h
          have hp : 0 < l.length := by omega
          obtain ⟨g6, cap6, rfl, _⟩ := ownsRow_open (row_zero h) hp
          refine FIN.out w4 g6 cap6 h (K3.out.trans (A := No) (A' := fun k => some g5 = some k) (fun z hz => .inr ?_) (Kp.grown hg))
          have := (hown3.lt g5 rfl).1
          rw [← Option.some.inj hz]; exact this)
        clear hgrow3 hat3 hlt5 kg hown1 row3 hgc PLO FIN
        have hnl : lv ≤ R.length := HLR.out.2
        by_cases hcl : cr = lv
        · subst hcl
          have eR := Lib.hid (show R.length = cr by omega)
          go_wp2_with (at_builtin; refine wpList_append_src rfl (.tmp 57) (.tmp 60) rfl (base := w.heap.size) (v := .slice (some ⟨g5, 0, none⟩) (cr + 1) cap5) Tryz.underlying24 hi0 hz0 hz1 hz2 rfl (by omega) rfl hown3 rfl (SrcAt.nil1 (m := 0) rfl rfl) (fun x hx => by cases hx) (by unfold maxLen; omega) (by omega) (by omega) ?_; intro v4 w4 hown4 hgrow4 hat4)
          have RET := Lib.hid (FIN4.out w4 v4 (by rw [eR.out, Nat.sub_self, List.drop_eq_nil_of_le (by rw [List.length_map, eR.out]; exact Nat.le_refl _)]; exact hown4) hgrow4)
          clear hown4 hgrow4 hat4
          go_wp2_with fail
          go_ret2
          exact RET.out
        · have hcl' : ¬ (cr : Int) = lv := by omega
          go_wp2_with (at_builtin; refine wpList_append_src rfl (.tmp 57) (.tmp 60) rfl (base := w.heap.size) (v := .slice (some ⟨g5, 0, none⟩) (lv + 1) cap5) Tryz.underlying24 hi0 hz0 hz1 hz2 rfl (by omega) rfl hown3 rfl (SRC2.out _ _ (.inl rfl)) (fun x hx => HONE.out R x (List.mem_of_mem_drop hx)) (by unfold maxLen; omega) (by omega) (by omega) ?_; intro v4 w4 hown4 hgrow4 hat4)
          have RET := Lib.hid (FIN4.out w4 v4 hown4 hgrow4)
          clear hown4 hgrow4 hat4
          go_wp2_with fail
          go_ret2
          exact RET.out

theorem RefPlace_ok {w : World} {l : List Nat} {ov : Value} (v lv k : Nat) (src : SrcAt w ov 1 l.length (l.map natV)) (hn : l.length ≤ 256) (hv : v < l.length) (hlv : lv < l.length) (hnd : l.Nodup) (hkl : k < l.length) (hke : l[k] = v) :
    Calls Tryz.prog 39 #[ov, .int .i64 (v : Int), .int .i64 (lv : Int)] w (RplPost w ov l (plO l k lv v) true) :=
  (RefPlace_row v lv k src hn hv hlv hnd hkl hke).mono fun _ _ ⟨rv, h1, h2, h3, h4, h5⟩ => ⟨rv, h1, h2, SrcAt.of_row h3, h4, OffR.of (by rw [← h2]; exact h3)⟩

end Go.Proofs.YtngbodmooddjbaaGreat
