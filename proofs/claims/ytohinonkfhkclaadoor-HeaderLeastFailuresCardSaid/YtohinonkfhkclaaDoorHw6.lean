/-
  Walks: 'Wildcard' of the package header.
-/
import Derived.Test.YtohinonkfhkclaaDoorHw3
import Derived.Deep.DrawnRows
namespace Go.Proofs.YtohinonkfhkclaaDoor
open Go.RowKit

def dnL (a : Nat → Bool) (k : Nat) : List Nat := (List.range k).filter a
theorem dnL_succ (a : Nat → Bool) (k : Nat) : dnL a (k + 1) = dnL a k ++ if a k then [k] else [] := by
  unfold dnL
  rw [List.range_succ, List.filter_append]; congr 1; simp [List.filter_cons]
theorem dnL_len (a : Nat → Bool) (k : Nat) : (dnL a k).length ≤ k := Nat.le_trans (List.length_filter_le _ _) (by simp)
def DecPost (w : World) (l : List Bool) (e : Ending) (w' : World) : Prop :=
  ∃ dv, e = .returned (.tuple #[dv, pktV (getP (asg l) false), pktV (getP (asg l) true)]) ∧ w'.ownsRow w.heap.size 3 1 dv (dnL (asg l) 12).length ((dnL (asg l) 12).map natV) ∧ Kp No w w'
def DecR (wB : World) (a : Nat → Bool) (gk : Nat) (s5 s7 : Value) (wr : World) : Prop := ∃ k v, k + gk = 12 ∧ s7 = .int .i64 (k : Int) ∧ v = s5 ∧ wr.ownsRow wB.heap.size 3 1 v (dnL a k).length ((dnL a k).map natV) ∧ Kp No wB wr

theorem zero_row {w : World} {b : Nat} {t : TypeId} (h : w.heap[b]? = some (.cells zeroPkt t (0, 0))) : w.cell? ⟨b, 0, none⟩ = some (.int .u32 0) ∧ w.cell? ⟨b, 1, none⟩ = some (.int .u32 0) ∧ w.cell? ⟨b, 2, none⟩ = some (.int .i64 0) ∧ w.cell? ⟨b, 3, none⟩ = some (.int .i64 0) ∧ w.cell? ⟨b, 4, none⟩ = some (.int .i64 0) ∧ ∀ i, w.frozen? ⟨b, i, none⟩ = false :=
  ⟨by rw [cell_of_row _ _ _ _ _ _ h]; rfl, by rw [cell_of_row _ _ _ _ _ _ h]; rfl, by rw [cell_of_row _ _ _ _ _ _ h]; rfl, by rw [cell_of_row _ _ _ _ _ _ h]; rfl, by rw [cell_of_row _ _ _ _ _ _ h]; rfl, fun i => by simp [World.frozen?, h]⟩

set_option maxRecDepth 100000 in
set_option maxHeartbeats 2000000 in
theorem Decode_ok {av : Value} {l : List Bool} {w : World} (g : Gl w) (hb : Bools w av l) : Calls Tryd.prog 49 #[av] w (DecPost w l) := by
  obtain ⟨i0, hi0, hz0, hz1, hz2⟩ := info_parts info_int
  have GLW := Lib.hid g
  have HB := Lib.hid hb
  have GET := Lib.hid (fun (x : World) (nx : Bool) (k : Kp No w x) => get_ok nx (GLW.out.no k) (HB.out.no k))
  obtain ⟨ao, c, rfl, _, _⟩ := hb
  clear g
  go_enter Tryd.func49, Tryd.ntmps49
  have KW := Lib.hid ((Kp.alloc (w := w) (.cells zeroPkt 48)).trans_no (Kp.alloc (.cells zeroPkt 48)))
  have R0 : Hid (((w.alloc (.cells zeroPkt 48)).alloc (.cells zeroPkt 48)).heap[w.heap.size]? = some (.cells zeroPkt 48 (0, 0))) := Lib.hid (by
    have h := heap_alloc_new w (.cells zeroPkt 48)
    rw [(Kp.alloc (w := w.alloc (.cells zeroPkt 48)) (.cells zeroPkt 48)).block _ (heap_lt h) (fun x => x)]
    exact h)
  have R1 : Hid (((w.alloc (.cells zeroPkt 48)).alloc (.cells zeroPkt 48)).heap[w.heap.size + 1]? = some (.cells zeroPkt 48 (0, 0))) := Lib.hid (by
    have h := heap_alloc_new (w.alloc (.cells zeroPkt 48)) (.cells zeroPkt 48)
    rw [show (w.alloc (.cells zeroPkt 48)).heap.size = w.heap.size + 1 by simp] at h
    exact h)
  have HSZ : Hid (((w.alloc (.cells zeroPkt 48)).alloc (.cells zeroPkt 48)).heap.size = w.heap.size + 2) := Lib.hid (by simp)
  go_wp2_with fail
  change Code.wp _ _ _ _ ((w.alloc (.cells zeroPkt 48)).alloc (.cells zeroPkt 48))
  generalize (w.alloc (.cells zeroPkt 48)).alloc (.cells zeroPkt 48) = wB at *
  have J0 : Hid (DecR wB (asg l) 12 (.slice none 0 0) (.int .i64 0) wB) := Lib.hid ⟨0, _, by omega, rfl, rfl, World.ownsRow_nil _ _ _ _, Kp.refl _ _⟩
  go_loopg [5, 7] 12 (fun gk s5 s7 wr => DecR wB (asg l) gk s5 s7 wr)
  case atStart => exact J0.out
  case round =>
    clear J0
    obtain ⟨k, v, hk, rfl, e5, row, kp⟩ := hrel
    subst e5
    by_cases hlt : k < 12
    · have hlti : (k : Int) < 12 := by omega
      have HK := Lib.hid hk
      have KP := Lib.hid kp
      have ROW := Lib.hid row
      have hsz := kp.size
      have hln := dnL_len (asg l) k
      have SN := Lib.hid (dnL_succ (asg l) k)
      obtain ⟨ao', c', hv', _, hcells⟩ := HB.out.no (KW.out.trans_no kp)
      have hv1 : ao = ao' := by injection hv'
      subst hv1
      cases hbit : asg l k
      · have JN : Hid (DecR wB (asg l) (12 - (k + 1)) v (.int .i64 ((k + 1 : Nat) : Int)) wr) := Lib.hid ⟨k + 1, _, by omega, rfl, rfl, by rw [SN.out, hbit, if_neg (by simp), List.append_nil]; exact row, kp⟩
        by_cases hvl : k < l.length
        · rcases hcells with hcells | ⟨g, o, rfl, hcells⟩
          · rw [hcells] at hvl; simp at hvl
          have hc : wr.cell? ⟨g, o + k, none⟩ = some (.bool false) := hcells k _ (by
            have : l.getD k false = false := hbit
            simp [hvl] at this ⊢; exact this)
          have hvi : (k : Int) < l.length := by omega
          clear hk kp row hcells hv' hbit SN
          go_wp2_with fail
          go_roundg (12 - (k + 1))
          case measure => have := HK.out; omega
          case rel => exact JN.out
        · have hvi : ¬ (k : Int) < l.length := by omega
          clear hk kp row hcells hv' hbit SN
          go_wp2_with fail
          go_roundg (12 - (k + 1))
          case measure => have := HK.out; omega
          case rel => exact JN.out
      · have hvl : k < l.length := by
          rcases Nat.lt_or_ge k l.length with h | h
          · exact h
          · unfold asg at hbit; rw [List.getD_eq_getElem?_getD, List.getElem?_eq_none h] at hbit; cases hbit
        rcases hcells with hcells | ⟨g, o, rfl, hcells⟩
        · rw [hcells] at hvl; simp at hvl
        have hc : wr.cell? ⟨g, o + k, none⟩ = some (.bool true) := hcells k _ (by
          have : l.getD k false = true := hbit
          simp [hvl] at this ⊢; exact this)
        have hvi : (k : Int) < l.length := by omega
        rw [hbit, if_pos rfl] at SN
        clear hk kp hcells hv' hbit
        generalize dnL (asg l) k = lst at *
        go_upto_region 7 with (at_builtin; refine wpList_append_lies _ rfl (.tmp 20) (.tmp 22) _ rfl wB.heap.size 3 i0 _ 1 8 Tryd.underlying28 hi0 hz0 hz1 hz2 rfl (by omega) v lst.length (lst.map natV) rfl (row.alloc _) ⟨wr.heap.size, 0, none⟩ 1 1 [.int .i64 (k : Int)] rfl rfl (World.news_of_block (heap_alloc_new _ _)) (by simp [Value.oneCell']) (by omega) (by unfold maxLen; omega) (by omega) (by simp; omega) (wr.heap.size + 1) (by simp) ?_; intro g5 cap5 w3 hown hgrow hat hlt2)
        have JN : Hid (DecR wB (asg l) (12 - (k + 1)) (.slice (some ⟨g5, 0, none⟩) (lst.length + 1) cap5) (.int .i64 ((k + 1 : Nat) : Int)) w3) := Lib.hid (by
          have kg : Kp (fun z => v.ownBlock = some z) wr w3 := grown_no (Kp.alloc _) hgrow
          refine ⟨k + 1, _, by omega, rfl, rfl, ?_, KP.out.trans (A' := fun z => v.ownBlock = some z) (fun z hz => .inr (ROW.out.lt z hz).1) kg⟩
          rw [SN.out, List.length_append, List.map_append]
          exact hown)
        clear hown hgrow hat hlt2 row
        go_wp2_with fail
        go_roundg (12 - (k + 1))
        case measure => have := HK.out; omega
        case rel => exact JN.out
    · obtain rfl : k = 12 := by omega
      have KP := Lib.hid kp
      have ROW := Lib.hid row
      have G1 := Lib.hid (GET.out wr false (KW.out.trans_no kp))
      clear kp row hk hlt
      go_wp2_with fail
      refine G1.out.mono ?_
      rintro e w1 ⟨rfl, k1⟩
      have K1 := Lib.hid (KP.out.trans_no k1)
      have KR1 := Lib.hid k1
      have G2 := Lib.hid (GET.out w1 true (KW.out.trans_no K1.out))
      clear k1 G1
      go_wp2_with fail
      refine G2.out.mono ?_
      rintro e w2 ⟨rfl, k2⟩
      have K2 := Lib.hid (K1.out.trans_no k2)
      obtain ⟨pk, hpk⟩ : ∃ pk, getP (asg l) false = pk := ⟨_, rfl⟩
      obtain ⟨qk, hqk⟩ : ∃ qk, getP (asg l) true = qk := ⟨_, rfl⟩
      rw [hpk, hqk]
      have HPK := Lib.hid hpk
      have HQK := Lib.hid hqk
      have RF := Lib.hid (ownsRow_kp ROW.out (KR1.out.trans_no k2) (fun _ _ z => z))
      obtain ⟨d0, d1, d2, d3, d4, z0⟩ := zero_row (by rw [K2.out.block _ (heap_lt R0.out) (fun x => x)]; exact R0.out)
      obtain ⟨e0, e1, e2, e3, e4, z1⟩ := zero_row (by rw [K2.out.block _ (heap_lt R1.out) (fun x => x)]; exact R1.out)
      unfold pktV
      clear hpk hqk k2 G2 GET
      go_wp2_with fail
      have FR : ∀ (a b : Nat) (x : World), Fresh (fun z => z = a ∨ z = b) (fun z => z = a ∨ z = b) x := fun _ _ _ _ h => .inl h
      have KF : Kp (fun z => z = w.heap.size ∨ z = w.heap.size + 1) w2 _ := ((Kp.set5 w2 w.heap.size (.int .u32 (pk.src : Int)) (.int .u32 (pk.dst : Int)) (.int .i64 pk.proto) (.int .i64 pk.sport) (.int .i64 pk.dport)).mono (fun _ _ h => .inl h)).trans (FR _ _ _) ((Kp.set5 _ (w.heap.size + 1) (.int .u32 (qk.src : Int)) (.int .u32 (qk.dst : Int)) (.int .i64 qk.proto) (.int .i64 qk.sport) (.int .i64 qk.dport)).mono (fun _ _ h => .inr h))
      have h2 := HSZ.out
      refine bodyPost_ret (v := .tuple #[v, pktV pk, pktV qk]) ?_ rfl ⟨v, by rw [HPK.out, HQK.out], ?_, (KW.out.trans_no K2.out).trans (A' := fun z => z = w.heap.size ∨ z = w.heap.size + 1) (fun x e => .inr (by omega)) KF⟩
      · unfold pktV
        simp [results, Tryd.results49, go_sem, d0, d1, d2, d3, d4, e0, e1, e2, e3, e4]
      · have := ownsRow_kp RF.out KF (fun z e h => by have := (RF.out.lt z e).1; omega)
        rcases this.2 with hx | ⟨g, cap, cur, hv, hg, r⟩
        · exact ⟨this.1, .inl hx⟩
        · exact ⟨this.1, .inr ⟨g, cap, cur, hv, by omega, r⟩⟩

end Go.Proofs.YtohinonkfhkclaaDoor

namespace Go.Proofs.YtohinonkfhkclaaDoor
open Go.RowKit

/-- The packets whose field k is from lo to hi. -/
def rgF (k : Nat) (nx : Bool) (lo hi : Nat) : Bfn := fun a => decide (lo ≤ fval k nx a ∧ fval k nx a ≤ hi)
theorem rgF_no {k : Nat} {nx : Bool} {lo hi : Nat} (h : hi < lo ∨ 2 ^ fw k ≤ lo) (a : Nat → Bool) : rgF k nx lo hi a = false := by
  have := fval_lt k nx a
  unfold rgF
  rw [decide_eq_false_iff_not]
  omega
theorem rgF_range {k : Nat} {nx : Bool} {lo hi : Nat} (h1 : lo < 2 ^ fw k) (a : Nat → Bool) : rangeF k nx lo (min hi (2 ^ fw k - 1)) a = rgF k nx lo hi a := by
  have hp : 0 < 2 ^ fw k := Nat.pow_pos (by omega)
  have := fval_lt k nx a
  rw [rangeF_eq h1 (by omega)]
  unfold rgF
  rw [decide_eq_decide]
  omega
theorem rgF_st {k : Nat} {nx : Bool} (hk : k < 5) (lo hi : Nat) : PSt 220 (rgF k nx lo hi) 10000 := by
  by_cases h : lo < 2 ^ fw k
  · exact (rangeF_st hk lo (min hi (2 ^ fw k - 1))).congr (fun a => (rgF_range h a).symm)
  · exact ((PSt.const 220 false).congr (fun a => rgF_no (.inr (by omega)) a)).mono (by omega)
theorem rgF_rd {k : Nat} {nx : Bool} (lo hi : Nat) : Rd (fvar k 0 nx) (fend k) (rgF k nx lo hi) := by
  by_cases h : lo < 2 ^ fw k
  · have := rangeF_rd (k := k) (nx := nx) lo (min hi (2 ^ fw k - 1))
    intro a b hab
    rw [← rgF_range h, ← rgF_range h]
    exact this a b hab
  · intro a b _
    rw [rgF_no (.inr (by omega)), rgF_no (.inr (by omega))]

def RngR (w0 : World) (p : Nat) (L0 : Lay) (c : Nat) (B : List (Int × Bfn)) (k : Nat) (nx : Bool) (lo hi : Nat) (gk : Nat) (s13 s14 s15 : Value) (wr : World) : Prop :=
  ∃ j ab be M L, j + gk = fw k ∧ s13 = .int .i64 ab ∧ s14 = .int .i64 be ∧ s15 = .int .i64 ((fw k : Int) - 1 - (j : Int)) ∧ Hf w0 p L0 220 (c + j * 50000) wr M L ((be, beF k nx hi j) :: (ab, abF k nx lo j) :: B)

/-- What a round needs. -/
structure RngP (k : Nat) (nx : Bool) (lo hi j v : Nat) : Prop where
  v220 : v < 220
  and1 : PSt 220 (fun a => a v && abF k nx lo j a) 100
  or1 : PSt 220 (fun a => a v || abF k nx lo j a) 100
  and2 : PSt 220 (fun a => !a v && beF k nx hi j a) 100
  or2 : PSt 220 (fun a => !a v || beF k nx hi j a) 100
  a1 : lo.testBit j = true → ∀ a, (a v && abF k nx lo j a) = abF k nx lo (j + 1) a
  a0 : lo.testBit j = false → ∀ a, (a v || abF k nx lo j a) = abF k nx lo (j + 1) a
  b1 : hi.testBit j = true → ∀ a, (!a v || beF k nx hi j a) = beF k nx hi (j + 1) a
  b0 : hi.testBit j = false → ∀ a, (!a v && beF k nx hi j a) = beF k nx hi (j + 1) a
theorem rngP {k : Nat} {nx : Bool} {lo hi j : Nat} (hk : k < 5) (hj : j < fw k) : RngP k nx lo hi j (fvar k (fw k - 1 - j) nx) := by
  have hw := fw_le k
  have ra := abF_rd (k := k) (nx := nx) lo j (by omega)
  have rb := beF_rd (k := k) (nx := nx) hi j (by omega)
  have sa := abF_st (nx := nx) hk lo j (by omega)
  have sb := beF_st (nx := nx) hk hi j (by omega)
  refine ⟨fvar_lt hk (by omega) nx, ((and_bit hk hj ra sa false).congr (fun a => by rw [Bool.xor_false]; rfl)).mono (by omega), ((or_bit hk hj ra sa false).congr (fun a => by rw [Bool.xor_false]; rfl)).mono (by omega),
    ((and_bit hk hj rb sb true).congr (fun a => by rw [Bool.xor_true]; rfl)).mono (by omega), ((or_bit hk hj rb sb true).congr (fun a => by rw [Bool.xor_true]; rfl)).mono (by omega), ?_, ?_, ?_, ?_⟩
  · intro h a; show _ = aboveB _ _ _; simp only [aboveB, h, if_true]; rfl
  · intro h a; show _ = aboveB _ _ _; simp only [aboveB, h, Bool.false_eq_true, if_false]; rfl
  · intro h a; show _ = belowB _ _ _; simp only [belowB, h, if_true]; rfl
  · intro h a; show _ = belowB _ _ _; simp only [belowB, h, Bool.false_eq_true, if_false]; rfl

set_option maxRecDepth 100000 in
set_option maxHeartbeats 4000000 in
theorem Range_ok {p c : Nat} {M : Mgr} {L : Lay} {B : List (Int × Bfn)} (k : Nat) (hk : k < 5) (nx : Bool) (lo hi : Nat) (hlo : lo < 4294967296) (hhi : hi < 4294967296) {w : World} (R : Rep w p M L) (q : Qk 220 c M B) (g : Gl w) (ho : ¬ L.at p 0) (hc : c ≤ 500000000000) :
    Calls Tryd.prog 22 #[ptr p, .int .i64 (k : Int), .bool nx, .int .u32 (lo : Int), .int .u32 (hi : Int)] w (OpQ p 220 (c + 10000000) L w (rgF k nx lo hi) B) := by
  have H0 := Lib.hid (Hf.start R q g ho)
  have W := Lib.hid (fun (x : World) (h : Gl x) => Width_in k hk h)
  have hw32 := fw_le k
  have hw8 := fw_pos hk
  have hpow : 2 ^ fw k ≤ 2 ^ 32 := Nat.pow_le_pow_right (by omega) hw32
  have hpow1 : 0 < 2 ^ fw k := Nat.pow_pos (by omega)
  have hne : ((fw k : Int) == 0) = false := by simp; omega
  have hw0 : (0 : Int) ≤ (fw k : Int) := by omega
  have hmost : ((2 : Int) ^ fw k % 4294967296 - 1) % 4294967296 = ((2 ^ fw k - 1 : Nat) : Int) := by
    have e : ((2 : Int) ^ fw k) = ((2 ^ fw k : Nat) : Int) := by simp
    rw [e]
    have : 2 ^ fw k ≤ 4294967296 := hpow
    generalize 2 ^ fw k = z at *
    omega
  clear R q g ho
  by_cases hbad : hi < lo ∨ 2 ^ fw k ≤ lo
  · have FIN : Hid (OpQ p 220 (c + 10000000) L w (rgF k nx lo hi) B (.returned (.int .i64 0)) w) := Lib.hid (by
      refine Hf.ret (r := 0) (H0.out.consts.cong (G := rgF k nx lo hi) (fun a => (rgF_no hbad a).symm)) (.head _) (fun x hx => .tail _ (.tail _ hx)) (by omega))
    by_cases h1 : hi < lo
    · have h1i : (hi : Int) < (lo : Int) := by omega
      go_enter Tryd.func22, Tryd.ntmps22
      go_wp2_with fail
      refine (W.out _ H0.out.gl).mono ?_
      rintro e w' ⟨rfl, rfl⟩
      go_wp2_with fail
      go_ret
      exact FIN.out
    · have h1i : ¬ (hi : Int) < (lo : Int) := by omega
      have h2i : ((2 ^ fw k - 1 : Nat) : Int) < (lo : Int) := by omega
      generalize 2 ^ fw k - 1 = mo at *
      go_enter Tryd.func22, Tryd.ntmps22
      go_wp2_with fail
      refine (W.out _ H0.out.gl).mono ?_
      rintro e w' ⟨rfl, rfl⟩
      go_wp2_with fail
      go_ret
      exact FIN.out
  · have h1i : ¬ (hi : Int) < (lo : Int) := by omega
    have h2i : ¬ ((2 ^ fw k - 1 : Nat) : Int) < (lo : Int) := by omega
    have hmin : min (hi : Int) ((2 ^ fw k - 1 : Nat) : Int) = ((min hi (2 ^ fw k - 1) : Nat) : Int) := by omega
    have hh32 : min hi (2 ^ fw k - 1) < 4294967296 := by omega
    have EQ := Lib.hid (fun a => rgF_range (k := k) (nx := nx) (lo := lo) (hi := hi) (by omega) a)
    have RP := Lib.hid (fun (j : Nat) (hj : j < fw k) => rngP (k := k) (nx := nx) (lo := lo) (hi := min hi (2 ^ fw k - 1)) hk hj)
    have V := Lib.hid (fun (x : World) (h : Gl x) (b : Nat) (hb : b < fw k) => HVar_in k b nx hk hb h)
    have ST := Lib.hid (rangeF_st (nx := nx) hk lo (min hi (2 ^ fw k - 1)))
    have hcm : (2 ^ fw k - 1 < hi ∧ min hi (2 ^ fw k - 1) = 2 ^ fw k - 1) ∨ (¬ 2 ^ fw k - 1 < hi ∧ min hi (2 ^ fw k - 1) = hi) := by omega
    generalize min hi (2 ^ fw k - 1) = hm at *
    generalize 2 ^ fw k - 1 = mo at *
    have J0 : Hid (RngR w p L c B k nx lo hm (fw k) (.int .i64 1) (.int .i64 1) (.int .i64 ((fw k : Int) - 1)) w) := Lib.hid (by
      refine ⟨0, 1, 1, M, L, by omega, rfl, rfl, by simp, ?_⟩
      have h := H0.out.consts
      rw [Nat.zero_mul, Nat.add_zero]
      exact h.sub (fun x hx => by
        rcases List.mem_cons.1 hx with rfl | hx
        · exact .tail _ (.head _)
        · rcases List.mem_cons.1 hx with rfl | hx
          · exact .tail _ (.head _)
          · exact .tail _ (.tail _ hx)))
    have hd1 : decide (hi < lo) = false := decide_eq_false (by omega)
    have hd2 : decide (mo < lo) = false := decide_eq_false (by omega)
    clear hmin
    rcases hcm with ⟨hx, rfl⟩ | ⟨hx, rfl⟩
    · have hmost' : ((2 : Int) ^ fw k % 4294967296 - 1) = (hm : Int) := by
        generalize (2 : Int) ^ fw k = z at *
        omega
      go_enter Tryd.func22, Tryd.ntmps22
      go_wp2_with fail
      refine (W.out _ H0.out.gl).mono ?_
      rintro e w' ⟨rfl, rfl⟩
      clear W H0
      go_wp2_with fail
      go_loopg [13, 14, 15] (fw k) (fun gk s13 s14 s15 wr => RngR w p L c B k nx lo hm gk s13 s14 s15 wr)
      case atStart => exact J0.out
      case round =>
        clear J0
        obtain ⟨j, ab, be, M1, L1, hj, rfl, rfl, rfl, h⟩ := hrel
        have HJ := Lib.hid hj
        by_cases hlt : j < fw k
        · obtain ⟨b, hb⟩ : ∃ b : Nat, b = fw k - 1 - j := ⟨_, rfl⟩
          have hbi : (fw k : Int) - 1 - (j : Int) = (b : Int) := by omega
          have rp := RP.out j hlt
          rw [← hb] at rp
          have VB := Lib.hid (V.out wr h.gl b (by omega))
          have hkk : fw k - 1 - b = j := by omega
          have l1 : (bits BinOp.and IntKind.u32 ((lo : Int) / 2 ^ (fw k - 1 - b)) 1 == 1) = lo.testBit j := by rw [hkk]; exact bit_u32 hlo
          have l2 : (bits BinOp.and IntKind.u32 ((hm : Int) / 2 ^ (fw k - 1 - b)) 1 == 1) = hm.testBit j := by rw [hkk]; exact bit_u32 hh32
          have hb0 : (0 : Int) ≤ (b : Int) := by omega
          have hbw : (b : Int) + 1 ≤ (fw k : Int) := by omega
          rw [hbi]
          have RPH := Lib.hid rp
          have H1 := Lib.hid h
          have hv := rp.v220
          have HKK := Lib.hid hkk
          have HBI := Lib.hid hbi
          clear hb hbi h rp hj hkk
          generalize fvar k b nx = v at *
          have hcc : c + j * 50000 + 50000 ≤ 500002000000 := by have := hlt; omega
          cases hlb : lo.testBit j <;> cases hhb : hm.testBit j
          · rw [hlb] at l1
            rw [hhb] at l2
            go_wp2_with fail
            refine VB.out.mono ?_
            rintro e w' ⟨rfl, rfl⟩
            go_wp2_with fail
            refine (VarQ H1.out.rep H1.out.qk hv (by omega)).mono ?_
            intro e w2 h2
            obtain ⟨x, M2, L2, rfl, hx0, f2⟩ := H1.out.step h2
            have H2 := Lib.hid f2
            clear h2 f2 H1 VB
            go_wp2_with fail
            refine (OrQ H2.out.rep H2.out.qk (f := x) (g := ab) (F := fun a => a v) (G := abF k nx lo j) (.head _) (.tail _ (.tail _ (.head _))) (s := 100) RPH.out.or1 (by omega)).mono ?_
            intro e w3 h3
            obtain ⟨ab2, M3, L3, rfl, hx3, f3⟩ := H2.out.step h3
            have H3 := Lib.hid (f3.cong (G := abF k nx lo (j + 1)) (RPH.out.a0 hlb))
            clear h3 f3 H2
            go_wp2_with fail
            refine (NotQ H3.out.rep H3.out.qk (f := x) (F := fun a => a v) (.tail _ (.head _)) (s := 2) (PSt.var 220 v hv) (by omega)).mono ?_
            intro e w4 h4
            obtain ⟨y, M4, L4, rfl, hx4, f4⟩ := H3.out.step h4
            have H4 := Lib.hid f4
            clear h4 f4 H3
            go_wp2_with fail
            refine (AndQ H4.out.rep H4.out.qk (f := y) (g := be) (F := fun a => !a v) (G := beF k nx hm j) (.head _) (.tail _ (.tail _ (.tail _ (.head _)))) (s := 100) RPH.out.and2 (by omega)).mono ?_
            intro e w5 h5
            obtain ⟨be2, M5, L5, rfl, hx5, f5⟩ := H4.out.step h5
            have JN : Hid (RngR w p L c B k nx lo hm (fw k - (j + 1)) (.int .i64 ab2) (.int .i64 be2) (.int .i64 ((b : Int) - 1)) w5) := Lib.hid (by
              refine ⟨j + 1, ab2, be2, M5, L5, by omega, rfl, rfl, ?_, ?_⟩
              · have := HBI.out
                rw [show (fw k : Int) - 1 - ((j + 1 : Nat) : Int) = (b : Int) - 1 by omega]
              · refine ((f5.cong (G := beF k nx hm (j + 1)) (RPH.out.b0 hhb)).mono (c' := c + (j + 1) * 50000) (by omega)).sub (fun z hz => ?_)
                rcases List.mem_cons.1 hz with rfl | hz
                · exact .head _
                · rcases List.mem_cons.1 hz with rfl | hz
                  · exact .tail _ (.tail _ (.head _))
                  · exact .tail _ (.tail _ (.tail _ (.tail _ (.tail _ (.tail _ hz))))))
            clear h5 f5 H4
            go_wp2_with fail
            go_roundg (fw k - (j + 1))
            case measure => have := HJ.out; omega
            case rel => exact JN.out
          · rw [hlb] at l1
            rw [hhb] at l2
            go_wp2_with fail
            refine VB.out.mono ?_
            rintro e w' ⟨rfl, rfl⟩
            go_wp2_with fail
            refine (VarQ H1.out.rep H1.out.qk hv (by omega)).mono ?_
            intro e w2 h2
            obtain ⟨x, M2, L2, rfl, hx0, f2⟩ := H1.out.step h2
            have H2 := Lib.hid f2
            clear h2 f2 H1 VB
            go_wp2_with fail
            refine (OrQ H2.out.rep H2.out.qk (f := x) (g := ab) (F := fun a => a v) (G := abF k nx lo j) (.head _) (.tail _ (.tail _ (.head _))) (s := 100) RPH.out.or1 (by omega)).mono ?_
            intro e w3 h3
            obtain ⟨ab2, M3, L3, rfl, hx3, f3⟩ := H2.out.step h3
            have H3 := Lib.hid (f3.cong (G := abF k nx lo (j + 1)) (RPH.out.a0 hlb))
            clear h3 f3 H2
            go_wp2_with fail
            refine (NotQ H3.out.rep H3.out.qk (f := x) (F := fun a => a v) (.tail _ (.head _)) (s := 2) (PSt.var 220 v hv) (by omega)).mono ?_
            intro e w4 h4
            obtain ⟨y, M4, L4, rfl, hx4, f4⟩ := H3.out.step h4
            have H4 := Lib.hid f4
            clear h4 f4 H3
            go_wp2_with fail
            refine (OrQ H4.out.rep H4.out.qk (f := y) (g := be) (F := fun a => !a v) (G := beF k nx hm j) (.head _) (.tail _ (.tail _ (.tail _ (.head _)))) (s := 100) RPH.out.or2 (by omega)).mono ?_
            intro e w5 h5
            obtain ⟨be2, M5, L5, rfl, hx5, f5⟩ := H4.out.step h5
            have JN : Hid (RngR w p L c B k nx lo hm (fw k - (j + 1)) (.int .i64 ab2) (.int .i64 be2) (.int .i64 ((b : Int) - 1)) w5) := Lib.hid (by
              refine ⟨j + 1, ab2, be2, M5, L5, by omega, rfl, rfl, ?_, ?_⟩
              · have := HBI.out
                rw [show (fw k : Int) - 1 - ((j + 1 : Nat) : Int) = (b : Int) - 1 by omega]
              · refine ((f5.cong (G := beF k nx hm (j + 1)) (RPH.out.b1 hhb)).mono (c' := c + (j + 1) * 50000) (by omega)).sub (fun z hz => ?_)
                rcases List.mem_cons.1 hz with rfl | hz
                · exact .head _
                · rcases List.mem_cons.1 hz with rfl | hz
                  · exact .tail _ (.tail _ (.head _))
                  · exact .tail _ (.tail _ (.tail _ (.tail _ (.tail _ (.tail _ hz))))))
            clear h5 f5 H4
            go_wp2_with fail
            go_roundg (fw k - (j + 1))
            case measure => have := HJ.out; omega
            case rel => exact JN.out
          · rw [hlb] at l1
            rw [hhb] at l2
            go_wp2_with fail
            refine VB.out.mono ?_
            rintro e w' ⟨rfl, rfl⟩
            go_wp2_with fail
            refine (VarQ H1.out.rep H1.out.qk hv (by omega)).mono ?_
            intro e w2 h2
            obtain ⟨x, M2, L2, rfl, hx0, f2⟩ := H1.out.step h2
            have H2 := Lib.hid f2
            clear h2 f2 H1 VB
            go_wp2_with fail
            refine (AndQ H2.out.rep H2.out.qk (f := x) (g := ab) (F := fun a => a v) (G := abF k nx lo j) (.head _) (.tail _ (.tail _ (.head _))) (s := 100) RPH.out.and1 (by omega)).mono ?_
            intro e w3 h3
            obtain ⟨ab2, M3, L3, rfl, hx3, f3⟩ := H2.out.step h3
            have H3 := Lib.hid (f3.cong (G := abF k nx lo (j + 1)) (RPH.out.a1 hlb))
            clear h3 f3 H2
            go_wp2_with fail
            refine (NotQ H3.out.rep H3.out.qk (f := x) (F := fun a => a v) (.tail _ (.head _)) (s := 2) (PSt.var 220 v hv) (by omega)).mono ?_
            intro e w4 h4
            obtain ⟨y, M4, L4, rfl, hx4, f4⟩ := H3.out.step h4
            have H4 := Lib.hid f4
            clear h4 f4 H3
            go_wp2_with fail
            refine (AndQ H4.out.rep H4.out.qk (f := y) (g := be) (F := fun a => !a v) (G := beF k nx hm j) (.head _) (.tail _ (.tail _ (.tail _ (.head _)))) (s := 100) RPH.out.and2 (by omega)).mono ?_
            intro e w5 h5
            obtain ⟨be2, M5, L5, rfl, hx5, f5⟩ := H4.out.step h5
            have JN : Hid (RngR w p L c B k nx lo hm (fw k - (j + 1)) (.int .i64 ab2) (.int .i64 be2) (.int .i64 ((b : Int) - 1)) w5) := Lib.hid (by
              refine ⟨j + 1, ab2, be2, M5, L5, by omega, rfl, rfl, ?_, ?_⟩
              · have := HBI.out
                rw [show (fw k : Int) - 1 - ((j + 1 : Nat) : Int) = (b : Int) - 1 by omega]
              · refine ((f5.cong (G := beF k nx hm (j + 1)) (RPH.out.b0 hhb)).mono (c' := c + (j + 1) * 50000) (by omega)).sub (fun z hz => ?_)
                rcases List.mem_cons.1 hz with rfl | hz
                · exact .head _
                · rcases List.mem_cons.1 hz with rfl | hz
                  · exact .tail _ (.tail _ (.head _))
                  · exact .tail _ (.tail _ (.tail _ (.tail _ (.tail _ (.tail _ hz))))))
            clear h5 f5 H4
            go_wp2_with fail
            go_roundg (fw k - (j + 1))
            case measure => have := HJ.out; omega
            case rel => exact JN.out
          · rw [hlb] at l1
            rw [hhb] at l2
            go_wp2_with fail
            refine VB.out.mono ?_
            rintro e w' ⟨rfl, rfl⟩
            go_wp2_with fail
            refine (VarQ H1.out.rep H1.out.qk hv (by omega)).mono ?_
            intro e w2 h2
            obtain ⟨x, M2, L2, rfl, hx0, f2⟩ := H1.out.step h2
            have H2 := Lib.hid f2
            clear h2 f2 H1 VB
            go_wp2_with fail
            refine (AndQ H2.out.rep H2.out.qk (f := x) (g := ab) (F := fun a => a v) (G := abF k nx lo j) (.head _) (.tail _ (.tail _ (.head _))) (s := 100) RPH.out.and1 (by omega)).mono ?_
            intro e w3 h3
            obtain ⟨ab2, M3, L3, rfl, hx3, f3⟩ := H2.out.step h3
            have H3 := Lib.hid (f3.cong (G := abF k nx lo (j + 1)) (RPH.out.a1 hlb))
            clear h3 f3 H2
            go_wp2_with fail
            refine (NotQ H3.out.rep H3.out.qk (f := x) (F := fun a => a v) (.tail _ (.head _)) (s := 2) (PSt.var 220 v hv) (by omega)).mono ?_
            intro e w4 h4
            obtain ⟨y, M4, L4, rfl, hx4, f4⟩ := H3.out.step h4
            have H4 := Lib.hid f4
            clear h4 f4 H3
            go_wp2_with fail
            refine (OrQ H4.out.rep H4.out.qk (f := y) (g := be) (F := fun a => !a v) (G := beF k nx hm j) (.head _) (.tail _ (.tail _ (.tail _ (.head _)))) (s := 100) RPH.out.or2 (by omega)).mono ?_
            intro e w5 h5
            obtain ⟨be2, M5, L5, rfl, hx5, f5⟩ := H4.out.step h5
            have JN : Hid (RngR w p L c B k nx lo hm (fw k - (j + 1)) (.int .i64 ab2) (.int .i64 be2) (.int .i64 ((b : Int) - 1)) w5) := Lib.hid (by
              refine ⟨j + 1, ab2, be2, M5, L5, by omega, rfl, rfl, ?_, ?_⟩
              · have := HBI.out
                rw [show (fw k : Int) - 1 - ((j + 1 : Nat) : Int) = (b : Int) - 1 by omega]
              · refine ((f5.cong (G := beF k nx hm (j + 1)) (RPH.out.b1 hhb)).mono (c' := c + (j + 1) * 50000) (by omega)).sub (fun z hz => ?_)
                rcases List.mem_cons.1 hz with rfl | hz
                · exact .head _
                · rcases List.mem_cons.1 hz with rfl | hz
                  · exact .tail _ (.tail _ (.head _))
                  · exact .tail _ (.tail _ (.tail _ (.tail _ (.tail _ (.tail _ hz))))))
            clear h5 f5 H4
            go_wp2_with fail
            go_roundg (fw k - (j + 1))
            case measure => have := HJ.out; omega
            case rel => exact JN.out
        · obtain rfl : j = fw k := by omega
          have hbi : (fw k : Int) - 1 - (fw k : Int) = -1 := by omega
          rw [hbi]
          have H1 := Lib.hid h
          clear h hj hbi hlt
          go_wp2_with fail
          refine (AndQ H1.out.rep H1.out.qk (f := ab) (g := be) (F := abF k nx lo (fw k)) (G := beF k nx hm (fw k)) (.tail _ (.head _)) (.head _) (s := 10000) ST.out (by omega)).mono ?_
          intro e w9 h9
          obtain ⟨r9, M9, L9, rfl, hr9, f9⟩ := H1.out.step h9
          have FIN : Hid (OpQ p 220 (c + 10000000) L w (rgF k nx lo _) B (.returned (.int .i64 r9)) w9) := Lib.hid
            ((f9.cong EQ.out).ret (.head _) (fun x hx => .tail _ (.tail _ (.tail _ hx))) (by omega))
          clear h9 f9
          go_wp2_with fail
          go_ret
          exact FIN.out
    · have hx2 : hm ≤ mo := by omega
      go_enter Tryd.func22, Tryd.ntmps22
      go_wp2_with fail
      refine (W.out _ H0.out.gl).mono ?_
      rintro e w' ⟨rfl, rfl⟩
      clear W H0
      go_wp2_with fail
      rw [hmost]
      clear hmost
      go_loopg [13, 14, 15] (fw k) (fun gk s13 s14 s15 wr => RngR w p L c B k nx lo hm gk s13 s14 s15 wr)
      case atStart => exact J0.out
      case round =>
        clear J0
        obtain ⟨j, ab, be, M1, L1, hj, rfl, rfl, rfl, h⟩ := hrel
        have HJ := Lib.hid hj
        by_cases hlt : j < fw k
        · obtain ⟨b, hb⟩ : ∃ b : Nat, b = fw k - 1 - j := ⟨_, rfl⟩
          have hbi : (fw k : Int) - 1 - (j : Int) = (b : Int) := by omega
          have rp := RP.out j hlt
          rw [← hb] at rp
          have VB := Lib.hid (V.out wr h.gl b (by omega))
          have hkk : fw k - 1 - b = j := by omega
          have l1 : (bits BinOp.and IntKind.u32 ((lo : Int) / 2 ^ (fw k - 1 - b)) 1 == 1) = lo.testBit j := by rw [hkk]; exact bit_u32 hlo
          have l2 : (bits BinOp.and IntKind.u32 ((hm : Int) / 2 ^ (fw k - 1 - b)) 1 == 1) = hm.testBit j := by rw [hkk]; exact bit_u32 hh32
          have hb0 : (0 : Int) ≤ (b : Int) := by omega
          have hbw : (b : Int) + 1 ≤ (fw k : Int) := by omega
          rw [hbi]
          have RPH := Lib.hid rp
          have H1 := Lib.hid h
          have hv := rp.v220
          have HKK := Lib.hid hkk
          have HBI := Lib.hid hbi
          clear hb hbi h rp hj hkk
          generalize fvar k b nx = v at *
          have hcc : c + j * 50000 + 50000 ≤ 500002000000 := by have := hlt; omega
          cases hlb : lo.testBit j <;> cases hhb : hm.testBit j
          · rw [hlb] at l1
            rw [hhb] at l2
            go_wp2_with fail
            refine VB.out.mono ?_
            rintro e w' ⟨rfl, rfl⟩
            go_wp2_with fail
            refine (VarQ H1.out.rep H1.out.qk hv (by omega)).mono ?_
            intro e w2 h2
            obtain ⟨x, M2, L2, rfl, hx0, f2⟩ := H1.out.step h2
            have H2 := Lib.hid f2
            clear h2 f2 H1 VB
            go_wp2_with fail
            refine (OrQ H2.out.rep H2.out.qk (f := x) (g := ab) (F := fun a => a v) (G := abF k nx lo j) (.head _) (.tail _ (.tail _ (.head _))) (s := 100) RPH.out.or1 (by omega)).mono ?_
            intro e w3 h3
            obtain ⟨ab2, M3, L3, rfl, hx3, f3⟩ := H2.out.step h3
            have H3 := Lib.hid (f3.cong (G := abF k nx lo (j + 1)) (RPH.out.a0 hlb))
            clear h3 f3 H2
            go_wp2_with fail
            refine (NotQ H3.out.rep H3.out.qk (f := x) (F := fun a => a v) (.tail _ (.head _)) (s := 2) (PSt.var 220 v hv) (by omega)).mono ?_
            intro e w4 h4
            obtain ⟨y, M4, L4, rfl, hx4, f4⟩ := H3.out.step h4
            have H4 := Lib.hid f4
            clear h4 f4 H3
            go_wp2_with fail
            refine (AndQ H4.out.rep H4.out.qk (f := y) (g := be) (F := fun a => !a v) (G := beF k nx hm j) (.head _) (.tail _ (.tail _ (.tail _ (.head _)))) (s := 100) RPH.out.and2 (by omega)).mono ?_
            intro e w5 h5
            obtain ⟨be2, M5, L5, rfl, hx5, f5⟩ := H4.out.step h5
            have JN : Hid (RngR w p L c B k nx lo hm (fw k - (j + 1)) (.int .i64 ab2) (.int .i64 be2) (.int .i64 ((b : Int) - 1)) w5) := Lib.hid (by
              refine ⟨j + 1, ab2, be2, M5, L5, by omega, rfl, rfl, ?_, ?_⟩
              · have := HBI.out
                rw [show (fw k : Int) - 1 - ((j + 1 : Nat) : Int) = (b : Int) - 1 by omega]
              · refine ((f5.cong (G := beF k nx hm (j + 1)) (RPH.out.b0 hhb)).mono (c' := c + (j + 1) * 50000) (by omega)).sub (fun z hz => ?_)
                rcases List.mem_cons.1 hz with rfl | hz
                · exact .head _
                · rcases List.mem_cons.1 hz with rfl | hz
                  · exact .tail _ (.tail _ (.head _))
                  · exact .tail _ (.tail _ (.tail _ (.tail _ (.tail _ (.tail _ hz))))))
            clear h5 f5 H4
            go_wp2_with fail
            go_roundg (fw k - (j + 1))
            case measure => have := HJ.out; omega
            case rel => exact JN.out
          · rw [hlb] at l1
            rw [hhb] at l2
            go_wp2_with fail
            refine VB.out.mono ?_
            rintro e w' ⟨rfl, rfl⟩
            go_wp2_with fail
            refine (VarQ H1.out.rep H1.out.qk hv (by omega)).mono ?_
            intro e w2 h2
            obtain ⟨x, M2, L2, rfl, hx0, f2⟩ := H1.out.step h2
            have H2 := Lib.hid f2
            clear h2 f2 H1 VB
            go_wp2_with fail
            refine (OrQ H2.out.rep H2.out.qk (f := x) (g := ab) (F := fun a => a v) (G := abF k nx lo j) (.head _) (.tail _ (.tail _ (.head _))) (s := 100) RPH.out.or1 (by omega)).mono ?_
            intro e w3 h3
            obtain ⟨ab2, M3, L3, rfl, hx3, f3⟩ := H2.out.step h3
            have H3 := Lib.hid (f3.cong (G := abF k nx lo (j + 1)) (RPH.out.a0 hlb))
            clear h3 f3 H2
            go_wp2_with fail
            refine (NotQ H3.out.rep H3.out.qk (f := x) (F := fun a => a v) (.tail _ (.head _)) (s := 2) (PSt.var 220 v hv) (by omega)).mono ?_
            intro e w4 h4
            obtain ⟨y, M4, L4, rfl, hx4, f4⟩ := H3.out.step h4
            have H4 := Lib.hid f4
            clear h4 f4 H3
            go_wp2_with fail
            refine (OrQ H4.out.rep H4.out.qk (f := y) (g := be) (F := fun a => !a v) (G := beF k nx hm j) (.head _) (.tail _ (.tail _ (.tail _ (.head _)))) (s := 100) RPH.out.or2 (by omega)).mono ?_
            intro e w5 h5
            obtain ⟨be2, M5, L5, rfl, hx5, f5⟩ := H4.out.step h5
            have JN : Hid (RngR w p L c B k nx lo hm (fw k - (j + 1)) (.int .i64 ab2) (.int .i64 be2) (.int .i64 ((b : Int) - 1)) w5) := Lib.hid (by
              refine ⟨j + 1, ab2, be2, M5, L5, by omega, rfl, rfl, ?_, ?_⟩
              · have := HBI.out
                rw [show (fw k : Int) - 1 - ((j + 1 : Nat) : Int) = (b : Int) - 1 by omega]
              · refine ((f5.cong (G := beF k nx hm (j + 1)) (RPH.out.b1 hhb)).mono (c' := c + (j + 1) * 50000) (by omega)).sub (fun z hz => ?_)
                rcases List.mem_cons.1 hz with rfl | hz
                · exact .head _
                · rcases List.mem_cons.1 hz with rfl | hz
                  · exact .tail _ (.tail _ (.head _))
                  · exact .tail _ (.tail _ (.tail _ (.tail _ (.tail _ (.tail _ hz))))))
            clear h5 f5 H4
            go_wp2_with fail
            go_roundg (fw k - (j + 1))
            case measure => have := HJ.out; omega
            case rel => exact JN.out
          · rw [hlb] at l1
            rw [hhb] at l2
            go_wp2_with fail
            refine VB.out.mono ?_
            rintro e w' ⟨rfl, rfl⟩
            go_wp2_with fail
            refine (VarQ H1.out.rep H1.out.qk hv (by omega)).mono ?_
            intro e w2 h2
            obtain ⟨x, M2, L2, rfl, hx0, f2⟩ := H1.out.step h2
            have H2 := Lib.hid f2
            clear h2 f2 H1 VB
            go_wp2_with fail
            refine (AndQ H2.out.rep H2.out.qk (f := x) (g := ab) (F := fun a => a v) (G := abF k nx lo j) (.head _) (.tail _ (.tail _ (.head _))) (s := 100) RPH.out.and1 (by omega)).mono ?_
            intro e w3 h3
            obtain ⟨ab2, M3, L3, rfl, hx3, f3⟩ := H2.out.step h3
            have H3 := Lib.hid (f3.cong (G := abF k nx lo (j + 1)) (RPH.out.a1 hlb))
            clear h3 f3 H2
            go_wp2_with fail
            refine (NotQ H3.out.rep H3.out.qk (f := x) (F := fun a => a v) (.tail _ (.head _)) (s := 2) (PSt.var 220 v hv) (by omega)).mono ?_
            intro e w4 h4
            obtain ⟨y, M4, L4, rfl, hx4, f4⟩ := H3.out.step h4
            have H4 := Lib.hid f4
            clear h4 f4 H3
            go_wp2_with fail
            refine (AndQ H4.out.rep H4.out.qk (f := y) (g := be) (F := fun a => !a v) (G := beF k nx hm j) (.head _) (.tail _ (.tail _ (.tail _ (.head _)))) (s := 100) RPH.out.and2 (by omega)).mono ?_
            intro e w5 h5
            obtain ⟨be2, M5, L5, rfl, hx5, f5⟩ := H4.out.step h5
            have JN : Hid (RngR w p L c B k nx lo hm (fw k - (j + 1)) (.int .i64 ab2) (.int .i64 be2) (.int .i64 ((b : Int) - 1)) w5) := Lib.hid (by
              refine ⟨j + 1, ab2, be2, M5, L5, by omega, rfl, rfl, ?_, ?_⟩
              · have := HBI.out
                rw [show (fw k : Int) - 1 - ((j + 1 : Nat) : Int) = (b : Int) - 1 by omega]
              · refine ((f5.cong (G := beF k nx hm (j + 1)) (RPH.out.b0 hhb)).mono (c' := c + (j + 1) * 50000) (by omega)).sub (fun z hz => ?_)
                rcases List.mem_cons.1 hz with rfl | hz
                · exact .head _
                · rcases List.mem_cons.1 hz with rfl | hz
                  · exact .tail _ (.tail _ (.head _))
                  · exact .tail _ (.tail _ (.tail _ (.tail _ (.tail _ (.tail _ hz))))))
            clear h5 f5 H4
            go_wp2_with fail
            go_roundg (fw k - (j + 1))
            case measure => have := HJ.out; omega
            case rel => exact JN.out
          · rw [hlb] at l1
            rw [hhb] at l2
            go_wp2_with fail
            refine VB.out.mono ?_
            rintro e w' ⟨rfl, rfl⟩
            go_wp2_with fail
            refine (VarQ H1.out.rep H1.out.qk hv (by omega)).mono ?_
            intro e w2 h2
            obtain ⟨x, M2, L2, rfl, hx0, f2⟩ := H1.out.step h2
            have H2 := Lib.hid f2
            clear h2 f2 H1 VB
            go_wp2_with fail
            refine (AndQ H2.out.rep H2.out.qk (f := x) (g := ab) (F := fun a => a v) (G := abF k nx lo j) (.head _) (.tail _ (.tail _ (.head _))) (s := 100) RPH.out.and1 (by omega)).mono ?_
            intro e w3 h3
            obtain ⟨ab2, M3, L3, rfl, hx3, f3⟩ := H2.out.step h3
            have H3 := Lib.hid (f3.cong (G := abF k nx lo (j + 1)) (RPH.out.a1 hlb))
            clear h3 f3 H2
            go_wp2_with fail
            refine (NotQ H3.out.rep H3.out.qk (f := x) (F := fun a => a v) (.tail _ (.head _)) (s := 2) (PSt.var 220 v hv) (by omega)).mono ?_
            intro e w4 h4
            obtain ⟨y, M4, L4, rfl, hx4, f4⟩ := H3.out.step h4
            have H4 := Lib.hid f4
            clear h4 f4 H3
            go_wp2_with fail
            refine (OrQ H4.out.rep H4.out.qk (f := y) (g := be) (F := fun a => !a v) (G := beF k nx hm j) (.head _) (.tail _ (.tail _ (.tail _ (.head _)))) (s := 100) RPH.out.or2 (by omega)).mono ?_
            intro e w5 h5
            obtain ⟨be2, M5, L5, rfl, hx5, f5⟩ := H4.out.step h5
            have JN : Hid (RngR w p L c B k nx lo hm (fw k - (j + 1)) (.int .i64 ab2) (.int .i64 be2) (.int .i64 ((b : Int) - 1)) w5) := Lib.hid (by
              refine ⟨j + 1, ab2, be2, M5, L5, by omega, rfl, rfl, ?_, ?_⟩
              · have := HBI.out
                rw [show (fw k : Int) - 1 - ((j + 1 : Nat) : Int) = (b : Int) - 1 by omega]
              · refine ((f5.cong (G := beF k nx hm (j + 1)) (RPH.out.b1 hhb)).mono (c' := c + (j + 1) * 50000) (by omega)).sub (fun z hz => ?_)
                rcases List.mem_cons.1 hz with rfl | hz
                · exact .head _
                · rcases List.mem_cons.1 hz with rfl | hz
                  · exact .tail _ (.tail _ (.head _))
                  · exact .tail _ (.tail _ (.tail _ (.tail _ (.tail _ (.tail _ hz))))))
            clear h5 f5 H4
            go_wp2_with fail
            go_roundg (fw k - (j + 1))
            case measure => have := HJ.out; omega
            case rel => exact JN.out
        · obtain rfl : j = fw k := by omega
          have hbi : (fw k : Int) - 1 - (fw k : Int) = -1 := by omega
          rw [hbi]
          have H1 := Lib.hid h
          clear h hj hbi hlt
          go_wp2_with fail
          refine (AndQ H1.out.rep H1.out.qk (f := ab) (g := be) (F := abF k nx lo (fw k)) (G := beF k nx hm (fw k)) (.tail _ (.head _)) (.head _) (s := 10000) ST.out (by omega)).mono ?_
          intro e w9 h9
          obtain ⟨r9, M9, L9, rfl, hr9, f9⟩ := H1.out.step h9
          have FIN : Hid (OpQ p 220 (c + 10000000) L w (rgF k nx lo _) B (.returned (.int .i64 r9)) w9) := Lib.hid
            ((f9.cong EQ.out).ret (.head _) (fun x hx => .tail _ (.tail _ (.tail _ hx))) (by omega))
          clear h9 f9
          go_wp2_with fail
          go_ret
          exact FIN.out

end Go.Proofs.YtohinonkfhkclaaDoor

namespace Go.Proofs.YtohinonkfhkclaaDoor
open Go.RowKit

set_option maxRecDepth 100000 in
theorem HNew_ok (w : World) : Calls Tryd.prog 11 #[] w (NewPost' w 220) := by
  have N := Lib.hid (New_ok 220 w)
  rw [show nvars 220 = 220 from rfl] at N
  go_enter Tryd.func11, Tryd.ntmps11
  go_wp2_with fail
  refine N.out.mono ?_
  rintro e w1 ⟨p, L, rfl, R, k, o⟩
  have F : Hid (NewPost' w 220 (.returned (ptr p)) w1) := Lib.hid ⟨p, L, rfl, R, k, o⟩
  clear R k o N
  go_wp2_with fail
  go_ret
  exact F.out

/-- The state behind 'New' of a law that began at w. -/
theorem hf_new {w w0 w1 : World} {p : Nat} {L : Lay} (g : Gl w) (k0 : Kp No w w0) (R : Rep w1 p (Mgr.new 220) L) (k : Kp No w0 w1) (o : ∀ x, L.at p x → w0.heap.size ≤ x) : Hf w1 p L 220 2 w1 (Mgr.new 220) L [] :=
  Hf.start R (Qk.new 220) ((g.no k0).no k) (fun h => by have := o _ h; have := g.lt; have := k0.size; omega)
theorem Hf.kpNo {w w1 wr : World} {p n c : Nat} {L1 L : Lay} {M : Mgr} {B : List (Int × Bfn)} (h : Hf w1 p L1 n c wr M L B) (k1 : Kp No w w1) (o : ∀ x, L1.at p x → w.heap.size ≤ x) : Kp No w wr :=
  k1.trans (A' := L1.at p) (fun x hx => .inr (o x hx)) h.sd.kp

def gL (G : Nat → Bool) : List Bool := (List.range 220).map G
theorem boolRow_gL (G : Nat → Bool) : boolRow G = (gL G).map .bool := by unfold boolRow gL; rw [List.map_map]; rfl
theorem gL_len (G : Nat → Bool) : (gL G).length = 220 := by simp [gL]
theorem gL_at (G : Nat → Bool) {v : Nat} (h : v < 220) : asg (gL G) v = G v := by simp [asg, gL, h]
theorem bools_row {w : World} {B : Nat} {v : Value} {G : Nat → Bool} (h : w.ownsRow B 4 1 v 220 (boolRow G)) : Bools w v (gL G) := by
  rw [boolRow_gL] at h
  refine Bools.of_row (base := B) (e := 4) ?_
  rw [gL_len]; exact h
theorem dnL_enc (dn : Nat → Bool) (p q : Pkt) : dnL (asg (gL (encF dn p q))) 12 = dnL dn 12 := by
  unfold dnL
  refine List.filter_congr (fun v hv => ?_)
  have := List.mem_range.1 hv
  rw [gL_at _ (by omega), enc_link _ _ _ this]
theorem src_new (w : World) (l : List Int) (t : TypeId) : SrcAt (w.alloc (.cells (l.map intV).toArray t)) (.slice (some ⟨w.heap.size, 0, none⟩) l.length l.length) 1 l.length (l.map intV) := by
  refine ⟨_, _, rfl, by simp, .inr ⟨w.heap.size, 0, rfl, by simp, fun j u hu => ?_⟩⟩
  have h := heap_alloc_new w (.cells (l.map intV).toArray t)
  rw [Nat.zero_add, cell_of_row _ _ _ _ _ _ h]
  simpa using hu

theorem rgF_enc (dn : Nat → Bool) {p q : Pkt} (hp : p.ok) (hq : q.ok) {k : Nat} (hk : k < 5) (nx : Bool) (lo hi : Nat) : rgF k nx lo hi (asg (gL (encF dn p q))) = decide (lo ≤ (if nx then q else p).f k ∧ (if nx then q else p).f k ≤ hi) := by
  unfold rgF
  rw [fval_enc dn hp hq hk nx (fun v hv => gL_at _ hv)]
/-- The state anew, from here on. -/
theorem Hf.rebase {w0 w : World} {p n c : Nat} {L0 L : Lay} {M : Mgr} {B : List (Int × Bfn)} (h : Hf w0 p L0 n c w M L B) : Hf w p L n c w M L B := Hf.start h.rep h.qk h.gl h.off

def pk0 : Pkt := ⟨1, 2, 6, 7, 8⟩
def pkz : Pkt := ⟨0, 0, 0, 0, 0⟩
theorem pk0_ok : pk0.ok := ⟨by decide, by decide, by decide, by decide, by decide⟩
theorem pkz_ok : pkz.ok := ⟨by decide, by decide, by decide, by decide, by decide⟩

set_option maxRecDepth 100000 in
set_option maxHeartbeats 2000000 in
theorem hawake_ok {w : World} (g : Gl w) : Calls Tryd.prog 19 #[] w fun e w' => e = .returned (.bool true) ∧ Kp No w w' := by
  have GLW := Lib.hid g
  have P0 := Lib.hid (PkAt.new w pk0 48)
  have NEW := Lib.hid (HNew_ok (w.alloc (.cells #[.int .u32 1, .int .u32 2, .int .i64 6, .int .i64 7, .int .i64 8] 48)))
  have KA : Hid (Kp No w (w.alloc (.cells #[.int .u32 1, .int .u32 2, .int .i64 6, .int .i64 7, .int .i64 8] 48))) := Lib.hid (Kp.alloc _)
  have HSA : Hid ((w.alloc (.cells #[.int .u32 1, .int .u32 2, .int .i64 6, .int .i64 7, .int .i64 8] 48)).heap.size = w.heap.size + 1) := Lib.hid (by simp)
  clear g
  go_enter Tryd.func19, Tryd.ntmps19
  go_wp2_with fail
  change Calls _ _ _ (w.alloc (.cells #[.int .u32 1, .int .u32 2, .int .i64 6, .int .i64 7, .int .i64 8] 48)) _
  refine NEW.out.mono ?_
  rintro e w1 ⟨p, L1, rfl, R1, k1, o1⟩
  have P1 : Hid (PkAt w1 w.heap.size pk0) := Lib.hid (P0.out.no k1)
  have H1 := Lib.hid (hf_new GLW.out KA.out R1 k1 o1)
  have K1 := Lib.hid (KA.out.trans_no k1)
  have O1 : Hid (∀ x, L1.at p x → w.heap.size ≤ x) := Lib.hid (fun x hx => by have := o1 x hx; have := HSA.out; omega)
  have hz1 : w.heap.size < w1.heap.size := by have := k1.size; have := HSA.out; omega
  obtain ⟨c0, c1, c2, c3, c4⟩ := P1.out
  have EN := Lib.hid (Encode_ok [1] pk0 pkz pk0_ok.in32 pkz_ok.in32 (w := w1.alloc (.cells #[.int .i64 1] 3)) (H1.out.gl.no (Kp.alloc _)) (src_new w1 [1] 3) (by decide))
  have c0' : w1.cell? ⟨w.heap.size, 0, none⟩ = some (.int .u32 1) := c0
  have c1' : w1.cell? ⟨w.heap.size, 1, none⟩ = some (.int .u32 2) := c1
  have c2' : w1.cell? ⟨w.heap.size, 2, none⟩ = some (.int .i64 6) := c2
  have c3' : w1.cell? ⟨w.heap.size, 3, none⟩ = some (.int .i64 7) := c3
  have c4' : w1.cell? ⟨w.heap.size, 4, none⟩ = some (.int .i64 8) := c4
  clear R1 k1 o1 NEW P0 KA c0 c1 c2 c3 c4 HSA
  go_wp2_with fail
  refine Calls.mono EN.out ?_
  rintro e w2 ⟨ga, rfl, row, k2⟩
  have k2' := (Kp.alloc (w := w1) (.cells #[.int .i64 1] 3)).trans_no k2
  have ROW := Lib.hid row
  have H2 := Lib.hid (H1.out.no k2')
  have P2 := Lib.hid (P1.out.no k2')
  have DE := Lib.hid (Decode_ok H2.out.gl (bools_row row))
  clear row k2 c0' c1' c2' c3' c4' EN
  go_wp2_with fail
  refine DE.out.mono ?_
  rintro e w3 ⟨dv, rfl, drow, k3⟩
  rw [dnL_enc] at drow
  rw [getP_enc (dnF [1]) pk0_ok pkz_ok false (fun v hv => gL_at _ hv), getP_enc (dnF [1]) pk0_ok pkz_ok true (fun v hv => gL_at _ hv), if_neg (by simp), if_pos rfl]
  have hdn : dnL (dnF [1]) 12 = [1] := by decide
  rw [hdn] at drow
  obtain ⟨gd, cd, hdv, _, _, _, hdc, _⟩ := ownsRow_open drow (by decide)
  have hd0 : w3.cell? ⟨gd, 0, none⟩ = some (.int .i64 1) := hdc 0 _ rfl
  subst hdv
  have hgd : gd < w3.heap.size := (drow.lt gd rfl).2
  have H3 := Lib.hid (H2.out.no k3)
  have P3 := P2.out.no k3
  obtain ⟨c0, c1, c2, c3, c4⟩ := P3
  have c0' : w3.cell? ⟨w.heap.size, 0, none⟩ = some (.int .u32 1) := c0
  have c1' : w3.cell? ⟨w.heap.size, 1, none⟩ = some (.int .u32 2) := c1
  have c2' : w3.cell? ⟨w.heap.size, 2, none⟩ = some (.int .i64 6) := c2
  have c3' : w3.cell? ⟨w.heap.size, 3, none⟩ = some (.int .i64 7) := c3
  have c4' : w3.cell? ⟨w.heap.size, 4, none⟩ = some (.int .i64 8) := c4
  have K12 := Lib.hid (k2'.trans_no k3)
  have hz3 : w.heap.size < w3.heap.size := by have := k2'.size; have := k3.size; omega
  have ROW3 := Lib.hid (ownsRow_kp ROW.out k3 (fun _ _ z => z))
  clear drow k3 c0 c1 c2 c3 c4 hdc DE hdn k2'
  unfold pktV pk0 pkz
  go_wp2_with fail
  have k4 : Kp No w3 ((w3.alloc (.cells #[.int .u32 1, .int .u32 2, .int .i64 6, .int .i64 7, .int .i64 8] 48)).alloc (.cells #[.int .u32 0, .int .u32 0, .int .i64 0, .int .i64 0, .int .i64 0] 48)) := (Kp.alloc _).trans_no (Kp.alloc _)
  have H4 := Lib.hid (H3.out.no k4).rebase
  have ROW4 := Lib.hid (ownsRow_kp ROW3.out k4 (fun _ _ z => z))
  have KW4 := Lib.hid ((K1.out.trans_no K12.out).trans_no k4)
  have OFF : Hid (∀ k, (Value.slice (some ⟨ga, 0, none⟩) 220 220).ownBlock = some k → ¬ L1.at p k) := Lib.hid (fun k e hx => by have h1 := (ROW.out.lt k e).1; have h2 := H1.out.rep.lt k hx; simp at h1; omega)
  clear k4
  change Calls _ _ _ ((w3.alloc (.cells #[.int .u32 1, .int .u32 2, .int .i64 6, .int .i64 7, .int .i64 8] 48)).alloc (.cells #[.int .u32 0, .int .u32 0, .int .i64 0, .int .i64 0, .int .i64 0] 48)) _
  generalize (w3.alloc (.cells #[.int .u32 1, .int .u32 2, .int .i64 6, .int .i64 7, .int .i64 8] 48)).alloc (.cells #[.int .u32 0, .int .u32 0, .int .i64 0, .int .i64 0, .int .i64 0] 48) = w4 at *
  refine Calls.mono (Range_ok 4 (by omega) false 8 9 (by omega) (by omega) H4.out.rep H4.out.qk H4.out.gl H4.out.off (by omega)) ?_
  intro e w5 h5
  obtain ⟨r5, M5, L5, rfl, _, f5⟩ := H4.out.step h5
  have H5 := Lib.hid f5
  have EV := Lib.hid (EvalQ f5.rep f5.qk (.head _) (bools_row (ownsRow_kp ROW4.out f5.sd.kp OFF.out)))
  rw [rgF_enc (dnF [1]) pk0_ok pkz_ok (by omega) false 8 9, show decide (8 ≤ (if false = true then pkz else pk0).f 4 ∧ (if false = true then pkz else pk0).f 4 ≤ 9) = true from by decide] at EV
  clear h5 f5
  go_wp2_with fail
  refine EV.out.mono ?_
  rintro e w6 ⟨rfl, k6⟩
  have H6 := Lib.hid (H5.out.no k6)
  clear k6 EV H5
  go_wp2_with fail
  refine Calls.mono (Range_ok 4 (by omega) false 9 9 (by omega) (by omega) H6.out.rep H6.out.qk H6.out.gl H6.out.off (by omega)) ?_
  intro e w7 h7
  obtain ⟨r7, M7, L7, rfl, _, f7⟩ := H6.out.step h7
  have H7 := Lib.hid f7
  have EV := Lib.hid (EvalQ f7.rep f7.qk (.head _) (bools_row (ownsRow_kp ROW4.out f7.sd.kp OFF.out)))
  rw [rgF_enc (dnF [1]) pk0_ok pkz_ok (by omega) false 9 9, show decide (9 ≤ (if false = true then pkz else pk0).f 4 ∧ (if false = true then pkz else pk0).f 4 ≤ 9) = false from by decide] at EV
  clear h7 f7
  go_wp2_with fail
  refine EV.out.mono ?_
  rintro e w8 ⟨rfl, k8⟩
  have KF := Lib.hid ((H7.out.no k8).kpNo KW4.out O1.out)
  clear k8 EV H7
  go_wp2_with fail
  go_ret
  exact ⟨rfl, KF.out⟩

end Go.Proofs.YtohinonkfhkclaaDoor

namespace Go.Proofs.YtohinonkfhkclaaDoor
open Go.RowKit

def wdI (x : Int) : Nat := if 0 ≤ x ∧ x < 5 then fw x.toNat else 0
theorem wdI_in {k : Nat} (h : k < 5) : wdI (k : Int) = fw k := by unfold wdI; rw [if_pos ⟨by omega, by omega⟩]; rfl
theorem wdI_out {x : Int} (h : ¬ (0 ≤ x ∧ x < 5)) : wdI x = 0 := by unfold wdI; rw [if_neg h]

set_option maxRecDepth 100000 in
theorem width_ok (k : Nat) (hk : k < 5) (w : World) : Calls Tryd.prog 33 #[.int .i64 (k : Int)] w fun e w' => e = .returned (.int .i64 (fw k : Int)) ∧ w = w' := by
  rcases five hk with rfl | rfl | rfl | rfl | rfl
  all_goals
    go_enter Tryd.func33, Tryd.ntmps33
    go_wp2_with fail
    go_ret
    exact ⟨rfl, rfl⟩

def FirR (w : World) (k gk : Nat) (s3 s4 : Value) (wr : World) : Prop := ∃ j, j + gk = k ∧ s3 = .int .i64 (fsum j : Int) ∧ s4 = .int .i64 (j : Int) ∧ w = wr
set_option maxRecDepth 100000 in
theorem HVar_out (x b : Int) (nx : Bool) (h : b < 0 ∨ (wdI x : Int) ≤ b) {w : World} (g : Gl w) : Calls Tryd.prog 52 #[.int .i64 x, .int .i64 b, .bool nx] w fun e w' => e = .returned (.int .i64 (-1)) ∧ w = w' := by
  by_cases h0 : b < 0
  · clear h g
    go_enter Tryd.func52, Tryd.ntmps52
    go_wp2_with fail
    go_ret
    exact ⟨rfl, rfl⟩
  · have W : Hid (Calls Tryd.prog 51 #[.int .i64 x] w fun e w' => e = .returned (.int .i64 (wdI x : Int)) ∧ w = w') := Lib.hid (by
      by_cases hx : 0 ≤ x ∧ x < 5
      · obtain ⟨k, rfl⟩ : ∃ k : Nat, x = (k : Int) := ⟨x.toNat, by omega⟩
        rw [wdI_in (by omega)]
        exact Width_in k (by omega) g
      · rw [wdI_out hx]
        exact Width_out x hx w)
    have h1 : (wdI x : Int) ≤ b := by omega
    generalize wdI x = f at *
    clear h g
    go_enter Tryd.func52, Tryd.ntmps52
    go_wp2_with fail
    refine W.out.mono ?_
    rintro e w' ⟨rfl, rfl⟩
    go_wp2_with fail
    go_ret
    exact ⟨rfl, rfl⟩

theorem Width_any (x : Int) {w : World} (g : Gl w) : Calls Tryd.prog 51 #[.int .i64 x] w fun e w' => e = .returned (.int .i64 (wdI x : Int)) ∧ w = w' := by
  by_cases hx : 0 ≤ x ∧ x < 5
  · obtain ⟨k, rfl⟩ : ∃ k : Nat, x = (k : Int) := ⟨x.toNat, by omega⟩
    rw [wdI_in (by omega)]
    exact Width_in k (by omega) g
  · rw [wdI_out hx]
    exact Width_out x hx w

/-- What is known of a link. -/
def lkI (x : Int) : Int := if 0 ≤ x ∧ x < 12 then x else -1

end Go.Proofs.YtohinonkfhkclaaDoor

namespace Go.Proofs.YtohinonkfhkclaaDoor
open Go.RowKit

set_option maxRecDepth 100000 in
theorem Range_bad (x : Int) (hx : ¬ (0 ≤ x ∧ x < 5)) (p : Nat) (nx : Bool) (lo hi : Int) (w : World) : Calls Tryd.prog 22 #[ptr p, .int .i64 x, .bool nx, .int .u32 lo, .int .u32 hi] w fun e w' => e = .returned (.int .i64 (-1)) ∧ w = w' := by
  have W := Lib.hid (Width_out x hx w)
  clear hx
  go_enter Tryd.func22, Tryd.ntmps22
  go_wp2_with fail
  refine W.out.mono ?_
  rintro e w' ⟨rfl, rfl⟩
  go_wp2_with fail
  go_ret
  exact ⟨rfl, rfl⟩

def inB (lo hi n : Int) : Bool := decide (lo ≤ n ∧ n ≤ hi)
set_option maxRecDepth 100000 in
theorem inRange_ok (lo hi n : Int) (w : World) : Calls Tryd.prog 50 #[.agg #[.int .i64 lo, .int .i64 hi], .int .i64 n] w fun e w' => e = .returned (.bool (inB lo hi n)) ∧ Kp No w w' := by
  by_cases h1 : lo ≤ n
  · by_cases h2 : n ≤ hi
    · have e : inB lo hi n = true := decide_eq_true ⟨h1, h2⟩
      rw [e]
      go_enter Tryd.func50, Tryd.ntmps50
      go_wp2_with fail
      go_ret
      exact ⟨rfl, Kp.alloc _⟩
    · have e : inB lo hi n = false := decide_eq_false (fun h => h2 h.2)
      rw [e]
      go_enter Tryd.func50, Tryd.ntmps50
      go_wp2_with fail
      go_ret
      exact ⟨rfl, Kp.alloc _⟩
  · have e : inB lo hi n = false := decide_eq_false (fun h => h1 h.1)
    rw [e]
    go_enter Tryd.func50, Tryd.ntmps50
    go_wp2_with fail
    go_ret
    exact ⟨rfl, Kp.alloc _⟩

def vpB (p : Pkt) : Bool := decide (0 ≤ p.proto ∧ p.proto ≤ 255) && inB 0 65535 p.sport && inB 0 65535 p.dport
theorem vpB_true {p : Pkt} (h : p.in32) : vpB p = true → p.ok := fun e => by
  unfold vpB inB at e
  simp only [Bool.and_eq_true, decide_eq_true_eq] at e
  exact ⟨h.h0, h.h1, e.1.1, e.1.2, e.2⟩
theorem Pkt.ok.vp {p : Pkt} (h : p.ok) : vpB p = true := by
  unfold vpB inB
  simp only [Bool.and_eq_true, decide_eq_true_eq]
  exact ⟨⟨h.h2, h.h3⟩, h.h4⟩

set_option maxRecDepth 100000 in
set_option maxHeartbeats 1000000 in
theorem ValidPacket_ok (p : Pkt) (w : World) : Calls Tryd.prog 20 #[pktV p] w fun e w' => e = .returned (.bool (vpB p)) ∧ Kp No w w' := by
  have IN := Lib.hid (fun (y : World) (n : Int) => inRange_ok 0 65535 n y)
  obtain ⟨b, hb⟩ : ∃ b, vpB p = b := ⟨_, rfl⟩
  have HB := Lib.hid hb
  rw [hb]
  unfold vpB at hb
  have PA := Lib.hid (PkAt.new w p 48)
  unfold pktV
  by_cases h1 : 0 ≤ p.proto
  · by_cases h2 : p.proto ≤ 255
    · rw [decide_eq_true (And.intro h1 h2), Bool.true_and] at hb
      cases h3 : inB 0 65535 p.sport
      · rw [h3] at hb
        have e : b = false := by rw [← hb]; rfl
        subst e
        have I1 := Lib.hid (fun (y : World) => IN.out y p.sport)
        rw [h3] at I1
        clear hb h3
        go_enter Tryd.func20, Tryd.ntmps20
        go_wp2_with fail
        refine (I1.out _).mono ?_
        rintro e w1 ⟨rfl, k1⟩
        have K1 := Lib.hid (((Kp.alloc _).trans_no (Kp.alloc _)).trans_no k1)
        clear k1
        go_wp2_with fail
        go_ret
        exact ⟨rfl, K1.out⟩
      · rw [h3, Bool.true_and] at hb
        have I1 := Lib.hid (fun (y : World) => IN.out y p.sport)
        rw [h3] at I1
        have I2 := Lib.hid (fun (y : World) => IN.out y p.dport)
        rw [hb] at I2
        clear hb h3
        go_enter Tryd.func20, Tryd.ntmps20
        go_wp2_with fail
        refine (I1.out _).mono ?_
        rintro e w1 ⟨rfl, k1⟩
        have hz := k1.size
        have PP := (PA.out.no (Kp.alloc (.cells #[.int .i64 0, .int .i64 65535] 44))).no k1
        obtain ⟨_, _, c2, c3, c4⟩ := PP
        have d0 : w1.cell? ⟨w.heap.size + 1, 0, none⟩ = some (.int .i64 0) := by
          rw [k1.cell (by simp) (fun x => x)]
          simp
        have d1 : w1.cell? ⟨w.heap.size + 1, 1, none⟩ = some (.int .i64 65535) := by
          rw [k1.cell (by simp) (fun x => x)]
          simp
        have K1 := Lib.hid (((Kp.alloc _).trans_no (Kp.alloc _)).trans_no k1)
        clear k1
        go_wp2_with fail
        refine (I2.out _).mono ?_
        rintro e w2 ⟨rfl, k2⟩
        have K2 := Lib.hid (K1.out.trans_no k2)
        clear k2 c2 c3 c4 d0 d1
        go_wp2_with fail
        go_ret
        exact ⟨rfl, K2.out⟩
    · have e : b = false := by rw [← hb, decide_eq_false (fun h => h2 h.2)]; rfl
      subst e
      clear hb
      go_enter Tryd.func20, Tryd.ntmps20
      go_wp2_with fail
      go_ret
      exact ⟨rfl, (Kp.alloc _).trans_no (Kp.alloc _)⟩
  · have e : b = false := by rw [← hb, decide_eq_false (fun h => h1 h.1)]; rfl
    subst e
    clear hb
    go_enter Tryd.func20, Tryd.ntmps20
    go_wp2_with fail
    go_ret
    exact ⟨rfl, (Kp.alloc _).trans_no (Kp.alloc _)⟩

set_option maxRecDepth 100000 in
theorem Field_ok (p : Pkt) (k : Nat) (hk : k < 5) (w : World) : Calls Tryd.prog 35 #[pktV p, .int .i64 (k : Int)] w fun e w' => e = .returned (.int .u32 (p.f k : Int)) ∧ Kp No w w' := by
  unfold pktV
  have h2 : p.proto % 4294967296 = (p.f 2 : Int) := by show _ = ((u32 p.proto : Nat) : Int); unfold u32; omega
  have h3 : p.sport % 4294967296 = (p.f 3 : Int) := by show _ = ((u32 p.sport : Nat) : Int); unfold u32; omega
  have h4 : p.dport % 4294967296 = (p.f 4 : Int) := by show _ = ((u32 p.dport : Nat) : Int); unfold u32; omega
  have H2 := Lib.hid h2
  have H3 := Lib.hid h3
  have H4 := Lib.hid h4
  clear h2 h3 h4
  rcases five hk with rfl | rfl | rfl | rfl | rfl
  all_goals
    go_enter Tryd.func35, Tryd.ntmps35
    go_wp2_with fail
    go_ret
  · exact ⟨rfl, Kp.alloc _⟩
  · exact ⟨rfl, Kp.alloc _⟩
  · exact ⟨by rw [← H2.out]; rfl, Kp.alloc _⟩
  · exact ⟨by rw [← H3.out]; rfl, Kp.alloc _⟩
  · exact ⟨by rw [← H4.out]; rfl, Kp.alloc _⟩

set_option maxRecDepth 100000 in
theorem pair_ok (p q : Pkt) (hp : p.in32) (hq : q.in32) {w : World} (g : Gl w) : Calls Tryd.prog 29 #[pktV p, pktV q] w (EncPost w (encF (fun _ => false) p q)) := by
  have PA := Lib.hid (PkAt.new w p 48)
  have EN := Lib.hid (fun (y : World) (h : Gl y) => Encode_ok [] p q hp hq h (dv := .slice none 0 0) ⟨none, 0, rfl, rfl, .inl rfl⟩ (by simp))
  have e : dnF [] = fun _ => false := by funext v; simp [dnF]
  rw [e] at EN
  have GLW := Lib.hid g
  clear e g hp hq
  unfold pktV at EN ⊢
  go_enter Tryd.func29, Tryd.ntmps29
  go_wp2_with fail
  refine (EN.out _ ((GLW.out.no (Kp.alloc _)).no (Kp.alloc _))).mono ?_
  rintro e w1 ⟨ga, rfl, row, k1⟩
  have F : Hid (EncPost w (encF (fun _ => false) p q) (.returned (.slice (some ⟨ga, 0, none⟩) 220 220)) w1) := Lib.hid ⟨ga, rfl, by
    rcases row.2 with hx | ⟨g, cap, cur, hv, hg, r⟩
    · exact ⟨row.1, .inl hx⟩
    · exact ⟨row.1, .inr ⟨g, cap, cur, hv, by simp at hg; omega, r⟩⟩, ((Kp.alloc _).trans_no (Kp.alloc _)).trans_no k1⟩
  clear row k1
  go_wp2_with fail
  go_ret
  exact F.out

/-- Two packets in memory behind the law's arguments. -/
structure Two2 (w : World) (bp bq : Nat) (p q : Pkt) (x : World) : Prop where
  kp : Kp No w x
  gl : Gl x
  pa : PkAt x bp p
  pb : PkAt x bq q
  glw : Gl w
theorem Two2.no {w : World} {bp bq : Nat} {p q : Pkt} {x y : World} (t : Two2 w bp bq p q x) (k : Kp No x y) : Two2 w bp bq p q y := ⟨t.kp.trans_no k, t.gl.no k, t.pa.no k, t.pb.no k, t.glw⟩
theorem PkAt.lt {w : World} {b : Nat} {p : Pkt} (h : PkAt w b p) : b < w.heap.size := World.block_lt_of_cell? _ _ h.c0
theorem Two2.new2 {w : World} (g : Gl w) (p q : Pkt) : Two2 w w.heap.size (w.heap.size + 1) p q ((w.alloc (.cells #[.int .u32 (p.src : Int), .int .u32 (p.dst : Int), .int .i64 p.proto, .int .i64 p.sport, .int .i64 p.dport] 48)).alloc (.cells #[.int .u32 (q.src : Int), .int .u32 (q.dst : Int), .int .i64 q.proto, .int .i64 q.sport, .int .i64 q.dport] 48)) := by
  refine ⟨(Kp.alloc _).trans_no (Kp.alloc _), (g.no (Kp.alloc _)).no (Kp.alloc _), (PkAt.new w p 48).no (Kp.alloc _), ?_, g⟩
  have := PkAt.new (w.alloc (.cells #[.int .u32 (p.src : Int), .int .u32 (p.dst : Int), .int .i64 p.proto, .int .i64 p.sport, .int .i64 p.dport] 48)) q 48
  simpa using this
/-- A call of the manager's, whose blocks are all from N on. -/
theorem Two2.mgr {w : World} {bp bq : Nat} {p q : Pkt} {x y : World} {A : Nat → Prop} {N : Nat} (t : Two2 w bp bq p q x) (k : Kp A x y) (hA : ∀ b, A b → N ≤ b) (h1 : bp < N) (h2 : bq < N) (h3 : w.heap.size ≤ N) : Two2 w bp bq p q y := by
  have hg : ¬ A 0 := fun h => by
    have := hA _ h
    have := t.glw.lt
    omega
  exact ⟨t.kp.trans (A' := A) (fun b hb => .inr (Nat.le_trans h3 (hA b hb))) k, t.gl.kp k hg, t.pa.kp k (fun h => by have := hA _ h; omega), t.pb.kp k (fun h => by have := hA _ h; omega), t.glw⟩

end Go.Proofs.YtohinonkfhkclaaDoor

namespace Go.Proofs.YtohinonkfhkclaaDoor
open Go.RowKit

/-- What was done ahead of a call of the manager's changed nothing. -/
theorem OpQ.before {p n c : Nat} {L : Lay} {w wA : World} {F : Bfn} {B : List (Int × Bfn)} {e : Ending} {w' : World} (k : Kp No w wA) (h : OpQ p n c L wA F B e w') : OpQ p n c L w F B e w' := by
  obtain ⟨r, M', ⟨L', he, rr, kk, f⟩, q, h0⟩ := h
  exact ⟨r, M', ⟨L', he, rr, k.no_trans kk, fun x hx => by
    rcases f x hx with h1 | h1
    · exact .inl h1
    · exact .inr (Nat.le_trans k.size h1)⟩, q, h0⟩

theorem bit_zero {k : IntKind} {j : Nat} (hj : j ≤ k.bits) (hj1 : 1 ≤ j) (hk : ∀ n : Int, 0 ≤ n → n < 2 ^ j → k.wrap n = n) {x s : Nat} (hx : x < 2 ^ j) : (bits BinOp.and k ((x : Int) / 2 ^ s) 1 == 0) = !x.testBit s := by
  have h : (x : Int) / 2 ^ s = ((x / 2 ^ s : Nat) : Int) := by simp
  have hlt : x / 2 ^ s < 2 ^ j := Nat.lt_of_le_of_lt (Nat.div_le_self _ _) hx
  have := bits_mask k j hj hk 1 hj1 ((x / 2 ^ s : Nat) : Int) (Int.natCast_nonneg _) (by exact_mod_cast hlt)
  rw [h, show (1 : Int) = 2 ^ 1 - 1 from rfl, this, Nat.testBit_eq_decide_div_mod_eq]
  generalize x / 2 ^ s = y
  rw [Bool.eq_iff_iff]
  simp
  omega
theorem bit_u32_zero {x s : Nat} (hx : x < 4294967296) : (bits BinOp.and IntKind.u32 ((x : Int) / 2 ^ s) 1 == 0) = !x.testBit s :=
  bit_zero (j := 32) (by decide) (by omega) (fun n a b => by rw [IntKind.wrap_u32]; omega) hx

def WldR (w0 : World) (p : Nat) (L0 : Lay) (c : Nat) (B : List (Int × Bfn)) (k : Nat) (nx : Bool) (ad ma : Nat) (gk : Nat) (s9 s10 : Value) (wr : World) : Prop :=
  ∃ j f M L, j + gk = 32 ∧ s9 = .int .i64 f ∧ s10 = .int .i64 (31 - (j : Int)) ∧ Hf w0 p L0 220 (c + j * 50000) wr M L ((f, wiF k nx ad ma j) :: B)

structure WldP (k : Nat) (nx : Bool) (ad ma j v : Nat) : Prop where
  v220 : v < 220
  and1 : PSt 220 (fun a => a v && wiF k nx ad ma j a) 100
  and0 : PSt 220 (fun a => !a v && wiF k nx ad ma j a) 100
  skip : ma.testBit j = true → ∀ a, wiF k nx ad ma j a = wiF k nx ad ma (j + 1) a
  a1 : ma.testBit j = false → ad.testBit j = true → ∀ a, (a v && wiF k nx ad ma j a) = wiF k nx ad ma (j + 1) a
  a0 : ma.testBit j = false → ad.testBit j = false → ∀ a, (!a v && wiF k nx ad ma j a) = wiF k nx ad ma (j + 1) a
theorem wldP {k : Nat} {nx : Bool} {ad ma j : Nat} (hk : k < 5) (hj : j < fw k) : WldP k nx ad ma j (fvar k (fw k - 1 - j) nx) := by
  have hw := fw_le k
  have ra := wiF_rd (k := k) (nx := nx) ad ma j (by omega)
  have sa := wiF_st (nx := nx) hk ad ma j (by omega)
  refine ⟨fvar_lt hk (by omega) nx, ((and_bit hk hj ra sa false).congr (fun a => by rw [Bool.xor_false]; rfl)).mono (by omega), ((and_bit hk hj ra sa true).congr (fun a => by rw [Bool.xor_true]; rfl)).mono (by omega), ?_, ?_, ?_⟩
  · intro h a; show _ = wildB _ _ _ _; simp only [wildB, h, if_true]; rfl
  · intro h h2 a; show _ = wildB _ _ _ _; simp only [wildB, h, h2, Bool.false_eq_true, if_false]
    show (a _ && _) = ((a _ == true) && _); rw [beq_true]; rfl
  · intro h h2 a; show _ = wildB _ _ _ _; simp only [wildB, h, h2, Bool.false_eq_true, if_false]
    show (!a _ && _) = ((a _ == false) && _); rw [beq_false]; rfl

set_option maxRecDepth 100000 in
set_option maxHeartbeats 4000000 in
theorem Wild_ok {p c : Nat} {M : Mgr} {L : Lay} {B : List (Int × Bfn)} (k : Nat) (hk : k < 2) (nx : Bool) (ad ma : Nat) (had : ad < 4294967296) (hma : ma < 4294967296) {w : World} (R : Rep w p M L) (q : Qk 220 c M B) (g : Gl w) (ho : ¬ L.at p 0) (hc : c ≤ 500000000000) :
    Calls Tryd.prog 78 #[ptr p, .int .i64 (k : Int), .bool nx, .agg #[.int .u32 (ad : Int), .int .u32 (ma : Int)]] w (OpQ p 220 (c + 10000000) L w (wiF k nx ad ma 32) B) := by
  have hk5 : k < 5 := by omega
  have hf32 : fw k = 32 := by rcases (show k = 0 ∨ k = 1 by omega) with rfl | rfl <;> rfl
  have hboxL : ¬ L.at p w.heap.size := fun h => by have := R.lt _ h; omega
  have H0 := Lib.hid (Hf.start (R.no (Kp.alloc (.cells #[.int .u32 (ad : Int), .int .u32 (ma : Int)] 131))) q (g.no (Kp.alloc (.cells #[.int .u32 (ad : Int), .int .u32 (ma : Int)] 131))) ho)
  have BX : Hid ((w.alloc (.cells #[.int .u32 (ad : Int), .int .u32 (ma : Int)] 131)).heap[w.heap.size]? = some (.cells #[.int .u32 (ad : Int), .int .u32 (ma : Int)] 131 (0, 0))) := Lib.hid (heap_alloc_new _ _)
  have KA : Hid (Kp No w (w.alloc (.cells #[.int .u32 (ad : Int), .int .u32 (ma : Int)] 131))) := Lib.hid (Kp.alloc _)
  have W := Lib.hid (fun (x : World) (h : Gl x) => Width_in k hk5 h)
  have V := Lib.hid (fun (x : World) (h : Gl x) (b : Nat) (hb : b < fw k) => HVar_in k b nx hk5 hb h)
  have RP := Lib.hid (fun (j : Nat) (hj : j < fw k) => wldP (k := k) (nx := nx) (ad := ad) (ma := ma) hk5 hj)
  rw [hf32] at W V RP
  have J0 : Hid (WldR (w.alloc (.cells #[.int .u32 (ad : Int), .int .u32 (ma : Int)] 131)) p L c B k nx ad ma 32 (.int .i64 1) (.int .i64 31) (w.alloc (.cells #[.int .u32 (ad : Int), .int .u32 (ma : Int)] 131))) := Lib.hid (by
    refine ⟨0, 1, M, L, by omega, rfl, rfl, ?_⟩
    have h := H0.out.consts
    rw [Nat.zero_mul, Nat.add_zero]
    exact h.sub (fun x hx => by
      rcases List.mem_cons.1 hx with rfl | hx
      · exact .tail _ (.head _)
      · exact .tail _ (.tail _ hx)))
  have HBL := Lib.hid hboxL
  clear R q g ho hf32 hboxL
  rcases (show k = 0 ∨ k = 1 by omega) with rfl | rfl
  all_goals
    go_enter Tryd.func78, Tryd.ntmps78
    go_wp2_with fail
    refine (W.out _ H0.out.gl).mono ?_
    rintro e w' ⟨rfl, rfl⟩
    clear H0
    go_wp2_with fail
    generalize w.alloc (.cells #[.int .u32 (ad : Int), .int .u32 (ma : Int)] 131) = wA at *
    go_loopg [9, 10] 32 (fun gk s9 s10 wr => WldR wA p L c B _ nx ad ma gk s9 s10 wr)
    case atStart => exact J0.out
    case round =>
      clear J0
      obtain ⟨j, f, M1, L1, hj, rfl, rfl, h⟩ := hrel
      have HJ := Lib.hid hj
      by_cases hlt : j < 32
      · obtain ⟨b, hb⟩ : ∃ b : Nat, b = 32 - 1 - j := ⟨_, rfl⟩
        have hbi : (31 : Int) - (j : Int) = (b : Int) := by omega
        have rp := RP.out j hlt
        have VB := Lib.hid (V.out wr h.gl b (by omega))
        have WB := Lib.hid (W.out wr h.gl)
        have hkk : 31 - b = j := by omega
        have bx := BX.out
        rw [← h.sd.kp.block _ (heap_lt bx) HBL.out] at bx
        have c0 : wr.cell? ⟨w.heap.size, 0, none⟩ = some (.int .u32 (ad : Int)) := by rw [cell_of_row _ _ _ _ _ _ bx]; rfl
        have c1 : wr.cell? ⟨w.heap.size, 1, none⟩ = some (.int .u32 (ma : Int)) := by rw [cell_of_row _ _ _ _ _ _ bx]; rfl
        have l1 : (bits BinOp.and IntKind.u32 ((ma : Int) / 2 ^ (31 - b)) 1 == 1) = ma.testBit j := by rw [hkk]; exact bit_u32 hma
        have l2 : (bits BinOp.and IntKind.u32 ((ad : Int) / 2 ^ (31 - b)) 1 == 0) = !ad.testBit j := by rw [hkk]; exact bit_u32_zero had
        have hb0 : (0 : Int) ≤ (b : Int) := by omega
        have hbw : (b : Int) ≤ 31 := by omega
        rw [hbi]
        have RPH := Lib.hid rp
        have hv := rp.v220
        have H1 := Lib.hid h
        have HBI := Lib.hid hbi
        have DBX := Lib.hid (fun (M2 : Mgr) (L2 : Lay) (c2 : Nat) (B2 : List (Int × Bfn)) (y : World) (f2 : Hf wA p L 220 c2 y M2 L2 B2) => (by
          have bx := BX.out
          rw [← f2.sd.kp.block _ (heap_lt bx) HBL.out] at bx
          exact (⟨by rw [cell_of_row _ _ _ _ _ _ bx]; rfl, by rw [cell_of_row _ _ _ _ _ _ bx]; rfl⟩ : y.cell? ⟨w.heap.size, 0, none⟩ = some (.int .u32 (ad : Int)) ∧ y.cell? ⟨w.heap.size, 1, none⟩ = some (.int .u32 (ma : Int)))))
        rw [← hb] at RPH hv
        clear hb hbi h rp hj hkk bx
        generalize fvar _ b nx = v at *
        have hcc : c + j * 50000 + 50000 ≤ 500002000000 := by have := hlt; omega
        cases hmb : ma.testBit j
        · rw [hmb] at l1
          cases hab : ad.testBit j
          · rw [hab] at l2
            go_wp2_with fail
            refine WB.out.mono ?_
            rintro e w' ⟨rfl, rfl⟩
            go_wp2_with fail
            refine VB.out.mono ?_
            rintro e w' ⟨rfl, rfl⟩
            go_wp2_with fail
            refine (VarQ H1.out.rep H1.out.qk hv (by omega)).mono ?_
            intro e w2 h2
            obtain ⟨x, M2, L2, rfl, hx0, f2⟩ := H1.out.step h2
            have H2 := Lib.hid f2
            clear h2 f2 H1 VB c0 c1
            obtain ⟨c0, c1⟩ := DBX.out _ _ _ _ _ H2.out
            go_wp2_with fail
            refine (NotQ H2.out.rep H2.out.qk (f := x) (F := fun a => a v) (.head _) (s := 2) (PSt.var 220 v hv) (by omega)).mono ?_
            intro e w4 h4
            obtain ⟨y, M4, L4, rfl, hx4, f4⟩ := H2.out.step h4
            have H4 := Lib.hid f4
            clear h4 f4 H2 c0 c1
            obtain ⟨c0, c1⟩ := DBX.out _ _ _ _ _ H4.out
            go_wp2_with fail
            refine (AndQ H4.out.rep H4.out.qk (f := y) (g := f) (F := fun a => !a v) (G := wiF _ nx ad ma j) (.head _) (.tail _ (.tail _ (.head _))) (s := 100) RPH.out.and0 (by omega)).mono ?_
            intro e w5 h5
            obtain ⟨f2, M5, L5, rfl, hx5, f5⟩ := H4.out.step h5
            have JN : Hid (WldR wA p L c B _ nx ad ma (32 - (j + 1)) (.int .i64 f2) (.int .i64 ((b : Int) - 1)) w5) := Lib.hid (by
              refine ⟨j + 1, f2, M5, L5, by omega, rfl, ?_, ?_⟩
              · have := HBI.out
                rw [show (31 : Int) - ((j + 1 : Nat) : Int) = (b : Int) - 1 by omega]
              · refine ((f5.cong (RPH.out.a0 hmb hab)).mono (c' := c + (j + 1) * 50000) (by omega)).sub (fun z hz => ?_)
                rcases List.mem_cons.1 hz with rfl | hz
                · exact .head _
                · exact .tail _ (.tail _ (.tail _ (.tail _ hz))))
            clear h5 f5 H4 c0 c1
            go_wp2_with fail
            go_roundg (32 - (j + 1))
            case measure => have := HJ.out; omega
            case rel => exact JN.out
          · rw [hab] at l2
            go_wp2_with fail
            refine WB.out.mono ?_
            rintro e w' ⟨rfl, rfl⟩
            go_wp2_with fail
            refine VB.out.mono ?_
            rintro e w' ⟨rfl, rfl⟩
            go_wp2_with fail
            refine (VarQ H1.out.rep H1.out.qk hv (by omega)).mono ?_
            intro e w2 h2
            obtain ⟨x, M2, L2, rfl, hx0, f2⟩ := H1.out.step h2
            have H2 := Lib.hid f2
            clear h2 f2 H1 VB c0 c1
            obtain ⟨c0, c1⟩ := DBX.out _ _ _ _ _ H2.out
            have H4 := H2
            go_wp2_with fail
            refine (AndQ H4.out.rep H4.out.qk (f := x) (g := f) (F := fun a => a v) (G := wiF _ nx ad ma j) (.head _) (.tail _ (.head _)) (s := 100) RPH.out.and1 (by omega)).mono ?_
            intro e w5 h5
            obtain ⟨f2, M5, L5, rfl, hx5, f5⟩ := H4.out.step h5
            have JN : Hid (WldR wA p L c B _ nx ad ma (32 - (j + 1)) (.int .i64 f2) (.int .i64 ((b : Int) - 1)) w5) := Lib.hid (by
              refine ⟨j + 1, f2, M5, L5, by omega, rfl, ?_, ?_⟩
              · have := HBI.out
                rw [show (31 : Int) - ((j + 1 : Nat) : Int) = (b : Int) - 1 by omega]
              · refine ((f5.cong (RPH.out.a1 hmb hab)).mono (c' := c + (j + 1) * 50000) (by omega)).sub (fun z hz => ?_)
                rcases List.mem_cons.1 hz with rfl | hz
                · exact .head _
                · exact .tail _ (.tail _ (.tail _ hz)))
            clear h5 f5 H4 H2 c0 c1
            go_wp2_with fail
            go_roundg (32 - (j + 1))
            case measure => have := HJ.out; omega
            case rel => exact JN.out
        · rw [hmb] at l1
          have JN : Hid (WldR wA p L c B _ nx ad ma (32 - (j + 1)) (.int .i64 f) (.int .i64 ((b : Int) - 1)) wr) := Lib.hid (by
            refine ⟨j + 1, f, M1, L1, by omega, rfl, ?_, (H1.out.cong (RPH.out.skip hmb)).mono (by omega)⟩
            have := HBI.out
            rw [show (31 : Int) - ((j + 1 : Nat) : Int) = (b : Int) - 1 by omega])
          go_wp2_with fail
          refine WB.out.mono ?_
          rintro e w' ⟨rfl, rfl⟩
          go_wp2_with fail
          go_roundg (32 - (j + 1))
          case measure => have := HJ.out; omega
          case rel => exact JN.out
      · obtain rfl : j = 32 := by omega
        have FIN : Hid (OpQ p 220 (c + 10000000) L w (wiF _ nx ad ma 32) B (.returned (.int .i64 f)) wr) := Lib.hid (OpQ.before KA.out (h.ret (.head _) (fun x hx => .tail _ hx) (by omega)))
        clear h hj hlt
        have hbi : (31 : Int) - ((32 : Nat) : Int) = -1 := by omega
        rw [hbi]
        clear hbi
        go_wp2_with fail
        go_ret
        exact FIN.out

end Go.Proofs.YtohinonkfhkclaaDoor
