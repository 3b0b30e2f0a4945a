/-
  Walks: 'less'; a list of packets in memory.
-/
import Derived.Test.YtohinonkfhkclaaDoorHle
import Derived.Test.YtohinonkfhkclaaDoorHc
import Derived.Test.YtohinonkfhkclaaDoorRunJ
import Derived.Deep.RegionHeld3
import Derived.Deep.CutBlock
namespace Go.Proofs.YtohinonkfhkclaaDoor
open Go.RowKit

set_option maxRecDepth 100000 in
set_option maxHeartbeats 4000000 in
theorem HLeast_bad {p c : Nat} {M : Mgr} {L : Lay} {B : List (Int × Bfn)} {f : Int} {F : Bfn} {w : World} (R : Rep w p M L) (b : Qk 220 c M B) (hf : (f, F) ∈ B) (hne : f ≠ 0) {v : Nat} (hv : v < 220) (h12 : 12 ≤ v) (hodd : v % 2 = 1) {a : Nat → Bool} (ha : F (Mgr.upd a v false) ≠ F (Mgr.upd a v true)) :
    Calls Tryd.prog 36 #[ptr p, .int .i64 f] w fun e w' => e = .returned (.tuple #[.slice none 0 0, pktV ⟨0, 0, 0, 0, 0⟩, .bool false]) ∧ Kp No w w' := by
  obtain ⟨i0, hi0, hz0, hz1, hz2⟩ := info_parts info_int
  obtain ⟨hv1, hs⟩ := b.at hf
  have sup : ¬ ∀ v, v ∈ M.supM f → v ∈ hlV := fun hall => by
    obtain ⟨k, rfl, sk, _⟩ := Mgr.valid_nat b.wf hv1
    have e : M.sem k = F := funext fun x => by have := hs x; rw [Int.toNat_natCast] at this; exact this
    have hm : v ∈ M.supM (k : Int) := by
      unfold Mgr.supM
      rw [if_pos hv1, Int.toNat_natCast]
      exact (Mgr.supp_iff b.wf sk v).2 ⟨by rw [b.nn]; exact hv, a, by rw [e]; exact ha⟩
    have := mem_hlV.1 (hall v hm)
    omega
  have RL := Lib.hid R.lt
  have HV := Lib.hid (fun (y : World) => hvars_ok false y)
  have HC := Lib.hid (one_ints (hvK false 104))
  have LO : Hid (∀ (y : World) (a : Option Addr) (cc : Nat), Kp No w y → SrcAt y (.slice a 116 cc) 1 116 (hlV.map natV) → Calls Tryd.prog 65 #[ptr p, .int .i64 f, .slice a 116 cc] y (fun e w' => e = .returned (.tuple #[.slice none 0 0, .bool false]) ∧ Kp No y w')) := Lib.hid (fun y a cc ky hd =>
    Least_bad f hlV (by rw [hlV_len]; omega) (fun v hv => by rw [b.nn]; exact (mem_hlV.1 hv).1) hv1 hne sup (R.no ky) (by rw [b.nn]; omega) (by rw [hlV_len]; exact hd))
  have EF : Hid (hlV.map natV = (List.range 12).map natV ++ (hvK false 104).map natV) := Lib.hid (List.map_append)
  clear R b hf hne sup hv1 hs ha hv h12 hodd a
  generalize hvn : hvK false 104 = hk at *
  generalize hlV = vs at *
  clear hvn
  go_enter Tryd.func36, Tryd.ntmps36
  have KW := Lib.hid (Kp.alloc (w := w) (.cells zeroPkt 48))
  have R0 : Hid ((w.alloc (.cells zeroPkt 48)).heap[w.heap.size]? = some (.cells zeroPkt 48 (0, 0))) := Lib.hid (heap_alloc_new w (.cells zeroPkt 48))
  have HSZ : Hid ((w.alloc (.cells zeroPkt 48)).heap.size = w.heap.size + 1) := Lib.hid (by simp)
  go_wp2_with fail
  change Code.wp _ _ _ _ (w.alloc (.cells zeroPkt 48))
  generalize w.alloc (.cells zeroPkt 48) = wB at *
  have J0 : Hid (HlA wB 12 (.slice none 0 0) (.int .i64 0) wB) := Lib.hid ⟨0, _, by omega, rfl, rfl, World.ownsRow_nil _ _ _ _, Kp.refl _ _⟩
  go_loopg [7, 17] 12 (fun gk s7 s17 x => HlA wB gk s7 s17 x)
  case atStart => exact J0.out
  case round =>
    clear J0
    obtain ⟨k, v, hk2, rfl, e7, row, kp⟩ := hrel
    subst e7
    by_cases hlt : k < 12
    · have HK := Lib.hid hk2
      have KP := Lib.hid kp
      have ROW := Lib.hid row
      have hsz := kp.size
      have hln : (List.range k).length ≤ 12 := by rw [List.length_range]; omega
      have SN := Lib.hid (List.range_succ (n := k))
      have hlti : (k : Int) < 12 := by omega
      clear hk2 kp
      generalize List.range k = lst at *
      go_upto_region 6 with (at_builtin; refine wpList_append_lies _ rfl (.tmp 20) (.tmp 22) _ rfl wB.heap.size 3 i0 _ 1 8 Tryd.underlying28 hi0 hz0 hz1 hz2 rfl (by omega) v lst.length (lst.map natV) rfl (row.alloc _) ⟨wr.heap.size, 0, none⟩ 1 1 [.int .i64 (k : Int)] rfl rfl (World.news_of_block (heap_alloc_new _ _)) (by simp [Value.oneCell']) (by omega) (by unfold maxLen; omega) (by omega) (by simp; omega) (wr.heap.size + 1) (by simp) ?_; intro g5 cap5 w3 hown hgrow hat hlt2)
      have JN : Hid (HlA wB (12 - (k + 1)) (.slice (some ⟨g5, 0, none⟩) (lst.length + 1) cap5) (.int .i64 ((k + 1 : Nat) : Int)) w3) := Lib.hid (by
        have kg : Kp (fun z => v.ownBlock = some z) wr w3 := grown_no (Kp.alloc _) hgrow
        refine ⟨k + 1, _, by omega, rfl, rfl, ?_, KP.out.trans (A' := fun z => v.ownBlock = some z) (fun z hz => .inr (ROW.out.lt z hz).1) kg⟩
        rw [SN.out, List.length_append, List.map_append]
        exact hown)
      clear hown hgrow hat hlt2 row
      go_wp2_with fail
      go_roundg (12 - (k + 1))
      case measure => have := HK.out; omega
      case rel => exact JN.out
    · obtain rfl : k = 12 := by omega
      rw [List.length_range] at row
      obtain ⟨a7, c7, rfl⟩ := rowForm row
      have R7 := Lib.hid row
      have K7 := Lib.hid kp
      clear row kp hk2 hlt
      go_wp2_with fail
      refine (HV.out wr).mono ?_
      rintro e w1 ⟨a8, c8, rfl, r8, k8⟩
      have R7' := Lib.hid (ownsRow_kp R7.out k8 (fun _ _ x => x))
      have S8 := Lib.hid (SrcAt.of_row r8)
      have hsz1 : wB.heap.size ≤ w1.heap.size := by have := K7.out.size; have := k8.size; omega
      have K8 := Lib.hid (K7.out.trans_no k8)
      clear r8 k8 R7 K7 HV
      go_upto_region 8 with (at_builtin; refine wpList_append_src rfl _ _ rfl (base := wB.heap.size) (v := .slice a7 12 c7) Tryd.underlying28 hi0 hz0 hz1 hz2 rfl (by omega) rfl R7'.out rfl S8.out HC.out (by unfold maxLen; omega) (by omega) hsz1 ?_; intro v1 w2 hown1 hgrow1 hat1)
      obtain ⟨a9, c9, rfl⟩ := rowForm hown1
      have KB : Hid (Kp No wB w2) := Lib.hid (K8.out.trans (A' := fun z => (Value.slice a7 12 c7).ownBlock = some z) (fun z hz => .inr (R7'.out.lt z hz).1) (Kp.grown hgrow1))
      have R9 : Hid (w2.ownsRow wB.heap.size 3 1 (.slice a9 116 c9) 116 (vs.map natV)) := Lib.hid (by rw [EF.out]; exact hown1)
      have LO1 := Lib.hid (LO.out w2 a9 c9 (KW.out.trans_no KB.out) (SrcAt.of_row R9.out))
      clear hown1 hgrow1 hat1 R7' S8 K8 hsz1 LO HC
      go_wp2_with fail
      refine LO1.out.mono ?_
      rintro e w3 ⟨rfl, k3⟩
      have K3 := Lib.hid (KB.out.trans_no k3)
      clear k3 LO1
      obtain ⟨d0, d1, d2, d3, d4, z0⟩ := zero_row (by rw [K3.out.block _ (heap_lt R0.out) (fun x => x)]; exact R0.out : w3.heap[w.heap.size]? = some (.cells zeroPkt 48 (0, 0)))
      go_wp2_with fail
      have hb := HSZ.out
      refine bodyPost_ret (v := .tuple #[.slice none 0 0, pktV ⟨0, 0, 0, 0, 0⟩, .bool false]) ?_ rfl ⟨rfl, (KW.out.trans_no K3.out).trans (A' := fun z => z = w.heap.size) (fun z e => .inr (by omega)) (Kp.set5 w3 w.heap.size _ _ _ _ _)⟩
      unfold pktV
      simp [results, Tryd.results36, go_sem, d0, d1, d2, d3, d4]

/-! ### plain -/
/-- The assignment that header.Least reads off. -/
noncomputable def hlA (F : Bfn) : Nat → Bool := asg (gL (aL hlV (lsV F hlV) (fun _ => false)))
theorem hlA_at (F : Bfn) {v : Nat} (h : v < 220) : hlA F v = aL hlV (lsV F hlV) (fun _ => false) v := gL_at _ h
theorem hl_cub {W : Nat → Bool} (hW : ∀ v, v < 220 → W v = true → v ∈ hlV) {l : List (Nat → Bool)} (hl : l ≠ []) {F : Bfn} (hF : ∀ a, F a = cubF W l a) :
    (∃ x, x ∈ l ∧ ∀ v, v < 220 → W v = true → hlA F v = x v) ∧ ∀ y, y ∈ l → ∀ b : Nat → Bool, (∀ v, v < 220 → W v = true → b v = y v) → lexN (hlA F) hlV ≤ lexN b hlV := by
  have e : lexN (hlA F) hlV = lexN (aL hlV (lsV F hlV) (fun _ => false)) hlV := lexN_congr (fun v hv => hlA_at F (mem_hlV.1 hv).1)
  obtain ⟨x0, hx0⟩ := List.exists_mem_of_ne_nil l hl
  have sat : F x0 = true := by rw [hF, cubF_iff]; exact ⟨x0, hx0, fun _ _ _ => rfl⟩
  have dep : Dep F hlV := fun a b hab => by rw [hF, hF]; exact cubF_congr (fun v hv hw => hab v (hW v hv hw))
  constructor
  · have := ls_sat hlV hlV_nodup dep ⟨x0, sat⟩ (fun _ => false)
    rw [hF, cubF_iff] at this
    obtain ⟨x, hx, h⟩ := this
    exact ⟨x, hx, fun v hv hw => by rw [hlA_at F hv]; exact h v hv hw⟩
  · intro y hy b hb
    rw [e]
    exact ls_le hlV hlV_nodup (by rw [hF, cubF_iff]; exact ⟨y, hy, hb⟩) _
theorem lexN_hlV (a : Nat → Bool) : lexN a hlV = lexN a (List.range 12) * 2 ^ 104 + pkN (getP a false) := by
  unfold hlV
  rw [lexN_append, lexN_hvK, hvK_len]
theorem pkN_lt (a : Nat → Bool) : pkN (getP a false) < 2 ^ 104 := by
  have := lexN_lt a (hvK false 104)
  rw [lexN_hvK, hvK_len] at this
  exact this
theorem lexN_none (a : Nat → Bool) (vs : List Nat) (h : ∀ v, v ∈ vs → a v = false) : lexN a vs = 0 := by
  induction vs with
  | nil => rfl
  | cons v vs ih => simp only [lexN]; rw [h v List.mem_cons_self, ih (fun u hu => h u (List.mem_cons_of_mem _ hu))]; simp
theorem dnL_congr {a b : Nat → Bool} {k : Nat} (h : ∀ v, v < k → a v = b v) : dnL a k = dnL b k := by
  unfold dnL
  exact List.filter_congr (fun v hv => h v (List.mem_range.1 hv))
theorem dnL_none (k : Nat) : dnL (fun _ => false) k = [] := by unfold dnL; simp
/-- The set of a list of packets. -/
def pksF (l : List Pkt) : Bfn := cubF curW (l.map (encP fun _ => false))
theorem cur_hlV : ∀ v, v < 220 → curW v = true → v ∈ hlV := fun v hv hw => by
  unfold curW at hw
  rw [Bool.and_eq_true, decide_eq_true_eq, decide_eq_true_eq] at hw
  exact mem_hlV.2 ⟨hv, .inr hw.2⟩
theorem hl_pks {l : List Pkt} (hl : l ≠ []) (hok : ∀ p, p ∈ l → p.ok) : ∃ p, p ∈ l ∧ getP (hlA (pksF l)) false = p ∧ dnL (hlA (pksF l)) 12 = [] ∧ ∀ q, q ∈ l → pkN p ≤ pkN q := by
  obtain ⟨⟨x, hx, h1⟩, h2⟩ := hl_cub (F := pksF l) cur_hlV (by simpa using hl) (fun _ => rfl)
  obtain ⟨p, hp, rfl⟩ := List.mem_map.1 hx
  have e : getP (hlA (pksF l)) false = p := by rw [getP_cur h1, getP_encP _ (hok p hp)]
  have key : ∀ q, q ∈ l → lexN (hlA (pksF l)) (List.range 12) * 2 ^ 104 + pkN p ≤ pkN q := fun q hq => by
    have := h2 _ (List.mem_map.2 ⟨q, hq, rfl⟩) (encP (fun _ => false) q) (fun _ _ _ => rfl)
    rw [lexN_hlV, lexN_hlV, e, getP_encP _ (hok q hq), lexN_none (encP (fun _ => false) q) (List.range 12) (fun v hv => by
      unfold encP; rw [enc_link _ _ _ (List.mem_range.1 hv)])] at this
    omega
  refine ⟨p, hp, e, ?_, fun q hq => by have := key q hq; omega⟩
  have hz : lexN (hlA (pksF l)) (List.range 12) = 0 := by
    have h3 := key p hp
    have h4 : 0 < (2 : Nat) ^ 104 := by decide
    generalize lexN (hlA (pksF l)) (List.range 12) = z at *
    rcases Nat.eq_zero_or_pos z with h | h
    · exact h
    · have := Nat.mul_le_mul_right (2 ^ 104) h
      omega
  rw [← dnL_none 12]
  exact dnL_congr (fun v hv => lexN_inj (b := fun _ => false) (by rw [hz, lexN_none _ _ (fun _ _ => rfl)]) v (List.mem_range.2 hv))
theorem pks_one {p : Pkt} (h : p.ok) (a : Nat → Bool) : pkF p false 5 a = pksF [p] a := pk_cub h _ a
theorem pksF_iff {l : List Pkt} (hok : ∀ p, p ∈ l → p.ok) {a : Nat → Bool} : pksF l a = true ↔ getP a false ∈ l := by
  unfold pksF
  rw [cubF_iff]
  constructor
  · rintro ⟨x, hx, h⟩
    obtain ⟨p, hp, rfl⟩ := List.mem_map.1 hx
    rw [getP_cur h, getP_encP _ (hok p hp)]; exact hp
  · intro h
    refine ⟨_, List.mem_map.2 ⟨_, h, rfl⟩, fun v hv hw => cur_of_getP (by rw [getP_encP _ (hok _ h)]) hv hw⟩
theorem pksF_snoc {l : List Pkt} {p : Pkt} (hok : ∀ q, q ∈ l → q.ok) (hp : p.ok) (a : Nat → Bool) : (pksF l a || pkF p false 5 a) = pksF (l ++ [p]) a := by
  rw [Bool.eq_iff_iff, Bool.or_eq_true, pksF_iff hok, pk_iff hp false, pksF_iff (fun q hq => by
    rcases List.mem_append.1 hq with h | h
    · exact hok q h
    · rw [List.mem_singleton.1 h]; exact hp), List.mem_append, List.mem_singleton]
theorem cub_off {W : Nat → Bool} {l : List (Nat → Bool)} {v : Nat} (h : W v = false) (a : Nat → Bool) (x y : Bool) : cubF W l (Mgr.upd a v x) = cubF W l (Mgr.upd a v y) :=
  cubF_congr (fun u _ hw => by
    have : u ≠ v := fun e => by rw [e, h] at hw; cases hw
    rw [Mgr.upd_other _ _ _ _ this, Mgr.upd_other _ _ _ _ this])
theorem pks_off (l : List Pkt) {v : Nat} (h : v < 12 ∨ v % 2 = 1) (a : Nat → Bool) (x y : Bool) : pksF l (Mgr.upd a v x) = pksF l (Mgr.upd a v y) :=
  cub_off (by unfold curW; rw [Bool.and_eq_false_iff, decide_eq_false_iff_not, decide_eq_false_iff_not]; omega) a x y
theorem pks_st (l : List Pkt) : PSt 220 (pksF l) (l.length + 1) := by
  have := cubF_st curW (l.map (encP fun _ => false))
  rw [List.length_map] at this
  exact this
/-- How many different packets a list has. -/
noncomputable def difN (l : List Pkt) : Nat := cntL (pksF l) (hvK false 104)
theorem difN_nil : difN [] = 0 := cntL_zero _ (fun _ => rfl)
theorem difN_one {p : Pkt} (hp : p.ok) : cntL (pkF p false 5) (hvK false 104) = 1 :=
  cntL_one (encP (fun _ => false) p) _ hvK_nodup (fun a => by
    rw [pk_cub hp (fun _ => false), cubF_iff]
    constructor
    · rintro ⟨x, hx, h⟩ v hv
      rw [List.mem_singleton.1 hx] at h
      have := mem_hvC.1 hv
      exact h v this.2.1 (by unfold curW; rw [Bool.and_eq_true, decide_eq_true_eq, decide_eq_true_eq]; exact ⟨this.1, this.2.2⟩)
    · intro h
      refine ⟨_, List.mem_singleton.2 rfl, fun v hv hw => ?_⟩
      unfold curW at hw
      rw [Bool.and_eq_true, decide_eq_true_eq, decide_eq_true_eq] at hw
      exact h v (mem_hvC.2 ⟨hw.1, hv, hw.2⟩))
theorem difN_old {l : List Pkt} {p : Pkt} (hok : ∀ q, q ∈ l → q.ok) (h : p ∈ l) : difN (l ++ [p]) = difN l :=
  cntL_congr _ (fun a => by
    rw [← pksF_snoc hok (hok p h), Bool.eq_iff_iff, Bool.or_eq_true, pksF_iff hok, pk_iff (hok p h) false]
    constructor
    · rintro (h1 | h1)
      · exact h1
      · rw [h1]; exact h
    · exact .inl)
theorem difN_new {l : List Pkt} {p : Pkt} (hok : ∀ q, q ∈ l → q.ok) (hp : p.ok) (h : p ∉ l) : difN (l ++ [p]) = difN l + 1 := by
  unfold difN
  rw [← cntL_congr _ (fun a => pksF_snoc hok hp a), cntL_or _ (fun a h1 h2 => by
    rw [pksF_iff hok] at h1
    rw [pk_iff hp false] at h2
    rw [h2] at h1; exact h h1), difN_one hp]
theorem difN_rev : ∀ r : List Pkt, (∀ q, q ∈ r → q.ok) → difN r.reverse ≤ r.length
  | [], _ => by rw [List.reverse_nil, difN_nil]; exact Nat.le_refl _
  | p :: r, hok => by
    have h1 := difN_rev r (fun q hq => hok q (List.mem_cons_of_mem _ hq))
    have h2 := hok p List.mem_cons_self
    have h3 : ∀ q, q ∈ r.reverse → q.ok := fun q hq => hok q (List.mem_cons_of_mem _ (List.mem_reverse.1 hq))
    rw [List.reverse_cons, List.length_cons]
    by_cases h : p ∈ r.reverse
    · rw [difN_old h3 h]; omega
    · rw [difN_new h3 h2 h]; omega
theorem difN_le {l : List Pkt} (hok : ∀ q, q ∈ l → q.ok) : difN l ≤ l.length := by
  have := difN_rev l.reverse (fun q hq => hok q (List.mem_reverse.1 hq))
  rw [List.reverse_reverse, List.length_reverse] at this
  exact this
/-- A set of next packets. -/
theorem pk_next_ne {p : Pkt} (h : p.ok) : pkF p true 5 (Mgr.upd (encP (fun _ => false) p) 219 false) ≠ pkF p true 5 (Mgr.upd (encP (fun _ => false) p) 219 true) := by
  have t : pkF p true 5 (encP (fun _ => false) p) = true := by
    rw [pk_iff h true]; exact getP_enc _ h h true (fun _ _ => rfl)
  have f : ∀ x, x ≠ encP (fun _ => false) p 219 → pkF p true 5 (Mgr.upd (encP (fun _ => false) p) 219 x) = false := fun x hx => by
    cases hh : pkF p true 5 (Mgr.upd (encP (fun _ => false) p) 219 x)
    · rfl
    · rw [pk_iff h true] at hh
      have e := congrArg pkN (hh.trans (getP_enc (fun _ => false) h h true (a := encP (fun _ => false) p) (fun _ _ => rfl)).symm)
      rw [← lexN_hvK, ← lexN_hvK] at e
      have := lexN_inj e 219 (List.mem_map.2 ⟨103, by simp, rfl⟩)
      rw [Mgr.upd_same] at this
      exact (hx this).elim
  cases hb : encP (fun _ => false) p 219
  · rw [upd_id hb, t, f true (by rw [hb]; simp)]; simp
  · rw [upd_id hb, t, f false (by rw [hb]; simp)]; simp
end Go.Proofs.YtohinonkfhkclaaDoor

namespace Go.Proofs.YtohinonkfhkclaaDoor
open Go.RowKit

theorem pkN_lt_at {p q : Pkt} (hp : p.ok) (hq : q.ok) {i : Nat} (hi : i < 5) (he : ∀ j, j < i → p.f j = q.f j) (hne : p.f i ≠ q.f i ∨ i = 4) : pkN p < pkN q ↔ p.f i < q.f i := by
  have a0 := hp.lt (k := 0) (by omega)
  have a1 := hp.lt (k := 1) (by omega)
  have a2 := hp.lt (k := 2) (by omega)
  have a3 := hp.lt (k := 3) (by omega)
  have a4 := hp.lt (k := 4) (by omega)
  have b0 := hq.lt (k := 0) (by omega)
  have b1 := hq.lt (k := 1) (by omega)
  have b2 := hq.lt (k := 2) (by omega)
  have b3 := hq.lt (k := 3) (by omega)
  have b4 := hq.lt (k := 4) (by omega)
  rw [show 2 ^ fw 0 = 4294967296 from rfl] at a0 b0
  rw [show 2 ^ fw 1 = 4294967296 from rfl] at a1 b1
  rw [show 2 ^ fw 2 = 256 from rfl] at a2 b2
  rw [show 2 ^ fw 3 = 65536 from rfl] at a3 b3
  rw [show 2 ^ fw 4 = 65536 from rfl] at a4 b4
  unfold pkN
  rw [show (2 : Nat) ^ 72 = 4722366482869645213696 from rfl, show (2 : Nat) ^ 40 = 1099511627776 from rfl, show (2 : Nat) ^ 32 = 4294967296 from rfl, show (2 : Nat) ^ 16 = 65536 from rfl]
  rcases five hi with rfl | rfl | rfl | rfl | rfl
  · omega
  · have := he 0 (by omega); omega
  · have := he 0 (by omega); have := he 1 (by omega); omega
  · have := he 0 (by omega); have := he 1 (by omega); have := he 2 (by omega); omega
  · have := he 0 (by omega); have := he 1 (by omega); have := he 2 (by omega); have := he 3 (by omega); omega

def LsR (w : World) (p q : Pkt) (gk : Nat) (s5 : Value) (x : World) : Prop := ∃ i, i + gk = 4 ∧ s5 = .int .i64 (i : Int) ∧ (∀ j, j < i → p.f j = q.f j) ∧ Kp No w x

set_option maxRecDepth 100000 in
set_option maxHeartbeats 4000000 in
theorem less_ok {p q : Pkt} (hp : p.ok) (hq : q.ok) (w : World) : Calls Tryd.prog 37 #[pktV p, pktV q] w fun e w' => e = .returned (.bool (decide (pkN p < pkN q))) ∧ Kp No w w' := by
  have PA := Lib.hid ((PkAt.new w p 48).no (Kp.alloc (.cells #[.int .u32 (q.src : Int), .int .u32 (q.dst : Int), .int .i64 q.proto, .int .i64 q.sport, .int .i64 q.dport] 48)))
  have PB : Hid (PkAt ((w.alloc (.cells #[.int .u32 (p.src : Int), .int .u32 (p.dst : Int), .int .i64 p.proto, .int .i64 p.sport, .int .i64 p.dport] 48)).alloc (.cells #[.int .u32 (q.src : Int), .int .u32 (q.dst : Int), .int .i64 q.proto, .int .i64 q.sport, .int .i64 q.dport] 48)) (w.heap.size + 1) q) := Lib.hid (by
    have := PkAt.new (w.alloc (.cells #[.int .u32 (p.src : Int), .int .u32 (p.dst : Int), .int .i64 p.proto, .int .i64 p.sport, .int .i64 p.dport] 48)) q 48
    simpa using this)
  have KW := Lib.hid ((Kp.alloc (w := w) (.cells #[.int .u32 (p.src : Int), .int .u32 (p.dst : Int), .int .i64 p.proto, .int .i64 p.sport, .int .i64 p.dport] 48)).trans_no (Kp.alloc (.cells #[.int .u32 (q.src : Int), .int .u32 (q.dst : Int), .int .i64 q.proto, .int .i64 q.sport, .int .i64 q.dport] 48)))
  have FP := Lib.hid (fun (k : Nat) (hk : k < 5) (y : World) => Field_ok p k hk y)
  have FQ := Lib.hid (fun (k : Nat) (hk : k < 5) (y : World) => Field_ok q k hk y)
  have LT := Lib.hid (fun (i : Nat) (hi : i < 5) (he : ∀ j, j < i → p.f j = q.f j) (hne : p.f i ≠ q.f i ∨ i = 4) => pkN_lt_at hp hq hi he hne)
  have D4 : Hid ((p.f 4 : Int) = p.dport ∧ (q.f 4 : Int) = q.dport) := Lib.hid ⟨hp.f_val.2.2, hq.f_val.2.2⟩
  clear hp hq
  unfold pktV at *
  go_enter Tryd.func37, Tryd.ntmps37
  go_wp2_with fail
  change Code.wp _ _ _ _ ((w.alloc (.cells #[.int .u32 (p.src : Int), .int .u32 (p.dst : Int), .int .i64 p.proto, .int .i64 p.sport, .int .i64 p.dport] 48)).alloc (.cells #[.int .u32 (q.src : Int), .int .u32 (q.dst : Int), .int .i64 q.proto, .int .i64 q.sport, .int .i64 q.dport] 48))
  generalize (w.alloc (.cells #[.int .u32 (p.src : Int), .int .u32 (p.dst : Int), .int .i64 p.proto, .int .i64 p.sport, .int .i64 p.dport] 48)).alloc (.cells #[.int .u32 (q.src : Int), .int .u32 (q.dst : Int), .int .i64 q.proto, .int .i64 q.sport, .int .i64 q.dport] 48) = wB at *
  have CK : Hid (∀ y, Kp No wB y → y.cell? ⟨w.heap.size, 0, none⟩ = some (.int .u32 (p.src : Int)) ∧ y.cell? ⟨w.heap.size, 1, none⟩ = some (.int .u32 (p.dst : Int)) ∧ y.cell? ⟨w.heap.size, 2, none⟩ = some (.int .i64 p.proto) ∧ y.cell? ⟨w.heap.size, 3, none⟩ = some (.int .i64 p.sport) ∧ y.cell? ⟨w.heap.size, 4, none⟩ = some (.int .i64 p.dport) ∧ y.cell? ⟨w.heap.size + 1, 0, none⟩ = some (.int .u32 (q.src : Int)) ∧ y.cell? ⟨w.heap.size + 1, 1, none⟩ = some (.int .u32 (q.dst : Int)) ∧ y.cell? ⟨w.heap.size + 1, 2, none⟩ = some (.int .i64 q.proto) ∧ y.cell? ⟨w.heap.size + 1, 3, none⟩ = some (.int .i64 q.sport) ∧ y.cell? ⟨w.heap.size + 1, 4, none⟩ = some (.int .i64 q.dport)) := Lib.hid (fun y ky => by
    obtain ⟨c0, c1, c2, c3, c4⟩ := PA.out.no ky
    obtain ⟨d0, d1, d2, d3, d4⟩ := PB.out.no ky
    exact ⟨c0, c1, c2, c3, c4, d0, d1, d2, d3, d4⟩)
  clear PA PB
  have J0 : Hid (LsR wB p q 4 (.int .i64 0) wB) := Lib.hid ⟨0, by omega, rfl, fun j hj => by omega, Kp.refl _ _⟩
  go_loopg [5] 4 (fun gk s5 x => LsR wB p q gk s5 x)
  case atStart => exact J0.out
  case round =>
    clear J0
    obtain ⟨i, hi, rfl, he, kp⟩ := hrel
    by_cases hlt : i < 4
    · have HI := Lib.hid hi
      have hlti : (i : Int) < 4 := by omega
      have HE := Lib.hid he
      have KD := Lib.hid (kp.trans_no Kp.drew)
      have S0 := Lib.hid (CK.out _ KD.out)
      have FPI := Lib.hid (FP.out i (by omega))
      have FQI := Lib.hid (FQ.out i (by omega))
      by_cases hne : p.f i = q.f i
      · have hnei : (p.f i : Int) = q.f i := by omega
        have JN : Hid (∀ j, j < i + 1 → p.f j = q.f j) := Lib.hid (fun j hj => by
          by_cases e : j = i
          · rw [e]; exact hne
          · exact HE.out j (by omega))
        have BT : ((p.f i : Int) != q.f i) = false := by simp [hnei]
        clear hi he kp FP FQ LT hne
        generalize p.f i = fp at *
        generalize q.f i = fq at *
        go_upto_region 4 with fail
        go_region_held3 (fun y => y.cell? ⟨w.heap.size, 0, none⟩ = some (.int .u32 (p.src : Int)) ∧ y.cell? ⟨w.heap.size, 1, none⟩ = some (.int .u32 (p.dst : Int)) ∧ y.cell? ⟨w.heap.size, 2, none⟩ = some (.int .i64 p.proto) ∧ y.cell? ⟨w.heap.size, 3, none⟩ = some (.int .i64 p.sport) ∧ y.cell? ⟨w.heap.size, 4, none⟩ = some (.int .i64 p.dport) ∧ y.cell? ⟨w.heap.size + 1, 0, none⟩ = some (.int .u32 (q.src : Int)) ∧ y.cell? ⟨w.heap.size + 1, 1, none⟩ = some (.int .u32 (q.dst : Int)) ∧ y.cell? ⟨w.heap.size + 1, 2, none⟩ = some (.int .i64 q.proto) ∧ y.cell? ⟨w.heap.size + 1, 3, none⟩ = some (.int .i64 q.sport) ∧ y.cell? ⟨w.heap.size + 1, 4, none⟩ = some (.int .i64 q.dport)) (exact S0.out) (first | (go_at_call 35; first | ((with_reducible refine (FPI.out _).mono ?_); rintro e wa ⟨rfl, ka⟩; replace KD := Lib.hid (KD.out.trans_no ka); replace S0 := Lib.hid (CK.out _ KD.out); clear ka) | ((with_reducible refine (FQI.out _).mono ?_); rintro e wa ⟨rfl, ka⟩; replace KD := Lib.hid (KD.out.trans_no ka); replace S0 := Lib.hid (CK.out _ KD.out); clear ka)))
        all_goals
          clear S0 CK FPI FQI
          go_wp2_with fail
          go_roundg (4 - (i + 1))
          case measure => have := HI.out; omega
          case rel => exact ⟨i + 1, by have := HI.out; omega, rfl, JN.out, KD.out⟩
      · have hnei : ¬ (p.f i : Int) = q.f i := by omega
        have BT : ((p.f i : Int) != q.f i) = true := by simp; omega
        have RES : Hid ((decide (p.f i < q.f i)) = decide (pkN p < pkN q)) := Lib.hid (by
          have := LT.out i (by omega) he (.inl hne)
          rw [decide_eq_decide]; omega)
        clear hi he kp FP FQ LT hne HE
        generalize p.f i = fp at *
        generalize q.f i = fq at *
        go_upto_region 4 with fail
        go_region_held3 (fun y => y.cell? ⟨w.heap.size, 0, none⟩ = some (.int .u32 (p.src : Int)) ∧ y.cell? ⟨w.heap.size, 1, none⟩ = some (.int .u32 (p.dst : Int)) ∧ y.cell? ⟨w.heap.size, 2, none⟩ = some (.int .i64 p.proto) ∧ y.cell? ⟨w.heap.size, 3, none⟩ = some (.int .i64 p.sport) ∧ y.cell? ⟨w.heap.size, 4, none⟩ = some (.int .i64 p.dport) ∧ y.cell? ⟨w.heap.size + 1, 0, none⟩ = some (.int .u32 (q.src : Int)) ∧ y.cell? ⟨w.heap.size + 1, 1, none⟩ = some (.int .u32 (q.dst : Int)) ∧ y.cell? ⟨w.heap.size + 1, 2, none⟩ = some (.int .i64 q.proto) ∧ y.cell? ⟨w.heap.size + 1, 3, none⟩ = some (.int .i64 q.sport) ∧ y.cell? ⟨w.heap.size + 1, 4, none⟩ = some (.int .i64 q.dport)) (exact S0.out) (first | (go_at_call 35; first | ((with_reducible refine (FPI.out _).mono ?_); rintro e wa ⟨rfl, ka⟩; replace KD := Lib.hid (KD.out.trans_no ka); replace S0 := Lib.hid (CK.out _ KD.out); clear ka) | ((with_reducible refine (FQI.out _).mono ?_); rintro e wa ⟨rfl, ka⟩; replace KD := Lib.hid (KD.out.trans_no ka); replace S0 := Lib.hid (CK.out _ KD.out); clear ka)))
        all_goals
          have KD2 := Lib.hid (KD.out.trans_no Kp.drew)
          have S1 := Lib.hid (CK.out _ KD2.out)
          go_upto_region 5 with fail
          go_region_held3 (fun y => y.cell? ⟨w.heap.size, 0, none⟩ = some (.int .u32 (p.src : Int)) ∧ y.cell? ⟨w.heap.size, 1, none⟩ = some (.int .u32 (p.dst : Int)) ∧ y.cell? ⟨w.heap.size, 2, none⟩ = some (.int .i64 p.proto) ∧ y.cell? ⟨w.heap.size, 3, none⟩ = some (.int .i64 p.sport) ∧ y.cell? ⟨w.heap.size, 4, none⟩ = some (.int .i64 p.dport) ∧ y.cell? ⟨w.heap.size + 1, 0, none⟩ = some (.int .u32 (q.src : Int)) ∧ y.cell? ⟨w.heap.size + 1, 1, none⟩ = some (.int .u32 (q.dst : Int)) ∧ y.cell? ⟨w.heap.size + 1, 2, none⟩ = some (.int .i64 q.proto) ∧ y.cell? ⟨w.heap.size + 1, 3, none⟩ = some (.int .i64 q.sport) ∧ y.cell? ⟨w.heap.size + 1, 4, none⟩ = some (.int .i64 q.dport)) (exact S1.out) (first | (go_at_call 35; first | ((with_reducible refine (FPI.out _).mono ?_); rintro e wa ⟨rfl, ka⟩; replace KD2 := Lib.hid (KD2.out.trans_no ka); replace S1 := Lib.hid (CK.out _ KD2.out); clear ka) | ((with_reducible refine (FQI.out _).mono ?_); rintro e wa ⟨rfl, ka⟩; replace KD2 := Lib.hid (KD2.out.trans_no ka); replace S1 := Lib.hid (CK.out _ KD2.out); clear ka)))
          all_goals
            clear S0 S1 CK FPI FQI
            go_wp2_with fail
            go_ret
            exact ⟨by show Ending.returned (.bool (decide (fp < fq))) = _; rw [RES.out], KW.out.trans_no KD2.out⟩
    · obtain rfl : i = 4 := by omega
      have RES : Hid ((decide (p.dport < q.dport)) = decide (pkN p < pkN q)) := Lib.hid (by
        have := LT.out 4 (by omega) he (.inr rfl)
        have := D4.out
        rw [decide_eq_decide]; omega)
      obtain ⟨c0, c1, c2, c3, c4, d0, d1, d2, d3, d4⟩ := CK.out _ kp
      have KX := Lib.hid (KW.out.trans_no kp)
      clear hi he kp hlt FP FQ LT D4 CK
      go_wp2_with fail
      go_ret
      exact ⟨by show Ending.returned (.bool (decide (p.dport < q.dport))) = _; rw [RES.out], KX.out⟩

/-! ### a list of packets -/
def PksAt (w : World) (v : Value) (l : List Pkt) : Prop :=
  ∃ ao cap, v = .slice ao l.length cap ∧ l.length ≤ maxLen ∧ (∀ p, p ∈ l → p.in32) ∧ (l.length = 0 ∨ ∃ g o, ao = some ⟨g, o, none⟩ ∧ g < w.heap.size ∧ ∀ i p, l[i]? = some p → w.cell? ⟨g, o + i * 5, none⟩ = some (.int .u32 (p.src : Int)) ∧ w.cell? ⟨g, o + i * 5 + 1, none⟩ = some (.int .u32 (p.dst : Int)) ∧ w.cell? ⟨g, o + i * 5 + 2, none⟩ = some (.int .i64 p.proto) ∧ w.cell? ⟨g, o + i * 5 + 3, none⟩ = some (.int .i64 p.sport) ∧ w.cell? ⟨g, o + i * 5 + 4, none⟩ = some (.int .i64 p.dport))
set_option maxRecDepth 100000 in
theorem open_pktL {H : Type} {enc : TypeId × Value → H} {w : World} {sp : Nat → Bool} {held : Bool} {r : Reach} {b0 : Nat} {v : Value} {d : DataW H} {ps : List MemPlace}
    (hv : Value.okWide Tryd.prog w r b0 72 v) (h : DataW.Trod enc Tryd.prog w 0 sp held 72 v d ps) : ∃ l, PksAt w v l ∧ True := by
  obtain ⟨len, c, ao, cap, rfl, hl, h⟩ := open_nums (kd := fun i => if i < 2 then .u32 else .i64) (k := 5) Tryd.underlying72 (fs := Tryd.prog.fieldsOf 48) (by kernel_rfl) (by kernel_rfl) (by kernel_rfl) (by kernel_rfl) (by kernel_rfl) (by omega) hv h
  refine ⟨(List.range len).map fun i => ⟨(c i 0).toNat, (c i 1).toNat, c i 2, c i 3, c i 4⟩, ⟨ao, cap, by simp, by simpa using hl, fun p hp => ?_, ?_⟩, trivial⟩
  · obtain ⟨i, hi, rfl⟩ := List.mem_map.1 hp
    have hi := List.mem_range.1 hi
    rcases h with h | ⟨g, o, rfl, hg, h⟩
    · omega
    · have h0 := (h i hi 0 (by omega)).2
      have h1 := (h i hi 1 (by omega)).2
      have b0 := bounds_u32 h0
      have b1 := bounds_u32 h1
      exact ⟨by show (c i 0).toNat < _; omega, by show (c i 1).toNat < _; omega⟩
  · rcases h with h | ⟨g, o, rfl, hg, h⟩
    · exact .inl (by simp [h])
    · refine .inr ⟨g, o, rfl, hg, fun i p hp => ?_⟩
      obtain ⟨hi, hp⟩ := List.getElem?_eq_some_iff.1 hp
      have hi : i < len := by simpa using hi
      rw [List.getElem_map, List.getElem_range] at hp
      subst hp
      obtain ⟨h0, w0⟩ := h i hi 0 (by omega)
      obtain ⟨h1, w1⟩ := h i hi 1 (by omega)
      have b0 := bounds_u32 w0
      have b1 := bounds_u32 w1
      refine ⟨?_, ?_, (h i hi 2 (by omega)).1, (h i hi 3 (by omega)).1, (h i hi 4 (by omega)).1⟩
      · rw [show o + i * 5 = o + (i * 5 + 0) by omega, h0]
        show some (Value.int .u32 (c i 0)) = some (.int .u32 (((c i 0).toNat : Nat) : Int))
        rw [Int.toNat_of_nonneg b0.1]
      · rw [Nat.add_assoc, h1]
        show some (Value.int .u32 (c i 1)) = some (.int .u32 (((c i 1).toNat : Nat) : Int))
        rw [Int.toNat_of_nonneg b1.1]

end Go.Proofs.YtohinonkfhkclaaDoor
