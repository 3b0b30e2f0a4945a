/-
  Walks: what 'adopt' does at each node that it visits.
-/
import Derived.Test.YtngbodmooddjbaaGreatIx
import Derived.Test.YtngbodmooddjbaaGreatNa
import Derived.Test.YtngbodmooddjbaaGreatSave
namespace Go.Proofs.YtngbodmooddjbaaGreat
open Go.RowKit

theorem map_def {K V : Type} [DecidableEq K] {w : World} {b : Nat} {enc : K → Value} {ev : V → Value} {f : K → Option V} (h : MapAs w b enc ev f) {z : Nat} {ds : Option (List _)} (h1 : w.heap[z]? = some (.deferred ds)) : z ≠ b := by
  rintro rfl
  obtain ⟨es, cl, hb, _⟩ := h
  rw [hb] at h1
  cases h1
/-- Where the private things of 'adopt' lie. -/
structure AvB where
  Bk : Nat
  Bn : Nat
  Bu : Nat
  Bx : Nat
  bn : Nat
  gu : Nat
  cu : Nat
  og : Obj
  D : Nat
/-- The state while 'adopt' walks. -/
structure AvJ (w : World) (q : Nat) (N : Mgr) (L : Lay) (b : AvB) (us : List Nat) (s0 : NmSt) (bs : Nat) (x : World) (V : List Nat) : Prop where
  rep : Rep x q N L
  kp : Kp (fun k => k = b.bn) w x
  bk : ∃ kv, x.heap[b.Bk]? = some (.cells #[kv] 29 (0, 0)) ∧ x.ownsRow w.heap.size 40 1 kv V.length (V.map natV) ∧ kv.ownBlock ≠ some b.gu ∧ kv.ownBlock ≠ some b.Bx ∧ kv.ownBlock ≠ some bs
  bm : x.heap[b.Bn]? = some (.cells #[.map (some b.bn)] 105 (0, 0))
  bu : ∃ au, x.heap[b.Bu]? = some (.cells #[.slice au (nmAll us s0 V).k b.cu] 29 (0, 0)) ∧ (0 < (nmAll us s0 V).k → au = some ⟨b.gu, 0, none⟩)
  ug : x.heap[b.gu]? = some b.og
  bx : x.heap[b.Bx]? = some (.cells #[natV (nmAll us s0 V).num] 40 (0, 0))
  idx : MapAs x b.bn intV natV (nmAll us s0 V).K
  xd : x.heap[b.D]? = some (.deferred (some []))
structure AvP (w : World) (q : Nat) (L : Lay) (b : AvB) (us : List Nat) (bs : Nat) : Prop where
  hk : w.heap.size ≤ b.Bk
  hn : w.heap.size ≤ b.Bn
  hu : w.heap.size ≤ b.Bu
  hx : w.heap.size ≤ b.Bx
  hs : w.heap.size ≤ bs
  hg : w.heap.size ≤ b.gu
  bl : b.bn < w.heap.size
  bo : ¬ L.at q b.bn
  ku : b.Bk ≠ b.Bu
  xg : b.Bx ≠ b.gu
  sg : bs ≠ b.gu
  sk : bs ≠ b.Bk
  sn : bs ≠ b.Bn
  su : bs ≠ b.Bu
  sx : bs ≠ b.Bx
  sd : bs ≠ b.D
  gk : b.gu ≠ b.Bk
  gu_ : b.gu ≠ b.Bu
  lo : ∀ k, L.at q k → k < w.heap.size
  ul : us.length ≤ b.cu ∧ us.length ≤ 10000000000000
  uc : us ≠ [] → ∃ cur : Array Value, b.og = .cells cur 40 (0, 0) ∧ ∀ j, j < us.length → cur[j]? = some (natV (us.getD j 0))
section
variable {w : World} {q : Nat} {N : Mgr} {L : Lay} {b : AvB} {us : List Nat} {s0 : NmSt} {bs : Nat} {x y : World} {V : List Nat}
theorem AvJ.kpo (P : AvP w q L b us bs) (j : AvJ w q N L b us s0 bs x V) (k : Kp (fun k => k = bs) x y) : AvJ w q N L b us s0 bs y V := by
  obtain ⟨kv, h1, h2, h3, h4, h5⟩ := j.bk
  obtain ⟨au, u1, u2⟩ := j.bu
  have hs := P.hs
  have hb := P.bl
  exact ⟨j.rep.kp k (fun z e hz => by have := P.lo z hz; omega), j.kp.trans (A' := fun k => k = bs) (fun z e => .inr (by rw [e]; exact hs)) k,
    ⟨kv, by rw [k.block _ (heap_lt h1) (Ne.symm P.sk)]; exact h1, ownsRow_kp h2 k (fun z hz e => h5 (by rw [hz, e])), h3, h4, h5⟩,
    by rw [k.block _ (heap_lt j.bm) (Ne.symm P.sn)]; exact j.bm, ⟨au, by rw [k.block _ (heap_lt u1) (Ne.symm P.su)]; exact u1, u2⟩,
    by rw [k.block _ (heap_lt j.ug) (Ne.symm P.sg)]; exact j.ug, by rw [k.block _ (heap_lt j.bx) (Ne.symm P.sx)]; exact j.bx, j.idx.kp k (fun e => by omega), by rw [k.block _ (heap_lt j.xd) (Ne.symm P.sd)]; exact j.xd⟩

/-- Behind the append to 'kept'. -/
structure AvM (w : World) (q : Nat) (N : Mgr) (L : Lay) (b : AvB) (s : NmSt) (bs : Nat) (V : List Nat) (S : List Nat) (z : World) : Prop where
  rep : Rep z q N L
  kp : Kp (fun k => k = b.bn) w z
  bk : ∃ kv, z.heap[b.Bk]? = some (.cells #[kv] 29 (0, 0)) ∧ z.ownsRow w.heap.size 40 1 kv V.length (V.map natV) ∧ kv.ownBlock ≠ some b.gu ∧ kv.ownBlock ≠ some b.Bx ∧ kv.ownBlock ≠ some bs
  bm : z.heap[b.Bn]? = some (.cells #[.map (some b.bn)] 105 (0, 0))
  bu : ∃ au, z.heap[b.Bu]? = some (.cells #[.slice au s.k b.cu] 29 (0, 0)) ∧ (0 < s.k → au = some ⟨b.gu, 0, none⟩)
  ug : z.heap[b.gu]? = some b.og
  bx : z.heap[b.Bx]? = some (.cells #[natV s.num] 40 (0, 0))
  idx : MapAs z b.bn intV natV s.K
  seen : MapAs z bs intV Value.bool (seenF S)
  xd : z.heap[b.D]? = some (.deferred (some []))
theorem AvM.done {S : List Nat} (m : AvM w q N L b (nmAll us s0 V) bs V S x) : WPost (AvJ w q N L b us s0 bs) bs (S, V) (.returned (.tuple #[])) x :=
  ⟨rfl, ⟨m.rep, m.kp, m.bk, m.bm, m.bu, m.ug, m.bx, m.idx, m.xd⟩, m.seen⟩
theorem AvM.no {s : NmSt} {S : List Nat} (m : AvM w q N L b s bs V S x) (k : Kp No x y) : AvM w q N L b s bs V S y := by
  obtain ⟨kv, h1, h2, h3, h4, h5⟩ := m.bk
  obtain ⟨au, u1, u2⟩ := m.bu
  exact ⟨m.rep.no k, m.kp.trans_no k, ⟨kv, by rw [k.block _ (heap_lt h1) (fun z => z)]; exact h1, ownsRow_kp h2 k (fun _ _ z => z), h3, h4, h5⟩, by rw [k.block _ (heap_lt m.bm) (fun z => z)]; exact m.bm,
    ⟨au, by rw [k.block _ (heap_lt u1) (fun z => z)]; exact u1, u2⟩, by rw [k.block _ (heap_lt m.ug) (fun z => z)]; exact m.ug, by rw [k.block _ (heap_lt m.bx) (fun z => z)]; exact m.bx, m.idx.kp k (fun z => z), m.seen.kp k (fun z => z), by rw [k.block _ (heap_lt m.xd) (fun z => z)]; exact m.xd⟩
theorem AvM.upd {s : NmSt} {S : List Nat} (P : AvP w q L b us bs) (m : AvM w q N L b s bs V S x) {K' : Int → Option Nat} (h : MapAs y b.bn intV natV K') (k : Kp (fun z => z = b.bn) x y) : AvM w q N L b ⟨K', s.k, s.num⟩ bs V S y := by
  obtain ⟨kv, h1, h2, h3, h4, h5⟩ := m.bk
  obtain ⟨au, u1, u2⟩ := m.bu
  have hs := P.hs
  have hb := P.bl
  have hg := P.hg
  exact ⟨m.rep.kp k (fun z e hz => P.bo (by rw [← e]; exact hz)), m.kp.trans (A' := fun z => z = b.bn) (fun z e => .inl e) k,
    ⟨kv, by rw [k.block _ (heap_lt h1) (fun e => map_box m.idx h1 e)]; exact h1, ownsRow_kp h2 k (fun z hz e => row_map (row_zero h2) m.idx (by rw [hz, e])), h3, h4, h5⟩,
    by rw [k.block _ (heap_lt m.bm) (fun e => map_box m.idx m.bm e)]; exact m.bm, ⟨au, by rw [k.block _ (heap_lt u1) (fun e => map_box m.idx u1 e)]; exact u1, u2⟩,
    by rw [k.block _ (heap_lt m.ug) (fun e => by omega)]; exact m.ug, by rw [k.block _ (heap_lt m.bx) (fun e => map_box m.idx m.bx e)]; exact m.bx, h, m.seen.kp k (fun e => by omega), by rw [k.block _ (heap_lt m.xd) (fun e => map_def m.idx m.xd e)]; exact m.xd⟩
theorem AvM.setU {s : NmSt} {S : List Nat} (P : AvP w q L b us bs) (m : AvM w q N L b s bs V S x) {au : Option Addr} {ka : Nat} (ha : 0 < ka → au = some ⟨b.gu, 0, none⟩) : AvM w q N L b ⟨s.K, ka, s.num⟩ bs V S (x.setCell ⟨b.Bu, 0, none⟩ (.slice au ka b.cu)) := by
  obtain ⟨kv, h1, h2, h3, h4, h5⟩ := m.bk
  obtain ⟨a0, u1, u2⟩ := m.bu
  have k : Kp (fun z => z = b.Bu) x (x.setCell ⟨b.Bu, 0, none⟩ (.slice au ka b.cu)) := (Kp.setCell _ _).mono (fun _ _ e => e)
  have hu := P.hu
  exact ⟨m.rep.kp k (fun z e hz => by have := P.lo z hz; omega), m.kp.trans (A' := fun z => z = b.Bu) (fun z e => .inr (by rw [e]; exact hu)) k,
    ⟨kv, by rw [k.block _ (heap_lt h1) P.ku]; exact h1, ownsRow_kp h2 k (fun z hz e => row_box h2 u1 (by decide) (by rw [hz, e])), h3, h4, h5⟩,
    by rw [k.block _ (heap_lt m.bm) (fun e => by have := m.bm; rw [e, u1] at this; simp at this)]; exact m.bm, ⟨au, by rw [setCell_heap u1]; rfl, ha⟩,
    by rw [k.block _ (heap_lt m.ug) P.gu_]; exact m.ug, by rw [k.block _ (heap_lt m.bx) (fun e => by have := m.bx; rw [e, u1] at this; simp at this)]; exact m.bx, m.idx.kp k (fun e => map_box m.idx u1 e.symm), m.seen.kp k P.su, by rw [k.block _ (heap_lt m.xd) (fun e => by have := m.xd; rw [e, u1] at this; cases this)]; exact m.xd⟩
theorem AvM.setX {s : NmSt} {S : List Nat} (P : AvP w q L b us bs) (m : AvM w q N L b s bs V S x) (n' : Nat) : AvM w q N L b ⟨s.K, s.k, n'⟩ bs V S (x.setCell ⟨b.Bx, 0, none⟩ (.int .i64 (n' : Int))) := by
  obtain ⟨kv, h1, h2, h3, h4, h5⟩ := m.bk
  obtain ⟨a0, u1, u2⟩ := m.bu
  have k : Kp (fun z => z = b.Bx) x (x.setCell ⟨b.Bx, 0, none⟩ (.int .i64 (n' : Int))) := (Kp.setCell _ _).mono (fun _ _ e => e)
  have hx := P.hx
  exact ⟨m.rep.kp k (fun z e hz => by have := P.lo z hz; omega), m.kp.trans (A' := fun z => z = b.Bx) (fun z e => .inr (by rw [e]; exact hx)) k,
    ⟨kv, by rw [k.block _ (heap_lt h1) (fun e => by have := m.bx; rw [← e, h1] at this; simp at this)]; exact h1, ownsRow_kp h2 k (fun z hz e => h4 (by rw [hz, e])), h3, h4, h5⟩,
    by rw [k.block _ (heap_lt m.bm) (fun e => by have := m.bm; rw [e, m.bx] at this; simp at this)]; exact m.bm, ⟨a0, by rw [k.block _ (heap_lt u1) (fun e => by have := m.bx; rw [← e, u1] at this; simp at this)]; exact u1, u2⟩,
    by rw [k.block _ (heap_lt m.ug) (Ne.symm P.xg)]; exact m.ug, by rw [setCell_heap m.bx]; rfl, m.idx.kp k (fun e => map_box m.idx m.bx e.symm), m.seen.kp k P.sx, by rw [k.block _ (heap_lt m.xd) (fun e => by have := m.xd; rw [e, m.bx] at this; cases this)]; exact m.xd⟩
end

set_option maxRecDepth 100000 in
set_option maxHeartbeats 4000000 in
theorem adopt_visit {w : World} {q : Nat} {N : Mgr} {L : Lay} {b : AvB} {us : List Nat} {s0 : NmSt} {bs : Nat} (P : AvP w q L b us bs) (hinv : NmI us s0) (x : World) (V : List Nat) (f : Nat) (S : List Nat) (hJ : AvJ w q N L b us s0 bs x V) (hV : V.length < big) (hnum : s0.num ≤ 10000000000000) (hm : MapAs x bs intV Value.bool (seenF S)) :
    Calls Tryz.prog 86 (#[.int .i64 (f : Int)] ++ #[.pointer (some ⟨b.Bk, 0, none⟩), .pointer (some ⟨b.Bn, 0, none⟩), .pointer (some ⟨b.Bu, 0, none⟩), .pointer (some ⟨b.Bx, 0, none⟩)]) x (WPost (AvJ w q N L b us s0 bs) bs (S, V ++ [f])) := by
  obtain ⟨i0, hi0, hz0, hz1, hz2⟩ := info_parts info_ref0
  have SNOC := Lib.hid (nmAll_snoc us s0 V f)
  have HI := Lib.hid (hinv.all V)
  have hn2 := (nmAll_num (us := us) V s0).2
  unfold big at hV
  have PP := Lib.hid P
  have JJ := Lib.hid hJ
  have HM := Lib.hid hm
  obtain ⟨kv, hbk, hrow, hne1, hne2, hne3⟩ := hJ.bk
  obtain ⟨ak, ck, rfl, _⟩ := ownsRow_len (row_zero hrow)
  have d1 : x.cell? ⟨b.Bk, 0, none⟩ = some (.slice ak V.length ck) := by simp [World.cell?, hbk]
  have z1 : x.frozen? ⟨b.Bk, 0, none⟩ = false := by simp [World.frozen?, hbk]
  have l1 := heap_lt hbk
  have hown0 : ¬ (Value.slice ak V.length ck).ownBlock = some b.Bk := row_box hrow hbk (by decide)
  have hwx := hJ.kp.size
  have HBK := Lib.hid hbk
  have HROW := Lib.hid hrow
  have NE : Hid ((Value.slice ak V.length ck).ownBlock ≠ some b.gu ∧ (Value.slice ak V.length ck).ownBlock ≠ some b.Bx ∧ (Value.slice ak V.length ck).ownBlock ≠ some bs) := Lib.hid ⟨hne1, hne2, hne3⟩
  clear P hJ hm hbk hne1 hne2 hne3 hinv
  show Calls Tryz.prog 86 #[.int .i64 (f : Int), .pointer (some ⟨b.Bk, 0, none⟩), .pointer (some ⟨b.Bn, 0, none⟩), .pointer (some ⟨b.Bu, 0, none⟩), .pointer (some ⟨b.Bx, 0, none⟩)] x _
  go_enter Tryz.func86, Tryz.ntmps86
  go_upto_region 1 with (at_builtin; refine wpList_append_lies _ rfl (.tmp 9) (.tmp 11) _ rfl w.heap.size 40 i0 _ 1 8 Tryz.underlying29 hi0 hz0 hz1 hz2 rfl (by omega) (.slice ak V.length ck) V.length (V.map natV) rfl (hrow.alloc _) ⟨x.heap.size, 0, none⟩ 1 1 [.int .i64 (f : Int)] rfl rfl (World.news_of_block (heap_alloc_new _ _)) (by simp [Value.oneCell']) (by omega) (by unfold maxLen; omega) (by omega) (by simp; omega) (x.heap.size + 1) (by simp) ?_; intro g cap w1 hown hgrow hat hlt2; have q2 : w1.cell? ⟨b.Bk, 0, none⟩ = some (.slice ak V.length ck) := (hgrow.cell_far ⟨b.Bk, 0, none⟩ (by simp; omega) (fun e => hown0 e.symm)).trans ((World.cell?_alloc_lt _ _ _ l1).trans d1); have q3 : w1.frozen? ⟨b.Bk, 0, none⟩ = false := (hgrow.frozen_far ⟨b.Bk, 0, none⟩ (by simp; omega) (fun e => hown0 e.symm)).trans ((World.frozen?_alloc_old _ _ _ (by simp; omega)).trans z1))
  have MM : Hid (AvM w q N L b (nmAll us s0 V) bs (V ++ [f]) S (w1.setCell ⟨b.Bk, 0, none⟩ (.slice (some ⟨g, 0, none⟩) (V.length + 1) cap))) := Lib.hid (by
    have j := JJ.out
    have P := PP.out
    have kg : Kp (fun k => (Value.slice ak V.length ck).ownBlock = some k) x w1 := grown_no (Kp.alloc _) hgrow
    have kall : Kp (fun k => (Value.slice ak V.length ck).ownBlock = some k ∨ k = b.Bk) x (w1.setCell ⟨b.Bk, 0, none⟩ (.slice (some ⟨g, 0, none⟩) (V.length + 1) cap)) :=
      (kg.mono (fun k _ e => .inl e)).trans (A' := fun k => (Value.slice ak V.length ck).ownBlock = some k ∨ k = b.Bk) (fun k h => .inl h) ((Kp.setCell _ _).mono (fun k _ e => .inr e))
    have ge : ∀ k, ((Value.slice ak V.length ck).ownBlock = some k ∨ k = b.Bk) → w.heap.size ≤ k := fun k h => by
      rcases h with h | h
      · exact (HROW.out.lt k h).1
      · rw [h]; exact P.hk
    have hbk1 : w1.heap[b.Bk]? = some (.cells #[.slice ak V.length ck] 29 (0, 0)) := by rw [kg.block _ l1 hown0]; exact HBK.out
    have bx_row : ∀ k, k = b.Bn ∨ k = b.Bu ∨ k = b.gu ∨ k = b.Bx ∨ k = bs ∨ k = b.bn ∨ k = b.D → k < x.heap.size := fun k h => by
      obtain ⟨au, u1, _⟩ := j.bu
      rcases h with h | h | h | h | h | h | h <;> rw [h]
      · exact heap_lt j.bm
      · exact heap_lt u1
      · exact heap_lt j.ug
      · exact heap_lt j.bx
      · exact HM.out.lt
      · exact j.idx.lt
      · exact heap_lt j.xd
    have off : ∀ k, k = b.Bn ∨ k = b.Bu ∨ k = b.gu ∨ k = b.Bx ∨ k = bs ∨ k = b.bn ∨ k = b.D → ¬ ((Value.slice ak V.length ck).ownBlock = some k ∨ k = b.Bk) := fun k h e => by
      obtain ⟨au, u1, _⟩ := j.bu
      rcases e with e | e
      · rcases h with h | h | h | h | h | h | h <;> rw [h] at e
        · exact row_box HROW.out j.bm (by decide) e
        · exact row_box HROW.out u1 (by decide) e
        · exact NE.out.1 e
        · exact NE.out.2.1 e
        · exact NE.out.2.2 e
        · exact row_map (row_zero HROW.out) j.idx e
        · obtain ⟨c1, g1⟩ := ownsRow_block HROW.out e
          have := j.xd; rw [g1] at this; cases this
      · rcases h with h | h | h | h | h | h | h <;> rw [h] at e
        · have := j.bm; rw [e, HBK.out] at this; simp at this
        · exact P.ku e.symm
        · exact P.gk e
        · have := j.bx; rw [e, HBK.out] at this; simp at this
        · exact P.sk e
        · exact map_box j.idx HBK.out e.symm
        · have := j.xd; rw [e, HBK.out] at this; cases this
    have keep : ∀ k, k = b.Bn ∨ k = b.Bu ∨ k = b.gu ∨ k = b.Bx ∨ k = bs ∨ k = b.bn ∨ k = b.D → (w1.setCell ⟨b.Bk, 0, none⟩ (.slice (some ⟨g, 0, none⟩) (V.length + 1) cap)).heap[k]? = x.heap[k]? := fun k h => kall.block k (bx_row k h) (off k h)
    have hg2 : ∀ k, k = b.gu ∨ k = b.Bx ∨ k = bs → g ≠ k := fun k h e => by
      have hk : k < x.heap.size := bx_row k (by rcases h with h | h | h <;> simp [h])
      rcases hat with hat | hat
      · rcases h with h | h | h <;> rw [e, h] at hat
        · exact NE.out.1 hat
        · exact NE.out.2.1 hat
        · exact NE.out.2.2 hat
      · omega
    obtain ⟨au, u1, u2⟩ := j.bu
    refine ⟨j.rep.kp kall (fun k h hz => by have := P.lo k hz; have := ge k h; omega), j.kp.trans (A' := fun k => (Value.slice ak V.length ck).ownBlock = some k ∨ k = b.Bk) (fun k h => .inr (ge k h)) kall, ⟨.slice (some ⟨g, 0, none⟩) (V.length + 1) cap, ?_, ?_, ?_, ?_, ?_⟩, ?_, ⟨au, ?_, u2⟩, ?_, ?_, j.idx.kp kall (off _ (by simp)), HM.out.kp kall (off _ (by simp)), ?_⟩
    · rw [setCell_heap hbk1]; rfl
    · rw [List.length_append, List.map_append]
      exact ownsRow_kp hown (Kp.setCell _ _) (fun z hz e => row_box hown hbk1 (by decide) (by rw [hz, e]))
    · intro e; exact hg2 _ (.inl rfl) (by simpa [Value.ownBlock] using e)
    · intro e; exact hg2 _ (.inr (.inl rfl)) (by simpa [Value.ownBlock] using e)
    · intro e; exact hg2 _ (.inr (.inr rfl)) (by simpa [Value.ownBlock] using e)
    · rw [keep _ (by simp)]; exact j.bm
    · rw [keep _ (by simp)]; exact u1
    · rw [keep _ (by simp)]; exact j.ug
    · rw [keep _ (by simp)]; exact j.bx
    · rw [keep _ (by simp)]; exact j.xd)
  clear hown hgrow hat hlt2 q2 q3 d1 z1 l1 hown0 hrow HBK HROW NE JJ HM hwx
  generalize (w1.setCell ⟨b.Bk, 0, none⟩ (.slice (some ⟨g, 0, none⟩) (V.length + 1) cap)) = z at *
  have FIN : Hid (∀ y, AvM w q N L b (nmStep us (nmAll us s0 V) f) bs (V ++ [f]) S y → WPost (AvJ w q N L b us s0 bs) bs (S, V ++ [f]) (.returned (.tuple #[])) y) := Lib.hid (fun y h => AvM.done (by rw [SNOC.out]; exact h))
  generalize nmAll us s0 V = s at *
  obtain ⟨au, u1, u2⟩ := MM.out.bu
  have hbn := MM.out.bm
  have c1 : z.cell? ⟨b.Bn, 0, none⟩ = some (.map (some b.bn)) := by simp [World.cell?, hbn]
  have c2 : z.cell? ⟨b.Bu, 0, none⟩ = some (.slice au s.k b.cu) := by simp [World.cell?, u1]
  have c3 : z.cell? ⟨b.Bx, 0, none⟩ = some (.int .i64 (s.num : Int)) := by simp [World.cell?, MM.out.bx, natV]
  have l1 := heap_lt hbn
  have l2 := heap_lt u1
  have l3 := heap_lt MM.out.bx
  have LK : (Instr.lookup 105 (.map (some b.bn)) (.int .i64 f) true).run Tryz.prog z = .ok (.tuple #[(((s.K (f : Int)).map natV).getD (.int .i64 0)), .bool (s.K (f : Int)).isSome]) z :=
    MM.out.idx.lookup keyRef Tryz.underlying105 zeroRef (f : Int) true
  have hul := HI.out.ul
  have hcu := PP.out.ul
  clear SNOC u1 hbn
  cases hKf : s.K (f : Int) with
  | some r =>
    have e : nmStep us s f = s := by unfold nmStep; rw [hKf]
    have RET := Lib.hid (FIN.out z (by rw [e]; exact MM.out))
    rw [hKf] at LK
    simp only [Option.map_some, Option.getD_some, Option.isSome_some, natV] at LK
    clear FIN hKf e MM u2
    go_wp2_with fail
    go_end0
    exact RET.out
  | none =>
    rw [hKf] at LK
    simp only [Option.map_none, Option.getD_none, Option.isSome_none] at LK
    by_cases hk0 : 0 < s.k
    · have e : nmStep us s f = ⟨fun x => if x = (f : Int) then some (us.getD (s.k - 1) 0) else s.K x, s.k - 1, s.num⟩ := by unfold nmStep; rw [hKf]; simp only; rw [if_pos hk0]
      obtain ⟨ka, hka⟩ : ∃ ka, ka = s.k - 1 := ⟨_, rfl⟩
      have hau := u2 hk0
      subst hau
      obtain ⟨cur, hog, hcur⟩ := PP.out.uc (fun h => by rw [h] at hul; simp at hul; omega)
      have dg : z.cell? ⟨b.gu, ka, none⟩ = some (.int .i64 ((us.getD ka 0 : Nat) : Int)) := by
        have hug := MM.out.ug
        rw [hog] at hug
        rw [cell_of_row _ _ _ _ _ _ hug]
        exact hcur ka (by omega)
      have lg := heap_lt MM.out.ug
      obtain ⟨w3, hupd, hmap, hk3, _⟩ := MM.out.idx.update keyRef Tryz.underlying105 (f : Int) (us.getD (s.k - 1) 0)
      rw [← hka] at e hupd hmap
      have up : (Instr.mapUpdate 105 (.map (some b.bn)) (.int .i64 f) (.int .i64 ((us.getD ka 0 : Nat) : Int))).run Tryz.prog z.drew = .ok () w3.drew := hupd 1
      have M3 := Lib.hid ((MM.out.upd PP.out hmap hk3).no Kp.drew)
      have hw2 : ((s.k : Int) - 1) = (ka : Int) := by omega
      have hw : IntKind.i64.wrap ((s.k : Int) - 1) = (ka : Int) := by rw [hw2]; exact IntWalk.i64_in _ ⟨by omega, by omega⟩
      have hb0 : (0 : Int) ≤ (ka : Int) := by omega
      have hb1 : (ka : Int) < (s.k : Int) := by omega
      have hb2 : (ka : Int) ≤ (b.cu : Int) := by omega
      have hb3 : (0 : Int) < (s.k : Int) := by omega
      have hcz : ¬ b.cu = 0 := by omega
      have hle : s.k ≤ 9223372036854775807 := by omega
      have RET := Lib.hid (FIN.out (w3.drew.setCell ⟨b.Bu, 0, none⟩ (.slice (some ⟨b.gu, 0, none⟩) ka b.cu)) (by rw [e]; exact M3.out.setU PP.out (fun _ => rfl)))
      obtain ⟨au3, u3, _⟩ := M3.out.bu
      have ku3 : w3.drew.heap[b.Bu]? = z.heap[b.Bu]? := (hk3.trans_no Kp.drew).block _ l2 (fun e2 => by have := PP.out.hu; have := PP.out.bl; omega)
      have c23 : w3.drew.cell? ⟨b.Bu, 0, none⟩ = some (.slice (some ⟨b.gu, 0, none⟩) s.k b.cu) := (World.cell?_of_block ku3).trans c2
      have z23 : w3.drew.frozen? ⟨b.Bu, 0, none⟩ = false := by simp [World.frozen?, u3]
      have l23 := heap_lt u3
      clear hupd hmap hk3 M3 FIN hKf e MM u2 u3 ku3 hka hog hcur hul hcu hk0
      generalize us.getD ka 0 = uv at *
      go_upto_region 5 with fail
      clear LK
      go_region
      clear up dg c1 c2
      go_wp2_with fail
      go_end0
      exact RET.out
    · have e : nmStep us s f = ⟨fun x => if x = (f : Int) then some s.num else s.K x, s.k, s.num + 1⟩ := by unfold nmStep; rw [hKf]; simp only; rw [if_neg hk0]
      obtain ⟨w3, hupd, hmap, hk3, _⟩ := MM.out.idx.update keyRef Tryz.underlying105 (f : Int) s.num
      have up : (Instr.mapUpdate 105 (.map (some b.bn)) (.int .i64 f) (.int .i64 (s.num : Int))).run Tryz.prog z = .ok () w3 := hupd 0
      have M3 := Lib.hid (MM.out.upd PP.out hmap hk3)
      obtain ⟨n1, hn1⟩ : ∃ n1, n1 = s.num + 1 := ⟨_, rfl⟩
      rw [← hn1] at e
      have hw2 : ((s.num : Int) + 1) = (n1 : Int) := by omega
      have hw : IntKind.i64.wrap ((s.num : Int) + 1) = (n1 : Int) := by rw [hw2]; exact IntWalk.i64_in _ ⟨by omega, by omega⟩
      have hb3 : ¬ (0 : Int) < (s.k : Int) := by omega
      have RET := Lib.hid (FIN.out (w3.setCell ⟨b.Bx, 0, none⟩ (.int .i64 (n1 : Int))) (by rw [e]; exact M3.out.setX PP.out n1))
      have hx3 := M3.out.bx
      have c33 : w3.cell? ⟨b.Bx, 0, none⟩ = some (.int .i64 (s.num : Int)) := by simp [World.cell?, hx3, natV]
      have z33 : w3.frozen? ⟨b.Bx, 0, none⟩ = false := by simp [World.frozen?, hx3]
      have l33 := heap_lt hx3
      clear hupd hmap hk3 M3 FIN hKf e MM u2 hx3 hul hcu hk0 hn1
      go_wp2_with fail
      go_end0
      exact RET.out

end Go.Proofs.YtngbodmooddjbaaGreat
