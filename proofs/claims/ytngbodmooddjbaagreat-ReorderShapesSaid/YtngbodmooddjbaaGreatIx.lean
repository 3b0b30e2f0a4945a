/-
  Walks: 'index', which makes the tables anew that depend on the nodes.
-/
import Derived.Test.YtngbodmooddjbaaGreatNo
import Derived.Test.YtngbodmooddjbaaGreatQn
import Derived.Deep.RegionHeld3
import Derived.Deep.QuietTactic
import Derived.BigQuiet
namespace Go.Proofs.YtngbodmooddjbaaGreat
open Go.RowKit

def ImMemo (M : Mgr) (bs : Nat) (N : Mgr) (w : World) : Prop := ∃ K, MapAs w bs intV natV K ∧ Mgr.ImS M N K
theorem ImMemo.iok (M : Mgr) (bs : Nat) : IOk bs (ImMemo M bs) := fun _ _ _ _ _ h e k hb ⟨K, m, s⟩ => ⟨K, m.kp k hb, s.ext h e⟩

def RbPost (M : Mgr) (q : Nat) (L : Lay) (bs : Nat) (X : List (Nat × Obj)) (w : World) (N : Mgr) (Φ : Bfn → Prop) (F : Bfn) (e : Ending) (w' : World) : Prop :=
  ∃ (N' : Mgr) (r : Nat) (L' : Lay), e = .returned (.int .i64 (r : Int)) ∧ Sk w q L bs X (ImMemo M bs) w' N' L' ∧ Mgr.Adds N N' Φ ∧ N'.stored r ∧ ∀ a, N'.sem r a = F a

/-- Where the nodes lie that are read. -/
structure RbX (p gn cn : Nat) (M : Mgr) (w : World) : Prop where
  q0 : w.cell? ⟨p, 2, none⟩ = some (.slice (some ⟨gn, 0, none⟩) M.nodes.length cn)
  pl : p < w.heap.size
  gl : gn < w.heap.size
  tc : ∀ f, f < M.nodes.length → w.cell? ⟨gn, f * 3, none⟩ = some (.int .i64 (M.nd f).1) ∧ w.cell? ⟨gn, f * 3 + 1, none⟩ = some (natV (M.nd f).2.1) ∧ w.cell? ⟨gn, f * 3 + 2, none⟩ = some (natV (M.nd f).2.2)
/-- The list of blocks that stay has what is needed for that. -/
def RbK (p gn cn : Nat) (M : Mgr) (X : List (Nat × Obj)) : Prop := ∃ (mc cur : Array Value) (t1 t2 : TypeId), (p, .cells mc t1 (0, 0)) ∈ X ∧ (gn, .cells cur t2 (0, 0)) ∈ X ∧ mc[2]? = some (.slice (some ⟨gn, 0, none⟩) M.nodes.length cn) ∧
  ∀ f, f < M.nodes.length → cur[f * 3]? = some (.int .i64 (M.nd f).1) ∧ cur[f * 3 + 1]? = some (natV (M.nd f).2.1) ∧ cur[f * 3 + 2]? = some (natV (M.nd f).2.2)
theorem RbK.mono {p gn cn : Nat} {M : Mgr} {X X' : List (Nat × Obj)} (h : RbK p gn cn M X) (hx : ∀ b o, (b, o) ∈ X → (b, o) ∈ X') : RbK p gn cn M X' := by
  obtain ⟨mc, cur, t1, t2, h1, h2, r⟩ := h
  exact ⟨mc, cur, t1, t2, hx _ _ h1, hx _ _ h2, r⟩
theorem Sk.rbx {p gn cn q bs : Nat} {M N : Mgr} {X : List (Nat × Obj)} (h : RbK p gn cn M X) {w0 w : World} {L0 L : Lay} {I : Mgr → World → Prop} (s : Sk w0 q L0 bs X I w N L) : RbX p gn cn M w := by
  obtain ⟨mc, cur, t1, t2, h1, h2, h3, h4⟩ := h
  exact ⟨(s.cell h1 h3).1, (s.cell h1 h3).2, heap_lt (s.keep _ _ h2).1, fun f hf => ⟨(s.cell h2 (h4 f hf).1).1, (s.cell h2 (h4 f hf).2.1).1, (s.cell h2 (h4 f hf).2.2).1⟩⟩

set_option maxRecDepth 100000 in
set_option maxHeartbeats 4000000 in
theorem rebuild_step {k p q bs gn cn n : Nat} {M : Mgr} {l : List Bfn} (hM : M.WF) (hMn : M.n = n) (hcn : M.nodes.length ≤ 1000000000000000)
    (ih : ∀ (N : Mgr) (L : Lay) (X : List (Nat × Obj)) (f : Nat) (w : World) (j : Nat), j < k → RbK p gn cn M X → Sk w q L bs X (ImMemo M bs) w N L → N.n = n → M.stored f → n < j + M.depth f → (∃ G, G ∈ l ∧ Rst G (M.sem f)) →
      (∀ N', Mgr.Adds N N' (ArF n l) → N'.nodes.length ≤ big) →
      Calls Tryz.prog 76 #[ptr p, .int .i64 (f : Int), ptr q, .map (some bs)] w (RbPost M q L bs X w N (ArF n l) (M.sem f)))
    {N : Mgr} {L : Lay} {X : List (Nat × Obj)} (f : Nat) {w : World} (hX : RbK p gn cn M X) (s0 : Sk w q L bs X (ImMemo M bs) w N L) (hn : N.n = n) (hf : M.stored f) (df : n < k + M.depth f) (hF : ∃ G, G ∈ l ∧ Rst G (M.sem f))
    (hb : ∀ N', Mgr.Adds N N' (ArF n l) → N'.nodes.length ≤ big) :
    Calls Tryz.prog 76 #[ptr p, .int .i64 (f : Int), ptr q, .map (some bs)] w (RbPost M q L bs X w N (ArF n l) (M.sem f)) := by
  have IH := Lib.hid ih
  clear ih
  have OK := Lib.hid (ImMemo.iok M bs)
  have WF := Lib.hid s0.rep.wf
  have HM := Lib.hid hM
  have HX := Lib.hid hX
  have S0 := Lib.hid s0
  have C0 := s0.rbx hX
  obtain ⟨K, hmap, hsnd⟩ := S0.out.memo
  have LK : Hid (∀ (W : World), Kp No w W → (Instr.lookup 105 (.map (some bs)) (.int .i64 f) true).run Tryz.prog W = .ok (.tuple #[(((K (f : Int)).map natV).getD (.int .i64 0)), .bool (K (f : Int)).isSome]) W) := Lib.hid (fun W kp =>
    (hmap.kp kp (fun x => x)).lookup keyRef Tryz.underlying105 zeroRef (f : Int) true)
  clear s0 hX hM
  cases hKf : K (f : Int) with
  | some r =>
    obtain ⟨f', hf', _, sr, hsem⟩ := hsnd.2.2 _ r hKf
    have : f' = f := by omega
    subst this
    have RET : Hid (∀ w', Kp No w w' → RbPost M q L bs X w N (ArF n l) (M.sem f') (.returned (.int .i64 (r : Int))) w') := Lib.hid (fun w' kp => ⟨N, r, L, rfl, S0.out.no OK.out kp, Mgr.Adds.refl WF.out _, sr, hsem⟩)
    rw [hKf] at LK
    simp only [Option.map_some, Option.getD_some, Option.isSome_some, natV] at LK
    have lk := LK.out w (Kp.refl _ _)
    clear hmap hsnd hKf hsem hf' sr C0 S0 IH LK hF hb
    go_enter Tryz.func76, Tryz.ntmps76
    go_wp2_with fail
    go_ret
    exact RET.out _ (Kp.refl _ _)
  | none =>
    have hf2 : 2 ≤ f := by
      rcases Nat.lt_or_ge f 2 with h | h
      · have : f = 0 ∨ f = 1 := by omega
        rcases this with rfl | rfl
        · rw [show ((0 : Nat) : Int) = 0 from rfl, hsnd.1] at hKf; cases hKf
        · rw [show ((1 : Nat) : Int) = 1 from rfl, hsnd.2.1] at hKf; cases hKf
      · exact h
    rw [hKf] at LK
    simp only [Option.map_none, Option.getD_none, Option.isSome_none] at LK
    have lk := LK.out w (Kp.refl _ _)
    have lt := M.stored_lt HM.out hf
    obtain ⟨v0, v1, sl, sh, _, dl, dh⟩ := Mgr.node_of HM.out hf hf2
    obtain ⟨v, hv⟩ := Int.eq_ofNat_of_zero_le v0
    have hvt : (M.nd f).1.toNat = v := by omega
    have hvn : v < n := by omega
    have E0 : Hid (M.sem (M.nd f).2.1 = fun a => M.sem f (Mgr.upd a v false)) := Lib.hid (funext fun a => by rw [Mgr.sem_lo HM.out hf hf2, hvt])
    have E1 : Hid (M.sem (M.nd f).2.2 = fun a => M.sem f (Mgr.upd a v true)) := Lib.hid (funext fun a => by rw [Mgr.sem_hi HM.out hf hf2, hvt])
    obtain ⟨G, hG, hR⟩ := hF
    have F0 : Hid (∃ G, G ∈ l ∧ Rst G (M.sem (M.nd f).2.1)) := Lib.hid ⟨G, hG, by rw [E0.out]; exact hR.trans (Rst.upd _ _ _)⟩
    have F1 : Hid (∃ G, G ∈ l ∧ Rst G (M.sem (M.nd f).2.2)) := Lib.hid ⟨G, hG, by rw [E1.out]; exact hR.trans (Rst.upd _ _ _)⟩
    have FF : Hid (∃ G, G ∈ l ∧ Rst G (M.sem f)) := Lib.hid ⟨G, hG, hR⟩
    have hk : 0 < k := by have := M.depth_le HM.out hf; omega
    have DL : Hid (n < (k - 1) + M.depth (M.nd f).2.1 ∧ n < (k - 1) + M.depth (M.nd f).2.2) := Lib.hid (by omega)
    have SL := Lib.hid sl
    have SH := Lib.hid sh
    have HB := Lib.hid hb
    have HN := Lib.hid hn
    have HF := Lib.hid hf
    have HK := Lib.hid hk
    have HV := Lib.hid hvn
    have HF2 := Lib.hid hf2
    obtain ⟨n0, n1, n2⟩ := C0.tc f lt
    rw [hv] at n0
    have c2 := C0.q0
    have pl := C0.pl
    have gl := C0.gl
    have hlti : (f : Int) < (M.nodes.length : Int) := by omega
    have hnl : M.nodes.length ≤ 9223372036854775807 := by omega
    unfold natV at n1 n2
    clear v0 v1 sl sh dl dh hv hvt hb hn hf df hk hG hR hmap hsnd hKf C0 LK hf2 lt
    generalize (M.nd f).2.1 = lo at *
    generalize (M.nd f).2.2 = hi at *
    generalize M.nodes.length = nn at *
    have S1 := Lib.hid (S0.out.box OK.out #[.int .i64 (v : Int), .int .i64 (lo : Int), .int .i64 (hi : Int)] 60)
    obtain ⟨B, hB⟩ : ∃ B, B = w.heap.size := ⟨_, rfl⟩
    have HBB := Lib.hid hB
    obtain ⟨X', hX'⟩ : ∃ X', (w.heap.size, Obj.cells #[.int .i64 (v : Int), .int .i64 (lo : Int), .int .i64 (hi : Int)] 60 (0, 0)) :: X = X' := ⟨_, rfl⟩
    have BX : Hid ((B, Obj.cells #[.int .i64 (v : Int), .int .i64 (lo : Int), .int .i64 (hi : Int)] 60 (0, 0)) ∈ X') := Lib.hid (by rw [← hX', ← hB]; exact .head _)
    have SUB : Hid (∀ b o, (b, o) ∈ X → (b, o) ∈ X') := Lib.hid (fun b o h => by rw [← hX']; exact .tail _ h)
    rw [hX'] at S1
    have KX := Lib.hid (HX.out.mono SUB.out)
    clear hX'
    go_enter Tryz.func76, Tryz.ntmps76
    go_wp2_with fail
    have PA := Lib.hid (IH.out N L X' lo _ (k - 1) (by have := HK.out; omega) KX.out S1.out.here HN.out SL.out DL.out.1 F0.out HB.out)
    refine PA.out.mono ?_
    intro e w2 h2
    obtain ⟨N1, r0, L1, rfl, t2, a1, st1, e1⟩ := h2
    have S2 := Lib.hid (S1.out.trans t2 (fun _ _ h => h))
    have A1 := Lib.hid a1
    have T1 := Lib.hid st1
    have G1 := Lib.hid e1
    have bc := (S2.out.cell BX.out (i := 2) rfl).1
    have bl := (S2.out.cell BX.out (i := 2) rfl).2
    rw [HBB.out] at bc bl
    clear t2 a1 st1 e1 PA S1 c2 n0 n1 n2 lk
    go_wp2_with fail
    have PB := Lib.hid (IH.out N1 L1 X' hi w2 (k - 1) (by have := HK.out; omega) KX.out S2.out.here (A1.out.ext.n.trans HN.out) SH.out DL.out.2 F1.out (fun N' ad => HB.out N' (A1.out.trans ad)))
    refine PB.out.mono ?_
    intro e w3 h3
    obtain ⟨N2, r1, L2, rfl, t3, a2, st2, e2⟩ := h3
    have S3 := Lib.hid (S2.out.trans t3 (fun _ _ h => h))
    have A2 := Lib.hid (A1.out.trans a2)
    have T2 := Lib.hid st2
    have G2 := Lib.hid e2
    have T1' := Lib.hid (a2.ext.stored T1.out)
    have G1' : Hid (∀ a, N2.sem r0 a = M.sem lo a) := Lib.hid (fun a => by rw [a2.ext.sem A1.out.wf T1.out]; exact G1.out a)
    have JS := Lib.hid (Mgr.join_arF (l := l) (n := n) (v := v) (F := M.sem f) a2.wf (A2.out.ext.n.trans HN.out) HV.out T1'.out T2.out (fun a => by rw [G1'.out, E0.out]) (fun a => by rw [G2.out, E1.out]) FF.out)
    have bc0 := (S3.out.cell BX.out (i := 0) rfl).1
    have bl0 := (S3.out.cell BX.out (i := 0) rfl).2
    rw [HBB.out] at bc0 bl0
    have JC := Lib.hid (join_ok v r0 r1 S3.out.rep (by rw [A2.out.ext.n, HN.out]; exact HV.out) T1'.out T2.out (HB.out _ (A2.out.trans JS.out.1)))
    clear t3 a2 st2 e2 PB S2 bc bl
    generalize N2.joinM v r0 r1 = B9 at *
    go_wp2_with fail
    refine JC.out.mono ?_
    intro e w4 h4
    obtain ⟨rfl, L4, s4⟩ := S3.out.step OK.out JS.out.1.ext h4
    have S4 := Lib.hid s4
    have A4 := Lib.hid (A2.out.trans JS.out.1)
    clear h4 s4 JC S3 bc0 bl0
    obtain ⟨K9, m9, sn9⟩ := S4.out.memo
    obtain ⟨w10, hup, hm10, hk10, _⟩ := m9.update keyRef Tryz.underlying105 (f : Int) B9.2
    have up : (Instr.mapUpdate 105 (.map (some bs)) (.int .i64 f) (.int .i64 B9.2)).run Tryz.prog w4 = .ok () w10 := hup 0
    have RET : Hid (RbPost M q L bs X w N (ArF n l) (M.sem f) (.returned (.int .i64 (B9.2 : Int))) w10) := Lib.hid ⟨B9.1, B9.2, L4, rfl, (S4.out.upd hk10 ⟨_, hm10, by
      obtain ⟨z0, z1, z2⟩ := sn9
      refine ⟨?_, ?_, fun y s hs => ?_⟩
      · show (if (0 : Int) = (f : Int) then some B9.2 else K9 0) = some 0
        rw [if_neg (by have := HF2.out; omega)]
        exact z0
      · show (if (1 : Int) = (f : Int) then some B9.2 else K9 1) = some 1
        rw [if_neg (by have := HF2.out; omega)]
        exact z1
      · have hs' : (if y = (f : Int) then some B9.2 else K9 y) = some s := hs
        by_cases hy : y = (f : Int)
        · rw [if_pos hy] at hs'
          cases hs'
          exact ⟨f, hy, HF.out, JS.out.2.1, fun a => JS.out.2.2 a⟩
        · rw [if_neg hy] at hs'
          exact z2 y s hs'⟩).sub SUB.out, A4.out, JS.out.2.1, JS.out.2.2⟩
    clear hup hm10 hk10 m9 sn9 S4 JS A4
    go_wp2_with fail
    go_ret
    exact RET.out

/-- The contract of 'rebuild', at the levels that are left. -/
theorem rebuild_ok {p q bs gn cn n : Nat} {M : Mgr} {l : List Bfn} (hM : M.WF) (hMn : M.n = n) (hcn : M.nodes.length ≤ 1000000000000000) : ∀ (k : Nat) (N : Mgr) (L : Lay) (X : List (Nat × Obj)) (f : Nat) (w : World), RbK p gn cn M X → Sk w q L bs X (ImMemo M bs) w N L → N.n = n → M.stored f → n < k + M.depth f → (∃ G, G ∈ l ∧ Rst G (M.sem f)) →
    (∀ N', Mgr.Adds N N' (ArF n l) → N'.nodes.length ≤ big) →
    Calls Tryz.prog 76 #[ptr p, .int .i64 (f : Int), ptr q, .map (some bs)] w (RbPost M q L bs X w N (ArF n l) (M.sem f)) := by
  intro k
  induction k using Nat.strongRecOn with
  | _ k ih =>
    intro N L X f w hX s hn hf df hF hb
    exact rebuild_step hM hMn hcn (fun N L X f w j hj hX s hn hf df hF hb => ih j hj N L X f w hX s hn hf df hF hb) f hX s hn hf df hF hb

end Go.Proofs.YtngbodmooddjbaaGreat

namespace Go.Proofs.YtngbodmooddjbaaGreat
open Go.RowKit

def trN (x : Nd) : Trip := (x.1, (x.2.1 : Int), (x.2.2 : Int))
theorem uq_some {M : Mgr} (h : M.WF) {x : Trip} {r : Nat} : M.uq x = some r ↔ r < M.nodes.length ∧ 2 ≤ r ∧ (M.nd r).1 ≠ -1 ∧ x = trN (M.nd r) := by
  unfold Mgr.uq
  by_cases h0 : 0 ≤ x.1 ∧ 0 ≤ x.2.1 ∧ 0 ≤ x.2.2
  · rw [if_pos h0]
    constructor
    · intro hf
      obtain ⟨h1, h2, h3⟩ := Mgr.find_some hf
      refine ⟨h2, h1, by rw [h3]; show x.1 ≠ -1; omega, ?_⟩
      rw [h3]
      unfold trN
      refine Prod.ext rfl (Prod.ext ?_ ?_)
      · show x.2.1 = ((x.2.1.toNat : Nat) : Int); omega
      · show x.2.2 = ((x.2.2.toNat : Nat) : Int); omega
    · rintro ⟨h1, h2, h3, rfl⟩
      have e : ((trN (M.nd r)).1, (trN (M.nd r)).2.1.toNat, (trN (M.nd r)).2.2.toNat) = M.nd r := rfl
      rw [e]
      exact Mgr.find_eq h h2 (.inr ⟨h1, h3⟩)
  · rw [if_neg h0]
    constructor
    · intro hf; cases hf
    · rintro ⟨h1, h2, h3, rfl⟩
      exact (h0 ⟨(h.node r h2 h1 h3).1, Int.natCast_nonneg _, Int.natCast_nonneg _⟩).elim

/-- What 'unique' holds when the last j nodes are in it. -/
def UqJ (l : List Nd) (j : Nat) (U : Trip → Option Nat) : Prop := ∀ x r, U x = some r ↔ r < l.length ∧ l.length ≤ r + j ∧ (l.getD r (-1, 0, 0)).1 ≠ -1 ∧ x = trN (l.getD r (-1, 0, 0))
theorem UqJ.zero (l : List Nd) : UqJ l 0 (fun _ => none) := fun _ _ => ⟨fun h => (by cases h), fun h => (by omega)⟩
theorem UqJ.skip {l : List Nd} {j : Nat} {U : Trip → Option Nat} (h : UqJ l j U) (hj : j < l.length) (hv : (l.getD (l.length - 1 - j) (-1, 0, 0)).1 = -1) : UqJ l (j + 1) U := fun x r => by
  rw [h x r]
  constructor
  · rintro ⟨h1, h2, h3, h4⟩; exact ⟨h1, by omega, h3, h4⟩
  · rintro ⟨h1, h2, h3, h4⟩
    refine ⟨h1, ?_, h3, h4⟩
    by_cases e : r = l.length - 1 - j
    · rw [e] at h3; exact (h3 hv).elim
    · omega
theorem UqJ.push {l : List Nd} {j : Nat} {U : Trip → Option Nat} (h : UqJ l j U) (hj : j + 2 < l.length) (hv : (l.getD (l.length - 1 - j) (-1, 0, 0)).1 ≠ -1)
    (inj : ∀ f g, 2 ≤ f → 2 ≤ g → f < l.length → g < l.length → l.getD f (-1, 0, 0) = l.getD g (-1, 0, 0) → (l.getD f (-1, 0, 0)).1 ≠ -1 → f = g) : UqJ l (j + 1) (fun x => if x = trN (l.getD (l.length - 1 - j) (-1, 0, 0)) then some (l.length - 1 - j) else U x) := fun x r => by
  by_cases e : x = trN (l.getD (l.length - 1 - j) (-1, 0, 0))
  · simp only [if_pos e]
    constructor
    · intro hr
      injection hr with hr
      subst hr
      exact ⟨by omega, by omega, hv, e⟩
    · rintro ⟨h1, h2, h3, h4⟩
      congr 1
      refine inj _ _ (by omega) (by omega) (by omega) h1 ?_ hv
      rw [e] at h4
      unfold trN at h4
      injection h4 with q1 q2
      injection q2 with q2 q3
      exact Prod.ext q1 (Prod.ext (Int.ofNat.inj q2) (Int.ofNat.inj q3))
  · simp only [if_neg e]
    rw [h x r]
    constructor
    · rintro ⟨h1, h2, h3, h4⟩; exact ⟨h1, by omega, h3, h4⟩
    · rintro ⟨h1, h2, h3, h4⟩
      refine ⟨h1, ?_, h3, h4⟩
      by_cases e2 : r = l.length - 1 - j
      · subst e2; exact (e h4).elim
      · omega
theorem UqJ.done {M : Mgr} (h : M.WF) {U : Trip → Option Nat} (u : UqJ M.nodes (M.nodes.length - 2) U) (x : Trip) : U x = M.uq x := by
  have two := h.two
  apply Option.ext
  intro r
  rw [uq_some h, u x r]
  constructor
  · rintro ⟨h1, h2, h3, h4⟩; exact ⟨h1, by omega, h3, h4⟩
  · rintro ⟨h1, h2, h3, h4⟩; exact ⟨h1, by omega, h3, h4⟩

section
variable {w : World} {p : Nat} {L : Lay} {order level : List Nat} {nodes : List Nd} {shown : List Bool} {free : List Nat} {U F : Trip → Option Nat}
/-- The field 'unique' is set to another map. -/
theorem Raw.setUq {b : Nat} {U' : Trip → Option Nat} (R : Raw w p L order level nodes shown free U F) (h : MapAs w b tripV natV U') (hb : b ≠ L.bm) :
    Raw (w.setCell ⟨p, 5, none⟩ (.map (some b))) p { L with bu := b } order level nodes shown free U' F where
  mgr := by rw [setCell_heap R.mgr]; rfl
  order := ownsRow_set R.order (R.row_mgr R.order (by decide))
  level := ownsRow_set R.level (R.row_mgr R.level (by decide))
  nodes := ownsRow_set R.nodes (R.row_mgr R.nodes (by decide))
  shown := ownsRow_set R.shown (R.row_mgr R.shown (by decide))
  free := ownsRow_set R.free (R.row_mgr R.free (by decide))
  uniq := h.kp (Kp.setCell _ _) (fun x => R.map_ne h x)
  memo := R.memo.kp (Kp.setCell _ _) (fun x => R.map_ne R.memo x)
  ne := hb
/-- An append to 'free', the field set behind it. -/
theorem Raw.pushFree {w' : World} {v : Value} (R : Raw w p L order level nodes shown free U F) (hk : Kp (fun k => L.sf.ownBlock = some k) w w') (free' : List Nat)
    (hn : w'.ownsRow 0 40 1 v free'.length (free'.map natV)) : Raw (w'.setCell ⟨p, 4, none⟩ v) p { L with sf := v } order level nodes shown free' U F := by
  have mg : w'.heap[p]? = _ := (hk.block p R.plt (R.row_mgr R.free (by decide))).trans R.mgr
  have np : v.ownBlock ≠ some p := fun e => by
    obtain ⟨c1, g1⟩ := ownsRow_block hn e
    rw [mg] at g1
    cases g1
  have row : ∀ {e s n u x}, e ≠ 40 → e ≠ 66 → w.ownsRow 0 e s u n x → (w'.setCell ⟨p, 4, none⟩ v).ownsRow 0 e s u n x := fun h1 h2 h =>
    ownsRow_set (ownsRow_kp h hk (fun k e x => row_ne h R.free h1 e x)) (R.row_mgr h h2)
  exact {
    mgr := by rw [setCell_heap mg]; rfl
    order := row (by decide) (by decide) R.order
    level := row (by decide) (by decide) R.level
    nodes := row (by decide) (by decide) R.nodes
    shown := row (by decide) (by decide) R.shown
    free := ownsRow_set hn np
    uniq := (R.uniq.kp hk (row_map R.free R.uniq)).kp (Kp.setCell _ _) (fun x => R.map_ne R.uniq x)
    memo := (R.memo.kp hk (row_map R.free R.memo)).kp (Kp.setCell _ _) (fun x => R.map_ne R.memo x)
    ne := R.ne }
end

/-- The state while 'index' goes over the nodes: the last j are done. -/
structure IxS (w : World) (p : Nat) (L : Lay) (order level : List Nat) (nodes : List Nd) (shown : List Bool) (j : Nat) (x : World) (L1 : Lay) (U : Trip → Option Nat) : Prop where
  raw : Raw x p L1 order level nodes shown (Mgr.frD nodes j) U (fun _ => none)
  uq : UqJ nodes j U
  kp : Kp (L.at p) w x
  fr : Fresh (L.at p) (L1.at p) w
theorem info_ref0 : (Tryz.prog.info? 40).map (fun i => (i.zero, i.size, i.bytes)) = some (some (.int .i64 0), 1, 8) := by kernel_rfl
def IxR (w : World) (p : Nat) (L : Lay) (order level : List Nat) (nodes : List Nd) (shown : List Bool) (gk : Nat) (s2 : Value) (x : World) : Prop :=
  ∃ j f L1 U, j + gk = nodes.length - 2 ∧ f + j + 1 = nodes.length ∧ s2 = .int .i64 (f : Int) ∧ IxS w p L order level nodes shown j x L1 U

set_option maxRecDepth 100000 in
set_option maxHeartbeats 4000000 in
theorem index_ok {w : World} {p : Nat} {L : Lay} {M : Mgr} {free : List Nat} {U F : Trip → Option Nat} (wf : M.WF) (hfree : M.free = Mgr.freeN M.nodes) (raw : Raw w p L M.order M.level M.nodes M.shown free U F) (hb : M.nodes.length ≤ 10000000000000) :
    Calls Tryz.prog 87 #[ptr p] w fun e w' => e = .returned (.tuple #[]) ∧ ∃ L', Rep w' p M L' ∧ Kp (L.at p) w w' ∧ Fresh (L.at p) (L'.at p) w := by
  have hmm := @run_makeMap Tryz.prog
  have c5 := raw.c5
  have c6 := raw.c6
  have c4 := raw.c4
  have c2 := raw.c2
  have z4 := raw.fz 4
  have z5 := raw.fz 5
  have z6 := raw.fz 6
  have plt := raw.plt
  have two := wf.two
  obtain ⟨bn, cn, hsn, _⟩ := ownsRow_open raw.nodes (by omega)
  have HSN := Lib.hid hsn
  rw [hsn] at c2
  have WF := Lib.hid wf
  have hnl : M.nodes.length ≤ 9223372036854775807 := by omega
  have ST : Hid (IxS w p L M.order M.level M.nodes M.shown 0 (((((w.setCell ⟨p, 5, none⟩ (.map (some w.heap.size))).setCell ⟨p, 6, none⟩ (.map (some (w.heap.size + 1)))).setCell ⟨p, 4, none⟩ (.slice none 0 0)).alloc (.map #[] 0)).alloc (.map #[] 0)) { L with bu := w.heap.size, bm := w.heap.size + 1, sf := .slice none 0 0 } (fun _ => none)) := Lib.hid (by
    have R1 := (raw.no (Kp.alloc (.map #[] 0))).setUq (MapAs.empty w tripV natV) (fun e => by have := raw.memo.lt; omega)
    have R2 := (R1.no (Kp.alloc (.map #[] 0))).setMemo (MapAs.empty _ tripV natV) (fun e => by simp [World.setCell] at e)
    have R3 := R2.setFree (free' := []) (World.ownsRow_nil _ _ _ _)
    have hz : ((w.alloc (.map #[] 0)).setCell ⟨p, 5, none⟩ (.map (some w.heap.size))).heap.size = w.heap.size + 1 := by simp [World.setCell]
    rw [hz] at R3
    have e : ((((w.alloc (.map #[] 0)).setCell ⟨p, 5, none⟩ (.map (some w.heap.size))).alloc (.map #[] 0)).setCell ⟨p, 6, none⟩ (.map (some (w.heap.size + 1)))).setCell ⟨p, 4, none⟩ (.slice none 0 0) = (((((w.setCell ⟨p, 5, none⟩ (.map (some w.heap.size))).setCell ⟨p, 6, none⟩ (.map (some (w.heap.size + 1)))).setCell ⟨p, 4, none⟩ (.slice none 0 0)).alloc (.map #[] 0)).alloc (.map #[] 0)) := by
      have s0 : p < (w.setCell ⟨p, 5, none⟩ (.map (some w.heap.size))).heap.size := by simp [World.setCell]; exact plt
      have s1 : p < ((w.setCell ⟨p, 5, none⟩ (.map (some w.heap.size))).alloc (.map #[] 0)).heap.size := by simp [World.setCell]; omega
      have s2 : p < ((w.setCell ⟨p, 5, none⟩ (.map (some w.heap.size))).setCell ⟨p, 6, none⟩ (.map (some (w.heap.size + 1)))).heap.size := by simp [World.setCell]; exact plt
      have s3 : p < (((w.setCell ⟨p, 5, none⟩ (.map (some w.heap.size))).setCell ⟨p, 6, none⟩ (.map (some (w.heap.size + 1)))).alloc (.map #[] 0)).heap.size := by simp [World.setCell]; omega
      rw [setCell_alloc_comm plt, setCell_alloc_comm s1, setCell_alloc_comm s0, setCell_alloc_comm s3, setCell_alloc_comm s2]
    rw [e] at R3
    have kp : Kp (L.at p) w (((((w.setCell ⟨p, 5, none⟩ (.map (some w.heap.size))).setCell ⟨p, 6, none⟩ (.map (some (w.heap.size + 1)))).setCell ⟨p, 4, none⟩ (.slice none 0 0)).alloc (.map #[] 0)).alloc (.map #[] 0)) :=
      (((((Kp.setCell _ _).mono (fun k _ e => .inl e)).trans (A' := L.at p) (fun k h => .inl h) ((Kp.setCell _ _).mono (fun k _ e => .inl e))).trans (A' := L.at p) (fun k h => .inl h) ((Kp.setCell _ _).mono (fun k _ e => .inl e))).trans_no (Kp.alloc _)).trans_no (Kp.alloc _)
    refine ⟨R3, UqJ.zero _, kp, fun k hk => ?_⟩
    rcases hk with h | h | h | h | h | h | h | h
    · exact .inl (.inl h)
    · right; simp at h; omega
    · right; simp at h; omega
    · exact .inl (by simp [Lay.at] at h ⊢; simp [h])
    · exact .inl (by simp [Lay.at] at h ⊢; simp [h])
    · exact .inl (by simp [Lay.at] at h ⊢; simp [h])
    · exact .inl (by simp [Lay.at] at h ⊢; simp [h])
    · simp [Value.ownBlock] at h)
  obtain ⟨i0, hi0, hz0, hz1, hz2⟩ := info_parts info_ref0
  clear raw wf hsn
  go_enter Tryz.func87, Tryz.ntmps87
  go_wp2_with fail
  clear hmm c5 c6 c4 c2 z4 z5 z6 plt
  have START : Hid (IxR w p L M.order M.level M.nodes M.shown (M.nodes.length - 2) (.int .i64 ((M.nodes.length : Int) - 1)) (((((w.setCell ⟨p, 5, none⟩ (.map (some w.heap.size))).setCell ⟨p, 6, none⟩ (.map (some (w.heap.size + 1)))).setCell ⟨p, 4, none⟩ (.slice none 0 0)).alloc (.map #[] 0)).alloc (.map #[] 0))) := Lib.hid ⟨0, M.nodes.length - 1, _, _, by omega, by omega, by congr 1; omega, ST.out⟩
  clear ST
  go_loopg [2] (M.nodes.length - 2) (fun gk s2 x => IxR w p L M.order M.level M.nodes M.shown gk s2 x)
  case atStart => exact START.out
  case round =>
    clear START
    obtain ⟨j, f, L1, U1, hj, hfj, rfl, S⟩ := hrel
    have HJ := Lib.hid hj
    have HFJ := Lib.hid hfj
    have SS := Lib.hid S
    have raw1 := S.raw
    by_cases hlt : 2 ≤ f
    · have hge : (2 : Int) ≤ (f : Int) := by omega
      have hfl : f < M.nodes.length := by omega
      have hfli : (f : Int) < M.nodes.length := by omega
      obtain ⟨b1, n1, hsn1, hn1, hn2, _, hcell, _⟩ := ownsRow_open raw1.nodes (by omega)
      have hg := nd_get hfl
      have d0 := hcell _ _ (ndCells_get _ f 0 _ hg (by omega))
      have d1 := hcell _ _ (ndCells_get _ f 1 _ hg (by omega))
      have d2 := hcell _ _ (ndCells_get _ f 2 _ hg (by omega))
      have c2 := raw1.c2
      rw [hsn1] at c2
      have plt := raw1.plt
      have e1 : M.nodes.length - 1 - j = f := by omega
      have E1 := Lib.hid e1
      have hx : M.nodes.getD f (-1, 0, 0) = M.nd f := rfl
      have HX := Lib.hid hx
      have hl1 : b1 < wr.heap.size := World.block_lt_of_cell? _ _ d0
      clear hcell hg hsn1 hn1 hn2 S raw1 e1 hx hj hfj
      obtain ⟨nd, hnd⟩ : ∃ nd, M.nd f = nd := ⟨_, rfl⟩
      have HND := Lib.hid hnd
      rw [hnd] at d0 d1 d2
      obtain ⟨v, lo, hi⟩ := nd
      simp only at d0 d1 d2
      simp only [Nat.add_zero] at d0
      clear hnd
      go_upto_region 7 with fail
      have KB : Hid (Kp No wr (wr.alloc (.cells #[.int .i64 v, .int .i64 (lo : Int), .int .i64 (hi : Int)] 60))) := Lib.hid (Kp.alloc _)
      have hbx : (wr.alloc (.cells #[.int .i64 v, .int .i64 (lo : Int), .int .i64 (hi : Int)] 60)).heap[wr.heap.size]? = some (.cells #[.int .i64 v, .int .i64 (lo : Int), .int .i64 (hi : Int)] 60 (0, 0)) := heap_alloc_new _ _
      clear d0 d1 d2 c2 hl1 plt
      generalize (wr.alloc (.cells #[.int .i64 v, .int .i64 (lo : Int), .int .i64 (hi : Int)] 60)) = wb at *
      generalize wr.heap.size = B at *
      have e0 : wb.cell? ⟨B, 0, none⟩ = some (.int .i64 v) := by simp [World.cell?, hbx]
      have e1 : wb.cell? ⟨B, 1, none⟩ = some (.int .i64 (lo : Int)) := by simp [World.cell?, hbx]
      have e2 : wb.cell? ⟨B, 2, none⟩ = some (.int .i64 (hi : Int)) := by simp [World.cell?, hbx]
      have hB := heap_lt hbx
      have RB := Lib.hid (SS.out.raw.no KB.out)
      have KPB := Lib.hid (SS.out.kp.trans_no KB.out)
      have c4 := RB.out.c4
      have c5 := RB.out.c5
      have z4 := RB.out.fz 4
      have plt := RB.out.plt
      clear hbx
      by_cases hv : v = -1
      · subst hv
        have FR : Hid (Mgr.frD M.nodes (j + 1) = Mgr.frD M.nodes j ++ [f]) := Lib.hid (by
          simp only [Mgr.frD]
          rw [E1.out, HX.out, HND.out, if_pos rfl])
        have UJ := Lib.hid (SS.out.uq.skip (by have := HFJ.out; omega) (by rw [E1.out, HX.out, HND.out]))
        have hln : (Mgr.frD M.nodes j).length ≤ 10000000000000 := by have := Mgr.frD_len (l := M.nodes) j; have := HFJ.out; omega
        have hpf : ¬ L1.sf.ownBlock = some p := RB.out.row_mgr RB.out.free (by decide)
        have own := RB.out.free
        obtain ⟨af, cf, hsf, _⟩ := ownsRow_len own
        rw [hsf] at own c4
        have HSF := Lib.hid hsf
        rw [hsf] at hpf
        go_wp2_with (at_builtin; refine wpList_append_lies _ rfl (.tmp 39) (.tmp 41) _ rfl 0 40 i0 _ 1 8 Tryz.underlying29 hi0 hz0 hz1 hz2 rfl (by omega) (.slice af (Mgr.frD M.nodes j).length cf) (Mgr.frD M.nodes j).length ((Mgr.frD M.nodes j).map natV) rfl (own.alloc _) ⟨wb.heap.size, 0, none⟩ 1 1 [.int .i64 (f : Int)] rfl rfl (World.news_of_block (heap_alloc_new _ _)) (by simp [Value.oneCell']) (by omega) (by unfold maxLen; omega) (by omega) (by omega) (wb.heap.size + 1) (by simp) ?_; intro g cap w1 hown hgrow hat hlt2; have q2 : w1.cell? ⟨p, 4, none⟩ = some (.slice af (Mgr.frD M.nodes j).length cf) := (hgrow.cell_far ⟨p, 4, none⟩ (by simp; omega) (fun e => hpf e.symm)).trans ((World.cell?_alloc_lt _ _ _ plt).trans c4); have q3 : w1.frozen? ⟨p, 4, none⟩ = false := (hgrow.frozen_far ⟨p, 4, none⟩ (by simp; omega) (fun e => hpf e.symm)).trans ((World.frozen?_alloc_old _ _ _ (by simp; omega)).trans z4))
        have JN : Hid (IxR w p L M.order M.level M.nodes M.shown (M.nodes.length - 2 - (j + 1)) (.int .i64 ((f - 1 : Nat) : Int)) (w1.setCell ⟨p, 4, none⟩ (.slice (some ⟨g, 0, none⟩) ((Mgr.frD M.nodes j).length + 1) cap))) := Lib.hid (by
          have kg : Kp (fun k => L1.sf.ownBlock = some k) wb w1 := by rw [HSF.out]; exact grown_no (Kp.alloc _) hgrow
          rw [← HSF.out] at hat
          have k1 : Kp (L1.at p) wb w1 := kg.mono (fun k _ e => by simp [Lay.at, e])
          have R2 := RB.out.pushFree (v := .slice (some ⟨g, 0, none⟩) ((Mgr.frD M.nodes j).length + 1) cap) kg (Mgr.frD M.nodes (j + 1)) (by rw [FR.out, List.length_append, List.map_append]; exact hown)
          refine ⟨j + 1, f - 1, _, U1, by have := HJ.out; have := HFJ.out; omega, by have := HFJ.out; omega, rfl, R2, UJ.out, (KPB.out.trans (A' := L1.at p) SS.out.fr k1).trans (A' := L1.at p) SS.out.fr ((Kp.setCell _ _).mono (fun k _ e => .inl e)), fun k hk => ?_⟩
          rcases hk with h | h | h | h | h | h | h | h
          · exact .inl (.inl h)
          · exact SS.out.fr k (.inr (.inl h))
          · exact SS.out.fr k (.inr (.inr (.inl h)))
          · exact SS.out.fr k (by simp [Lay.at] at h ⊢; simp [h])
          · exact SS.out.fr k (by simp [Lay.at] at h ⊢; simp [h])
          · exact SS.out.fr k (by simp [Lay.at] at h ⊢; simp [h])
          · exact SS.out.fr k (by simp [Lay.at] at h ⊢; simp [h])
          · have hg : g = k := by simpa [Value.ownBlock] using h
            rcases hat with hat | hat
            · exact SS.out.fr k (by simp [Lay.at, hat, hg])
            · right
              have := KPB.out.size
              omega)
        have hf1 : (f : Int) - 1 = ((f - 1 : Nat) : Int) := by omega
        clear hown hgrow hat hlt2 q2 q3 own
        go_wp2_with fail
        go_roundg (M.nodes.length - 2 - (j + 1))
        case measure => have := HJ.out; have := HFJ.out; omega
        case rel => first | exact JN.out | (rw [hf1]; exact JN.out)
      · have hvb : (v == -1) = false := by simpa using hv
        have FR : Hid (Mgr.frD M.nodes (j + 1) = Mgr.frD M.nodes j) := Lib.hid (by
          simp only [Mgr.frD]
          rw [E1.out, HX.out, HND.out, if_neg hv, List.append_nil])
        have UJ := Lib.hid (SS.out.uq.push (by have := HFJ.out; omega) (by rw [E1.out, HX.out, HND.out]; exact hv) WF.out.inj)
        rw [E1.out, HX.out, HND.out] at UJ
        obtain ⟨w3, hupd, hmap, hk3, _⟩ := RB.out.uniq.update keyNode Tryz.underlying62 (v, (lo : Int), (hi : Int)) f
        have up : (Instr.mapUpdate 62 (.map (some L1.bu)) (.agg #[.int .i64 v, .int .i64 (lo : Int), .int .i64 (hi : Int)]) (.int .i64 (f : Int))).run Tryz.prog wb.drew = .ok () w3.drew := hupd 1
        have JN : Hid (IxR w p L M.order M.level M.nodes M.shown (M.nodes.length - 2 - (j + 1)) (.int .i64 ((f - 1 : Nat) : Int)) w3.drew) := Lib.hid (by
          have R2 := (RB.out.setUniq hmap hk3).no Kp.drew
          rw [← FR.out] at R2
          exact ⟨j + 1, f - 1, _, _, by have := HJ.out; have := HFJ.out; omega, by have := HFJ.out; omega, rfl, R2, UJ.out, (KPB.out.trans (A' := L1.at p) SS.out.fr (hk3.mono (fun k _ e => .inr (.inl e)))).trans_no Kp.drew, SS.out.fr⟩)
        have hf1 : (f : Int) - 1 = ((f - 1 : Nat) : Int) := by omega
        clear hupd hmap hk3
        go_upto_region 9 with fail
        go_region
        go_wp2_with fail
        go_roundg (M.nodes.length - 2 - (j + 1))
        case measure => have := HJ.out; have := HFJ.out; omega
        case rel => first | exact JN.out | (rw [hf1]; exact JN.out)
    · obtain rfl : f = 1 := by omega
      have FIN : Hid (∃ L', Rep wr p M L' ∧ Kp (L.at p) w wr ∧ Fresh (L.at p) (L'.at p) w) := Lib.hid (by
        have ej : j = M.nodes.length - 2 := by omega
        have R := SS.out.raw
        have u := SS.out.uq
        rw [ej] at R u
        rw [show U1 = M.uq from funext fun x => u.done WF.out x, show Mgr.frD M.nodes (M.nodes.length - 2) = M.free from hfree.symm] at R
        exact ⟨L1, ⟨⟨_, R, fun x r h => by cases h⟩, WF.out⟩, SS.out.kp, SS.out.fr⟩)
      clear S SS raw1 hj hfj
      go_wp2_with fail
      go_end0
      exact ⟨rfl, FIN.out⟩

end Go.Proofs.YtngbodmooddjbaaGreat
