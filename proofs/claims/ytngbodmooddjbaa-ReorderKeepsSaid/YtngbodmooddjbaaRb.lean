/-
  Walks: 'rebuild', which makes a function of one manager in another.
-/
import Derived.Test.YtngbodmooddjbaaNo
import Derived.Test.YtngbodmooddjbaaQn
import Derived.Deep.RegionHeld3
namespace Go.Proofs.Ytngbodmooddjbaa
open Go.RowKit

def ImMemo (M : Mgr) (bs : Nat) (N : Mgr) (w : World) : Prop := ∃ K, MapAs w bs intV natV K ∧ Mgr.ImS M N K
theorem ImMemo.iok (M : Mgr) (bs : Nat) : IOk bs (ImMemo M bs) := fun _ _ _ _ _ h e k hb ⟨K, m, s⟩ => ⟨K, m.kp k hb, s.ext h e⟩

def RbPost (M : Mgr) (q : Nat) (L : Lay) (bs : Nat) (X : List (Nat × Obj)) (w : World) (N : Mgr) (Φ : Bfn → Prop) (F : Bfn) (e : Ending) (w' : World) : Prop :=
  ∃ (N' : Mgr) (r : Nat) (L' : Lay), e = .returned (.int .i64 (r : Int)) ∧ Sk w q L bs X (ImMemo M bs) w' N' L' ∧ Mgr.Adds N N' Φ ∧ N'.stored r ∧ ∀ a, N'.sem r a = F a

/-- Where the nodes lie that are read. -/
structure RbX (p gn cn : Nat) (M : Mgr) (w : World) : Prop where
  q0 : w.cell? ⟨p, 2, none⟩ = some (.slice (some ⟨gn, 0, none⟩) M.nodes.length cn)
  pl : p < w.heap.size
  gl : gn < w.heap.size
  tc : ∀ f, f < M.nodes.length → w.cell? ⟨gn, f * 3, none⟩ = some (.int .i64 (M.nd f).1) ∧ w.cell? ⟨gn, f * 3 + 1, none⟩ = some (natV (M.nd f).2.1) ∧ w.cell? ⟨gn, f * 3 + 2, none⟩ = some (natV (M.nd f).2.2)
/-- The list of blocks that stay has what is needed for that. -/
def RbK (p gn cn : Nat) (M : Mgr) (X : List (Nat × Obj)) : Prop := ∃ (mc cur : Array Value) (t1 t2 : TypeId), (p, .cells mc t1 (0, 0)) ∈ X ∧ (gn, .cells cur t2 (0, 0)) ∈ X ∧ mc[2]? = some (.slice (some ⟨gn, 0, none⟩) M.nodes.length cn) ∧
  ∀ f, f < M.nodes.length → cur[f * 3]? = some (.int .i64 (M.nd f).1) ∧ cur[f * 3 + 1]? = some (natV (M.nd f).2.1) ∧ cur[f * 3 + 2]? = some (natV (M.nd f).2.2)
theorem RbK.mono {p gn cn : Nat} {M : Mgr} {X X' : List (Nat × Obj)} (h : RbK p gn cn M X) (hx : ∀ b o, (b, o) ∈ X → (b, o) ∈ X') : RbK p gn cn M X' := by
  obtain ⟨mc, cur, t1, t2, h1, h2, r⟩ := h
  exact ⟨mc, cur, t1, t2, hx _ _ h1, hx _ _ h2, r⟩
theorem Sk.rbx {p gn cn q bs : Nat} {M N : Mgr} {X : List (Nat × Obj)} (h : RbK p gn cn M X) {w0 w : World} {L0 L : Lay} {I : Mgr → World → Prop} (s : Sk w0 q L0 bs X I w N L) : RbX p gn cn M w := by
  obtain ⟨mc, cur, t1, t2, h1, h2, h3, h4⟩ := h
  exact ⟨(s.cell h1 h3).1, (s.cell h1 h3).2, heap_lt (s.keep _ _ h2).1, fun f hf => ⟨(s.cell h2 (h4 f hf).1).1, (s.cell h2 (h4 f hf).2.1).1, (s.cell h2 (h4 f hf).2.2).1⟩⟩

set_option maxRecDepth 100000 in
set_option maxHeartbeats 4000000 in
theorem rebuild_step {k p q bs gn cn n : Nat} {M : Mgr} {l : List Bfn} (hM : M.WF) (hMn : M.n = n) (hcn : M.nodes.length ≤ 1000000000000000)
    (ih : ∀ (N : Mgr) (L : Lay) (X : List (Nat × Obj)) (f : Nat) (w : World) (j : Nat), j < k → RbK p gn cn M X → Sk w q L bs X (ImMemo M bs) w N L → N.n = n → M.stored f → n < j + M.depth f → (∃ G, G ∈ l ∧ Rst G (M.sem f)) →
      (∀ N', Mgr.Adds N N' (ArF n l) → N'.nodes.length ≤ big) →
      Calls Try.prog 110 #[ptr p, .int .i64 (f : Int), ptr q, .map (some bs)] w (RbPost M q L bs X w N (ArF n l) (M.sem f)))
    {N : Mgr} {L : Lay} {X : List (Nat × Obj)} (f : Nat) {w : World} (hX : RbK p gn cn M X) (s0 : Sk w q L bs X (ImMemo M bs) w N L) (hn : N.n = n) (hf : M.stored f) (df : n < k + M.depth f) (hF : ∃ G, G ∈ l ∧ Rst G (M.sem f))
    (hb : ∀ N', Mgr.Adds N N' (ArF n l) → N'.nodes.length ≤ big) :
    Calls Try.prog 110 #[ptr p, .int .i64 (f : Int), ptr q, .map (some bs)] w (RbPost M q L bs X w N (ArF n l) (M.sem f)) := by
  have IH := Lib.hid ih
  clear ih
  have OK := Lib.hid (ImMemo.iok M bs)
  have WF := Lib.hid s0.rep.wf
  have HM := Lib.hid hM
  have HX := Lib.hid hX
  have S0 := Lib.hid s0
  have C0 := s0.rbx hX
  obtain ⟨K, hmap, hsnd⟩ := S0.out.memo
  have LK : Hid (∀ (W : World), Kp No w W → (Instr.lookup 101 (.map (some bs)) (.int .i64 f) true).run Try.prog W = .ok (.tuple #[(((K (f : Int)).map natV).getD (.int .i64 0)), .bool (K (f : Int)).isSome]) W) := Lib.hid (fun W kp =>
    (hmap.kp kp (fun x => x)).lookup keyRef Try.underlying101 zeroRef (f : Int) true)
  clear s0 hX hM
  cases hKf : K (f : Int) with
  | some r =>
    obtain ⟨f', hf', _, sr, hsem⟩ := hsnd.2.2 _ r hKf
    have : f' = f := by omega
    subst this
    have RET : Hid (∀ w', Kp No w w' → RbPost M q L bs X w N (ArF n l) (M.sem f') (.returned (.int .i64 (r : Int))) w') := Lib.hid (fun w' kp => ⟨N, r, L, rfl, S0.out.no OK.out kp, Mgr.Adds.refl WF.out _, sr, hsem⟩)
    rw [hKf] at LK
    simp only [Option.map_some, Option.getD_some, Option.isSome_some, natV] at LK
    have lk := LK.out w (Kp.refl _ _)
    clear hmap hsnd hKf hsem hf' sr C0 S0 IH LK hF hb
    go_enter Try.func110, Try.ntmps110
    go_wp2_with fail
    go_ret
    exact RET.out _ (Kp.refl _ _)
  | none =>
    have hf2 : 2 ≤ f := by
      rcases Nat.lt_or_ge f 2 with h | h
      · have : f = 0 ∨ f = 1 := by omega
        rcases this with rfl | rfl
        · rw [show ((0 : Nat) : Int) = 0 from rfl, hsnd.1] at hKf; cases hKf
        · rw [show ((1 : Nat) : Int) = 1 from rfl, hsnd.2.1] at hKf; cases hKf
      · exact h
    rw [hKf] at LK
    simp only [Option.map_none, Option.getD_none, Option.isSome_none] at LK
    have lk := LK.out w (Kp.refl _ _)
    have lt := M.stored_lt HM.out hf
    obtain ⟨v0, v1, sl, sh, _, dl, dh⟩ := Mgr.node_of HM.out hf hf2
    obtain ⟨v, hv⟩ := Int.eq_ofNat_of_zero_le v0
    have hvt : (M.nd f).1.toNat = v := by omega
    have hvn : v < n := by omega
    have E0 : Hid (M.sem (M.nd f).2.1 = fun a => M.sem f (Mgr.upd a v false)) := Lib.hid (funext fun a => by rw [Mgr.sem_lo HM.out hf hf2, hvt])
    have E1 : Hid (M.sem (M.nd f).2.2 = fun a => M.sem f (Mgr.upd a v true)) := Lib.hid (funext fun a => by rw [Mgr.sem_hi HM.out hf hf2, hvt])
    obtain ⟨G, hG, hR⟩ := hF
    have F0 : Hid (∃ G, G ∈ l ∧ Rst G (M.sem (M.nd f).2.1)) := Lib.hid ⟨G, hG, by rw [E0.out]; exact hR.trans (Rst.upd _ _ _)⟩
    have F1 : Hid (∃ G, G ∈ l ∧ Rst G (M.sem (M.nd f).2.2)) := Lib.hid ⟨G, hG, by rw [E1.out]; exact hR.trans (Rst.upd _ _ _)⟩
    have FF : Hid (∃ G, G ∈ l ∧ Rst G (M.sem f)) := Lib.hid ⟨G, hG, hR⟩
    have hk : 0 < k := by have := M.depth_le HM.out hf; omega
    have DL : Hid (n < (k - 1) + M.depth (M.nd f).2.1 ∧ n < (k - 1) + M.depth (M.nd f).2.2) := Lib.hid (by omega)
    have SL := Lib.hid sl
    have SH := Lib.hid sh
    have HB := Lib.hid hb
    have HN := Lib.hid hn
    have HF := Lib.hid hf
    have HK := Lib.hid hk
    have HV := Lib.hid hvn
    have HF2 := Lib.hid hf2
    obtain ⟨n0, n1, n2⟩ := C0.tc f lt
    rw [hv] at n0
    have c2 := C0.q0
    have pl := C0.pl
    have gl := C0.gl
    have hlti : (f : Int) < (M.nodes.length : Int) := by omega
    have hnl : M.nodes.length ≤ 9223372036854775807 := by omega
    unfold natV at n1 n2
    clear v0 v1 sl sh dl dh hv hvt hb hn hf df hk hG hR hmap hsnd hKf C0 LK hf2 lt
    generalize (M.nd f).2.1 = lo at *
    generalize (M.nd f).2.2 = hi at *
    generalize M.nodes.length = nn at *
    have S1 := Lib.hid (S0.out.box OK.out #[.int .i64 (v : Int), .int .i64 (lo : Int), .int .i64 (hi : Int)] 89)
    obtain ⟨B, hB⟩ : ∃ B, B = w.heap.size := ⟨_, rfl⟩
    have HBB := Lib.hid hB
    obtain ⟨X', hX'⟩ : ∃ X', (w.heap.size, Obj.cells #[.int .i64 (v : Int), .int .i64 (lo : Int), .int .i64 (hi : Int)] 89 (0, 0)) :: X = X' := ⟨_, rfl⟩
    have BX : Hid ((B, Obj.cells #[.int .i64 (v : Int), .int .i64 (lo : Int), .int .i64 (hi : Int)] 89 (0, 0)) ∈ X') := Lib.hid (by rw [← hX', ← hB]; exact .head _)
    have SUB : Hid (∀ b o, (b, o) ∈ X → (b, o) ∈ X') := Lib.hid (fun b o h => by rw [← hX']; exact .tail _ h)
    rw [hX'] at S1
    have KX := Lib.hid (HX.out.mono SUB.out)
    clear hX'
    go_enter Try.func110, Try.ntmps110
    go_wp2_with fail
    have PA := Lib.hid (IH.out N L X' lo _ (k - 1) (by have := HK.out; omega) KX.out S1.out.here HN.out SL.out DL.out.1 F0.out HB.out)
    refine PA.out.mono ?_
    intro e w2 h2
    obtain ⟨N1, r0, L1, rfl, t2, a1, st1, e1⟩ := h2
    have S2 := Lib.hid (S1.out.trans t2 (fun _ _ h => h))
    have A1 := Lib.hid a1
    have T1 := Lib.hid st1
    have G1 := Lib.hid e1
    have bc := (S2.out.cell BX.out (i := 2) rfl).1
    have bl := (S2.out.cell BX.out (i := 2) rfl).2
    rw [HBB.out] at bc bl
    clear t2 a1 st1 e1 PA S1 c2 n0 n1 n2 lk
    go_wp2_with fail
    have PB := Lib.hid (IH.out N1 L1 X' hi w2 (k - 1) (by have := HK.out; omega) KX.out S2.out.here (A1.out.ext.n.trans HN.out) SH.out DL.out.2 F1.out (fun N' ad => HB.out N' (A1.out.trans ad)))
    refine PB.out.mono ?_
    intro e w3 h3
    obtain ⟨N2, r1, L2, rfl, t3, a2, st2, e2⟩ := h3
    have S3 := Lib.hid (S2.out.trans t3 (fun _ _ h => h))
    have A2 := Lib.hid (A1.out.trans a2)
    have T2 := Lib.hid st2
    have G2 := Lib.hid e2
    have T1' := Lib.hid (a2.ext.stored T1.out)
    have G1' : Hid (∀ a, N2.sem r0 a = M.sem lo a) := Lib.hid (fun a => by rw [a2.ext.sem A1.out.wf T1.out]; exact G1.out a)
    have JS := Lib.hid (Mgr.join_arF (l := l) (n := n) (v := v) (F := M.sem f) a2.wf (A2.out.ext.n.trans HN.out) HV.out T1'.out T2.out (fun a => by rw [G1'.out, E0.out]) (fun a => by rw [G2.out, E1.out]) FF.out)
    have bc0 := (S3.out.cell BX.out (i := 0) rfl).1
    have bl0 := (S3.out.cell BX.out (i := 0) rfl).2
    rw [HBB.out] at bc0 bl0
    have JC := Lib.hid (join_ok v r0 r1 S3.out.rep (by rw [A2.out.ext.n, HN.out]; exact HV.out) T1'.out T2.out (HB.out _ (A2.out.trans JS.out.1)))
    clear t3 a2 st2 e2 PB S2 bc bl
    generalize N2.joinM v r0 r1 = B9 at *
    go_wp2_with fail
    refine JC.out.mono ?_
    intro e w4 h4
    obtain ⟨rfl, L4, s4⟩ := S3.out.step OK.out JS.out.1.ext h4
    have S4 := Lib.hid s4
    have A4 := Lib.hid (A2.out.trans JS.out.1)
    clear h4 s4 JC S3 bc0 bl0
    obtain ⟨K9, m9, sn9⟩ := S4.out.memo
    obtain ⟨w10, hup, hm10, hk10, _⟩ := m9.update keyRef Try.underlying101 (f : Int) B9.2
    have up : (Instr.mapUpdate 101 (.map (some bs)) (.int .i64 f) (.int .i64 B9.2)).run Try.prog w4 = .ok () w10 := hup 0
    have RET : Hid (RbPost M q L bs X w N (ArF n l) (M.sem f) (.returned (.int .i64 (B9.2 : Int))) w10) := Lib.hid ⟨B9.1, B9.2, L4, rfl, (S4.out.upd hk10 ⟨_, hm10, by
      obtain ⟨z0, z1, z2⟩ := sn9
      refine ⟨?_, ?_, fun y s hs => ?_⟩
      · show (if (0 : Int) = (f : Int) then some B9.2 else K9 0) = some 0
        rw [if_neg (by have := HF2.out; omega)]
        exact z0
      · show (if (1 : Int) = (f : Int) then some B9.2 else K9 1) = some 1
        rw [if_neg (by have := HF2.out; omega)]
        exact z1
      · have hs' : (if y = (f : Int) then some B9.2 else K9 y) = some s := hs
        by_cases hy : y = (f : Int)
        · rw [if_pos hy] at hs'
          cases hs'
          exact ⟨f, hy, HF.out, JS.out.2.1, fun a => JS.out.2.2 a⟩
        · rw [if_neg hy] at hs'
          exact z2 y s hs'⟩).sub SUB.out, A4.out, JS.out.2.1, JS.out.2.2⟩
    clear hup hm10 hk10 m9 sn9 S4 JS A4
    go_wp2_with fail
    go_ret
    exact RET.out

/-- The contract of 'rebuild', at the levels that are left. -/
theorem rebuild_ok {p q bs gn cn n : Nat} {M : Mgr} {l : List Bfn} (hM : M.WF) (hMn : M.n = n) (hcn : M.nodes.length ≤ 1000000000000000) : ∀ (k : Nat) (N : Mgr) (L : Lay) (X : List (Nat × Obj)) (f : Nat) (w : World), RbK p gn cn M X → Sk w q L bs X (ImMemo M bs) w N L → N.n = n → M.stored f → n < k + M.depth f → (∃ G, G ∈ l ∧ Rst G (M.sem f)) →
    (∀ N', Mgr.Adds N N' (ArF n l) → N'.nodes.length ≤ big) →
    Calls Try.prog 110 #[ptr p, .int .i64 (f : Int), ptr q, .map (some bs)] w (RbPost M q L bs X w N (ArF n l) (M.sem f)) := by
  intro k
  induction k using Nat.strongRecOn with
  | _ k ih =>
    intro N L X f w hX s hn hf df hF hb
    exact rebuild_step hM hMn hcn (fun N L X f w j hj hX s hn hf df hF hb => ih j hj N L X f w hX s hn hf df hF hb) f hX s hn hf df hF hb

end Go.Proofs.Ytngbodmooddjbaa
