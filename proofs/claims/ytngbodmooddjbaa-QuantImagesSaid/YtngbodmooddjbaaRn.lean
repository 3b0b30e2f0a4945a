/-
  Renaming variables: the plain law; walks of 'apply' of the package quant.
-/
import Derived.Test.YtngbodmooddjbaaQn
import Derived.Deep.RegionHeld3
namespace Go.Proofs.Ytngbodmooddjbaa
open Go.RowKit

/-! ### the plain law -/
def rnF (t : Nat → Nat) (F : Bfn) : Bfn := fun a => F fun v => a (t v)
namespace Mgr
/-- The functions of the nodes that renaming makes. -/
def RenF (M : Mgr) (t : Nat → Nat) (F : Bfn) (G : Bfn) : Prop := (∃ d' a', M.Cof (rnF t fun x => F (M.mix d' a' x)) G) ∨ ∃ v, v < M.n ∧ G = fun a => a v
theorem RenF.ext {M M' : Mgr} (e : Ext M M') {t : Nat → Nat} {F G : Bfn} : M'.RenF t F G ↔ M.RenF t F G := by
  unfold RenF Cof
  simp only [e.mix, e.n]
theorem RenF.self (M : Mgr) (t : Nat → Nat) (F : Bfn) {G : Bfn} (h : M.Cof (rnF t F) G) : M.RenF t F G := by
  refine .inl ⟨0, fun _ => false, ?_⟩
  have e : (fun x => F (M.mix 0 (fun _ => false) x)) = F := funext fun x => by rw [mix_zero]
  rw [e]; exact h
theorem RenF.upd {M : Mgr} (h : M.WF) {t : Nat → Nat} {F G : Bfn} {v : Nat} {x : Bool} (hv : v < M.n) (hF : M.Reads (M.lev v) F) (g : M.RenF t (fun a => F (Mgr.upd a v x)) G) : M.RenF t F G := by
  rcases g with ⟨d', a', g⟩ | g
  · left
    by_cases hd : M.lev v < d'
    · refine ⟨d', Mgr.upd a' v x, ?_⟩
      have e : (fun y => F (M.mix d' (Mgr.upd a' v x) y)) = fun y => F (Mgr.upd (M.mix d' a' y) v x) := funext fun y => by
        congr 1; funext u
        unfold mix Mgr.upd
        by_cases e : u = v
        · subst e; simp [hd]
        · simp only [e, if_false]
      rw [e]; exact g
    · refine ⟨M.lev v + 1, Mgr.upd a' v x, ?_⟩
      have e : (fun y => F (M.mix (M.lev v + 1) (Mgr.upd a' v x) y)) = fun y => F (Mgr.upd (M.mix d' a' y) v x) := funext fun y => by
        refine hF _ _ (fun u hu hlu => ?_)
        unfold mix Mgr.upd
        by_cases e : u = v
        · subst e; simp
        · have : M.lev u ≠ M.lev v := fun q => e (lev_inj h hu hv q)
          have n1 : ¬ M.lev u < M.lev v + 1 := by omega
          have n2 : ¬ M.lev u < d' := by omega
          simp only [n1, n2, e, if_false]
      rw [e]; exact g
  · exact .inr g

/-- The answer of a renaming. -/
structure Ren (M : Mgr) (t : Nat → Nat) (F : Bfn) (M' : Mgr) (r : Nat) : Prop where
  ad : Adds M M' (M.RenF t F)
  st : M'.stored r
  sem : ∀ a, M'.sem r a = rnF t F a
theorem Ren.there {M : Mgr} (h : M.WF) {t : Nat → Nat} {F : Bfn} {r : Nat} (st : M.stored r) (e : ∀ a, M.sem r a = rnF t F a) : Ren M t F M r := ⟨Adds.refl h _, st, e⟩
theorem Ren.join {M M1 M2 : Mgr} {t : Nat → Nat} {F : Bfn} {v r0 r1 : Nat} (h : M.WF) (hv : v < M.n) (htv : t v < M.n) (hF : M.Reads (M.lev v) F) (p0 : Ren M t (fun a => F (upd a v false)) M1 r0) (p1 : Ren M1 t (fun a => F (upd a v true)) M2 r1) :
    t v < M2.n ∧ M2.stored r0 ∧ Ren M t F (M2.joinM (t v) r0 r1).1 (M2.joinM (t v) r0 r1).2 ∧ Ext M2 (M2.joinM (t v) r0 r1).1 := by
  have ad : Adds M M2 (M.RenF t F) := (p0.ad.mono (fun G g => RenF.upd h hv hF g)).trans (p1.ad.mono (fun G g => RenF.upd h hv hF ((RenF.ext p0.ad.ext).1 g)))
  have s0 : ∀ a, M2.sem r0 a = rnF t (fun a => F (upd a v false)) a := fun a => by rw [p1.ad.ext.sem p0.ad.wf p0.st, p0.sem]
  have t0 : M2.stored r0 := p1.ad.ext.stored p0.st
  have w2 := p1.ad.wf
  have hn : M2.n = M.n := ad.ext.n
  have eF : joinF M2 (t v) r0 r1 = rnF t F := by
    funext a
    unfold joinF
    rw [s0, p1.sem]
    unfold rnF
    have key : ∀ x, a (t v) = x → upd (fun u => a (t u)) v x = fun u => a (t u) := fun x hx => by
      funext u
      unfold upd
      by_cases e : u = v
      · subst e; simp [hx]
      · simp [e]
    cases hb : a (t v)
    · simp only [Bool.false_eq_true, if_false]; rw [key _ hb]
    · simp only [if_true]; rw [key _ hb]
  have js := join_spec w2 (v := t v) (by omega) t0 p1.st
  have ja := join_adds w2 (v := t v) (by omega) t0 p1.st
  refine ⟨by omega, t0, ⟨ad.trans (ja.mono (fun G g => ?_)), js.st, fun a => by rw [js.sem, eF]⟩, js.ext⟩
  rcases g with g | g
  · rw [eF] at g
    obtain ⟨d, a, rfl⟩ := g
    exact RenF.self M t F ⟨d, a, funext fun b => by rw [ad.ext.mix]⟩
  · exact .inr ⟨t v, htv, g⟩
end Mgr

/-! ### 'apply' -/
def RnSound (t : Nat → Nat) (M : Mgr) (K : Int → Option Nat) : Prop := ∀ x r, K x = some r → ∃ f : Nat, x = (f : Int) ∧ M.stored f ∧ M.stored r ∧ ∀ a, M.sem r a = rnF t (M.sem f) a
def RnMemo (t : Nat → Nat) (bs : Nat) (M : Mgr) (w : World) : Prop := ∃ K, MapAs w bs intV natV K ∧ RnSound t M K
theorem RnMemo.iok (t : Nat → Nat) (bs : Nat) : IOk bs (RnMemo t bs) := fun M M' w w' A h e k hb ⟨K, m, s⟩ => ⟨K, m.kp k hb, fun x r hr => by
  obtain ⟨f, hx, sf, sr, hs⟩ := s x r hr
  exact ⟨f, hx, e.stored sf, e.stored sr, fun a => by rw [e.sem h sr, show M'.sem f = M.sem f from funext fun b => e.sem h sf b]; exact hs a⟩⟩

def NPost (p : Nat) (L : Lay) (bs : Nat) (t : Nat → Nat) (X : List (Nat × Obj)) (w : World) (M : Mgr) (F : Bfn) (e : Ending) (w' : World) : Prop :=
  ∃ (M' : Mgr) (r : Nat) (L' : Lay), e = .returned (.int .i64 (r : Int)) ∧ Sk w p L bs X (RnMemo t bs) w' M' L' ∧ Mgr.Ren M t F M' r

/-- Where a renamer lies. -/
def rnX (p br bs gt n ct : Nat) (cur : Array Value) : List (Nat × Obj) :=
  [(br, .cells #[ptr p, .slice (some ⟨gt, 0, none⟩) n ct, .map (some bs)] 103 (0, 0)), (gt, .cells cur 3 (0, 0))]
structure RC (p br bs gt n ct : Nat) (t : Nat → Nat) (w : World) : Prop where
  q0 : w.cell? ⟨br, 0, none⟩ = some (ptr p)
  q1 : w.cell? ⟨br, 1, none⟩ = some (.slice (some ⟨gt, 0, none⟩) n ct)
  q2 : w.cell? ⟨br, 2, none⟩ = some (.map (some bs))
  ql : br < w.heap.size
  tl : gt < w.heap.size
  tc : ∀ v, v < n → w.cell? ⟨gt, v, none⟩ = some (.int .i64 (t v : Int))
theorem Sk.rc {p br bs gt n ct : Nat} {t : Nat → Nat} {cur : Array Value} (hcur : ∀ v, v < n → cur[v]? = some (natV (t v))) {X : List (Nat × Obj)} (hX : ∀ x, x ∈ rnX p br bs gt n ct cur → x ∈ X) {w0 w : World} {L0 L : Lay} {I : Mgr → World → Prop} {M : Mgr} (s : Sk w0 p L0 bs X I w M L) : RC p br bs gt n ct t w := by
  have h0 := hX _ (.head _)
  have h1 := hX _ (.tail _ (.head _))
  exact ⟨(s.cell h0 rfl).1, (s.cell h0 rfl).1, (s.cell h0 rfl).1, heap_lt (s.keep _ _ h0).1, heap_lt (s.keep _ _ h1).1, fun v hv => (s.cell h1 (hcur v hv)).1⟩

set_option maxRecDepth 100000 in
set_option maxHeartbeats 4000000 in
theorem apply_step {k p br bs gt n ct : Nat} {t : Nat → Nat} {cur : Array Value} (hcur : ∀ v, v < n → cur[v]? = some (natV (t v))) (htn : ∀ v, v < n → t v < n) (hn256 : n ≤ 256)
    (ih : ∀ (M : Mgr) (L : Lay) (X : List (Nat × Obj)) (f : Nat) (w : World) (j : Nat), j < k → (∀ x, x ∈ rnX p br bs gt n ct cur → x ∈ X) → Sk w p L bs X (RnMemo t bs) w M L → M.n = n → M.stored f → n < j + M.depth f →
      (∀ M', Mgr.Adds M M' (M.RenF t (M.sem f)) → M'.nodes.length ≤ big) →
      Calls Try.prog 58 #[ptr br, .int .i64 (f : Int)] w (NPost p L bs t X w M (M.sem f)))
    {M : Mgr} {L : Lay} {X : List (Nat × Obj)} (f : Nat) {w : World} (hX : ∀ x, x ∈ rnX p br bs gt n ct cur → x ∈ X) (s0 : Sk w p L bs X (RnMemo t bs) w M L) (hn : M.n = n) (hf : M.stored f) (df : n < k + M.depth f)
    (hb : ∀ M', Mgr.Adds M M' (M.RenF t (M.sem f)) → M'.nodes.length ≤ big) :
    Calls Try.prog 58 #[ptr br, .int .i64 (f : Int)] w (NPost p L bs t X w M (M.sem f)) := by
  have IH := Lib.hid ih
  clear ih
  have OK := Lib.hid (RnMemo.iok t bs)
  have WF := Lib.hid s0.rep.wf
  have THERE : Hid (∀ (w' : World) (r : Nat), Kp No w w' → M.stored r → (∀ a, M.sem r a = rnF t (M.sem f) a) → NPost p L bs t X w M (M.sem f) (.returned (.int .i64 (r : Int))) w') :=
    Lib.hid (fun w' r kp hr e => ⟨M, r, L, rfl, s0.no OK.out kp, Mgr.Ren.there WF.out hr e⟩)
  have HX := Lib.hid hX
  have HC := Lib.hid hcur
  have C0 := s0.rc hcur hX
  have q0 := C0.q0
  have ql := C0.ql
  have ND := Lib.hid (Node_ok f s0.rep hf)
  have S0 := Lib.hid s0
  clear C0 s0 hX hcur
  by_cases h2 : f < 2
  · have hnd : (M.nd f).1 = -1 := by
      have : f = 0 ∨ f = 1 := by omega
      rcases this with rfl | rfl
      · rw [WF.out.nd0]
      · rw [WF.out.nd1]
    have RET := Lib.hid (fun (y : World) (ky : Kp No w y) => THERE.out y f ky hf (fun a => by unfold rnF; rw [M.sem_const _ _ h2, M.sem_const _ _ h2]))
    rw [hnd] at ND
    clear hnd THERE S0 h2 hf df hb
    go_enter Try.func58, Try.ntmps58
    go_wp2_with fail
    refine ND.out.mono ?_
    rintro e w1 ⟨rfl, k1⟩
    have K1 := Lib.hid k1
    clear k1 ND
    go_wp2_with fail
    go_ret
    exact RET.out _ K1.out
  have hf2 : 2 ≤ f := by omega
  obtain ⟨v0, v1, sl, sh, _, dl, dh⟩ := Mgr.node_of WF.out hf hf2
  have hdf : M.depth f = M.lev (M.nd f).1.toNat := by unfold Mgr.depth; rw [if_neg (by omega)]
  obtain ⟨v, hv⟩ := Int.eq_ofNat_of_zero_le v0
  have hvt : (M.nd f).1.toNat = v := by omega
  rw [hvt] at hdf
  have hvn : v < n := by omega
  have E0 : Hid (M.sem (M.nd f).2.1 = fun a => M.sem f (Mgr.upd a v false)) := Lib.hid (funext fun a => by rw [Mgr.sem_lo WF.out hf hf2, hvt])
  have E1 : Hid (M.sem (M.nd f).2.2 = fun a => M.sem f (Mgr.upd a v true)) := Lib.hid (funext fun a => by rw [Mgr.sem_hi WF.out hf hf2, hvt])
  have RD : Hid (M.Reads (M.lev v) (M.sem f)) := Lib.hid (fun a b hab => Mgr.sem_agree WF.out _ f hf (Nat.le_refl _) a b (fun u hu hd => hab u hu (by omega)))
  obtain ⟨K, hmap, hsnd⟩ := S0.out.memo
  have LK : Hid (∀ (W : World), Kp No w W → (Instr.lookup 101 (.map (some bs)) (.int .i64 f) true).run Try.prog W = .ok (.tuple #[(((K (f : Int)).map natV).getD (.int .i64 0)), .bool (K (f : Int)).isSome]) W) := Lib.hid (fun W kp =>
    (hmap.kp kp (fun x => x)).lookup keyRef Try.underlying101 zeroRef (f : Int) true)
  rw [hv] at ND
  have hk : 0 < k := by have := M.depth_le WF.out hf; omega
  have DL : Hid (n < (k - 1) + M.depth (M.nd f).2.1 ∧ n < (k - 1) + M.depth (M.nd f).2.2) := Lib.hid (by omega)
  have SL := Lib.hid sl
  have SH := Lib.hid sh
  have HB := Lib.hid hb
  have HN := Lib.hid hn
  have TN := Lib.hid htn
  have HF := Lib.hid hf
  have hvi : (v : Int) < (n : Int) := by omega
  have hv0 : (0 : Int) ≤ (v : Int) := by omega
  have hni : (n : Int) ≤ 256 := by omega
  have HK := Lib.hid hk
  clear v0 v1 sl sh dl dh hdf hv hvt hb hn htn hf df hk h2 hf2
  generalize (M.nd f).2.1 = lo at *
  generalize (M.nd f).2.2 = hi at *
  cases hKf : K (f : Int) with
  | some r =>
    obtain ⟨f', hf', _, sr, hsem⟩ := hsnd _ r hKf
    have : f' = f := by omega
    subst this
    have RET := Lib.hid (fun w' kp => THERE.out w' r kp sr hsem)
    rw [hKf] at LK
    simp only [Option.map_some, Option.getD_some, Option.isSome_some, natV] at LK
    clear THERE hmap hsnd hKf hsem hf' sr
    go_enter Try.func58, Try.ntmps58
    go_wp2_with fail
    refine ND.out.mono ?_
    rintro e w1 ⟨rfl, k1⟩
    have lk := LK.out w1 k1
    have K1 := Lib.hid k1
    have C1 := (S0.out.no OK.out k1).rc HC.out HX.out
    have q2 := C1.q2
    have ql1 := C1.ql
    clear k1 ND C1 q0 ql
    go_wp2_with fail
    go_ret
    exact RET.out _ K1.out
  | none =>
    rw [hKf] at LK
    simp only [Option.map_none, Option.getD_none, Option.isSome_none] at LK
    clear THERE hmap hsnd hKf
    go_enter Try.func58, Try.ntmps58
    go_wp2_with fail
    refine ND.out.mono ?_
    rintro e w1 ⟨rfl, k1⟩
    have lk := LK.out w1 k1
    have S1 := Lib.hid (S0.out.no OK.out k1)
    have C1 := S1.out.rc HC.out HX.out
    have q2 := C1.q2
    have ql1 := C1.ql
    clear k1 ND C1 q0 ql S0
    go_wp2_with fail
    have PA := Lib.hid (IH.out M L X lo w1 (k - 1) (by have := HK.out; omega) HX.out S1.out.here HN.out SL.out DL.out.1 (fun M' ad => HB.out M' (ad.mono (fun G g => by
      rw [E0.out] at g
      exact Mgr.RenF.upd WF.out (by rw [HN.out]; exact hvn) RD.out g))))
    rw [E0.out] at PA
    refine PA.out.mono ?_
    intro e w2 h2
    obtain ⟨M1, r0, L1, rfl, t2, p0⟩ := h2
    have S2 := Lib.hid (S1.out.trans t2 (fun _ _ h => h))
    have P0 := Lib.hid p0
    clear t2 p0 PA S1 lk q2 ql1
    go_wp2_with fail
    have EA : Hid (M1.sem hi = fun a => M.sem f (Mgr.upd a v true)) := Lib.hid (by rw [show M1.sem hi = M.sem hi from funext fun b => P0.out.ad.ext.sem WF.out SH.out b, E1.out])
    have PB := Lib.hid (IH.out M1 L1 X hi w2 (k - 1) (by have := HK.out; omega) HX.out S2.out.here (P0.out.ad.ext.n.trans HN.out) (P0.out.ad.ext.stored SH.out) (by rw [P0.out.ad.ext.depth SH.out]; exact DL.out.2) (fun M' ad => HB.out M' ((P0.out.ad.mono (fun G g => Mgr.RenF.upd WF.out (by rw [HN.out]; exact hvn) RD.out g)).trans (ad.mono (fun G g => by
      rw [EA.out] at g
      exact Mgr.RenF.upd WF.out (by rw [HN.out]; exact hvn) RD.out ((Mgr.RenF.ext P0.out.ad.ext).1 g))))))
    rw [EA.out] at PB
    refine PB.out.mono ?_
    intro e w3 h3
    obtain ⟨M2, r1, L2, rfl, t3, p1⟩ := h3
    have S3 := Lib.hid (S2.out.trans t3 (fun _ _ h => h))
    have P1 := Lib.hid p1
    clear t3 p1 PB S2
    have S3d := Lib.hid (S3.out.no OK.out Kp.drew)
    have C3 := S3d.out.rc HC.out HX.out
    have SC : Hid (w3.drew.cell? ⟨br, 0, none⟩ = some (ptr p) ∧ w3.drew.cell? ⟨br, 1, none⟩ = some (.slice (some ⟨gt, 0, none⟩) n ct) ∧ w3.drew.cell? ⟨gt, v, none⟩ = some (.int .i64 (t v : Int))) := Lib.hid ⟨C3.q0, C3.q1, C3.tc v hvn⟩
    obtain ⟨jv, jt, jp, je⟩ := Mgr.Ren.join WF.out (by rw [HN.out]; exact hvn) (by rw [HN.out]; exact TN.out v hvn) RD.out P0.out P1.out
    have JC := Lib.hid (Join_ok (t v) r0 r1 S3d.out.rep jv jt P1.out.st (HB.out _ jp.ad))
    have JP := Lib.hid jp
    have JE := Lib.hid je
    clear C3 jv jt jp je
    generalize M2.joinM (t v) r0 r1 = B9 at *
    obtain ⟨tv, htv⟩ : ∃ x, (t v : Int) = x := ⟨_, rfl⟩
    rw [htv] at SC JC
    have HTV := Lib.hid htv
    clear htv
    go_upto_region 9 with fail
    go_region_held3 (fun y => y.cell? ⟨br, 0, none⟩ = some (ptr p) ∧ y.cell? ⟨br, 1, none⟩ = some (.slice (some ⟨gt, 0, none⟩) n ct) ∧ y.cell? ⟨gt, v, none⟩ = some (.int .i64 tv)) (first | exact SC.out | exact SD.out) (first | (go_at_call 105; (with_reducible refine JC.out.mono ?_); intro e w4 h4; obtain ⟨rfl, L4, s4⟩ := S3d.out.step OK.out JE.out h4; have S4 := Lib.hid s4; have SD := Lib.hid (show w4.cell? ⟨br, 0, none⟩ = some (ptr p) ∧ w4.cell? ⟨br, 1, none⟩ = some (.slice (some ⟨gt, 0, none⟩) n ct) ∧ w4.cell? ⟨gt, v, none⟩ = some (.int .i64 tv) from ⟨(s4.rc HC.out HX.out).q0, (s4.rc HC.out HX.out).q1, by rw [← HTV.out]; exact (s4.rc HC.out HX.out).tc v hvn⟩); clear h4 s4))
    all_goals
      clear SC SD JC P0 P1 S3 S3d JE EA E0 E1 IH HB RD
      obtain ⟨K9, m9, sn9⟩ := S4.out.memo
      obtain ⟨w10, hup, hm10, hk10, _⟩ := m9.update keyRef Try.underlying101 (f : Int) B9.2
      have up : (Instr.mapUpdate 101 (.map (some bs)) (.int .i64 f) (.int .i64 B9.2)).run Try.prog w4 = .ok () w10 := hup 0
      have RET : Hid (NPost p L bs t X w M (M.sem f) (.returned (.int .i64 (B9.2 : Int))) w10) := Lib.hid ⟨B9.1, B9.2, L4, rfl, S4.out.upd hk10 ⟨_, hm10, fun y s hs => by
        split at hs
        · rename_i hy
          cases hs
          exact ⟨f, hy, JP.out.ad.ext.stored HF.out, JP.out.st, fun a => by rw [JP.out.sem, show B9.1.sem f = M.sem f from funext fun b => JP.out.ad.ext.sem WF.out HF.out b]⟩
        · exact sn9 y s hs⟩, JP.out⟩
      have C9 := S4.out.rc HC.out HX.out
      have q2 := C9.q2
      have ql := C9.ql
      clear hup hm10 hk10 m9 sn9 C9 S4 JP
      go_wp2_with fail
      go_ret
      exact RET.out

/-- The contract of 'apply', at the levels that are left. -/
theorem apply_ok {p br bs gt n ct : Nat} {t : Nat → Nat} {cur : Array Value} (hcur : ∀ v, v < n → cur[v]? = some (natV (t v))) (htn : ∀ v, v < n → t v < n) (hn256 : n ≤ 256) : ∀ (k : Nat) (M : Mgr) (L : Lay) (X : List (Nat × Obj)) (f : Nat) (w : World), (∀ x, x ∈ rnX p br bs gt n ct cur → x ∈ X) → Sk w p L bs X (RnMemo t bs) w M L → M.n = n → M.stored f → n < k + M.depth f →
    (∀ M', Mgr.Adds M M' (M.RenF t (M.sem f)) → M'.nodes.length ≤ big) →
    Calls Try.prog 58 #[ptr br, .int .i64 (f : Int)] w (NPost p L bs t X w M (M.sem f)) := by
  intro k
  induction k using Nat.strongRecOn with
  | _ k ih =>
    intro M L X f w hX s hn hf df hb
    exact apply_step hcur htn hn256 (fun M L X f w j hj hX s hn hf df hb => ih j hj M L X f w hX s hn hf df hb) f hX s hn hf df hb

end Go.Proofs.Ytngbodmooddjbaa
