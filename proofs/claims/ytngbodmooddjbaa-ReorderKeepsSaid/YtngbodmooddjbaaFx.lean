/-
  The state of a law that picks some of the Refs and tables of a run.
-/
import Derived.Test.YtngbodmooddjbaaSfl
import Derived.Test.YtngbodmooddjbaaRefV
import Derived.Test.YtngbodmooddjbaaRvd
import Derived.Test.YtngbodmooddjbaaFront
import Derived.Test.YtngbodmooddjbaaRefT
import Derived.Test.YtngbodmooddjbaaSx
import Derived.Deep.QuietTactic
import Derived.BigQuiet
namespace Go.Proofs.Ytngbodmooddjbaa
open Go.RowKit

/-- The reference's 'Nodes' counts the nodes of some functions under an order. -/
theorem RNodesO {o : List Nat} (hp : PermL o) (hn : o.length ≤ 6) {Gs : List Bfn} (hG : ∀ G, G ∈ Gs → Rd 0 o.length G) (hgl : Gs.length ≤ 1000) {B3 : Nat} {lv ov : Value} {tvs : List Value} {w : World} (hl : Tabs o.length w lv tvs Gs) (ho : w.ownsRow B3 3 1 ov o.length (o.map natV)) :
    Calls Try.prog 42 #[lv, ov] w fun e w' => ∃ a k c, e = .returned (.slice a k c) ∧ IsTot o Gs k ∧ k ≤ 100000 ∧ Kp No w w' := by
  obtain ⟨M', rs, wf, eo, ln, st, e⟩ := mk_all hp Gs hG
  have hM : M'.n = o.length := by unfold Mgr.n; rw [eo]
  have hlen : rs.length = Gs.length := by rw [← e, List.length_map]
  have h64 : (2 : Nat) ^ o.length ≤ 64 := by
    have : (2 : Nat) ^ o.length ≤ 2 ^ 6 := Nat.pow_le_pow_right (by omega) hn
    simpa using this
  have hb : Gs.length * 2 ^ o.length ≤ 1000 * 64 := Nat.mul_le_mul hgl h64
  have t := Mgr.tot wf st
  rw [eo, e] at t
  refine (RNodes_ok (by rw [hM]; exact hn) wf st (by omega) (show Tabs M'.n w lv tvs (rs.map M'.sem) by rw [hM, e]; exact hl) (by omega) (by rw [hM, eo]; exact ho)).mono ?_
  rintro e' w' ⟨lv', tvs', rfl, v, k⟩
  obtain ⟨a, c, rfl, _⟩ := ownsRow_len (row_zero v.row)
  rw [← v.len]
  refine ⟨a, _, c, rfl, t, ?_, k⟩
  have := (walkAll_seen wf rs st).len wf
  omega

/-! ### fixed -/
def FxO (w : World) (l : List Nat) (vs : List Int) (gk : Nat) (s5 s6 : Value) (x : World) : Prop :=
  ∃ i m, i + gk = l.length ∧ s6 = .int .i64 (i : Int) ∧ s5 = .int .i64 (lastN (keptO vs (l.take i))) ∧ x = w.drewN m
def FxI (w : World) (vs : List Int) (u : Nat) (gk : Nat) (s7 s8 : Value) (x : World) : Prop :=
  ∃ k m, k + gk = vs.length ∧ s8 = .int .i64 (k : Int) ∧ s7 = .bool ((vs.take k).contains (u : Int)) ∧ x = w.drewN m
theorem lastN_low (l : List Nat) : -1 ≤ lastN l := by
  unfold lastN
  split <;> omega

set_option maxRecDepth 100000 in
set_option maxHeartbeats 4000000 in
theorem Fixed_ok {w : World} {l : List Nat} {vs : List Int} {ov vv : Value} (hs : SrcAt w ov 1 l.length (l.map natV)) (hv : SrcAt w vv 1 vs.length (vs.map intV)) (hl : l.length ≤ 256) (hvl : vs.length ≤ 1000000) (asc : (keptO vs l).Pairwise (· < ·)) :
    Calls Try.prog 44 #[ov, vv] w fun e w' => e = .returned (.bool true) ∧ ∃ m, w' = w.drewN m := by
  have HS := Lib.hid hs
  have HV := Lib.hid hv
  have HA := Lib.hid asc
  obtain ⟨ao, co, rfl⟩ := hs.form
  obtain ⟨av, cv, rfl⟩ := hv.form
  clear hs hv asc
  go_enter Try.func44, Try.ntmps44
  go_wp2
  go_loopg [5, 6] l.length (fun gk s5 s6 x => FxO w l vs gk s5 s6 x)
  case atStart => exact ⟨0, 0, by omega, rfl, rfl, rfl⟩
  case round =>
    obtain ⟨i, m, hi, rfl, rfl, rfl⟩ := hrel
    have HI := Lib.hid hi
    by_cases hlt : i < l.length
    · have hlti : (i : Int) < l.length := by omega
      obtain ⟨g, o, c2, hv1, glt, hc⟩ := HS.out.cellAt (by omega)
      cases hv1
      obtain ⟨u, hu⟩ : ∃ u, l.getD i 0 = u := ⟨_, rfl⟩
      have du : w.cell? ⟨g, o + i, none⟩ = some (.int .i64 (u : Int)) := by
        have := hc i (natV l[i]) (by simp [hlt])
        rw [← hu, List.getD_eq_getElem?_getD, List.getElem?_eq_getElem hlt]; exact this
      have KT := Lib.hid (kept_take (vs := vs) (l := l) hlt)
      rw [hu] at KT
      have PW : Hid ((keptO vs (l.take (i + 1))).Pairwise (· < ·)) := Lib.hid (HA.out.sublist (kept_sub vs l (i + 1)))
      have hlow := lastN_low (keptO vs (l.take i))
      obtain ⟨la, hla⟩ : ∃ q, lastN (keptO vs (l.take i)) = q := ⟨_, rfl⟩
      rw [hla]
      have HLA := Lib.hid hla
      clear hc hi hu hla hlow
      go_wp2
      go_loopg [7, 8] vs.length (fun gk s7 s8 x => FxI w vs u gk s7 s8 x)
      case atStart => exact ⟨0, m, by omega, rfl, rfl, rfl⟩
      case round =>
        obtain ⟨k, m2, hk, rfl, rfl, rfl⟩ := hrel
        have HK := Lib.hid hk
        by_cases hlk : k < vs.length
        · have hlki : (k : Int) < vs.length := by omega
          obtain ⟨g1, o1, c3, hv1, g1lt, hc1⟩ := HV.out.cellAt (by omega)
          cases hv1
          obtain ⟨z, hz⟩ : ∃ z, vs[k] = z := ⟨_, rfl⟩
          have dz : w.cell? ⟨g1, o1 + k, none⟩ = some (.int .i64 z) := by
            rw [← hz]
            exact hc1 k (intV vs[k]) (by simp [hlk])
          have SN : Hid ((vs.take (k + 1)).contains (u : Int) = ((vs.take k).contains (u : Int) || (z == (u : Int)))) := Lib.hid (by
            rw [List.take_succ_eq_append_getElem hlk, hz, Bool.eq_iff_iff, List.contains_iff_mem, List.mem_append, List.mem_singleton, Bool.or_eq_true, List.contains_iff_mem, beq_iff_eq]
            exact or_congr Iff.rfl ⟨Eq.symm, Eq.symm⟩)
          obtain ⟨b, hb⟩ : ∃ b, (vs.take k).contains (u : Int) = b := ⟨_, rfl⟩
          rw [hb] at SN ⊢
          clear hk hc1 hz hb
          cases b with
          | true =>
            have JN : Hid (∀ m3, FxI w vs u (vs.length - (k + 1)) (.bool true) (.int .i64 ((k + 1 : Nat) : Int)) (w.drewN m3)) := Lib.hid (fun m3 => ⟨k + 1, m3, by omega, rfl, by rw [SN.out]; rfl, rfl⟩)
            go_wp2
            go_quiet (fail)
            go_wp2
            go_roundg (vs.length - (k + 1))
            case measure => have := HK.out; omega
            case rel => simpa using JN.out _
          | false =>
            have JN : Hid (∀ m3, FxI w vs u (vs.length - (k + 1)) (.bool (z == (u : Int))) (.int .i64 ((k + 1 : Nat) : Int)) (w.drewN m3)) := Lib.hid (fun m3 => ⟨k + 1, m3, by omega, rfl, by rw [SN.out]; rfl, rfl⟩)
            by_cases e : z = (u : Int)
            · have e1 : (z == (u : Int)) = true := by simpa using e
              rw [e1] at JN
              clear e SN
              subst_vars
              go_wp2
              go_quiet (fail)
              go_wp2
              go_roundg (vs.length - (k + 1))
              case measure => have := HK.out; omega
              case rel => simpa using JN.out _
            · have e1 : (z == (u : Int)) = false := by simpa using e
              rw [e1] at JN
              clear e SN
              go_wp2
              go_quiet (fail)
              go_wp2
              go_roundg (vs.length - (k + 1))
              case measure => have := HK.out; omega
              case rel => simpa using JN.out _
        · obtain rfl : k = vs.length := by omega
          have hge : ¬ (vs.length : Int) < vs.length := by omega
          rw [List.take_length]
          clear hk hlk
          obtain ⟨b, hb⟩ : ∃ b, vs.contains (u : Int) = b := ⟨_, rfl⟩
          rw [hb] at KT ⊢
          cases b with
          | true =>
            rw [if_pos rfl] at KT
            have JN : Hid (FxO w l vs (l.length - (i + 1)) (.int .i64 la) (.int .i64 ((i + 1 : Nat) : Int)) (w.drewN m2)) := Lib.hid ⟨i + 1, m2, by omega, rfl, by rw [KT.out, HLA.out], rfl⟩
            clear hb
            go_wp2
            go_roundg (l.length - (i + 1))
            case measure => have := HI.out; omega
            case rel => exact JN.out
          | false =>
            rw [if_neg (by simp)] at KT
            have hla : ¬ (u : Int) < la := by
              have := PW.out
              rw [KT.out] at this
              have := lastN_lt this
              rw [HLA.out] at this
              exact this
            have JN : Hid (FxO w l vs (l.length - (i + 1)) (.int .i64 (u : Int)) (.int .i64 ((i + 1 : Nat) : Int)) (w.drewN m2)) := Lib.hid ⟨i + 1, m2, by omega, rfl, by rw [KT.out, lastN_snoc], rfl⟩
            clear hb
            go_wp2
            go_roundg (l.length - (i + 1))
            case measure => have := HI.out; omega
            case rel => exact JN.out
    · obtain rfl : i = l.length := by omega
      have hge : ¬ (l.length : Int) < l.length := by omega
      clear hi hlt
      go_wp2
      go_ret
      exact ⟨rfl, m, rfl⟩

end Go.Proofs.Ytngbodmooddjbaa

namespace Go.Proofs.Ytngbodmooddjbaa
open Go.RowKit

def pckd (which : List Int) (N k : Nat) : Nat := pick (which.getD k 0) N
def lsP (wl fs : List Int) : List Int := (List.range wl.length).map fun i => fs.getD (pckd wl fs.length i) 0
def tlsP (wl fs : List Int) (tvs : List Value) : List Value := (List.range wl.length).map fun i => tvs.getD (pckd wl fs.length i) (.bool false)
def FlP (wl fs : List Int) (Fs : List BF) : List BF := (List.range wl.length).map fun i => Fs.getD (pckd wl fs.length i) (fun _ => false)
theorem lsP_len (wl fs : List Int) : (lsP wl fs).length = wl.length := by simp [lsP]
theorem tlsP_len (wl fs : List Int) (tvs : List Value) : (tlsP wl fs tvs).length = wl.length := by simp [tlsP]
theorem FlP_len (wl fs : List Int) (Fs : List BF) : (FlP wl fs Fs).length = wl.length := by simp [FlP]
theorem lsP_at (wl fs : List Int) {i : Nat} (hi : i < wl.length) : (lsP wl fs).getD i 0 = fs.getD (pckd wl fs.length i) 0 := by simp [lsP, hi]
theorem tlsP_at (wl fs : List Int) (tvs : List Value) {i : Nat} (hi : i < wl.length) : (tlsP wl fs tvs).getD i (.bool false) = tvs.getD (pckd wl fs.length i) (.bool false) := by simp [tlsP, hi]
theorem FlP_at (wl fs : List Int) (Fs : List BF) {i : Nat} (hi : i < wl.length) : (FlP wl fs Fs).getD i (fun _ => false) = Fs.getD (pckd wl fs.length i) (fun _ => false) := by simp [FlP, hi]
theorem lsP_row (wl fs : List Int) : (lsP wl fs).map intV = (List.range wl.length).map fun i => (Value.int .i64 (fs.getD (pckd wl fs.length i) 0)) := by unfold lsP; rw [List.map_map]; rfl
theorem range_snoc (k : Nat) {α : Type} (f : Nat → α) : (List.range (k + 1)).map f = (List.range k).map f ++ [f k] := by rw [List.range_succ, List.map_append]; rfl

/-- What is known of the picked Refs. -/
def PkV (n : Nat) (M : Mgr) (wl fs : List Int) (Fs : List BF) : Prop := ∀ i, i < wl.length → pckd wl fs.length i < fs.length ∧ M.valid ((lsP wl fs).getD i 0) = true ∧ (∀ a, M.sem ((lsP wl fs).getD i 0).toNat a = (FlP wl fs Fs).getD i (fun _ => false) a) ∧ Upto n ((FlP wl fs Fs).getD i (fun _ => false))
theorem pkv {n c : Nat} {M : Mgr} {fs wl : List Int} {Fs : List BF} (rp : RP n c M fs Fs) : PkV n M wl fs Fs := fun i hi => by
  have hpos := rp.pos
  have hq : pckd wl fs.length i < fs.length := pick_lt (wl.getD i 0) (n := fs.length) (by omega)
  obtain ⟨a, b, d⟩ := rp.at hq
  rw [lsP_at wl fs hi, FlP_at wl fs Fs hi]
  exact ⟨hq, a, b, d⟩
theorem PkV.ar {n : Nat} {M M' : Mgr} {fs wl : List Int} {Fs : List BF} (h : PkV n M wl fs Fs) (wf : M.WF) (v : ∀ f, M'.vis f = M.vis f) (s : ∀ f, M.vis f = true → ∀ a, M'.sem f a = M.sem f a) : PkV n M' wl fs Fs := fun i hi => by
  obtain ⟨h1, h2, h3, h4⟩ := h i hi
  obtain ⟨m, hm, _, hv⟩ := Mgr.valid_nat wf h2
  refine ⟨h1, ?_, fun a => ?_, h4⟩
  · unfold Mgr.valid at h2 ⊢
    rw [v]; exact h2
  · rw [← h3, hm, Int.toNat_natCast, s m hv]
theorem PkV.mem {n : Nat} {M : Mgr} {fs wl : List Int} {Fs : List BF} (h : PkV n M wl fs Fs) {f : Int} (hf : f ∈ lsP wl fs) : M.valid f = true := by
  obtain ⟨i, hi, rfl⟩ := List.getElem_of_mem hf
  have hi' := hi
  rw [lsP_len] at hi'
  have := (h i hi').2.1
  rw [List.getD_eq_getElem?_getD, List.getElem?_eq_getElem hi] at this
  exact this
theorem PkV.vld {n : Nat} {M : Mgr} {fs wl : List Int} {Fs : List BF} (h : PkV n M wl fs Fs) : (Go.Proofs.Ytngbodmooddjbaa.vld M (lsP wl fs)).map M.sem = FlP wl fs Fs := by
  have e : (lsP wl fs).filter (fun f => M.valid f) = lsP wl fs := List.filter_eq_self.2 (fun f hf => h.mem hf)
  unfold Go.Proofs.Ytngbodmooddjbaa.vld
  rw [e, List.map_map]
  refine List.ext_getElem (by rw [List.length_map, lsP_len, FlP_len]) (fun i h1 h2 => ?_)
  have hi : i < wl.length := by rw [FlP_len] at h2; exact h2
  have hl : i < (lsP wl fs).length := by rw [lsP_len]; exact hi
  have := (h i hi).2.2.1
  rw [List.getElem_map]
  funext a
  have := this a
  rw [List.getD_eq_getElem?_getD, List.getElem?_eq_getElem hl, List.getD_eq_getElem?_getD, List.getElem?_eq_getElem h2] at this
  exact this
theorem PkV.rd {n : Nat} {M : Mgr} {fs wl : List Int} {Fs : List BF} (h : PkV n M wl fs Fs) : ∀ G, G ∈ FlP wl fs Fs → Rd 0 n G := fun G hG => by
  obtain ⟨i, hi, rfl⟩ := List.getElem_of_mem hG
  have hi' := hi
  rw [FlP_len] at hi'
  have := (h i hi').2.2.2
  rw [List.getD_eq_getElem?_getD, List.getElem?_eq_getElem hi] at this
  exact fun a b hab => this a b (fun v hv => hab v (Nat.zero_le _) hv)

structure PkJ (w : World) (p n : Nat) (x : World) (M : Mgr) (L : Lay) (fv tv : Value) (fs : List Int) (Fs : List BF) (tvs : List Value) (wl : List Int) (lv2 tv2 : Value) : Prop where
  fr : Front w p n x M L fv tv fs Fs tvs
  lr : x.ownsRow w.heap.size 27 1 lv2 wl.length ((lsP wl fs).map intV)
  tr : x.ownsRow w.heap.size 45 1 tv2 wl.length (tlsP wl fs tvs)
  lo : Off L p lv2
  to_ : Off L p tv2
section
variable {w : World} {p n : Nat} {x y : World} {M : Mgr} {L : Lay} {fv tv : Value} {fs : List Int} {Fs : List BF} {tvs : List Value} {wl : List Int} {lv2 tv2 : Value}
theorem PkJ.no (j : PkJ w p n x M L fv tv fs Fs tvs wl lv2 tv2) (k : Kp No x y) : PkJ w p n y M L fv tv fs Fs tvs wl lv2 tv2 :=
  ⟨j.fr.no k, ownsRow_kp j.lr k (fun _ _ h => h), ownsRow_kp j.tr k (fun _ _ h => h), j.lo, j.to_⟩
theorem Off.fresh {L L' : Lay} {v : Value} (h : Off L p v) (f : ∀ k, L'.at p k → L.at p k ∨ x.heap.size ≤ k) (l : ∀ k, v.ownBlock = some k → k < x.heap.size) : Off L' p v := fun k hk hx => by
  rcases f k hx with h1 | h1
  · exact h k hk h1
  · have := l k hk; omega
theorem Front.ar {l : List Nat} (j : Front w p n x M L fv tv fs Fs tvs) (h : ArS x p M L l y) : ∃ M' L', Front w p n y M' L' fv tv fs Fs tvs ∧ M'.order = l ∧ (∀ f, M'.vis f = M.vis f) ∧ (∀ f, M.vis f = true → ∀ a, M'.sem f a = M.sem f a) ∧ M'.nodes.length ≤ M.nodes.length + ((visF M).length * 3 ^ M.n + M.n + 2) ∧ Kp (L.at p) x y ∧ ∀ k, L'.at p k → L.at p k ∨ x.heap.size ≤ k := by
  obtain ⟨M', L', r, o, v, s, nb, kp, f⟩ := h
  refine ⟨M', L', ⟨⟨r, j.own.kp.trans (A' := L.at p) (fun a ha => .inr (j.own.own a ha)) kp, fun a ha => ?_⟩, ownsRow_kp j.frow kp j.fo, ownsRow_kp j.trow kp j.tof, j.fo.fresh f (fun k hk => (j.frow.lt k hk).2), j.tof.fresh f (fun k hk => (j.trow.lt k hk).2), j.tlen, j.flen,
    fun i z F h1 h2 => ⟨(j.tabs i z F h1 h2).1.kp kp (j.tabs i z F h1 h2).2, (j.tabs i z F h1 h2).2.fresh f (fun k hk => ((j.tabs i z F h1 h2).1.lt k hk).2)⟩⟩, o, v, s, nb, kp, f⟩
  rcases f a ha with h1 | h1
  · exact j.own.own a h1
  · have := j.own.kp.size; omega
theorem PkJ.ar {l : List Nat} (j : PkJ w p n x M L fv tv fs Fs tvs wl lv2 tv2) (h : ArS x p M L l y) : ∃ M' L', PkJ w p n y M' L' fv tv fs Fs tvs wl lv2 tv2 ∧ M'.order = l ∧ (∀ f, M'.vis f = M.vis f) ∧ (∀ f, M.vis f = true → ∀ a, M'.sem f a = M.sem f a) ∧ M'.nodes.length ≤ M.nodes.length + ((visF M).length * 3 ^ M.n + M.n + 2) ∧ Kp (L.at p) x y ∧ ∀ k, L'.at p k → L.at p k ∨ x.heap.size ≤ k := by
  obtain ⟨M', L', fr, o, v, s, nb, kp, f⟩ := j.fr.ar h
  exact ⟨M', L', ⟨fr, ownsRow_kp j.lr kp j.lo, ownsRow_kp j.tr kp j.to_, j.lo.fresh f (fun k hk => (j.lr.lt k hk).2), j.to_.fresh f (fun k hk => (j.tr.lt k hk).2)⟩, o, v, s, nb, kp, f⟩
theorem PkJ.tabs (j : PkJ w p n x M L fv tv fs Fs tvs wl lv2 tv2) (pk : PkV n M wl fs Fs) : Tabs n x tv2 (tlsP wl fs tvs) (FlP wl fs Fs) := by
  refine ⟨by rw [tlsP_len]; exact SrcAt.of_row j.tr, by rw [FlP_len, tlsP_len], fun i hi => ?_⟩
  rw [tlsP_len] at hi
  rw [tlsP_at wl fs tvs hi, FlP_at wl fs Fs hi]
  exact (j.fr.tabAt (pk i hi).1).1.mono (Nat.zero_le _)
theorem PkJ.lsrc (j : PkJ w p n x M L fv tv fs Fs tvs wl lv2 tv2) : SrcAt x lv2 1 (lsP wl fs).length ((lsP wl fs).map intV) := by
  rw [lsP_len]; exact SrcAt.of_row j.lr
end

/-- The loop that picks. -/
def PkR (w4 : World) (fs : List Int) (tvs : List Value) (wl : List Int) (gk : Nat) (s11 s12 s13 : Value) (x : World) : Prop :=
  ∃ k lv tv2, k + gk = wl.length ∧ s13 = .int .i64 (k : Int) ∧ lv = s11 ∧ tv2 = s12 ∧
    x.ownsRow w4.heap.size 27 1 lv k ((List.range k).map fun i => .int .i64 (fs.getD (pckd wl fs.length i) 0)) ∧
    x.ownsRow w4.heap.size 45 1 tv2 k ((List.range k).map fun i => tvs.getD (pckd wl fs.length i) (.bool false)) ∧ Kp No w4 x
theorem PkR.done {w w4 : World} {p n : Nat} {M : Mgr} {L : Lay} {fv tv : Value} {fs : List Int} {Fs : List BF} {tvs : List Value} {wl : List Int} {lv tv2 : Value} {x : World} (fr : Front w p n w4 M L fv tv fs Fs tvs)
    (h1 : x.ownsRow w4.heap.size 27 1 lv wl.length ((List.range wl.length).map fun i => .int .i64 (fs.getD (pckd wl fs.length i) 0))) (h2 : x.ownsRow w4.heap.size 45 1 tv2 wl.length ((List.range wl.length).map fun i => tvs.getD (pckd wl fs.length i) (.bool false)))
    (kp : Kp No w4 x) : PkJ w p n x M L fv tv fs Fs tvs wl lv tv2 :=
  ⟨fr.no kp, by rw [lsP_row]; exact ownsRow_mono h1 fr.own.kp.size, ownsRow_mono h2 fr.own.kp.size, fun k hk hx => by have := (h1.lt k hk).1; have := fr.own.rep.lt k hx; omega, fun k hk hx => by have := (h2.lt k hk).1; have := fr.own.rep.lt k hx; omega⟩
end Go.Proofs.Ytngbodmooddjbaa
