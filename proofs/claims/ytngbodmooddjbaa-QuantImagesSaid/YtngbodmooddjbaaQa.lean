/-
  Walks: 'AndExists', 'Exists' of the package quant, told by the functions that the Refs denote.
-/
import Derived.Test.YtngbodmooddjbaaQx
namespace Go.Proofs.Ytngbodmooddjbaa
open Go.RowKit

theorem Mgr.Pro.ops {M M' : Mgr} {l : List Nat} {F : Bfn} {r N : Nat} (h : M.WF) (pr : Mgr.Pro M l F M' r) (ls : Listed (M.ProF l F) N) : Mgr.OpS M (exQ l F) N (M'.show r) (r : Int) :=
  Mgr.show_ops (B := (M', r)) h pr.ad.wf pr.ad.ext pr.st pr.sem (pr.ad.len ls)

theorem natInt (l : List Nat) : (l.map Int.ofNat).map intV = l.map natV := by rw [List.map_map]; rfl

/-- What is left of the state when the memo is forgotten. -/
theorem Sk.sd {w w1 w2 : World} {p bs : Nat} {L L2 : Lay} {X : List (Nat × Obj)} {I : Mgr → World → Prop} {M2 : Mgr} (k : Kp No w w1) (hb : w.heap.size ≤ bs) (s : Sk w1 p L bs X I w2 M2 L2) : Sd w p L w2 M2 L2 :=
  ⟨s.rep, (k.no_trans s.kp).mono (fun x hx h => h.resolve_right (by omega)), fun x hx => by
    rcases s.fr x hx with h | h
    · exact .inl h
    · right; have := k.size; omega⟩

/-- What 'AndExists' leaves. -/
def AxPost (p : Nat) (M : Mgr) (L : Lay) (l : List Nat) (F : Bfn) (w : World) (e : Ending) (w' : World) : Prop := ∃ (M' : Mgr) (r : Nat), Ret p L w (M'.show r) (.int .i64 (r : Int)) e w' ∧ Mgr.Pro M l F M' r

set_option maxRecDepth 100000 in
set_option maxHeartbeats 4000000 in
theorem AndExists_ok {p : Nat} {M : Mgr} {L : Lay} (f g : Nat) (l : List Nat) (hl : l.length ≤ 1000000) (hlv : ∀ v, v ∈ l → v < M.n) (hf : M.valid (f : Int) = true) (hg : M.valid (g : Int) = true) {dv : Value} {w : World} (R : Rep w p M L) (hn : M.n ≤ 256) (hd : SrcAt w dv 1 l.length (l.map natV))
    (hb : ∀ M', Mgr.Adds M M' (M.ProF l (andF M f g)) → M'.nodes.length ≤ big) :
    Calls Try.prog 16 #[ptr p, .int .i64 (f : Int), .int .i64 (g : Int), dv] w (AxPost p M L l (andF M f g) w) := by
  have VF := Lib.hid (valid_as (f : Int) true R hf)
  have VG := Lib.hid (valid_as (g : Int) true R hg)
  have VV := Lib.hid (variables_ok (l.map Int.ofNat) (by rw [List.length_map]; exact hl) R (dv := dv) (by rw [List.length_map, natInt]; exact hd))
  rw [varsB_of hlv] at VV
  have NQ := Lib.hid (newQuantifier_ok l hl hlv R hn hd)
  have sf : M.stored f := by obtain ⟨k, hk, sk, _⟩ := Mgr.valid_nat R.wf hf; rw [show f = k from by omega]; exact sk
  have sg : M.stored g := by obtain ⟨k, hk, sk, _⟩ := Mgr.valid_nat R.wf hg; rw [show g = k from by omega]; exact sk
  have PR : Hid (∀ (x : World) (Q : QL), NqJ w p M.n M.lev Q l x → Calls Try.prog 55 #[ptr Q.bq, .int .i64 (f : Int), .int .i64 (g : Int)] x (QPost p L Q.bs l (Q.X p M.n l M.lev) x M (andF M f g))) := Lib.hid (fun x Q j =>
    product_ok (fun v hv _ => j.la v hv) hn (M.n + 1) M L _ f g x (fun _ h => h) (j.sk R) rfl (fun _ => rfl) sf sg (by omega) (by omega) hb)
  obtain ⟨ao, cp, rfl⟩ := hd.form
  clear hd R hlv sf sg hb hf hg
  go_enter Try.func16, Try.ntmps16
  go_wp2_with fail
  refine VF.out.mono ?_
  rintro e w' ⟨rfl, rfl⟩
  go_wp2_with fail
  refine VG.out.mono ?_
  rintro e w' ⟨rfl, rfl⟩
  go_wp2_with fail
  refine VV.out.mono ?_
  rintro e w' ⟨rfl, rfl⟩
  clear VF VG VV
  go_wp2_with fail
  refine NQ.out.mono ?_
  rintro e w1 ⟨Q, rfl, j⟩
  have J := Lib.hid j
  have PC := Lib.hid (PR.out w1 Q j)
  clear j NQ PR
  go_wp2_with fail
  refine PC.out.mono ?_
  rintro e w2 ⟨M2, r, L2, rfl, s2, pr⟩
  have D2 := Lib.hid (Sk.sd J.out.kp J.out.ns s2)
  have P2 := Lib.hid pr
  have SH := Lib.hid (show_ok r s2.rep pr.st)
  clear s2 pr PC
  go_wp2_with fail
  refine SH.out.mono ?_
  intro e w3 h3
  obtain ⟨rfl, L3, d3⟩ := D2.out.step h3
  have RET : Hid (AxPost p M L l (andF M f g) w (.returned (.int .i64 (r : Int))) w3) := Lib.hid ⟨M2, r, d3.ret _, P2.out⟩
  clear h3 d3 D2 P2 SH
  go_wp2_with fail
  go_ret
  exact RET.out

section
variable {p n c : Nat} {M : Mgr} {L : Lay} {wr : World} {B : List (Int × Bfn)} {f g : Int} {F G : Bfn}

theorem andF_eq (b : Qk n c M B) (hf : (f, F) ∈ B) (hg : (g, G) ∈ B) : ∃ fn gn : Nat, f = (fn : Int) ∧ g = (gn : Int) ∧ M.valid (fn : Int) = true ∧ M.valid (gn : Int) = true ∧ andF M fn gn = fun a => F a && G a := by
  obtain ⟨v1, s1⟩ := b.at hf
  obtain ⟨v2, s2⟩ := b.at hg
  obtain ⟨fn, rfl, _⟩ := Mgr.valid_nat b.wf v1
  obtain ⟨gn, rfl, _⟩ := Mgr.valid_nat b.wf v2
  refine ⟨fn, gn, rfl, rfl, v1, v2, funext fun a => ?_⟩
  unfold andF
  rw [← s1, ← s2, Int.toNat_natCast, Int.toNat_natCast]

theorem AndExQ (R : Rep wr p M L) (b : Qk n c M B) (hf : (f, F) ∈ B) (hg : (g, G) ∈ B) (l : List Nat) (hl : l.length ≤ 1000000) (hlv : ∀ v, v ∈ l → v < n) (hn : n ≤ 256) {dv : Value} (hd : SrcAt wr dv 1 l.length (l.map natV)) {N : Nat}
    (hN : ∀ M : Mgr, M.n = n → M.Plain → Listed (M.ProF l (fun a => F a && G a)) N) (hc : c + N ≤ 1000000000000) :
    Calls Try.prog 16 #[ptr p, .int .i64 f, .int .i64 g, dv] wr (OpQ p n (c + N) L wr (exQ l (fun a => F a && G a)) B) := by
  obtain ⟨fn, gn, rfl, rfl, v1, v2, e⟩ := andF_eq b hf hg
  have ls := hN M b.nn b.pl
  rw [← e] at ls
  have := b.cost
  refine (AndExists_ok fn gn l hl (fun v hv => by rw [b.nn]; exact hlv v hv) v1 v2 R (by rw [b.nn]; exact hn) hd (fun M' ad => by have := ad.len ls; unfold big; omega)).mono ?_
  rintro x w' ⟨M', r, ret, pr⟩
  have o := pr.ops b.wf ls
  rw [e] at o
  exact OpQ.of b o (Nat.le_refl _) ret

set_option maxHeartbeats 400000 in
theorem ExistsQ (R : Rep wr p M L) (b : Qk n c M B) (hf : (f, F) ∈ B) (l : List Nat) (hl : l.length ≤ 1000000) (hlv : ∀ v, v ∈ l → v < n) (hn : n ≤ 256) {dv : Value} (hd : SrcAt wr dv 1 l.length (l.map natV)) {N : Nat}
    (hN : ∀ M : Mgr, M.n = n → M.Plain → Listed (M.ProF l F) N) (hc : c + N ≤ 1000000000000) :
    Calls Try.prog 25 #[ptr p, .int .i64 f, dv] wr (OpQ p n (c + N) L wr (exQ l F) B) := by
  have e : (fun a => F a && true) = F := by funext a; simp
  have AE := Lib.hid (AndExQ (g := 1) (G := fun _ => true) R b.consts (.tail _ (.tail _ hf)) (.tail _ (.head _)) l hl hlv hn hd (N := N) (by rw [e]; exact hN) hc)
  rw [e] at AE
  have FIN : Hid (∀ (r : Int) (x : World), OpQ p n (c + N) L wr (exQ l F) ((0, fun _ => false) :: (1, fun _ => true) :: B) (.returned (.int .i64 r)) x → OpQ p n (c + N) L wr (exQ l F) B (.returned (.int .i64 r)) x) := Lib.hid (fun r x h => by
    obtain ⟨r', M', ret, q, h0⟩ := h
    exact ⟨r', M', ret, q.sub (fun y hy => by
      rcases List.mem_cons.1 hy with rfl | hy
      · exact .head _
      · exact .tail _ (.tail _ (.tail _ hy))), h0⟩)
  have FORM : Hid (∀ (e : Ending) (x : World), OpQ p n (c + N) L wr (exQ l F) ((0, fun _ => false) :: (1, fun _ => true) :: B) e x → ∃ r, e = .returned (.int .i64 r)) := Lib.hid (fun e x h => by
    obtain ⟨r', M', ret, q, h0⟩ := h
    obtain ⟨_, he, _⟩ := ret
    exact ⟨r', he⟩)
  obtain ⟨ao, cp, rfl⟩ := hd.form
  clear hd R b hN hlv hf e
  go_enter Try.func25, Try.ntmps25
  go_wp2_with fail
  refine AE.out.mono ?_
  intro e w1 h1
  obtain ⟨r, rfl⟩ := FORM.out e w1 h1
  have RET := Lib.hid (FIN.out r w1 h1)
  clear h1 AE FIN FORM
  go_wp2_with fail
  go_ret
  exact RET.out
end

end Go.Proofs.Ytngbodmooddjbaa
