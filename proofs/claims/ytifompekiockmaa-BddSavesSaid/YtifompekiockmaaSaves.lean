/-
  Walks: the law BddSaves.
-/
import Derived.Test.YtifompekiockmaaSavesP
import Derived.Test.YtifompekiockmaaShaped
import Derived.Test.YtifompekiockmaaRowB
import Derived.Test.YtifompekiockmaaLoad
namespace Go.Proofs.Ytifompekiockmaa
open Go.RowKit

theorem bk_new {n : Nat} : Bk n 2 (Mgr.new n) [] := ⟨Mgr.new_wf n, Mgr.new_n n, by simp [Mgr.new], fun x hx => by simp at hx⟩

/-- 'Run' in one manager of two. -/
theorem Run_two {p n : Nat} {L : Lay} (hn : n ≤ 6) (hn1 : 1 ≤ n) {l : List Stp} {sv : Value} {w w1 : World} (R : Rep w1 p (Mgr.new n) L) (hlen : l.length ≤ 40) (hs : StepsAt w sv l) (hB : Below w.heap.size w w1) (ho : ∀ x, L.at p x → w.heap.size ≤ x) :
    Calls Try.prog 33 #[ptr p, .int .i64 (n : Int), sv] w1 fun e w2 => ∃ fv tv L2 tvs, e = .returned (.tuple #[fv, tv]) ∧ RJ w1 p n L w2 (runM (Mgr.new n) n l).1 L2 fv tv (runM (Mgr.new n) n l).2 (runF n l) tvs := by
  have hoff : ∀ g o n c, sv = .slice (some ⟨g, o, none⟩) n c → l ≠ [] → g < w.heap.size := fun g o n c e hne => by
    obtain ⟨ao, c', hv, h⟩ := hs
    rcases h with h | ⟨g', o', rfl, hg, _⟩
    · exact (hne h).elim
    · rw [hv] at e; cases e; exact hg
  have kp : Kp (fun x => w.heap.size ≤ x) w w1 := ⟨hB.os, hB.tape, hB.output, hB.size, fun k hk _ => hB.block k hk⟩
  have hs1 : StepsAt w1 sv l := hs.kp kp (fun he g o n c e hx => by have := hoff g o n c e he; omega)
  refine (Run_ok hn hn1 l R (Mgr.new_n n) hlen (by simp [Mgr.new]) hs1 (fun he g o n' c e hx => ?_)).mono ?_
  · have := hoff g o n' c e he
    have := ho g hx
    omega
  · rintro e w2 ⟨fv, tv, L2, tvs, rfl, j⟩
    exact ⟨fv, tv, L2, tvs, rfl, j⟩

/-- The state while both managers are there: the first one at p, its run began at block number B; the second one, at q, new, lies below B. -/
structure Two (w : World) (B p q n : Nat) (x : World) (M : Mgr) (L Lo : Lay) : Prop where
  kp : Kp No w x
  rm : Rep x p M L
  ro : Rep x q (Mgr.new n) Lo
  oo : ∀ b, Lo.at q b → w.heap.size ≤ b ∧ b < B ∧ ¬ L.at p b
  om : ∀ b, L.at p b → w.heap.size ≤ b
theorem Two.no {w : World} {B p q n : Nat} {x y : World} {M : Mgr} {L Lo : Lay} (j : Two w B p q n x M L Lo) (k : Kp No x y) : Two w B p q n y M L Lo := ⟨j.kp.trans_no k, j.rm.no k, j.ro.no k, j.oo, j.om⟩

def picked (which : List Int) (N : Nat) (k : Nat) : Nat := pick (which.getD k 0) N
def SvR1 (w4 : World) (which fs : List Int) (tvs : List Value) (gk : Nat) (s11 s12 s13 : Value) (x : World) : Prop :=
  ∃ k lv tv, k + gk = which.length ∧ s13 = .int .i64 (k : Int) ∧ lv = s11 ∧ tv = s12 ∧
    x.ownsRow w4.heap.size 26 1 lv k ((List.range k).map fun i => .int .i64 (fs.getD (picked which fs.length i) 0)) ∧
    x.ownsRow w4.heap.size 43 1 tv k ((List.range k).map fun i => tvs.getD (picked which fs.length i) (.bool false)) ∧ Kp No w4 x

/-- What the last loop reads. -/
structure SvE (w : World) (q n : Nat) (x : World) (Mo : Mgr) (av sv lv ov tv : Value) (N : Nat) (ats ls ss os : List Int) (tls : List Value) (Fl : List BF) : Prop where
  kp : Kp No w x
  rep : ∃ L, Rep x q Mo L
  asrc : SrcAt x av 1 ls.length (ats.map intV)
  ssrc : SrcAt x sv 1 N (ss.map intV)
  lsrc : SrcAt x lv 1 ls.length (ls.map intV)
  osrc : SrcAt x ov 1 N (os.map intV)
  tsrc : SrcAt x tv 1 ls.length tls
  al : ats.length = ls.length
  tl : tls.length = ls.length
  sl : ss.length = N
  ol : os.length = N
  tabs : ∀ i, i < ls.length → Tb 0 x (tls.getD i (.bool false)) (tab n (Fl.getD i (fun _ => false)))
  ok : ∀ i, i < ls.length → 2 ≤ ats.getD i 0 → ats.getD i 0 < (N : Int) + 2 ∧ ss.getD (ats.getD i 0 - 2).toNat 0 = ls.getD i 0 ∧ Mo.valid (os.getD (ats.getD i 0 - 2).toNat 0) = true ∧ (∀ a, Mo.sem (os.getD (ats.getD i 0 - 2).toNat 0).toNat a = Fl.getD i (fun _ => false) a) ∧ Upto n (Fl.getD i (fun _ => false))
theorem SvE.no {w : World} {q n : Nat} {x y : World} {Mo : Mgr} {av sv lv ov tv : Value} {N : Nat} {ats ls ss os : List Int} {tls : List Value} {Fl : List BF} (j : SvE w q n x Mo av sv lv ov tv N ats ls ss os tls Fl) (k : Kp No x y) : SvE w q n y Mo av sv lv ov tv N ats ls ss os tls Fl := by
  obtain ⟨L, R⟩ := j.rep
  exact ⟨j.kp.trans_no k, ⟨L, R.no k⟩, j.asrc.no k, j.ssrc.no k, j.lsrc.no k, j.osrc.no k, j.tsrc.no k, j.al, j.tl, j.sl, j.ol, fun i hi => (j.tabs i hi).no k, j.ok⟩

/-- The picked Refs, tables and functions. -/
def lsOf (wl fs : List Int) : List Int := (List.range wl.length).map fun i => fs.getD (picked wl fs.length i) 0
def tlsOf (wl fs : List Int) (tvs : List Value) : List Value := (List.range wl.length).map fun i => tvs.getD (picked wl fs.length i) (.bool false)
def FlOf (wl fs : List Int) (Fs : List BF) : List BF := (List.range wl.length).map fun i => Fs.getD (picked wl fs.length i) (fun _ => false)
theorem lsOf_len (wl fs : List Int) : (lsOf wl fs).length = wl.length := by simp [lsOf]
theorem tlsOf_len (wl fs : List Int) (tvs : List Value) : (tlsOf wl fs tvs).length = wl.length := by simp [tlsOf]
theorem lsOf_at (wl fs : List Int) {i : Nat} (hi : i < wl.length) : (lsOf wl fs).getD i 0 = fs.getD (picked wl fs.length i) 0 := by simp [lsOf, hi]
theorem tlsOf_at (wl fs : List Int) (tvs : List Value) {i : Nat} (hi : i < wl.length) : (tlsOf wl fs tvs).getD i (.bool false) = tvs.getD (picked wl fs.length i) (.bool false) := by simp [tlsOf, hi]
theorem FlOf_at (wl fs : List Int) (Fs : List BF) {i : Nat} (hi : i < wl.length) : (FlOf wl fs Fs).getD i (fun _ => false) = Fs.getD (picked wl fs.length i) (fun _ => false) := by simp [FlOf, hi]
theorem lsOf_row (wl fs : List Int) : (lsOf wl fs).map intV = (List.range wl.length).map fun i => (Value.int .i64 (fs.getD (picked wl fs.length i) 0)) := by unfold lsOf; rw [List.map_map]; rfl

/-- What is known of the picked Refs. -/
structure PkP (n : Nat) (M : Mgr) (wl fs : List Int) (Fs : List BF) (V : List Nat) (R : List Int) : Prop where
  sav : SavedP M (lsOf wl fs) V R
  at_ : ∀ i, i < wl.length → picked wl fs.length i < fs.length ∧ M.valid ((lsOf wl fs).getD i 0) = true ∧ (∀ a, M.sem ((lsOf wl fs).getD i 0).toNat a = (FlOf wl fs Fs).getD i (fun _ => false) a) ∧ Upto n ((FlOf wl fs Fs).getD i (fun _ => false))
  st : ∀ f, f ∈ (lsOf wl fs).map Int.toNat → M.stored f

theorem pkp {n c : Nat} {M : Mgr} {fs wl : List Int} {Fs : List BF} (rp : RP n c M fs Fs) : ∃ V R, PkP n M wl fs Fs V R := by
  have hpos := rp.pos
  have hat : ∀ i, i < wl.length → picked wl fs.length i < fs.length ∧ M.valid ((lsOf wl fs).getD i 0) = true ∧ (∀ a, M.sem ((lsOf wl fs).getD i 0).toNat a = (FlOf wl fs Fs).getD i (fun _ => false) a) ∧ Upto n ((FlOf wl fs Fs).getD i (fun _ => false)) := fun i hi => by
    have hq := pick_lt (wl.getD i 0) (n := fs.length) (by omega)
    obtain ⟨a, b, d⟩ := rp.at hq
    rw [lsOf_at wl fs hi, FlOf_at wl fs Fs hi]
    exact ⟨hq, a, b, d⟩
  have hv : ∀ f, f ∈ lsOf wl fs → M.valid f = true := fun f hf => by
    obtain ⟨i, hi, rfl⟩ := List.mem_iff_getElem.1 hf
    have hi2 : i < wl.length := by rw [← lsOf_len wl fs]; exact hi
    have := (hat i hi2).2.1
    simpa [hi] using this
  obtain ⟨V, R, sp⟩ := saved rp.wf hv
  refine ⟨V, R, sp, hat, fun f hf => ?_⟩
  obtain ⟨g, hg, rfl⟩ := List.mem_map.1 hf
  obtain ⟨k, rfl, sk, _⟩ := Mgr.valid_nat rp.wf (hv g hg)
  rw [Int.toNat_natCast]; exact sk

/-- The tables of the picked Refs. -/
theorem pk_tabs {n c : Nat} {M : Mgr} {wl fs : List Int} {Fs : List BF} {V : List Nat} {R : List Int} (rp : RP n c M fs Fs) (pk : PkP n M wl fs Fs V R) {w4 y : World} {B : Nat} {tvs : List Value} {tv : Value} (ky : Kp No w4 y)
    (tb : ∀ i, i < fs.length → Tb B w4 (tvs.getD i (.bool false)) (tab n (Fs.getD i (fun _ => false)))) (row : SrcAt y tv 1 wl.length (tlsOf wl fs tvs)) : TabsV M y tv (tlsOf wl fs tvs) ((lsOf wl fs).map Int.toNat) := by
  refine ⟨by rw [tlsOf_len]; exact row, by simp [lsOf_len, tlsOf_len], fun i hi => ?_⟩
  rw [tlsOf_len] at hi
  obtain ⟨h1, h2, h3, h4⟩ := pk.at_ i hi
  rw [tlsOf_at wl fs tvs hi]
  have e : (((lsOf wl fs).map Int.toNat).map M.sem).getD i (fun _ => false) = Fs.getD (picked wl fs.length i) (fun _ => false) := by
    have hl : i < (lsOf wl fs).length := by rw [lsOf_len]; exact hi
    have e1 : (((lsOf wl fs).map Int.toNat).map M.sem).getD i (fun _ => false) = M.sem ((lsOf wl fs).getD i 0).toNat := by simp [hl]
    rw [e1, ← FlOf_at wl fs Fs hi]
    exact funext h3
  rw [e, rp.nn]
  exact ((tb _ h1).no ky).mono (Nat.zero_le _)

/-- What both 'Load's answer at the roots. -/
theorem sv_ok {n c c2 c3 : Nat} {M M' Mo : Mgr} {wl fs : List Int} {Fs : List BF} {V : List Nat} {R rs ro : List Int} (rp : RP n c M fs Fs) (pk : PkP n M wl fs Fs V R)
    (bm : Bk n c2 M' (rs.zip (loadF ((V.map (nodeC M V)).map tripOf)) ++ fs.zip Fs)) (bo : Bk n c3 Mo (ro.zip (loadF ((V.map (nodeC M V)).map tripOf)) ++ [])) (hrs : rs.length = V.length + 2) (hro : ro.length = V.length + 2) :
    ∀ i, i < (lsOf wl fs).length → 2 ≤ R.getD i 0 → R.getD i 0 < (V.length : Int) + 2 ∧ (rs.drop 2).getD (R.getD i 0 - 2).toNat 0 = (lsOf wl fs).getD i 0 ∧ Mo.valid ((ro.drop 2).getD (R.getD i 0 - 2).toNat 0) = true ∧ (∀ a, Mo.sem ((ro.drop 2).getD (R.getD i 0 - 2).toNat 0).toNat a = (FlOf wl fs Fs).getD i (fun _ => false) a) ∧ Upto n ((FlOf wl fs Fs).getD i (fun _ => false)) := by
  intro i hi h2
  have hi2 : i < wl.length := by rw [← lsOf_len wl fs]; exact hi
  obtain ⟨h1, hv, hs, hu⟩ := pk.at_ i hi2
  obtain ⟨f, hf⟩ : ∃ f, (lsOf wl fs).getD i 0 = f := ⟨_, rfl⟩
  rw [hf] at hv hs ⊢
  have hmem : f.toNat ∈ (lsOf wl fs).map Int.toNat := List.mem_map.2 ⟨f, by rw [← hf]; simp [hi], rfl⟩
  have sav := pk.sav.sav
  have hV := pk.sav.vw
  have hR : R.getD i 0 = (code0 V f.toNat : Int) := by
    rw [pk.sav.rr, ← hf]
    simp [hi]
  rw [hR] at h2 ⊢
  have hin : f.toNat < 2 ∨ f.toNat ∈ V := by
    rcases Nat.lt_or_ge f.toNat 2 with x | x
    · exact .inl x
    · exact .inr (pk.sav.mem _ hmem x)
  have hlt : code0 V f.toNat < V.length + 2 := by
    have := sav.code_lt (c := f.toNat) (by rw [← hV]; exact hin)
    rw [← hV] at this; exact this
  have hload : (loadF ((V.map (nodeC M V)).map tripOf)).getD (code0 V f.toNat) (fun _ => false) = M.sem f.toNat := by
    have := sav.loadAll rp.wf (c := f.toNat) (by rw [← hV]; exact hin)
    rw [← hV] at this; exact this
  have hll : (loadF ((V.map (nodeC M V)).map tripOf)).length = V.length + 2 := by rw [loadF_len]; simp
  have e : ((code0 V f.toNat : Int) - 2).toNat = code0 V f.toNat - 2 := by omega
  rw [e]
  have d1 : (rs.drop 2).getD (code0 V f.toNat - 2) 0 = rs.getD (code0 V f.toNat) 0 := by
    simp only [List.getD_eq_getElem?_getD, List.getElem?_drop]
    rw [show 2 + (code0 V f.toNat - 2) = code0 V f.toNat by omega]
  have d2 : (ro.drop 2).getD (code0 V f.toNat - 2) 0 = ro.getD (code0 V f.toNat) 0 := by
    simp only [List.getD_eq_getElem?_getD, List.getElem?_drop]
    rw [show 2 + (code0 V f.toNat - 2) = code0 V f.toNat by omega]
  rw [d1, d2]
  have m1 := mem_zip (fs := rs) (Fs := loadF ((V.map (nodeC M V)).map tripOf)) (i := code0 V f.toNat) (by omega) (by omega)
  have m2 := mem_zip (fs := ro) (Fs := loadF ((V.map (nodeC M V)).map tripOf)) (i := code0 V f.toNat) (by omega) (by omega)
  rw [hload] at m1 m2
  have m3 := mem_zip (fs := fs) (Fs := Fs) h1 rp.len
  rw [← lsOf_at wl fs hi2, ← FlOf_at wl fs Fs hi2, hf] at m3
  obtain ⟨o1, o2, o3⟩ := bo.at (List.mem_append_left _ m2)
  refine ⟨by omega, bm.eq (List.mem_append_left _ m1) (List.mem_append_right _ m3) hs, o1, fun a => by rw [o2, hs], hu⟩

/-- The row of the picked entries. -/
theorem sv_range (k : Nat) {α : Type} (f : Nat → α) : (List.range (k + 1)).map f = (List.range k).map f ++ [f k] := by rw [List.range_succ, List.map_append]; rfl

theorem row_off {w : World} {B e size n g o m q : Nat} {v : Value} {xs : List Value} (h : w.ownsRow B e size v n xs) (hv : v = .slice (some ⟨g, o, none⟩) m q) : B ≤ g :=
  (h.lt g (by
    rcases h.2 with ⟨hx', _⟩ | ⟨g', cap', cur', hv2, _⟩
    · rw [hx'] at hv; cases hv
    · rw [hv2] at hv ⊢; cases hv; rfl)).1

theorem SrcAt.intCell {w : World} {v : Value} {n g o m c : Nat} {l : List Int} (h : SrcAt w v 1 n (l.map intV)) (hv : v = .slice (some ⟨g, o, none⟩) m c) {i : Nat} (hi : i < l.length) : w.cell? ⟨g, o + i, none⟩ = some (.int .i64 (l.getD i 0)) := by
  obtain ⟨ao, c', hv', hl, hh⟩ := h
  rcases hh with h0 | ⟨g', o', rfl, hg, hc⟩
  · simp at hl; omega
  · rw [hv] at hv'; cases hv'; exact hc i _ (by simp [hi, intV])
theorem SrcAt.valCell {w : World} {v : Value} {n g o m c : Nat} {l : List Value} (h : SrcAt w v 1 n l) (hv : v = .slice (some ⟨g, o, none⟩) m c) {i : Nat} (hi : i < l.length) {d : Value} : w.cell? ⟨g, o + i, none⟩ = some (l.getD i d) := by
  obtain ⟨ao, c', hv', hl, hh⟩ := h
  rcases hh with h0 | ⟨g', o', rfl, hg, hc⟩
  · simp at hl; omega
  · rw [hv] at hv'; cases hv'; exact hc i _ (by simp [hi])
theorem slice_inj {a a' : Option Addr} {n n' c c' : Nat} (h : Value.slice a n c = .slice a' n' c') : a = a' ∧ c = c' := by cases h; exact ⟨rfl, rfl⟩

/-- 'Run' of at most fifteen steps. -/
theorem run_rp15 {n : Nat} (h1 : 1 ≤ n) (h6 : n ≤ 6) (l : List Stp) (h15 : l.length ≤ 15) : RP n 20000 (runM (Mgr.new n) n l).1 (runM (Mgr.new n) n l).2 (runF n l) ∧ (runF n l).length = n + 2 + l.length := by
  have := run_spec (Mgr.new_wf n) (Mgr.new_n n) h6 h1 (c := 2) (by simp [Mgr.new]) l l.length (Nat.le_refl _)
  rw [List.take_length] at this
  refine ⟨⟨this.wf, this.nn, this.len, this.pos, this.sem, ?_⟩, runF_length n l⟩
  have := this.cost
  omega

/-- The state behind both 'Load's. -/
theorem sv_end {w w4 w10 w11 w12 : World} {B pm po n c c1 c2 : Nat} {M M' Mo : Mgr} {L4 Lo L' Lo' : Lay} {wl fs : List Int} {Fs : List BF} {V : List Nat} {R rs ro : List Int} {tvs : List Value} {av ao rv ov atv lv tv : Value}
    (two : Two w B pm po n w4 M L4 Lo) (hB : B ≤ w4.heap.size) (k10 : Kp No w4 w10) (rp : RP n c M fs Fs) (pk : PkP n M wl fs Fs V R)
    (j1 : LoJ w10 pm n c1 L4 (fs.zip Fs) w11 M' L' av rs (loadF ((V.map (nodeC M V)).map tripOf))) (hrs : rs.length = V.length + 2) (s1 : SrcAt w11 rv 1 V.length ((rs.drop 2).map intV)) (g1 : ∀ g o m q, rv = .slice (some ⟨g, o, none⟩) m q → av.ownBlock = some g)
    (j2 : LoJ w11 po n c2 Lo [] w12 Mo Lo' ao ro (loadF ((V.map (nodeC M V)).map tripOf))) (hro : ro.length = V.length + 2) (s2 : SrcAt w12 ov 1 V.length ((ro.drop 2).map intV))
    (hRl : R.length = wl.length) (ra : w10.ownsRow w4.heap.size 3 1 atv wl.length (R.map intV)) (rl : w10.ownsRow w4.heap.size 26 1 lv wl.length ((lsOf wl fs).map intV)) (rt : w10.ownsRow w4.heap.size 43 1 tv wl.length (tlsOf wl fs tvs))
    (tb : ∀ i, i < fs.length → Tb B w4 (tvs.getD i (.bool false)) (tab n (Fs.getD i (fun _ => false))) ∧ Off L4 pm (tvs.getD i (.bool false))) :
    SvE w po n w12 Mo atv rv lv ov tv V.length R (lsOf wl fs) (rs.drop 2) (ro.drop 2) (tlsOf wl fs tvs) (FlOf wl fs Fs) := by
  have kA := j1.sd.kp
  have kB := j2.sd.kp
  have hz := k10.size
  have row : ∀ {e s n v xs}, w10.ownsRow w4.heap.size e s v n xs → w12.ownsRow w4.heap.size e s v n xs := fun h =>
    ownsRow_kp (ownsRow_kp h kA (fun k e x => by have := (h.lt k e).1; have := two.rm.lt k x; omega)) kB (fun k e x => by have := (h.lt k e).1; have := (two.oo k x).2.1; omega)
  refine ⟨((two.kp.trans_no k10).trans (A' := L4.at pm) (fun b hb => .inr (two.om b hb)) kA).trans (A' := Lo.at po) (fun b hb => .inr (two.oo b hb).1) kB, ⟨Lo', j2.sd.rep⟩, ?_, ?_, ?_, s2, ?_, by rw [lsOf_len, hRl], by rw [tlsOf_len, lsOf_len], by simp [hrs], by simp [hro], ?_, ?_⟩
  · rw [lsOf_len]; exact SrcAt.of_row (row ra)
  · exact s1.kp kB (fun _ g o m q e hx => by have := (j1.row.lt g (g1 g o m q e)).1; have := (two.oo g hx).2.1; omega)
  · rw [lsOf_len]; exact SrcAt.of_row (row rl)
  · rw [lsOf_len]; exact SrcAt.of_row (row rt)
  · intro i hi
    rw [lsOf_len] at hi
    rw [tlsOf_at wl fs tvs hi, FlOf_at wl fs Fs hi]
    obtain ⟨t1, t2⟩ := tb _ (pk.at_ i hi).1
    have t3 := ((t1.no k10).kp kA (fun k e => t2 k e))
    exact (t3.kp kB (fun k e x => by have := (ownsRow_kp t1 (Kp.refl No _) (fun _ _ z => z)).lt k e; have := (two.oo k x).2.1; omega)).mono (Nat.zero_le _)
  · exact sv_ok rp pk j1.bk j2.bk hrs hro

set_option maxRecDepth 100000 in
set_option maxHeartbeats 8000000 in
theorem BddSaves_walk (x : Int) (l : List Stp) (wl : List Int) {sv wv : Value} {w : World} (hs : StepsAt w sv l) (hwl : IntsAt w wv wl) :
    Calls Try.prog 14 #[.int .i64 x, sv, wv] w fun e w' => e = .returned (.bool true) ∧ Kp No w w' := by
  obtain ⟨i0, hi0, hz0, hz1, hz2⟩ := info_parts info_ref'
  obtain ⟨j0, hj0, hy0, hy1, hy2⟩ := info_parts info_func'
  obtain ⟨hn1, hn6⟩ := nv_le x
  have VA := Lib.hid (fun w => Vars_ok x w)
  generalize nv x = n at *
  have NEW := Lib.hid (fun (w0 : World) => by have := New_ok (n : Int) w0; rw [nvars_nat (show n ≤ 256 by omega)] at this; exact this)
  have ST := Lib.hid hs
  have WT := Lib.hid hwl
  obtain ⟨ao, c, rfl, _⟩ := hs
  obtain ⟨ao2, c2, rfl, _⟩ := hwl
  by_cases h40 : l.length ≤ 15
  case neg =>
    have hl : (15 : Int) < l.length := by omega
    go_enter Try.func14, Try.ntmps14
    go_wp2_with fail
    refine (awake_ok w).mono ?_
    rintro e w0 ⟨rfl, k0⟩
    have K0 := Lib.hid k0
    clear k0
    go_wp2_with fail
    go_ret
    exact ⟨rfl, K0.out⟩
  have hl : ¬ (15 : Int) < l.length := by omega
  have hld : decide ((15 : Int) < l.length) = false := by simp; omega
  have h40' : l.length ≤ 40 := by omega
  by_cases hw6 : wl.length ≤ 6
  case neg =>
    have hl2 : (6 : Int) < wl.length := by omega
    go_enter Try.func14, Try.ntmps14
    go_wp2_with fail
    refine (awake_ok w).mono ?_
    rintro e w0 ⟨rfl, k0⟩
    have K0 := Lib.hid k0
    clear k0
    go_wp2_with fail
    go_ret
    exact ⟨rfl, K0.out⟩
  have hl2 : ¬ (6 : Int) < wl.length := by omega
  have hld2 : decide ((6 : Int) < wl.length) = false := by simp; omega
  go_enter Try.func14, Try.ntmps14
  go_wp2_with fail
  refine (awake_ok w).mono ?_
  rintro e w0 ⟨rfl, k0⟩
  have K0 := Lib.hid k0
  clear k0
  go_wp2_with fail
  refine (VA.out w0).mono ?_
  rintro e w0' ⟨rfl, rfl⟩
  go_wp2_with fail
  refine (NEW.out w0).mono ?_
  rintro e w1 ⟨pm, Lm, rfl, Rm, km, om⟩
  have RM := Lib.hid Rm
  have KM := Lib.hid km
  have OM := Lib.hid om
  clear Rm km om
  go_wp2_with fail
  refine (NEW.out w1).mono ?_
  rintro e w2 ⟨po, Lo, rfl, Ro, ko, oo⟩
  have RO := Lib.hid Ro
  have KO := Lib.hid ko
  have OO := Lib.hid oo
  have hz0 := K0.out.size
  have hz1 := KM.out.size
  have hz2 := ko.size
  have KW2 := Lib.hid ((K0.out.trans_no KM.out).trans_no ko)
  clear Ro ko oo NEW
  go_wp2_with fail
  refine (Run_two hn6 hn1 (RM.out.no KO.out) h40' ST.out KW2.out.below_all (fun y hy => by have := OM.out y hy; omega)).mono ?_
  rintro e w4 ⟨fv, tv, L4, tvs, rfl, j⟩
  obtain ⟨rp, hFl⟩ := run_rp15 hn1 hn6 l h40
  have hord : (runM (Mgr.new n) n l).1.order = List.range n := runM_order _ _ _
  have TWO : Hid (Two w w2.heap.size pm po n w4 (runM (Mgr.new n) n l).1 L4 Lo) := Lib.hid ⟨KW2.out.trans (A' := Lm.at pm) (fun b hb => .inr (by have := OM.out b hb; omega)) j.sd.kp, j.sd.rep,
    RO.out.kp j.sd.kp (fun b hb hx => by have := RM.out.lt b hb; have := OO.out b hx; omega),
    fun b hb => ⟨by have := OO.out b hb; omega, RO.out.lt b hb, fun hx => by
      have h1 := OO.out b hb
      have h3 := RO.out.lt b hb
      rcases j.sd.fr b hx with h2 | h2
      · have := RM.out.lt b h2; omega
      · omega⟩,
    fun b hb => by
      rcases j.sd.fr b hb with h2 | h2
      · have := OM.out b h2; omega
      · omega⟩
  have hz4 := j.sd.kp.size
  generalize runM (Mgr.new n) n l = X at *
  generalize runF n l = Fs at *
  obtain ⟨M, fs⟩ := X
  simp only at j rp hord TWO
  have hpos := rp.pos
  have hfl : fs.length ≤ 100 := by rw [← j.flen]; omega
  have htl := j.tlen
  obtain ⟨gf, cf, rfl, _⟩ := ownsRow_open j.frow (by omega)
  obtain ⟨gt, ct, hqt, _⟩ := ownsRow_open j.trow (by omega)
  subst hqt
  have CF : Hid (∀ (y : World), Kp No w4 y → ∀ i, i < fs.length → y.cell? ⟨gf, i, none⟩ = some (.int .i64 (fs.getD i 0)) ∧ y.cell? ⟨gt, i, none⟩ = some (tvs.getD i (.bool false))) := Lib.hid (fun y ky i hi => by
    obtain ⟨g1, q1, hv1, _, _, _, hc1, _⟩ := ownsRow_open (ownsRow_kp j.frow ky (fun _ _ z => z)) (by omega)
    obtain ⟨g2, q2, hv2, _, _, _, hc2, _⟩ := ownsRow_open (ownsRow_kp j.trow ky (fun _ _ z => z)) (by omega)
    cases hv1
    cases hv2
    exact ⟨hc1 i _ (by simp [intV, hi]), hc2 i _ (by simp [show i < tvs.length by omega])⟩)
  have TB : Hid (∀ i, i < fs.length → Tb w2.heap.size w4 (tvs.getD i (.bool false)) (tab n (Fs.getD i (fun _ => false))) ∧ Off L4 pm (tvs.getD i (.bool false))) := Lib.hid (fun i hi => j.tabs i _ _ (by simp [show i < tvs.length by omega]) (by simp [show i < Fs.length by rw [j.flen]; exact hi]))
  have RPH := Lib.hid rp
  have HORD := Lib.hid hord
  have hfl0 : 0 < fs.length := by omega
  have lf : gf < w4.heap.size := (j.frow.lt gf rfl).2
  have lt : gt < w4.heap.size := (j.trow.lt gt rfl).2
  have HTL := Lib.hid htl
  rw [htl]
  clear j rp hFl hord RM KM OM RO KO OO VA hz0 hz1 hz2 hpos K0 KW2 htl ST
  have J0 : Hid (SvR1 w4 wl fs tvs wl.length (.slice none 0 0) (.slice none 0 0) (.int .i64 0) w4) := Lib.hid ⟨0, _, _, by omega, rfl, rfl, rfl, World.ownsRow_nil _ _ _ _, World.ownsRow_nil _ _ _ _, Kp.refl _ _⟩
  go_wp2_with fail
  go_loopg [11, 12, 13] wl.length (fun gk s11 s12 s13 wr => SvR1 w4 wl fs tvs gk s11 s12 s13 wr)
  case atStart => exact J0.out
  case round =>
    clear J0
    obtain ⟨k, lv, tv2, hk, rfl, e11, e12, lrow, trow, kp⟩ := hrel
    subst e11 e12
    by_cases hlt : k < wl.length
    · have hq := pick_lt (wl.getD k 0) (n := fs.length) hfl0
      have hpk : picked wl fs.length k = pick (wl.getD k 0) fs.length := rfl
      have PK := Lib.hid (fun y => Pick_ok (wl.getD k 0) fs.length y hfl0 (by omega))
      obtain ⟨ao', c', hv', _, hcells⟩ := WT.out.no (TWO.out.kp.trans_no kp)
      have hv1 : ao2 = ao' := by injection hv'
      subst hv1
      rcases hcells with hcells | ⟨g, o, rfl, hg, hcells⟩
      · rw [hcells] at hlt; simp at hlt
      have hc : wr.cell? ⟨g, o + k, none⟩ = some (.int .i64 (wl.getD k 0)) := hcells k _ (by simp [hlt])
      obtain ⟨cf1, ct1⟩ := CF.out wr kp _ hq
      have SN1 := Lib.hid (sv_range k (fun i => (Value.int .i64 (fs.getD (picked wl fs.length i) 0))))
      have SN2 := Lib.hid (sv_range k (fun i => tvs.getD (picked wl fs.length i) (.bool false)))
      rw [hpk] at SN1 SN2
      have hlti : (k : Int) < wl.length := by omega
      have HK := Lib.hid hk
      have KP := Lib.hid kp
      have hsz := kp.size
      have LR := Lib.hid lrow
      have TR := Lib.hid trow
      clear hk kp hcells hpk hv'
      generalize ((List.range k).map fun i => (Value.int .i64 (fs.getD (picked wl fs.length i) 0))) = lxs at *
      generalize ((List.range k).map fun i => tvs.getD (picked wl fs.length i) (.bool false)) = txs at *
      generalize wl.getD k 0 = y at *
      have hqi : (pick y fs.length : Int) < fs.length := by omega
      generalize pick y fs.length = q at *
      generalize fs.getD q 0 = fq at *
      obtain ⟨gq, cq, htq, _⟩ := (TB.out q (by omega)).1.form
      rw [htq] at ct1 SN2
      clear htq
      go_wp2_with fail
      refine (PK.out wr).mono ?_
      rintro e wr' ⟨rfl, rfl⟩
      clear PK hc
      go_upto_region 17 with (at_builtin; refine wpList_append_lies _ rfl (.tmp 66) (.tmp 71) _ rfl w4.heap.size 26 i0 _ 1 8 Try.underlying34 hi0 hz0 hz1 hz2 rfl (by omega) lv k lxs rfl (lrow.alloc _) ⟨wr.heap.size, 0, none⟩ 1 1 [.int .i64 fq] rfl rfl (World.news_of_block (heap_alloc_new _ _)) (by simp [Value.oneCell']) (by omega) (by unfold maxLen; omega) (by omega) (by simp; omega) (wr.heap.size + 1) (by simp) ?_; intro g5 cap5 w5 hown hgrow hat hlt2)
      have kg : Kp (fun b => lv.ownBlock = some b) wr w5 := grown_no (Kp.alloc _) hgrow
      have trow5 := ownsRow_kp trow kg (fun b e z => row_ne (row_zero trow) (row_zero lrow) (by decide) e z)
      have c5 : w5.cell? ⟨gt, q, none⟩ = some (.slice (some ⟨gq, 0, none⟩) (2 ^ n) cq) := by rw [kg.cell (show gt < wr.heap.size by omega) (fun e => by have := (LR.out.lt gt e).1; omega)]; exact ct1
      have K5 := Lib.hid (KP.out.trans (A' := fun b => lv.ownBlock = some b) (fun b e => .inr (LR.out.lt b e).1) kg)
      have L5 := Lib.hid hown
      have T5 := Lib.hid trow5
      have hsz5 := K5.out.size
      clear cf1 ct1 hown hgrow hat hlt2 lrow trow kg
      go_wp2_with (at_builtin; refine wpList_append_lies _ rfl (.tmp 73) (.tmp 78) _ rfl w4.heap.size 43 j0 _ 1 24 Try.underlying38 hj0 hy0 hy1 hy2 rfl (by omega) tv2 k txs rfl (trow5.alloc _) ⟨w5.heap.size, 0, none⟩ 1 1 [.slice (some ⟨gq, 0, none⟩) (2 ^ n) cq] rfl rfl (World.news_of_block (heap_alloc_new _ _)) (by simp [Value.oneCell']) (by omega) (by unfold maxLen; omega) (by omega) (by simp; omega) (w5.heap.size + 1) (by simp) ?_; intro g6 cap6 w6 hown hgrow hat hlt2)
      have NX : Hid (SvR1 w4 wl fs tvs (wl.length - (k + 1)) (.slice (some ⟨g5, 0, none⟩) (k + 1) cap5) (.slice (some ⟨g6, 0, none⟩) (k + 1) cap6) (.int .i64 ((k + 1 : Nat) : Int)) w6) := Lib.hid (by
        have kg : Kp (fun b => tv2.ownBlock = some b) w5 w6 := grown_no (Kp.alloc _) hgrow
        exact ⟨k + 1, _, _, by omega, rfl, rfl, rfl, by rw [SN1.out]; exact ownsRow_kp L5.out kg (fun b e z => row_ne (row_zero L5.out) (row_zero T5.out) (by decide) e z), by rw [SN2.out]; exact hown, K5.out.trans (A' := fun b => tv2.ownBlock = some b) (fun b e => .inr (T5.out.lt b e).1) kg⟩)
      clear hown hgrow hat hlt2 trow5 c5
      go_wp2_with fail
      go_roundg (wl.length - (k + 1))
      case measure => have := HK.out; omega
      case rel => exact NX.out
    · obtain rfl : k = wl.length := by omega
      have hge : ¬ (wl.length : Int) < wl.length := by omega
      obtain ⟨V, R, pk⟩ := pkp (wl := wl) RPH.out
      have nn := RPH.out.nn
      have cost := RPH.out.cost
      have wfM := RPH.out.wf
      have hVl : V.length ≤ 20000 := Nat.le_trans pk.sav.len cost
      have hRl : R.length = wl.length := by rw [pk.sav.rr]; simp [lsOf_len]
      have lsrc : SrcAt wr lv 1 (lsOf wl fs).length ((lsOf wl fs).map intV) := by rw [lsOf_len, lsOf_row]; exact SrcAt.of_row lrow
      have LS := Lib.hid lsrc
      have LROW := Lib.hid lrow
      have TROW := Lib.hid trow
      have SV := Lib.hid (Save_ok (lsOf wl fs) (TWO.out.rm.no kp) lsrc (by rw [lsOf_len]; omega) (by unfold big; omega))
      rw [pk.sav.nodes, pk.sav.roots] at SV
      have PKH := Lib.hid pk
      have KP := Lib.hid kp
      have HNN := Lib.hid nn
      have HRL := Lib.hid hRl
      have hsz := kp.size
      obtain ⟨al, cl, rfl, _⟩ := ownsRow_len (row_zero lrow)
      obtain ⟨at_, ct2, rfl, _⟩ := ownsRow_len (row_zero trow)
      clear hk lrow trow kp lsrc pk nn hRl WT CF lf lt
      go_wp2_with fail
      refine SV.out.mono ?_
      rintro e w6 ⟨nv, rv, rfl, nrow, rrow, k6⟩
      have hx1 : (V.map (nodeC M V)).length = V.length := List.length_map _
      rw [hx1] at nrow
      rw [HRL.out] at rrow
      obtain ⟨an, cn, rfl, _⟩ := ownsRow_len (row_zero nrow)
      obtain ⟨ar, cr, rfl, _⟩ := ownsRow_len (row_zero rrow)
      have NR6 := Lib.hid nrow
      have RR6 := Lib.hid rrow
      have K6 := Lib.hid k6
      have hsz6 := k6.size
      clear nrow rrow k6 SV hx1
      go_wp2_with fail
      refine (Identity_ok n hn6 w6).mono ?_
      rintro e w7 ⟨iv, rfl, hir, k7⟩
      have hsz7 := k7.size
      have K7 := Lib.hid (KP.out.trans_no (K6.out.trans_no k7))
      have K7A := Lib.hid k7
      have trow7 := ownsRow_kp TROW.out (K6.out.trans_no k7) (fun _ _ z => z)
      have TV7 := Lib.hid (pk_tabs RPH.out PKH.out K7.out (fun i hi => (TB.out i hi).1) (SrcAt.of_row trow7))
      rw [List.length_range] at hir
      have hir2 : w7.ownsRow w6.heap.size 3 1 iv M.n (M.order.map natV) := by rw [HORD.out, HNN.out]; exact hir
      have RSV := Lib.hid (RSave_ok (by rw [HNN.out]; omega) wfM PKH.out.st (by omega) TV7.out (by simp [lsOf_len]; omega) hir2 PKH.out.sav.sav (fun f hf h2 => by rw [← PKH.out.sav.vw]; exact PKH.out.sav.mem f hf h2))
      rw [← PKH.out.sav.vw, ← PKH.out.sav.rr] at RSV
      obtain ⟨ai, ci, rfl, _⟩ := ownsRow_len (row_zero hir)
      have NR7 := Lib.hid (ownsRow_kp NR6.out k7 (fun _ _ z => z))
      have RR7 := Lib.hid (ownsRow_kp RR6.out k7 (fun _ _ z => z))
      clear hir hir2 k7 trow7 NR6 RR6
      go_wp2_with fail
      refine RSV.out.mono ?_
      rintro e w8 ⟨nv2, rv2, rfl, nrow2, rrow2, k8⟩
      have hsz8 := k8.size
      have hx1 : (V.map (nodeC M V)).length = V.length := List.length_map _
      rw [hx1] at nrow2
      rw [HRL.out] at rrow2
      have nrow8 := ownsRow_kp NR7.out k8 (fun _ _ z => z)
      have rrow8 := ownsRow_kp RR7.out k8 (fun _ _ z => z)
      have NE := Lib.hid (Nodes_eq (l := V.map (nodeC M V)) (by rw [hx1]; exact SrcAt.of_row nrow8) (by rw [hx1]; exact SrcAt.of_row nrow2) (by rw [hx1]; omega))
      have IE := Lib.hid (fun (m : Nat) => Ints_eq (l := R) (by rw [HRL.out]; exact (SrcAt.of_row rrow8).no (Kp.drewN m)) (by rw [HRL.out]; exact (SrcAt.of_row rrow2).no (Kp.drewN m)) (by rw [HRL.out]; omega))
      obtain ⟨an2, cn2, rfl, _⟩ := ownsRow_len (row_zero nrow2)
      obtain ⟨ar2, cr2, rfl, _⟩ := ownsRow_len (row_zero rrow2)
      have NR8 := Lib.hid nrow8
      have RR8 := Lib.hid rrow8
      have K8 := Lib.hid (K7.out.trans_no k8)
      have K7B := Lib.hid (K7A.out.trans_no k8)
      clear nrow2 rrow2 k8 nrow8 rrow8 RSV hx1 NR7 RR7 TV7
      go_wp2_with fail
      refine NE.out.mono ?_
      rintro e w9 ⟨rfl, m9, rfl⟩
      clear NE
      go_wp2_with fail
      refine (IE.out m9).mono ?_
      rintro e w10 ⟨rfl, m10, rfl⟩
      clear IE
      have q10 : Kp No w8 (w8.drewN (m9 + m10)) := Kp.drewN _
      have K10 := Lib.hid (K8.out.trans_no q10)
      have NR10 := Lib.hid (ownsRow_kp NR8.out q10 (fun _ _ z => z))
      have RR10 := Lib.hid (ownsRow_kp RR8.out q10 (fun _ _ z => z))
      have LS10 := Lib.hid (LS.out.no ((K6.out.trans_no (Kp.refl No w6)).trans_no (Kp.refl No w6)))
      have hsz10 := q10.size
      have hT : ((V.map (nodeC M V)).map tripOf).length = V.length := by simp
      have OKA : Hid (okAll n ((V.map (nodeC M V)).map tripOf)) := Lib.hid (by
        have := PKH.out.sav.sav.okAll wfM
        rw [← PKH.out.sav.vw, HNN.out] at this
        exact this)
      have LD := Lib.hid (Load_ok ((V.map (nodeC M V)).map tripOf) hn6 (TWO.out.rm.no K10.out) (Bk.of_rp RPH.out) (by omega) (by rw [hT]; omega) (by rw [hT, trip_cells]; exact SrcAt.of_row NR10.out) (fun _ g o m q e hx => by
        have := row_off NR10.out e
        have := TWO.out.rm.lt g hx
        omega))
      rw [hT] at LD
      go_wp2_with fail
      refine LD.out.mono ?_
      intro e w11 hpost
      clear LD
      rcases hpost with ⟨_, rv, M', L', av, rs, rfl, hrl, hsrc, hj, _, hrg⟩ | ⟨hno, _⟩
      case inr => exact (hno OKA.out).elim
      rw [hT] at hrl hsrc
      have NR11 := Lib.hid (ownsRow_kp NR10.out hj.sd.kp (fun k e x => by have := (NR10.out.lt k e).1; have := TWO.out.rm.lt k x; omega))
      have LD2 := Lib.hid (Load_ok ((V.map (nodeC M V)).map tripOf) hn6 ((TWO.out.ro.no K10.out).kp hj.sd.kp (fun b hb hx => (TWO.out.oo b hx).2.2 hb)) bk_new (by omega) (by rw [hT]; omega) (by rw [hT, trip_cells]; exact SrcAt.of_row NR11.out) (fun _ g o m q e hx => by
        have := row_off NR11.out e
        have := (TWO.out.oo g hx).2.1
        omega))
      rw [hT] at LD2
      obtain ⟨arv, crv, rfl⟩ := hsrc.form
      have HJ := Lib.hid hj
      have HRS := Lib.hid hrl
      have HSRC := Lib.hid hsrc
      have HRG := Lib.hid hrg
      clear hj hrl hsrc hrg NR11 NR10 NR8
      go_wp2_with fail
      refine LD2.out.mono ?_
      intro e w12 hpost
      clear LD2
      rcases hpost with ⟨_, ov, Mo, Lo', ao', ro, rfl, hrl2, hsrc2, hj2, _, _⟩ | ⟨hno, _⟩
      case inr => exact (hno OKA.out).elim
      rw [hT] at hrl2 hsrc2
      have LROW10 := ownsRow_kp LROW.out (K6.out.trans_no (K7B.out.trans_no q10)) (fun _ _ z => z)
      have TROW10 := ownsRow_kp TROW.out (K6.out.trans_no (K7B.out.trans_no q10)) (fun _ _ z => z)
      have SE := Lib.hid (sv_end TWO.out hz4 K10.out RPH.out PKH.out HJ.out HRS.out HSRC.out HRG.out hj2 hrl2 hsrc2 HRL.out (ownsRow_mono RR10.out hsz) (by rw [lsOf_row]; exact LROW10) TROW10 TB.out)
      obtain ⟨aov, cov, rfl⟩ := hsrc2.form
      clear hj2 hrl2 hsrc2 LROW10 TROW10 HJ HRS HSRC HRG RR10 LROW TROW K10 q10 RR8 K8 K7 K6 K7B LS LS10 OKA TB
      go_wp2_with fail
      go_loopg [23] wl.length (fun gk s23 wr => LpR w12 wl.length gk s23 wr)
      case atStart => exact ⟨0, by omega, rfl, Kp.refl _ _⟩
      case round =>
        obtain ⟨k, hk, rfl, kp⟩ := hrel
        by_cases hlt : k < wl.length
        · have j := (SE.out.no kp).no Kp.drew
          have hkl : k < (lsOf wl fs).length := by rw [lsOf_len]; exact hlt
          obtain ⟨ga, oa, qa, hva, _, _⟩ := j.asrc.cellAt (by omega)
          obtain ⟨gl, ol, ql, hvl, _, _⟩ := j.lsrc.cellAt (by omega)
          obtain ⟨gt2, ot, qt, hvt, _, _⟩ := j.tsrc.cellAt (by omega)
          obtain ⟨rfl, rfl⟩ := slice_inj hva
          obtain ⟨rfl, rfl⟩ := slice_inj hvl
          obtain ⟨rfl, rfl⟩ := slice_inj hvt
          have hal := j.al
          have hlti : (k : Int) < wl.length := by omega
          have HK := Lib.hid hk
          have KP := Lib.hid (kp.trans_no Kp.drew)
          by_cases h2 : 2 ≤ R.getD k 0
          · obtain ⟨o1, o2, o3, o4, o5⟩ := j.ok k hkl h2
            obtain ⟨gs, os, qs, hvs, _, _⟩ := j.ssrc.cellAt (by omega)
            obtain ⟨gw, ow, qw, hvw, _, _⟩ := j.osrc.cellAt (by omega)
            obtain ⟨rfl, rfl⟩ := slice_inj hvs
            obtain ⟨rfl, rfl⟩ := slice_inj hvw
            obtain ⟨Lr, RR⟩ := j.rep
            have AG := Lib.hid (Agrees_ok _ hn6 RR o3 o4 o5 (j.tabs k hkl))
            have hq : (R.getD k 0 - 2).toNat < V.length := by omega
            have CK : Hid (∀ wx, Kp No wr.drew wx → wx.cell? ⟨ga, oa + k, none⟩ = some (.int .i64 (R.getD k 0)) ∧ wx.cell? ⟨gs, os + (R.getD k 0 - 2).toNat, none⟩ = some (.int .i64 ((lsOf wl fs).getD k 0)) ∧ wx.cell? ⟨gl, ol + k, none⟩ = some (.int .i64 ((lsOf wl fs).getD k 0)) ∧ wx.cell? ⟨gw, ow + (R.getD k 0 - 2).toNat, none⟩ = some (.int .i64 ((ro.drop 2).getD (R.getD k 0 - 2).toNat 0)) ∧ wx.cell? ⟨gt2, ot + k, none⟩ = some ((tlsOf wl fs tvs).getD k (.bool false))) := Lib.hid (fun wx h => by
              have jx := j.no h
              refine ⟨jx.asrc.intCell rfl (by omega), ?_, jx.lsrc.intCell rfl hkl, jx.osrc.intCell rfl (by rw [jx.ol]; exact hq), jx.tsrc.valCell rfl (by rw [jx.tl]; exact hkl)⟩
              rw [← o2]
              exact jx.ssrc.intCell rfl (by rw [jx.sl]; exact hq))
            have hw : IntKind.i64.wrap (R.getD k 0 - 2) = (((R.getD k 0 - 2).toNat : Nat) : Int) := by rw [IntWalk.i64_in _ (by omega)]; omega
            have S0 := Lib.hid (CK.out _ (Kp.refl _ _))
            clear hk kp j o1 o2 o3 o4 o5 RR hva hvl hvt hvs hvw hal hkl
            generalize (R.getD k 0 - 2).toNat = q at *
            generalize R.getD k 0 = rk at *
            generalize (lsOf wl fs).getD k 0 = f at *
            generalize (ro.drop 2).getD q 0 = fo at *
            generalize (tlsOf wl fs tvs).getD k (.bool false) = tx at *
            have hqi : (q : Int) < V.length := by omega
            have hd2 : decide ((2 : Int) ≤ rk) = true := by simp; omega
            go_upto_region 29 with (fail)
            go_region_held3 (fun y => y.cell? ⟨ga, oa + k, none⟩ = some (.int .i64 rk) ∧ y.cell? ⟨gs, os + q, none⟩ = some (.int .i64 f) ∧ y.cell? ⟨gl, ol + k, none⟩ = some (.int .i64 f) ∧ y.cell? ⟨gw, ow + q, none⟩ = some (.int .i64 fo) ∧ y.cell? ⟨gt2, ot + k, none⟩ = some tx) (first | exact S0.out | exact SA.out)
              (first | (go_at_call 28; refine AG.out.mono ?_; rintro e wa ⟨rfl, ka⟩; have KA := Lib.hid (KP.out.trans_no ka); have SA := Lib.hid (CK.out _ ka); clear ka))
            all_goals
              go_wp2_with fail
              go_roundg (wl.length - (k + 1))
              case measure => have := HK.out; omega
              case rel => exact ⟨k + 1, by omega, by go_num, KA.out⟩
          · have hc0 : ∀ m, (wr.drewN m).cell? ⟨ga, oa + k, none⟩ = some (.int .i64 (R.getD k 0)) := fun m => ((SE.out.no kp).no (Kp.drewN m)).asrc.intCell rfl (by omega)
            have hc := hc0 0
            have hd2 : decide ((2 : Int) ≤ R.getD k 0) = false := decide_eq_false h2
            have KPP := Lib.hid kp
            clear hk kp j hva hvl hvt hal hkl
            generalize R.getD k 0 = rk at *
            have hc1 : wr.cell? ⟨ga, oa + k, none⟩ = some (.int .i64 rk) := hc
            clear hc hc0
            go_upto_region 29 with (fail)
            go_quiet (fail)
            go_wp2_with fail
            go_roundg (wl.length - (k + 1))
            case measure => have := HK.out; omega
            case rel => exact ⟨k + 1, by omega, by go_num, KPP.out.trans_no (Kp.drewN _)⟩
        · obtain rfl : k = wl.length := by omega
          have KP := Lib.hid (SE.out.kp.trans_no kp)
          have hlti : ¬ (wl.length : Int) < wl.length := by omega
          clear kp hk
          go_wp2_with fail
          go_ret
          exact ⟨rfl, KP.out⟩

end Go.Proofs.Ytifompekiockmaa
