/-
  Walks: 'Save' of the reference netverifyref26.
-/
import Derived.Test.YtifompekiockmaaRefV
namespace Go.Proofs.Ytifompekiockmaa
open Go.RowKit

/-- The nodes as 'Save' writes them, with the codes of the whole list. -/
def nodeC (M : Mgr) (V : List Nat) (f : Nat) : Nd := ((M.nd f).1, code0 V (M.nd f).2.1, code0 V (M.nd f).2.2)

structure RSvJ (M : Mgr) (w : World) (V : List Nat) (lv : Value) (tvs : List Value) (x : World) : Prop where
  vis : Vis M w.heap.size x lv tvs V
  kp : Kp No w x
theorem RSvJ.no {M : Mgr} {w : World} {V : List Nat} {lv : Value} {tvs : List Value} {x y : World} (j : RSvJ M w V lv tvs x) (k : Kp No x y) : RSvJ M w V lv tvs y := ⟨j.vis.no k, j.kp.trans_no k⟩
/-- A row of another type grows. -/
theorem RSvJ.grow {M : Mgr} {w : World} {V : List Nat} {lv : Value} {tvs : List Value} {x A y : World} {e size n : Nat} {v : Value} {xs : List Value} (j : RSvJ M w V lv tvs x) (hr : x.ownsRow w.heap.size e size v n xs) (kA : Kp No x A) (hgrow : A.grownBy y v.ownBlock) (h1 : e ≠ 43) (h2 : e ≠ 4) : RSvJ M w V lv tvs y := by
  have kg : Kp (fun k => v.ownBlock = some k) x y := grown_no kA hgrow
  exact ⟨⟨ownsRow_kp j.vis.row kg (fun k e z => row_ne (row_zero j.vis.row) (row_zero hr) (Ne.symm h1) e z), j.vis.len, fun i hi => (j.vis.tabs i hi).kp kg (fun k e z => row_ne (row_zero (j.vis.tabs i hi)) (row_zero hr) (Ne.symm h2) e z)⟩,
    j.kp.trans (A' := fun k => v.ownBlock = some k) (fun k e => .inr (hr.lt k e).1) kg⟩

def RSvR1 (M : Mgr) (w : World) (V : List Nat) (lv : Value) (tvs : List Value) (gk : Nat) (s7 s9 : Value) (x : World) : Prop :=
  ∃ k nv, k + gk = V.length ∧ s9 = .int .i64 (k : Int) ∧ nv = s7 ∧ x.ownsRow w.heap.size 65 3 nv k (((V.take k).map (nodeC M V)).flatMap ndCells) ∧ RSvJ M w V lv tvs x
def RSvR2 (M : Mgr) (w : World) (V rs : List Nat) (lv nv : Value) (tvs : List Value) (gk : Nat) (s8 s14 : Value) (x : World) : Prop :=
  ∃ k av, k + gk = rs.length ∧ s14 = .int .i64 (k : Int) ∧ av = s8 ∧ x.ownsRow w.heap.size 3 1 av k ((rs.take k).map fun f => natV (code0 V f)) ∧ x.ownsRow w.heap.size 65 3 nv V.length ((V.map (nodeC M V)).flatMap ndCells) ∧ RSvJ M w V lv tvs x

set_option maxRecDepth 100000 in
set_option maxHeartbeats 4000000 in
theorem RSave_ok {M : Mgr} (hn : M.n ≤ 6) (h : M.WF) {rs : List Nat} (hr : ∀ f, f ∈ rs → M.stored f) (hM : M.nodes.length ≤ 100000) {B3 : Nat} {lv ov : Value} {tvs : List Value} {w : World} (hl : TabsV M w lv tvs rs) (hlen : rs.length ≤ 100000) (ho : w.ownsRow B3 3 1 ov M.n (M.order.map natV))
    (hsav : SavV M (walkAll M rs)) (hin : ∀ f, f ∈ rs → 2 ≤ f → f ∈ (walkAll M rs).2) :
    Calls Try.prog 42 #[lv, ov] w (SavePost w ((walkAll M rs).2.map (nodeC M (walkAll M rs).2)) (rs.map fun f => (code0 (walkAll M rs).2 f : Int))) := by
  obtain ⟨i0, hi0, hz0, hz1, hz2⟩ := info_parts info_apinode
  obtain ⟨j0, hj0, hy0, hy1, hy2⟩ := info_parts info_int
  have NOD := Lib.hid (RNodes_ok hn h hr hM hl (by omega) ho)
  have hll : rs.length = tvs.length := by have := hl.len; simpa using this
  obtain ⟨al, cl, hlv⟩ := hl.src.form
  subst hlv
  have HO := Lib.hid ho
  obtain ⟨ao, co, rfl, _⟩ := ownsRow_len (row_zero ho)
  have hVl := hsav.toSeenV.len h
  have HL := Lib.hid hl
  have HLL := Lib.hid hll
  have hst := hsav.toSeenV.st
  have hnd := hsav.toSeenV.nodup
  have CH : Hid (∀ i f, (walkAll M rs).2[i]? = some f → (2 ≤ (M.nd f).2.1 → (M.nd f).2.1 ∈ (walkAll M rs).2) ∧ (2 ≤ (M.nd f).2.2 → (M.nd f).2.2 ∈ (walkAll M rs).2)) := Lib.hid (fun i f hi => by
    have := hsav.topo i f hi
    exact ⟨fun h => List.mem_of_mem_take (this.1 h), fun h => List.mem_of_mem_take (this.2 h)⟩)
  have ol : M.order.length = M.n := rfl
  generalize (walkAll M rs).2 = V at *
  -- the callees' contracts
  have TOP : Hid (∀ (x : World) (lv1 : Value) (tvs1 : List Value), RSvJ M w V lv1 tvs1 x → ∀ k f, V[k]? = some f → Calls Try.prog 66 #[tvs1.getD k (.bool false), .slice ao M.n co] x (fun e y => ∃ tl th, e = .returned (.tuple #[.int .i64 (M.nd f).1, tl, th, .bool true]) ∧ Tb 0 y tl (tab M.n (M.sem (M.nd f).2.1)) ∧ Tb 0 y th (tab M.n (M.sem (M.nd f).2.2)) ∧ Kp No x y)) := Lib.hid (fun x lv1 tvs1 j k f hk => by
    obtain ⟨sf, h2⟩ := hst f (List.mem_of_getElem? hk)
    have hk2 := (List.getElem?_eq_some_iff.1 hk).1
    have ht := j.vis.tabs k (by rw [← j.vis.len]; exact hk2)
    have e : V.getD k 0 = f := by simp [hk]
    rw [e] at ht
    have := RTop_ok hn (upto_sem h sf) ht (by rw [ol]; exact SrcAt.of_row (ownsRow_kp HO.out j.kp (fun _ _ z => z))) (by omega) (fun i hi => (h.lo_ i (by rw [← ol]; exact hi)).1)
    rw [top_find h sf, if_neg (by omega)] at this
    refine this.mono ?_
    intro e y hp
    rcases hp with ⟨hx, _⟩ | ⟨v, tl, th, hx, rfl, h1, h3, k1⟩
    · cases hx
    · cases hx
      obtain ⟨v0, _⟩ := Mgr.node_of h sf h2
      rw [tab_lo h sf h2] at h1
      rw [tab_hi h sf h2] at h3
      exact ⟨tl, th, by rw [Int.toNat_of_nonneg v0], h1.mono (Nat.zero_le _), h3.mono (Nat.zero_le _), k1⟩)
  have COD : Hid (∀ (x : World) (lv1 : Value) (tvs1 : List Value), RSvJ M w V lv1 tvs1 x → ∀ c t, M.stored c → (2 ≤ c → c ∈ V) → Tb 0 x t (tab M.n (M.sem c)) → Calls Try.prog 69 #[lv1, t] x fun e y => e = .returned (.int .i64 (code0 V c : Int)) ∧ ∃ m, y = x.drewN m) := Lib.hid (fun x lv1 tvs1 j c t sc hc ht =>
    Rcode_ok hn h (fun g hg => hst g hg) hnd sc hc j.vis.tabsV ht (by have := j.vis.len; omega))
  have CST : Hid (∀ i f, V[i]? = some f → M.stored (M.nd f).2.1 ∧ M.stored (M.nd f).2.2) := Lib.hid (fun i f hi => by
    obtain ⟨sf, h2⟩ := hst f (List.mem_of_getElem? hi)
    obtain ⟨_, _, sl, sh, _⟩ := Mgr.node_of h sf h2
    exact ⟨sl, sh⟩)
  have ROOT : Hid (∀ k, k < rs.length → M.stored (rs.getD k 0) ∧ (2 ≤ rs.getD k 0 → rs.getD k 0 ∈ V)) := Lib.hid (fun k hk => by
    have e : rs.getD k 0 = rs[k] := by simp [hk]
    rw [e]
    exact ⟨hr _ (List.getElem_mem _), hin _ (List.getElem_mem _)⟩)
  rw [← hll] at NOD ⊢
  clear hl ho hr h hll hsav hin hst hnd ol
  go_enter Try.func42, Try.ntmps42
  go_wp2_with fail
  refine NOD.out.mono ?_
  rintro e w1 ⟨lv1, tvs1, rfl, hv, k1⟩
  have J1 : Hid (RSvJ M w V lv1 tvs1 w1) := Lib.hid ⟨hv, k1⟩
  have hlen1 := hv.len
  obtain ⟨a1, c1, rfl, _⟩ := ownsRow_len (row_zero hv.row)
  rw [← hlen1] at J1 ⊢
  have HLEN1 := Lib.hid hlen1
  clear hv k1 NOD hlen1
  go_wp2_with fail
  go_loopg [7, 9] V.length (fun gk s7 s9 x => RSvR1 M w V (.slice a1 V.length c1) tvs1 gk s7 s9 x)
  case atStart => exact ⟨0, _, by omega, rfl, rfl, World.ownsRow_nil _ _ _ _, J1.out⟩
  case round =>
    clear J1
    obtain ⟨k, nv, hk, rfl, e7, own, j⟩ := hrel
    subst e7
    by_cases hlt : k < V.length
    · obtain ⟨f, hf⟩ : ∃ f, V[k]? = some f := ⟨_, List.getElem?_eq_getElem hlt⟩
      have hlt2 : k < tvs1.length := by rw [← HLEN1.out]; exact hlt
      have hs2 := SrcAt.of_row j.vis.row
      obtain ⟨g1, o1, c2, hv1, _, hc1⟩ := hs2.cellAt (by omega)
      have hv1' : a1 = some ⟨g1, o1, none⟩ := by injection hv1
      subst hv1'
      have f1 : wr.cell? ⟨g1, o1 + k, none⟩ = some (tvs1.getD k (.bool false)) := hc1 k _ (by simp [hlt2])
      have CT := Lib.hid (TOP.out wr _ tvs1 j k f hf)
      have hlti : (k : Int) < V.length := by omega
      have HK := Lib.hid hk
      have SNOC : Hid (((V.take (k + 1)).map (nodeC M V)).flatMap ndCells = ((V.take k).map (nodeC M V)).flatMap ndCells ++ [.int .i64 (M.nd f).1, .int .i64 (code0 V (M.nd f).2.1 : Int), .int .i64 (code0 V (M.nd f).2.2 : Int)]) := Lib.hid (by
        have e : V[k] = f := by have := hf; rw [List.getElem?_eq_getElem hlt] at this; exact Option.some.inj this
        rw [List.take_succ_eq_append_getElem hlt, List.map_append, List.flatMap_append, e]
        rfl)
      have J := Lib.hid j
      have OWN := Lib.hid own
      obtain ⟨cl1, cl2⟩ := CH.out k f hf
      obtain ⟨st1, st2⟩ := CST.out k f hf
      have CD1 := Lib.hid (fun (x : World) (jx : RSvJ M w V (.slice (some ⟨g1, o1, none⟩) V.length c1) tvs1 x) t ht => COD.out x _ tvs1 jx (M.nd f).2.1 t st1 cl1 ht)
      have CD2 := Lib.hid (fun (x : World) (jx : RSvJ M w V (.slice (some ⟨g1, o1, none⟩) V.length c1) tvs1 x) t ht => COD.out x _ tvs1 jx (M.nd f).2.2 t st2 cl2 ht)
      clear hk j own hs2 hv1 hc1 hf cl1 cl2 st1 st2
      generalize tvs1.getD k (.bool false) = tk at *
      generalize M.nd f = nf at *
      go_wp2_with fail
      refine CT.out.mono ?_
      rintro e x1 ⟨tl, th, rfl, htl, hth, k1⟩
      obtain ⟨gl, cl2, rfl, _⟩ := htl.form
      obtain ⟨gh, ch2, rfl, _⟩ := hth.form
      have jx := J.out.no k1
      have CL := Lib.hid (CD1.out x1 jx _ htl)
      have JX := Lib.hid jx
      have HTH := Lib.hid hth
      have OW1 := Lib.hid (ownsRow_kp OWN.out k1 (fun _ _ z => z))
      clear k1 htl hth jx CT
      go_wp2_with fail
      refine CL.out.mono ?_
      rintro e x2 ⟨rfl, m, rfl⟩
      have jx2 := JX.out.no (Kp.drewN (w := x1) m)
      have CL2 := Lib.hid (CD2.out (x1.drewN m) jx2 _ (HTH.out.no (Kp.drewN m)))
      have OW2 := Lib.hid (ownsRow_kp OW1.out (Kp.drewN (w := x1) m) (fun _ _ z => z))
      have JX2 := Lib.hid jx2
      clear jx2 CL
      generalize x1.drewN m = y1 at *
      go_wp2_with fail
      refine CL2.out.mono ?_
      rintro e x2 ⟨rfl, m2, rfl⟩
      have own3 := ownsRow_kp OW2.out (Kp.drewN (w := y1) m2) (fun _ _ z => z)
      have JX3 := Lib.hid (JX2.out.no (Kp.drewN (w := y1) m2))
      have hsz := JX3.out.kp.size
      clear CL2
      generalize y1.drewN m2 = y2 at *
      generalize code0 V nf.2.1 = q1 at *
      generalize code0 V nf.2.2 = q2 at *
      go_wp2_with (at_builtin; refine wpList_append_lies _ rfl (.tmp 35) (.tmp 44) _ rfl w.heap.size 65 i0 _ 3 24 Try.underlying32 hi0 hz0 hz1 hz2 rfl (by omega) nv k (((V.take k).map (nodeC M V)).flatMap ndCells) rfl (own3.alloc _) ⟨y2.heap.size, 0, none⟩ 1 1 [.int .i64 nf.1, .int .i64 (q1 : Int), .int .i64 (q2 : Int)] rfl rfl (World.news_of_block (heap_alloc_new _ _)) (by simp [Value.oneCell']) (by omega) (by unfold maxLen; omega) (by omega) (by simp; omega) (y2.heap.size + 1) (by simp) ?_; intro g cap z hown hgrow hat hlt2)
      have NX : Hid (RSvR1 M w V (.slice (some ⟨g1, o1, none⟩) V.length c1) tvs1 (V.length - (k + 1)) (.slice (some ⟨g, 0, none⟩) (k + 1) cap) (.int .i64 ((k + 1 : Nat) : Int)) z) := Lib.hid
        ⟨k + 1, _, by omega, rfl, rfl, by rw [SNOC.out]; exact hown, JX3.out.grow own3 (Kp.alloc _) hgrow (by decide) (by decide)⟩
      clear hown hgrow hat hlt2 own3
      go_wp2_with fail
      go_roundg (V.length - (k + 1))
      case measure => have := HK.out; omega
      case rel => exact NX.out
    · obtain rfl : k = V.length := by omega
      rw [List.take_length] at own
      have hge : ¬ (V.length : Int) < V.length := by omega
      have J2 : Hid (RSvR2 M w V rs (.slice a1 V.length c1) nv tvs1 rs.length (.slice none 0 0) (.int .i64 0) wr) := Lib.hid ⟨0, _, by omega, rfl, rfl, World.ownsRow_nil _ _ _ _, own, j⟩
      obtain ⟨an, cn, rfl, _⟩ := ownsRow_len (row_zero own)
      clear hk own j TOP CH CST
      go_wp2_with fail
      go_loopg [8, 14] rs.length (fun gk s8 s14 x => RSvR2 M w V rs (.slice a1 V.length c1) (.slice an V.length cn) tvs1 gk s8 s14 x)
      case atStart => exact J2.out
      case round =>
        clear J2
        obtain ⟨k, av, hk, rfl, e8, own, nrow, j⟩ := hrel
        subst e8
        by_cases hlt : k < rs.length
        · have hlt2 : k < tvs.length := by rw [← HLL.out]; exact hlt
          have hs2 := (HL.out.no j.kp).src
          obtain ⟨g1, o1, c2, hv1, _, hc1⟩ := hs2.cellAt (by omega)
          have hv1' : al = some ⟨g1, o1, none⟩ := by injection hv1
          subst hv1'
          have f1 : wr.cell? ⟨g1, o1 + k, none⟩ = some (tvs.getD k (.bool false)) := hc1 k _ (by simp [hlt2])
          obtain ⟨sr, ir⟩ := ROOT.out k hlt
          have ht := (HL.out.no j.kp).tabs k hlt2
          have e2 : (rs.map M.sem).getD k (fun _ => false) = M.sem (rs.getD k 0) := by simp [hlt]
          rw [e2] at ht
          have CD := Lib.hid (COD.out wr _ tvs1 j (rs.getD k 0) _ sr ir ht)
          have SNOC : Hid (((rs.take (k + 1)).map fun f => natV (code0 V f)) = ((rs.take k).map fun f => natV (code0 V f)) ++ [.int .i64 (code0 V (rs.getD k 0) : Int)]) := Lib.hid (by
            have e : rs.getD k 0 = rs[k] := by simp [hlt]
            rw [List.take_succ_eq_append_getElem hlt, List.map_append, e]
            rfl)
          have hlti : (k : Int) < rs.length := by omega
          have HK := Lib.hid hk
          have J := Lib.hid j
          have OWN := Lib.hid own
          have NROW := Lib.hid nrow
          clear hk j own nrow hs2 hv1 hc1 sr ir ht e2
          generalize tvs.getD k (.bool false) = tk at *
          generalize code0 V (rs.getD k 0) = q1 at *
          go_wp2_with fail
          refine CD.out.mono ?_
          rintro e x1 ⟨rfl, m, rfl⟩
          have own3 := ownsRow_kp OWN.out (Kp.drewN (w := wr) m) (fun _ _ z => z)
          have nrow3 := ownsRow_kp NROW.out (Kp.drewN (w := wr) m) (fun _ _ z => z)
          have NR3 := Lib.hid nrow3
          have JX3 := Lib.hid (J.out.no (Kp.drewN (w := wr) m))
          have hsz := JX3.out.kp.size
          clear CD nrow3
          generalize wr.drewN m = y2 at *
          go_wp2_with (at_builtin; refine wpList_append_lies _ rfl (.tmp 52) (.tmp 59) _ rfl w.heap.size 3 j0 _ 1 8 Try.underlying45 hj0 hy0 hy1 hy2 rfl (by omega) av k ((rs.take k).map fun f => natV (code0 V f)) rfl (own3.alloc _) ⟨y2.heap.size, 0, none⟩ 1 1 [.int .i64 (q1 : Int)] rfl rfl (World.news_of_block (heap_alloc_new _ _)) (by simp [Value.oneCell']) (by omega) (by unfold maxLen; omega) (by omega) (by simp; omega) (y2.heap.size + 1) (by simp) ?_; intro g cap z hown hgrow hat hlt2)
          have NX : Hid (RSvR2 M w V rs (.slice a1 V.length c1) (.slice an V.length cn) tvs1 (rs.length - (k + 1)) (.slice (some ⟨g, 0, none⟩) (k + 1) cap) (.int .i64 ((k + 1 : Nat) : Int)) z) := Lib.hid
            ⟨k + 1, _, by omega, rfl, rfl, by rw [SNOC.out]; exact hown, ownsRow_kp NR3.out (grown_no (Kp.alloc _) hgrow) (fun b e z => row_ne (row_zero NR3.out) (row_zero own3) (by decide) e z), JX3.out.grow own3 (Kp.alloc _) hgrow (by decide) (by decide)⟩
          clear hown hgrow hat hlt2 own3
          go_wp2_with fail
          go_roundg (rs.length - (k + 1))
          case measure => have := HK.out; omega
          case rel => exact NX.out
        · obtain rfl : k = rs.length := by omega
          rw [List.take_length] at own
          have hge : ¬ (rs.length : Int) < rs.length := by omega
          have P : Hid (SavePost w (V.map (nodeC M V)) (rs.map fun f => (code0 V f : Int)) (.returned (.tuple #[.slice an V.length cn, av])) wr) := Lib.hid
            ⟨_, av, rfl, by simpa using nrow, by
              have : (rs.map fun f => (code0 V f : Int)).map intV = rs.map fun f => natV (code0 V f) := by rw [List.map_map]; rfl
              rw [this, List.length_map]
              exact own, j.kp⟩
          clear hk own nrow j
          go_wp2_with fail
          go_ret2
          exact P.out

end Go.Proofs.Ytifompekiockmaa
