/-
  Walks: the law BddExpands.
-/
import Derived.Test.YtifompekiockmaaAgrees
import Derived.Test.YtifompekiockmaaBank
import Derived.Test.YtifompekiockmaaSup
import Derived.Test.YtifompekiockmaaSide
import Derived.Deep.CutBlock
namespace Go.Proofs.Ytifompekiockmaa
open Go.RowKit

def ExR (w : World) (p n : Nat) (f : Int) (F : BF) (ws : World) (X : Nat → Prop) (gk : Nat) (s12 : Value) (wr : World) : Prop :=
  ∃ k M L, k + gk = n ∧ s12 = .int .i64 (k : Int) ∧ Side w p wr M L ws X ∧ Bk n (50000 + 6000 * k) M [(f, F)]

def InR (S : List Nat) (v : Nat) (w : World) (gk : Nat) (s15 s16 : Value) (wr : World) : Prop :=
  ∃ j, j + gk = S.length ∧ s16 = .int .i64 (j : Int) ∧ s15 = .bool (decide (v ∈ S.take j)) ∧ w = wr

theorem bne_of {a b : Int} (h : a = b) : (a != b) = false := by simp [h]

theorem take_in (S : List Nat) (v j : Nat) (hj : j < S.length) : decide (v ∈ S.take (j + 1)) = (decide (v ∈ S.take j) || ((S.getD j 0 : Int) == (v : Int))) := by
  have e : S.getD j 0 = S[j] := by simp [hj]
  rw [List.take_succ_eq_append_getElem hj, e, Bool.eq_iff_iff]
  simp only [decide_eq_true_iff, List.mem_append, List.mem_singleton, Bool.or_eq_true, beq_iff_eq]
  constructor
  · rintro (h | h)
    · exact Or.inl h
    · exact Or.inr (by omega)
  · rintro (h | h)
    · exact Or.inl h
    · exact Or.inr (by omega)

set_option maxRecDepth 100000 in
set_option maxHeartbeats 4000000 in
theorem BddExpands_walk (x : Int) (l : List Stp) {sv : Value} {w : World} (hs : StepsAt w sv l) (y : Int) :
    Calls Try.prog 11 #[.int .i64 x, sv, .int .i64 y] w fun e w' => e = .returned (.bool true) ∧ Kp No w w' := by
  obtain ⟨hn1, hn6⟩ := nv_le x
  have VA := Lib.hid (fun w => Vars_ok x w)
  generalize nv x = n at *
  have NEW := Lib.hid (fun (w0 : World) (k0 : Kp No w w0) => New_own (n := n) (by omega) k0)
  have ST := Lib.hid hs
  obtain ⟨ao, c, rfl, _⟩ := hs
  by_cases h40 : l.length ≤ 40
  · have hl : ¬ (40 : Int) < l.length := by omega
    go_enter Try.func11, Try.ntmps11
    go_wp2_with fail
    refine (awake_ok w).mono ?_
    rintro e w0 ⟨rfl, k0⟩
    have K0 := Lib.hid k0
    clear k0
    go_wp2_with fail
    refine (VA.out w0).mono ?_
    rintro e w0' ⟨rfl, rfl⟩
    go_wp2_with fail
    refine (NEW.out w0 K0.out).mono ?_
    rintro e w1 ⟨p, L1, rfl, s1, k1⟩
    have S1 := Lib.hid s1
    clear s1 k1 NEW
    go_wp2_with fail
    refine (Run_own hn6 hn1 S1.out (by omega) ST.out).mono ?_
    rintro e w2 ⟨fv, tv, L2, tvs, rfl, fr⟩
    obtain ⟨rp, hFl⟩ := run_rp hn1 hn6 l (by omega)
    generalize runM (Mgr.new n) n l = X at *
    generalize runF n l = Fs at *
    obtain ⟨M, fs⟩ := X
    simp only at fr rp
    have hpos := rp.pos
    have hfl : fs.length ≤ 100 := by rw [← fr.flen]; omega
    obtain ⟨gf, cf, gt, ct, rfl, rfl, lf, lt⟩ := fr.forms (by omega)
    have FR := Lib.hid fr
    have RPH := Lib.hid rp
    clear fr rp hFl
    have hpk := pick_lt y (n := fs.length) (by omega)
    have PKC := Lib.hid (Pick_ok y fs.length w2 (by omega) (by omega))
    have c1 := FR.out.cellF hpk
    have hqi : (pick y fs.length : Int) < fs.length := by omega
    have BK0 := Lib.hid ((Bk.of_rp RPH.out).sub (B' := [(fs.getD (pick y fs.length) 0, Fs.getD (pick y fs.length) (fun _ => false))]) (fun x hx => by
      simp only [List.mem_cons, List.not_mem_nil, or_false] at hx
      subst hx
      exact mem_zip hpk FR.out.flen))
    have SC := Lib.hid (fun f => Support_ok f FR.out.own.rep (by rw [RPH.out.nn]; omega))
    generalize fs.getD (pick y fs.length) 0 = f at *
    generalize Fs.getD (pick y fs.length) (fun _ => false) = F at *
    generalize pick y fs.length = q at *
    go_wp2_with fail
    refine PKC.out.mono ?_
    rintro e w2' ⟨rfl, rfl⟩
    clear PKC
    go_wp2_with fail
    refine (SC.out f).mono ?_
    rintro e w3 ⟨sv2, rfl, srow, k3⟩
    have hsd := Side.start (FR.out.own.no k3)
    have hsx : ∀ k, sv2.ownBlock = some k → k < w3.heap.size ∧ ¬ L2.at p k := fun k hk => ⟨(srow.lt k hk).2, fun hx => by have := (srow.lt k hk).1; have := FR.out.own.rep.lt k hx; omega⟩
    obtain ⟨a2, c2, rfl⟩ := natsRow_form srow
    have hsl := M.supM_len f
    rw [RPH.out.nn] at hsl
    have hmem : ∀ v, v < n → (v ∈ M.supM f ↔ ∃ a, F (Mgr.upd a v false) ≠ F (Mgr.upd a v true)) := fun v hv => by
      obtain ⟨v1, s1, _⟩ := BK0.out.at (List.Mem.head _)
      obtain ⟨fn, hfn, sfn, _⟩ := Mgr.valid_nat BK0.out.wf v1
      have e1 : M.supM f = M.supp f.toNat := if_pos v1
      rw [e1, Mgr.supp_iff BK0.out.wf (by rw [hfn, Int.toNat_natCast]; exact sfn), RPH.out.nn]
      simp only [s1]
      exact ⟨fun h => h.2, fun h => ⟨hv, h⟩⟩
    have HMEM := Lib.hid hmem
    have SROW := Lib.hid srow
    have HSX := Lib.hid hsx
    have E0 : Hid (ExR w p n f F w3 (fun k => k < w3.heap.size ∧ ¬ L2.at p k) n (.int .i64 0) w3) := ⟨0, M, L2, by omega, rfl, hsd, BK0.out⟩
    clear hmem srow hsx hsd k3 SC BK0 FR RPH c1 hqi hpk S1 ST VA K0 lf lt hfl hpos
    generalize hS : M.supM f = S at *
    clear hS
    go_wp2_with fail
    go_loopg [12] n (fun gk s12 wr => ExR w p n f F w3 (fun k => k < w3.heap.size ∧ ¬ L2.at p k) gk s12 wr)
    case atStart => exact E0.out
    case round =>
      clear E0
      obtain ⟨k, M1, L3, hk, rfl, sd, bk⟩ := hrel
      obtain ⟨wo, rfl⟩ : ∃ wo : World, wo = wr := ⟨_, rfl⟩
      by_cases hlt : k < n
      · have HK := Lib.hid hk
        have hlti : (k : Int) < n := by omega
        have b0 := Lib.hid bk.consts
        clear hk bk
        have o0 := sd
        clear sd
        go_wp2_with fail
        refine (RestrictB hn6 o0.own.rep b0.out (by omega) (f := f) (by repeat (first | exact List.Mem.head _ | apply List.Mem.tail)) hlt false).mono ?_
        rintro e v1 ⟨lo, N1, hr, bk, _⟩
        obtain ⟨rfl, L_1, o1⟩ := o0.step hr
        have b1 := Lib.hid bk
        clear hr bk o0 b0
        go_wp2_with fail
        refine (RestrictB hn6 o1.own.rep b1.out (by omega) (f := f) (by repeat (first | exact List.Mem.head _ | apply List.Mem.tail)) hlt true).mono ?_
        rintro e v2 ⟨hi, N2, hr, bk, _⟩
        obtain ⟨rfl, L_2, o2⟩ := o1.step hr
        have b2 := Lib.hid bk
        clear hr bk o1 b1
        have hin : decide (k ∈ S) = !(lo == hi) := by
          rw [Bool.eq_iff_iff, decide_eq_true_iff, HMEM.out k hlt]
          simp only [Bool.not_eq_true', beq_eq_false_iff_ne, ne_eq]
          constructor
          · rintro ⟨a, ha⟩ e
            subst e
            exact ha (b2.out.eq_conv (F := fun a => F (Mgr.upd a k false)) (G := fun a => F (Mgr.upd a k true)) (by repeat (first | exact List.Mem.head _ | apply List.Mem.tail)) (by repeat (first | exact List.Mem.head _ | apply List.Mem.tail)) a)
          · intro hne
            apply Classical.byContradiction
            intro hno
            exact hne (b2.out.eq (by repeat (first | exact List.Mem.head _ | apply List.Mem.tail)) (by repeat (first | exact List.Mem.head _ | apply List.Mem.tail)) (fun a => Classical.byContradiction fun h => hno ⟨a, h⟩))
        have HIN := Lib.hid hin
        clear hin
        go_wp2_with fail
        go_loopg [15, 16] S.length (fun gk s15 s16 wr => InR S k v2 gk s15 s16 wr)
        case atStart => exact ⟨0, by omega, rfl, by simp, rfl⟩
        case round =>
        obtain ⟨j, hj, rfl, rfl, rfl⟩ := hrel
        by_cases hjt : j < S.length
        · as_aux_lemma =>
            have hjti : (j : Int) < S.length := by omega
            have HJ := Lib.hid hj
            have TI := Lib.hid (take_in S k j hjt)
            obtain ⟨g, c, hv, hcell⟩ := natsRow_cell (o2.row SROW.out HSX.out) hjt
            cases hv
            clear hj
            have NX : Hid (∀ b, b = decide (k ∈ S.take (j + 1)) → InR S k v2 (S.length - (j + 1)) (.bool b) (.int .i64 ((j + 1 : Nat) : Int)) v2) := Lib.hid (fun b hb => ⟨j + 1, by omega, rfl, by rw [hb], rfl⟩)
            cases hb : decide (k ∈ S.take j) with
            | true =>
              have NX2 := Lib.hid (NX.out true (by rw [TI.out, hb]; rfl))
              clear hb
              go_wp2_with fail
              go_roundg (S.length - (j + 1))
              case measure => have := HJ.out; omega
              case rel => exact NX2.out
            | false =>
              have NX2 := Lib.hid (NX.out ((S.getD j 0 : Int) == (k : Int)) (by rw [TI.out, hb, Bool.false_or]))
              clear hb
              generalize (S.getD j 0 : Int) = sj at *
              go_wp2_with fail
              go_roundg (S.length - (j + 1))
              case measure => have := HJ.out; omega
              case rel => exact NX2.out
        obtain rfl : j = S.length := by omega
        have hge : ¬ (S.length : Int) < S.length := by omega
        clear hj
        rw [List.take_length, HIN.out]
        go_wp2_with fail
        refine (VarB o2.own.rep b2.out (by omega) hlt).mono ?_
        rintro e v3 ⟨x, N3, hr, bk, _⟩
        obtain ⟨rfl, L_3, o3⟩ := o2.step hr
        have b3 := Lib.hid bk
        clear hr bk o2 b2
        go_wp2_with fail
        refine (IteB hn6 o3.own.rep b3.out (by omega) (f := x) (g := hi) (h := lo) (by repeat (first | exact List.Mem.head _ | apply List.Mem.tail)) (by repeat (first | exact List.Mem.head _ | apply List.Mem.tail)) (by repeat (first | exact List.Mem.head _ | apply List.Mem.tail))).mono ?_
        rintro e v4 ⟨z, N4, hr, bk, _⟩
        obtain ⟨rfl, L_4, o4⟩ := o3.step hr
        have b4 := Lib.hid bk
        clear hr bk o3 b3
        have z1 := bne_of (b4.out.eq (f := z) (g := f) (by repeat (first | exact List.Mem.head _ | apply List.Mem.tail)) (by repeat (first | exact List.Mem.head _ | apply List.Mem.tail)) (fun a => by
          show (if a k = true then F (Mgr.upd a k true) else F (Mgr.upd a k false)) = F a
          have hu : ∀ b, a k = b → F (Mgr.upd a k b) = F a := fun b hb => by
            congr 1
            funext u
            by_cases e : u = k
            · subst e; rw [Mgr.upd_same, hb]
            · rw [Mgr.upd_other _ _ _ _ e]
          cases hb : a k
          · simpa using hu false hb
          · simpa using hu true hb))
        go_wp2_with fail
        refine (RestrictB hn6 o4.own.rep b4.out (by omega) (f := lo) (by repeat (first | exact List.Mem.head _ | apply List.Mem.tail)) hlt true).mono ?_
        rintro e v5 ⟨u1, N5, hr, bk, _⟩
        obtain ⟨rfl, L_5, o5⟩ := o4.step hr
        have b5 := Lib.hid bk
        clear hr bk o4 b4
        have z2 := bne_of (b5.out.eq (f := u1) (g := lo) (by repeat (first | exact List.Mem.head _ | apply List.Mem.tail)) (by repeat (first | exact List.Mem.head _ | apply List.Mem.tail)) (fun a => by
          show F (Mgr.upd (Mgr.upd a k true) k false) = F (Mgr.upd a k false)
          congr 1
          funext u
          unfold Mgr.upd
          split <;> rfl))
        go_wp2_with fail
        refine (RestrictB hn6 o5.own.rep b5.out (by omega) (f := hi) (by repeat (first | exact List.Mem.head _ | apply List.Mem.tail)) hlt false).mono ?_
        rintro e v6 ⟨u2, N6, hr, bk, _⟩
        obtain ⟨rfl, L_6, o6⟩ := o5.step hr
        have b6 := Lib.hid bk
        clear hr bk o5 b5
        have z3 := bne_of (b6.out.eq (f := u2) (g := hi) (by repeat (first | exact List.Mem.head _ | apply List.Mem.tail)) (by repeat (first | exact List.Mem.head _ | apply List.Mem.tail)) (fun a => by
          show F (Mgr.upd (Mgr.upd a k false) k true) = F (Mgr.upd a k true)
          congr 1
          funext u
          unfold Mgr.upd
          split <;> rfl))
        have NX : Hid (ExR w p n f F w3 (fun k => k < w3.heap.size ∧ ¬ L2.at p k) (n - (k + 1)) (.int .i64 ((k + 1 : Nat) : Int)) v6) := ⟨k + 1, N6, L_6, by have := HK.out; omega, rfl, o6, ⟨b6.out.wf, b6.out.nn, by have := b6.out.cost; omega, fun x hx => b6.out.sem x (by
          simp only [List.mem_cons, List.not_mem_nil, or_false] at hx
          subst hx
          exact (by repeat (first | exact List.Mem.head _ | apply List.Mem.tail)))⟩⟩
        have hx : ∀ b : Bool, ((!b) == b) = false := fun b => by cases b <;> rfl
        clear o6 b6
        cases hb : (lo == hi) with
        | true =>
          rw [hb] at HIN
          go_wp2_with fail
          go_roundg (n - (k + 1))
          case measure => have := HK.out; omega
          case rel => exact NX.out
        | false =>
          rw [hb] at HIN
          go_wp2_with fail
          go_roundg (n - (k + 1))
          case measure => have := HK.out; omega
          case rel => exact NX.out
      · obtain rfl : k = n := by omega
        have KP := Lib.hid sd.own.kp
        have hlti : ¬ (k : Int) < k := by omega
        clear sd hk bk
        go_wp2_with fail
        go_ret
        exact ⟨rfl, KP.out⟩
  · have hl : (40 : Int) < l.length := by omega
    go_enter Try.func11, Try.ntmps11
    go_wp2_with fail
    refine (awake_ok w).mono ?_
    rintro e w0 ⟨rfl, k0⟩
    have K0 := Lib.hid k0
    clear k0
    go_wp2_with fail
    go_ret
    exact ⟨rfl, K0.out⟩

end Go.Proofs.Ytifompekiockmaa
