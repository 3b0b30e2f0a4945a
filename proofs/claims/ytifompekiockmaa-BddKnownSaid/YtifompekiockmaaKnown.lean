/-
  The law BddKnown: for every number the law returns true.
-/
import Derived.Test.YtifompekiockmaaOps
import Derived.Test.YtifompekiockmaaAwake
namespace Go.Proofs.Ytifompekiockmaa
open Go.RowKit

structure KnJ (n k : Nat) (M : Mgr) (all odd one two : Int) : Prop where
  wf : M.WF
  n : M.n = n
  plain : M.Plain
  len : M.nodes.length ≤ 2 + k * 30000
  vall : M.valid all = true
  vodd : M.valid odd = true
  vone : M.valid one = true
  vtwo : M.valid two = true
  sall : ∀ a, M.sem all.toNat a = decide (cnt 0 k a = k)
  sodd : ∀ a, M.sem odd.toNat a = decide (cnt 0 k a % 2 = 1)
  sone : ∀ a, M.sem one.toNat a = decide (1 ≤ cnt 0 k a)
  stwo : ∀ a, M.sem two.toNat a = decide (2 ≤ cnt 0 k a)

/-- The six operations of a round. -/
structure KnStep (n k : Nat) (M : Mgr) (all odd one two : Int) (V A O T1 T2 N : Mgr × Int) : Prop where
  eV : V = M.varM k
  eA : A = V.1.andM all V.2
  eO : O = A.1.xorM odd V.2
  eT1 : T1 = O.1.andM one V.2
  eT2 : T2 = T1.1.orM two T1.2
  eN : N = T2.1.orM one V.2
  bV : V.1.nodes.length ≤ big
  bA : A.1.nodes.length ≤ big
  bO : O.1.nodes.length ≤ big
  bT1 : T1.1.nodes.length ≤ big
  bT2 : T2.1.nodes.length ≤ big
  bN : N.1.nodes.length ≤ big
  next : KnJ n (k + 1) N.1 A.2 O.2 N.2 T2.2

theorem cost_le {n k s : Nat} (hn : n ≤ 42) (hk : k < n) (hs : s = 2 * (k + 1)) : n * s ≤ 3528 := by
  have : n * s ≤ 42 * 84 := Nat.mul_le_mul hn (by omega)
  omega

theorem kn_step {n k : Nat} {M : Mgr} {all odd one two : Int} (j : KnJ n k M all odd one two) (hk : k < n) (hn : n ≤ 42) : ∃ V A O T1 T2 N, KnStep n k M all odd one two V A O T1 T2 N := by
  have hkm : k < M.n := by rw [j.n]; exact hk
  have ck := cost_le hn hk rfl
  have st : ∀ (X : Mgr) (psi : Nat → Bool → Bool), X.Plain → X.n = n → X.States (fun a => psi (cnt 0 k a) (a k)) (2 * (k + 1)) := fun X psi hX hXn =>
    Mgr.states_cnt hX (by omega) psi _ (fun a => by rw [if_pos (by omega)])
  have cs : ∀ a, cnt 0 (k + 1) a = cnt 0 k a + if a k then 1 else 0 := fun a => by rw [cnt_succ, Nat.zero_add]
  have lenj := j.len
  -- the variable
  have oV := Mgr.varM_ops j.wf hkm
  generalize hV : M.varM (k : Int) = V at oV
  have nV : V.1.n = n := by rw [oV.n, j.n]
  have pV := oV.plain j.plain
  obtain ⟨aV, aVs⟩ := oV.old all j.vall
  obtain ⟨bV, bVs⟩ := oV.old odd j.vodd
  obtain ⟨cV, cVs⟩ := oV.old one j.vone
  obtain ⟨dV, dVs⟩ := oV.old two j.vtwo
  have lV := oV.len
  -- all
  have oA := Mgr.andM_ops oV.wf aV oV.ok (F := fun a => (fun c x => decide (c = k) && x) (cnt 0 k a) (a k)) (fun a => by rw [aVs, j.sall, oV.sem]) (st V.1 (fun c x => decide (c = k) && x) pV nV)
  generalize hA : V.1.andM all V.2 = A at oA
  have nA : A.1.n = n := by rw [oA.n, nV]
  have pA := oA.plain pV
  obtain ⟨xA, xAs⟩ := oA.old V.2 oV.ok
  obtain ⟨bA, bAs⟩ := oA.old odd bV
  obtain ⟨cA, cAs⟩ := oA.old one cV
  obtain ⟨dA, dAs⟩ := oA.old two dV
  have lA := oA.len
  rw [nV] at lA
  -- odd
  have oO := Mgr.xorM_ops oA.wf bA xA (F := fun a => (fun c x => decide (c % 2 = 1) ^^ x) (cnt 0 k a) (a k)) (fun a => by rw [bAs, bVs, j.sodd, xAs, oV.sem]) (st A.1 (fun c x => decide (c % 2 = 1) ^^ x) pA nA)
    (t := 2 * (k + 1)) (by
      have := st A.1 (fun _ x => !x) pA nA
      have e : (fun a => !A.1.sem V.2.toNat a) = fun a : Nat → Bool => !a k := by funext a; rw [xAs, oV.sem]
      rw [e]; exact this)
  generalize hO : A.1.xorM odd V.2 = O at oO
  have nO : O.1.n = n := by rw [oO.n, nA]
  have pO := oO.plain pA
  obtain ⟨xO, xOs⟩ := oO.old V.2 xA
  obtain ⟨aO, aOs⟩ := oO.old A.2 oA.ok
  obtain ⟨cO, cOs⟩ := oO.old one cA
  obtain ⟨dO, dOs⟩ := oO.old two dA
  have lO := oO.len
  rw [nA] at lO
  -- one and x
  have oT1 := Mgr.andM_ops oO.wf cO xO (F := fun a => (fun c x => decide (1 ≤ c) && x) (cnt 0 k a) (a k)) (fun a => by rw [cOs, cAs, cVs, j.sone, xOs, xAs, oV.sem]) (st O.1 (fun c x => decide (1 ≤ c) && x) pO nO)
  generalize hT1 : O.1.andM one V.2 = T1 at oT1
  have nT1 : T1.1.n = n := by rw [oT1.n, nO]
  have pT1 := oT1.plain pO
  obtain ⟨xT1, xT1s⟩ := oT1.old V.2 xO
  obtain ⟨aT1, aT1s⟩ := oT1.old A.2 aO
  obtain ⟨bT1, bT1s⟩ := oT1.old O.2 oO.ok
  obtain ⟨cT1, cT1s⟩ := oT1.old one cO
  obtain ⟨dT1, dT1s⟩ := oT1.old two dO
  have lT1 := oT1.len
  rw [nO] at lT1
  -- two
  have oT2 := Mgr.orM_ops oT1.wf dT1 oT1.ok (F := fun a => (fun c x => decide (2 ≤ c) || (decide (1 ≤ c) && x)) (cnt 0 k a) (a k)) (fun a => by rw [dT1s, dOs, dAs, dVs, j.stwo, oT1.sem]) (st T1.1 (fun c x => decide (2 ≤ c) || (decide (1 ≤ c) && x)) pT1 nT1)
  generalize hT2 : T1.1.orM two T1.2 = T2 at oT2
  have nT2 : T2.1.n = n := by rw [oT2.n, nT1]
  have pT2 := oT2.plain pT1
  obtain ⟨xT2, xT2s⟩ := oT2.old V.2 xT1
  obtain ⟨aT2, aT2s⟩ := oT2.old A.2 aT1
  obtain ⟨bT2, bT2s⟩ := oT2.old O.2 bT1
  obtain ⟨cT2, cT2s⟩ := oT2.old one cT1
  have lT2 := oT2.len
  rw [nT1] at lT2
  -- one
  have oN := Mgr.orM_ops oT2.wf cT2 xT2 (F := fun a => (fun c x => decide (1 ≤ c) || x) (cnt 0 k a) (a k)) (fun a => by rw [cT2s, cT1s, cOs, cAs, cVs, j.sone, xT2s, xT1s, xOs, xAs, oV.sem]) (st T2.1 (fun c x => decide (1 ≤ c) || x) pT2 nT2)
  generalize hN : T2.1.orM one V.2 = N at oN
  obtain ⟨aN, aNs⟩ := oN.old A.2 aT2
  obtain ⟨bN, bNs⟩ := oN.old O.2 bT2
  obtain ⟨dN, dNs⟩ := oN.old T2.2 oT2.ok
  have lN := oN.len
  rw [nT2] at lN
  have hk30 : k * 30000 ≤ 42 * 30000 := Nat.mul_le_mul_right _ (by omega)
  refine ⟨V, A, O, T1, T2, N, ⟨hV.symm, hA.symm, hO.symm, hT1.symm, hT2.symm, hN.symm, ?_, ?_, ?_, ?_, ?_, ?_, ⟨oN.wf, by rw [oN.n, nT2], oN.plain pT2, ?_, aN, bN, oN.ok, dN, fun a => ?_, fun a => ?_, fun a => ?_, fun a => ?_⟩⟩⟩
  · unfold big; omega
  · unfold big; omega
  · unfold big; omega
  · unfold big; omega
  · unfold big; omega
  · unfold big; omega
  · omega
  · rw [aNs, aT2s, aT1s, aOs, oA.sem, cs]
    have := cnt_le 0 k a
    cases a k <;> simp <;> omega
  · rw [bNs, bT2s, bT1s, oO.sem, cs]
    rw [Bool.eq_iff_iff]
    cases a k <;> simp <;> omega
  · rw [oN.sem, cs]
    rw [Bool.eq_iff_iff]
    cases a k <;> simp
  · rw [dNs, oT2.sem, cs]
    rw [Bool.eq_iff_iff]
    cases a k <;> simp
    omega

/-- Behind the loop. -/
structure KnFin (n : Nat) (M : Mgr) (all odd one two : Int) (P Q X : Mgr × Int) : Prop where
  eP : P = M.notM odd
  eQ : Q = P.1.notM two
  eX : X = Q.1.andM all Q.2
  bP : P.1.nodes.length ≤ big
  bQ : Q.1.nodes.length ≤ big
  bX : X.1.nodes.length ≤ big
  s1 : M.sizeM all = n
  s2 : M.sizeM one = n
  s3 : M.sizeM odd = 2 * n - 1
  s4 : M.sizeM two = 2 * n - 2
  s5 : P.1.sizeM P.2 = 2 * n - 1
  s6 : X.2 = 0

theorem kn_fin {n : Nat} {M : Mgr} {all odd one two : Int} (j : KnJ n n M all odd one two) (h3 : 3 ≤ n) (hn : n ≤ 42) : ∃ P Q X, KnFin n M all odd one two P Q X := by
  have st : ∀ (X : Mgr) (phi : Nat → Bool), X.Plain → X.n = n → X.States (fun a => phi (cnt 0 n a)) (2 * (n + 1)) := fun X phi hX hXn =>
    Mgr.states_cnt hX (by omega) (fun c _ => phi c) _ (fun a => rfl)
  have ck : n * (2 * (n + 1)) ≤ 42 * 86 := Nat.mul_le_mul hn (by omega)
  have lenj := j.len
  have hk30 : n * 30000 ≤ 42 * 30000 := Nat.mul_le_mul_right _ (by omega)
  have sizes : ∀ {f : Int}, M.valid f = true → ∀ s, (M.stored f.toNat → M.size f.toNat = s) → M.sizeM f = s := fun {f} hf s hs => by
    unfold Mgr.sizeM; rw [if_pos hf]
    obtain ⟨k, rfl, sk, _⟩ := Mgr.valid_nat j.wf hf
    exact hs (by rw [Int.toNat_natCast]; exact sk)
  have oP := Mgr.notM_ops j.wf j.vodd (F := fun a => (fun c => decide ((c + 1) % 2 = 1)) (cnt 0 n a)) (fun a => by rw [j.sodd, Bool.eq_iff_iff]; simp; omega) (st M (fun c => decide ((c + 1) % 2 = 1)) j.plain j.n)
  generalize hP : M.notM odd = P at oP
  have nP : P.1.n = n := by rw [oP.n, j.n]
  have pP := oP.plain j.plain
  obtain ⟨aP, aPs⟩ := oP.old all j.vall
  obtain ⟨dP, dPs⟩ := oP.old two j.vtwo
  have lP := oP.len
  rw [j.n] at lP
  have oQ := Mgr.notM_ops oP.wf dP (F := fun a => (fun c => !decide (2 ≤ c)) (cnt 0 n a)) (fun a => by rw [dPs, j.stwo]) (st P.1 (fun c => !decide (2 ≤ c)) pP nP)
  generalize hQ : P.1.notM two = Q at oQ
  have nQ : Q.1.n = n := by rw [oQ.n, nP]
  have pQ := oQ.plain pP
  obtain ⟨aQ, aQs⟩ := oQ.old all aP
  have lQ := oQ.len
  rw [nP] at lQ
  have oX := Mgr.andM_ops oQ.wf aQ oQ.ok (F := fun a => (fun c => decide (c = n) && !decide (2 ≤ c)) (cnt 0 n a)) (fun a => by rw [aQs, aPs, j.sall, oQ.sem]) (st Q.1 (fun c => decide (c = n) && !decide (2 ≤ c)) pQ nQ)
  generalize hX : Q.1.andM all Q.2 = X at oX
  have lX := oX.len
  rw [nQ] at lX
  refine ⟨P, Q, X, ⟨hP.symm, hQ.symm, hX.symm, by unfold big; omega, by unfold big; omega, by unfold big; omega, ?_, ?_, ?_, ?_, ?_, ?_⟩⟩
  · exact sizes j.vall _ (fun sf => by have := Mgr.size_all j.wf j.plain sf (fun a => by rw [j.sall, j.n]); rw [this, j.n])
  · exact sizes j.vone _ (fun sf => by have := Mgr.size_one j.wf j.plain sf (fun a => by rw [j.sone, j.n]); rw [this, j.n])
  · exact sizes j.vodd _ (fun sf => by have := Mgr.size_odd j.wf j.plain sf (by rw [j.n]; omega) 0 (fun a => by rw [j.sodd, j.n]; rfl); rw [this, j.n])
  · exact sizes j.vtwo _ (fun sf => by have := Mgr.size_two j.wf j.plain sf (by rw [j.n]; exact h3) (fun a => by rw [j.stwo, j.n]); rw [this, j.n])
  · unfold Mgr.sizeM; rw [if_pos oP.ok]
    obtain ⟨k, hk, sk, _⟩ := Mgr.valid_nat oP.wf oP.ok
    have hk2 : P.2.toNat = k := by rw [hk, Int.toNat_natCast]
    have := Mgr.size_odd oP.wf pP (f := P.2.toNat) (by rw [hk2]; exact sk) (by rw [nP]; omega) 1 (fun a => by rw [oP.sem, nP])
    rw [this, nP]
  · refine Mgr.valid_canon oX.wf oX.ok (Mgr.valid_zero oX.wf) (fun a => ?_)
    rw [oX.sem]
    show _ = X.1.sem 0 a
    rw [Mgr.sem_zero]
    simp only [Bool.and_eq_false_imp, decide_eq_true_eq, Bool.not_eq_false']
    omega

theorem kn_start (n : Nat) : KnJ n 0 (Mgr.new n) 1 0 0 0 := by
  have h1 := Mgr.new_wf n
  refine ⟨h1, by simp [Mgr.n, Mgr.new], fun v hv => ?_, by simp [Mgr.new], Mgr.valid_one h1, Mgr.valid_zero h1, Mgr.valid_zero h1, Mgr.valid_zero h1, fun a => ?_, fun a => ?_, fun a => ?_, fun a => ?_⟩
  · have : v < n := by simpa [Mgr.n, Mgr.new] using hv
    simp [Mgr.lev, Mgr.new, this]
  · show (Mgr.new n).sem 1 a = _; rw [Mgr.sem_one]; simp [cnt]
  · show (Mgr.new n).sem 0 a = _; rw [Mgr.sem_zero]; simp [cnt]
  · show (Mgr.new n).sem 0 a = _; rw [Mgr.sem_zero]; simp [cnt]
  · show (Mgr.new n).sem 0 a = _; rw [Mgr.sem_zero]; simp [cnt]

def KnR (w : World) (p n gk : Nat) (s4 s5 s6 s7 s8 : Value) (wr : World) : Prop :=
  ∃ k M L all odd one two, k + gk = n ∧ s8 = .int .i64 (k : Int) ∧ s4 = .int .i64 all ∧ s5 = .int .i64 odd ∧ s6 = .int .i64 one ∧ s7 = .int .i64 two ∧ KnJ n k M all odd one two ∧ Own w p wr M L

set_option maxRecDepth 100000 in
set_option maxHeartbeats 2000000 in
theorem BddKnown_walk (x : Int) (w : World) : Calls Try.prog 3 #[.int .i64 x] w fun e w' => e = .returned (.bool true) ∧ Kp No w w' := by
  have hp := pick_lt x (n := 40) (by omega)
  obtain ⟨n, hn⟩ : ∃ n, n = 3 + pick x 40 := ⟨_, rfl⟩
  have h3 : 3 ≤ n := by omega
  have h42 : n ≤ 42 := by omega
  have HP := Lib.hid (fun w => Pick_ok x 40 w (by omega) (by omega))
  have HN : Hid ((3 : Int) + (pick x 40 : Int) = (n : Int)) := Lib.hid (by omega)
  have hpi : (0 : Int) ≤ (pick x 40 : Int) ∧ (pick x 40 : Int) < 40 := ⟨by omega, by omega⟩
  have hnv : nvars (n : Int) = n := by unfold nvars; rw [if_neg (by omega), if_neg (by omega)]; omega
  have NEW : Hid (∀ w : World, Calls Try.prog 18 #[.int .i64 (n : Int)] w (NewPost' w n)) := Lib.hid (fun w => by have := New_ok (n : Int) w; rw [hnv] at this; exact this)
  clear hn hp hnv
  obtain ⟨hp0, hp1⟩ := hpi
  generalize (pick x 40 : Int) = q at *
  go_enter Try.func3, Try.ntmps3
  go_wp2_with fail
  refine (awake_ok w).mono ?_
  rintro e w0 ⟨rfl, k0⟩
  go_wp2_with fail
  refine (HP.out w0).mono ?_
  rintro e w0' ⟨rfl, rfl⟩
  go_wp2_with fail
  rw [HN.out]
  refine (NEW.out w0).mono ?_
  rintro e w1 ⟨p, L1, rfl, R1, k1, o1⟩
  have s1 : Own w p w1 (Mgr.new n) L1 := ⟨R1, k0.trans_no k1, fun x hx => Nat.le_trans k0.size (o1 x hx)⟩
  have K0 : Hid (KnR w p n n (.int .i64 1) (.int .i64 0) (.int .i64 0) (.int .i64 0) (.int .i64 0) w1) := ⟨0, _, _, _, _, _, _, by omega, rfl, rfl, rfl, rfl, rfl, kn_start n, s1⟩
  clear R1 k1 o1 s1 k0 NEW HP HN hp0 hp1
  go_wp2_with fail
  go_loopg [4, 5, 6, 7, 8] n (fun gk s4 s5 s6 s7 s8 wr => KnR w p n gk s4 s5 s6 s7 s8 wr)
  case atStart => exact K0.out
  case round =>
    clear K0
    obtain ⟨k, M, L, all, odd, one, two, hk, rfl, rfl, rfl, rfl, rfl, j, s⟩ := hrel
    by_cases hlt : k < n
    · obtain ⟨V, A, O, T1, T2, N, st⟩ := kn_step j hlt h42
      have ST := Lib.hid st
      have HK := Lib.hid hk
      have hlti : (k : Int) < n := by omega
      clear j st hk
      go_wp2_with fail
      refine (Var_ok k s.rep (by rw [← ST.out.eV]; exact ST.out.bV)).mono ?_
      intro e w2 h2
      rw [← ST.out.eV] at h2
      obtain ⟨rfl, L2, s2⟩ := s.step h2
      clear h2 s
      go_wp2_with fail
      refine (And_ok _ _ s2.rep (by rw [← ST.out.eA]; exact ST.out.bA)).mono ?_
      intro e w3 h3'
      rw [← ST.out.eA] at h3'
      obtain ⟨rfl, L3, s3⟩ := s2.step h3'
      clear h3' s2
      go_wp2_with fail
      refine (Xor_ok _ _ s3.rep (by rw [← ST.out.eO]; exact ST.out.bO)).mono ?_
      intro e w4 h4
      rw [← ST.out.eO] at h4
      obtain ⟨rfl, L4, s4⟩ := s3.step h4
      clear h4 s3
      go_wp2_with fail
      refine (And_ok _ _ s4.rep (by rw [← ST.out.eT1]; exact ST.out.bT1)).mono ?_
      intro e w5 h5
      rw [← ST.out.eT1] at h5
      obtain ⟨rfl, L5, s5⟩ := s4.step h5
      clear h5 s4
      go_wp2_with fail
      refine (Or_ok _ _ s5.rep (by rw [← ST.out.eT2]; exact ST.out.bT2)).mono ?_
      intro e w6 h6
      rw [← ST.out.eT2] at h6
      obtain ⟨rfl, L6, s6⟩ := s5.step h6
      clear h6 s5
      go_wp2_with fail
      refine (Or_ok _ _ s6.rep (by rw [← ST.out.eN]; exact ST.out.bN)).mono ?_
      intro e w7 h7
      rw [← ST.out.eN] at h7
      obtain ⟨rfl, L7, s7⟩ := s6.step h7
      have S7 := Lib.hid s7
      clear h7 s6 s7
      go_wp2_with fail
      go_roundg (n - (k + 1))
      case measure => have := HK.out; omega
      case rel => exact ⟨k + 1, N.1, L7, A.2, O.2, N.2, T2.2, by omega, by go_num, rfl, rfl, rfl, rfl, ST.out.next, S7.out⟩
    · have hkn : k = n := by omega
      subst hkn
      obtain ⟨P, Q, X, fn⟩ := kn_fin j h3 h42
      have FN := Lib.hid fn
      have hlti : ¬ (k : Int) < k := by omega
      clear j fn hk hlt
      have b1 : (2 : Int) * k - 1 = ((2 * k - 1 : Nat) : Int) := by omega
      have b2 : (2 : Int) * k - 2 = ((2 * k - 2 : Nat) : Int) := by omega
      have B1 := Lib.hid b1
      have B2 := Lib.hid b2
      clear b1 b2
      go_wp2_with fail
      refine (Size_ok all s.rep).mono ?_
      rw [FN.out.s1]
      rintro e w2 ⟨rfl, k2⟩
      have s2 := s.no k2
      clear k2 s
      go_wp2_with fail
      refine (Size_ok one s2.rep).mono ?_
      rw [FN.out.s2]
      rintro e w3 ⟨rfl, k3⟩
      have s3 := s2.no k3
      clear k3 s2
      go_wp2_with fail
      refine (Size_ok odd s3.rep).mono ?_
      rw [FN.out.s3, ← B1.out]
      rintro e w4 ⟨rfl, k4⟩
      have s4 := s3.no k4
      clear k4 s3
      go_wp2_with fail
      refine (Size_ok two s4.rep).mono ?_
      rw [FN.out.s4, ← B2.out]
      rintro e w5 ⟨rfl, k5⟩
      have s5 := s4.no k5
      clear k5 s4
      go_wp2_with fail
      refine (Not_ok odd s5.rep (by rw [← FN.out.eP]; exact FN.out.bP)).mono ?_
      intro e w6 h6
      rw [← FN.out.eP] at h6
      obtain ⟨rfl, L6, s6⟩ := s5.step h6
      clear h6 s5
      go_wp2_with fail
      refine (Size_ok P.2 s6.rep).mono ?_
      rw [FN.out.s5, ← B1.out]
      rintro e w7 ⟨rfl, k7⟩
      have s7 := s6.no k7
      clear k7 s6
      go_wp2_with fail
      refine (Not_ok two s7.rep (by rw [← FN.out.eQ]; exact FN.out.bQ)).mono ?_
      intro e w8 h8
      rw [← FN.out.eQ] at h8
      obtain ⟨rfl, L8, s8⟩ := s7.step h8
      clear h8 s7
      go_wp2_with fail
      refine (And_ok all Q.2 s8.rep (by rw [← FN.out.eX]; exact FN.out.bX)).mono ?_
      intro e w9 h9
      rw [← FN.out.eX, FN.out.s6] at h9
      obtain ⟨rfl, L9, s9⟩ := s8.step h9
      clear h9 s8
      go_wp2_with fail
      go_ret
      exact ⟨rfl, s9.kp⟩

end Go.Proofs.Ytifompekiockmaa
