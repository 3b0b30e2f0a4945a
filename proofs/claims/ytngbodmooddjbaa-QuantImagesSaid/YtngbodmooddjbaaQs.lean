/-
  The operations of 'quant' in a manager of at most six variables.
-/
import Derived.Test.YtngbodmooddjbaaRm
import Derived.Test.YtngbodmooddjbaaRunJ
namespace Go.Proofs.Ytngbodmooddjbaa
open Go.RowKit

/-! ### few functions -/
/-- a below d, b behind. -/
def mixS (S a b : Nat → Bool) : Nat → Bool := fun v => if S v then a v else b v
theorem mix_mixS (M : Mgr) (d : Nat) (a b : Nat → Bool) : M.mix d a b = mixS (fun v => decide (M.lev v < d)) a b := by
  funext v
  unfold Mgr.mix mixS
  by_cases h : M.lev v < d <;> simp [h]
theorem Rd.exQ {n : Nat} {l : List Nat} {F : Bfn} (h : Rd 0 n F) : Rd 0 n (Go.Proofs.Ytngbodmooddjbaa.exQ l F) := fun a b hab => by
  rw [Bool.eq_iff_iff, exQ_iff, exQ_iff]
  have e : ∀ c, F (ovr l c a) = F (ovr l c b) := fun c => h _ _ (fun v h1 h2 => by unfold ovr; split; rfl; exact hab v h1 h2)
  simp only [e]
theorem Rd.rn {n : Nat} {t : Nat → Nat} (ht : ∀ v, v < n → t v < n) {F : Bfn} (h : Rd 0 n F) : Rd 0 n (rnF t F) := fun _ _ hab => h _ _ (fun v _ hv => hab (t v) (Nat.zero_le _) (ht v hv))
/-- Four lists of n bits. -/
def four (n : Nat) (x : (Nat → Bool) × (Nat → Bool) × (Nat → Bool) × (Nat → Bool)) : Nat :=
  ((Mgr.code n x.1 * 2 ^ n + Mgr.code n x.2.1) * 2 ^ n + Mgr.code n x.2.2.1) * 2 ^ n + Mgr.code n x.2.2.2
theorem four_lt {n : Nat} (hn : n ≤ 6) (x) : four n x < 16777216 := by
  have h0 := pow_le_64 hn
  have h1 := Mgr.code_lt n x.1
  have h2 := Mgr.code_lt n x.2.1
  have h3 := Mgr.code_lt n x.2.2.1
  have h4 := Mgr.code_lt n x.2.2.2
  unfold four
  generalize 2 ^ n = s at *
  have e1 : Mgr.code n x.1 * s ≤ 63 * 64 := Nat.mul_le_mul (by omega) h0
  have e2 : (Mgr.code n x.1 * s + Mgr.code n x.2.1) * s ≤ 4095 * 64 := Nat.mul_le_mul (by omega) h0
  have e3 : ((Mgr.code n x.1 * s + Mgr.code n x.2.1) * s + Mgr.code n x.2.2.1) * s ≤ 262143 * 64 := Nat.mul_le_mul (by omega) h0
  omega
theorem split_eq {s p q p' q' : Nat} (hq : q < s) (hq' : q' < s) (e : p * s + q = p' * s + q') : p = p' ∧ q = q' := by
  rcases Nat.lt_trichotomy p p' with h | h | h
  · have : (p + 1) * s ≤ p' * s := Nat.mul_le_mul_right _ h
    rw [Nat.add_mul] at this; omega
  · subst h; exact ⟨rfl, by omega⟩
  · have : (p' + 1) * s ≤ p * s := Nat.mul_le_mul_right _ h
    rw [Nat.add_mul] at this; omega
theorem four_inj {n : Nat} {x y} (e : four n x = four n y) : (∀ v, v < n → x.1 v = y.1 v) ∧ (∀ v, v < n → x.2.1 v = y.2.1 v) ∧ (∀ v, v < n → x.2.2.1 v = y.2.2.1 v) ∧ ∀ v, v < n → x.2.2.2 v = y.2.2.2 v := by
  unfold four at e
  obtain ⟨e, e4⟩ := split_eq (Mgr.code_lt n _) (Mgr.code_lt n _) e
  obtain ⟨e, e3⟩ := split_eq (Mgr.code_lt n _) (Mgr.code_lt n _) e
  obtain ⟨e1, e2⟩ := split_eq (Mgr.code_lt n _) (Mgr.code_lt n _) e
  exact ⟨Mgr.code_inj n _ _ e1, Mgr.code_inj n _ _ e2, Mgr.code_inj n _ _ e3, Mgr.code_inj n _ _ e4⟩
theorem Listed.four {n : Nat} (hn : n ≤ 6) {F : Bfn} (hF : Rd 0 n F) (T : Bfn → Bfn) (hT : ∀ G, Rd 0 n G → Rd 0 n (T G)) (M : Mgr) : Listed (fun G => ∃ d' a', M.Cof (T fun x => F (M.mix d' a' x)) G) 16777216 := by
  refine Listed.code (A := (Nat → Bool) × (Nat → Bool) × (Nat → Bool) × (Nat → Bool)) (P := fun _ => True) (fun x => fun b => T (fun y => F (mixS x.1 x.2.1 y)) (mixS x.2.2.1 x.2.2.2 b)) (Go.Proofs.Ytngbodmooddjbaa.four n) (fun x _ => four_lt hn x) (fun x y _ _ e => ?_) (fun G hG => ?_)
  · obtain ⟨e1, e2, e3, e4⟩ := four_inj e
    have ein : (fun z => F (mixS x.1 x.2.1 z)) = fun z => F (mixS y.1 y.2.1 z) := funext fun z => hF _ _ (fun v _ hv => by unfold mixS; rw [e1 v hv, e2 v hv])
    have hr : Rd 0 n (fun z => F (mixS y.1 y.2.1 z)) := fun a b hab => hF _ _ (fun v h1 h2 => by unfold mixS; rw [hab v h1 h2])
    funext b
    rw [ein]
    exact hT _ hr _ _ (fun v _ hv => by unfold mixS; rw [e3 v hv, e4 v hv])
  · obtain ⟨d', a', d, a, rfl⟩ := hG
    refine ⟨(fun v => decide (M.lev v < d'), a', fun v => decide (M.lev v < d), a), trivial, funext fun b => ?_⟩
    rw [← mix_mixS]
    have : (fun y => F (mixS (fun v => decide (M.lev v < d')) a' y)) = fun x => F (M.mix d' a' x) := funext fun y => by rw [mix_mixS]
    rw [this]
theorem Listed.pro6 {n : Nat} (hn : n ≤ 6) {F : Bfn} (hF : Rd 0 n F) (l : List Nat) (M : Mgr) : Listed (M.ProF l F) 16777300 :=
  (Listed.four hn hF (fun G => exQ l G) (fun _ h => h.exQ) M).mono (fun _ h => h) (by omega)
theorem Listed.ren6 {n : Nat} (hn : n ≤ 6) {F : Bfn} (hF : Rd 0 n F) {t : Nat → Nat} (ht : ∀ v, v < n → t v < n) (M : Mgr) (hM : M.n = n) : Listed (M.RenF t F) 16777300 := by
  have l2 : Listed (fun G => ∃ v, v < M.n ∧ G = fun a : Nat → Bool => a v) 6 := ⟨fun v a => a v, fun G ⟨v, hv, e⟩ => ⟨v, by omega, e.symm⟩⟩
  exact ((Listed.four hn hF (fun G => rnF t G) (fun _ h => h.rn ht) M).or l2).mono (fun _ h => h) (by omega)

/-! ### contracts -/
section
variable {p n c : Nat} {M : Mgr} {L : Lay} {wr : World} {B : List (Int × Bfn)} {f g h : Int} {F G H : Bfn}
theorem OpQ.more {e : Ending} {w' : World} {c' : Nat} (o : OpQ p n c L wr F B e w') (hc : c ≤ c') : OpQ p n c' L wr F B e w' := by
  obtain ⟨r, M', h1, h2, h3⟩ := o
  exact ⟨r, M', h1, h2.mono hc, h3⟩
theorem st64 (hn : n ≤ 6) (hF : Rd 0 n F) : PSt n F 64 := (PSt.few hF).mono (pow_le_64 hn)
theorem n64 (hn : n ≤ 6) : n * 64 ≤ 384 := by omega
theorem NotS (hn : n ≤ 6) (R : Rep wr p M L) (b : Qk n c M B) (hc : c ≤ 900000000000) (hf : (f, F) ∈ B) : Calls Try.prog 27 #[ptr p, .int .i64 f] wr (OpQ p n (c + 16777300) L wr (fun a => !F a) B) :=
  (NotQ R b hf (st64 hn (b.rd hf)) (by have := n64 hn; omega)).mono (fun e w' o => o.more (by have := n64 hn; omega))
theorem AndS (hn : n ≤ 6) (R : Rep wr p M L) (b : Qk n c M B) (hc : c ≤ 900000000000) (hf : (f, F) ∈ B) (hg : (g, G) ∈ B) : Calls Try.prog 15 #[ptr p, .int .i64 f, .int .i64 g] wr (OpQ p n (c + 16777300) L wr (fun a => F a && G a) B) :=
  (AndQ R b hf hg (st64 hn (Rd.op (fun x y => x && y) (b.rd hf) (b.rd hg))) (by have := n64 hn; omega)).mono (fun e w' o => o.more (by have := n64 hn; omega))
theorem OrS (hn : n ≤ 6) (R : Rep wr p M L) (b : Qk n c M B) (hc : c ≤ 900000000000) (hf : (f, F) ∈ B) (hg : (g, G) ∈ B) : Calls Try.prog 13 #[ptr p, .int .i64 f, .int .i64 g] wr (OpQ p n (c + 16777300) L wr (fun a => F a || G a) B) :=
  (OrQ R b hf hg (st64 hn (Rd.op (fun x y => x || y) (b.rd hf) (b.rd hg))) (by have := n64 hn; omega)).mono (fun e w' o => o.more (by have := n64 hn; omega))
theorem VarS (R : Rep wr p M L) (b : Qk n c M B) (hc : c ≤ 900000000000) {v : Nat} (hv : v < n) : Calls Try.prog 47 #[ptr p, .int .i64 (v : Int)] wr (OpQ p n (c + 16777300) L wr (fun a => a v) B) :=
  (VarQ R b hv (by omega)).mono (fun e w' o => o.more (by omega))
theorem Rd.upd {v : Nat} (x : Bool) (hF : Rd 0 n F) : Rd 0 n (fun a => F (Mgr.upd a v x)) := fun a b hab => hF _ _ (fun u h1 h2 => by
  unfold Mgr.upd; split
  · rfl
  · exact hab u h1 h2)
theorem RestrictS (hn : n ≤ 6) (R : Rep wr p M L) (b : Qk n c M B) (hc : c ≤ 900000000000) (hf : (f, F) ∈ B) {v : Nat} (hv : v < n) (x : Bool) : Calls Try.prog 67 #[ptr p, .int .i64 f, .int .i64 (v : Int), .bool x] wr (OpQ p n (c + 16777300) L wr (fun a => F (Mgr.upd a v x)) B) :=
  (RestrictQ R b hf hv x (st64 hn ((b.rd hf).upd x)) (by have := n64 hn; omega)).mono (fun e w' o => o.more (by have := n64 hn; omega))
theorem IteS (hn : n ≤ 6) (R : Rep wr p M L) (b : Qk n c M B) (hc : c ≤ 900000000000) (hf : (f, F) ∈ B) (hg : (g, G) ∈ B) (hh : (h, H) ∈ B) : Calls Try.prog 50 #[ptr p, .int .i64 f, .int .i64 g, .int .i64 h] wr (OpQ p n (c + 16777300) L wr (fun a => if F a then G a else H a) B) :=
  (IteQ R b hf hg hh (st64 hn (fun a c hac => by show (if _ then _ else _) = (if _ then _ else _); rw [b.rd hf a c hac, b.rd hg a c hac, b.rd hh a c hac])) (by have := n64 hn; omega)).mono (fun e w' o => o.more (by have := n64 hn; omega))
theorem ExistsS (hn : n ≤ 6) (R : Rep wr p M L) (b : Qk n c M B) (hc : c ≤ 900000000000) (hf : (f, F) ∈ B) (l : List Nat) (hl : l.length ≤ 1000000) (hlv : ∀ v, v ∈ l → v < n) {dv : Value} (hd : SrcAt wr dv 1 l.length (l.map natV)) :
    Calls Try.prog 25 #[ptr p, .int .i64 f, dv] wr (OpQ p n (c + 16777300) L wr (exQ l F) B) :=
  ExistsQ R b hf l hl hlv (by omega) hd (N := 16777300) (fun M' _ _ => Listed.pro6 hn (b.rd hf) l M') (by omega)
theorem AndExS (hn : n ≤ 6) (R : Rep wr p M L) (b : Qk n c M B) (hc : c ≤ 900000000000) (hf : (f, F) ∈ B) (hg : (g, G) ∈ B) (l : List Nat) (hl : l.length ≤ 1000000) (hlv : ∀ v, v ∈ l → v < n) {dv : Value} (hd : SrcAt wr dv 1 l.length (l.map natV)) :
    Calls Try.prog 16 #[ptr p, .int .i64 f, .int .i64 g, dv] wr (OpQ p n (c + 16777300) L wr (exQ l (fun a => F a && G a)) B) :=
  AndExQ R b hf hg l hl hlv (by omega) hd (N := 16777300) (fun M' _ _ => Listed.pro6 hn (Rd.op (fun x y => x && y) (b.rd hf) (b.rd hg)) l M') (by omega)
theorem RenameS (hn : n ≤ 6) (h0 : 0 < n) (R : Rep wr p M L) (b : Qk n c M B) (hc : c ≤ 900000000000) (hf : (f, F) ∈ B) (fr tg : List Nat) (hl : fr.length = tg.length) (hll : fr.length ≤ 1000000) (hfr : ∀ v, v ∈ fr → v < n) (hto : ∀ v, v ∈ tg → v < n) (nd : fr.Nodup) (ht : ∀ v, v < n → rnT n fr tg v < n)
    {fv tv : Value} (hd : SrcAt wr fv 1 fr.length (fr.map natV)) (hd2 : SrcAt wr tv 1 tg.length (tg.map natV)) :
    Calls Try.prog 17 #[ptr p, .int .i64 f, fv, tv] wr (OpQ p n (c + 16777300) L wr (rnF (rnT n fr tg) F) B) :=
  RenameQ R b hf fr tg hl hll hfr hto nd (by omega) h0 hd hd2 (N := 16777300) (fun M' hM _ => Listed.ren6 hn (b.rd hf) ht M' hM) (by omega)

/-- 'ForAll'. -/
def alQ (l : List Nat) (F : Bfn) : Bfn := fun a => !exQ l (fun b => !F b) a
set_option maxRecDepth 100000 in
theorem ForAllS (hn : n ≤ 6) (R : Rep wr p M L) (b : Qk n c M B) (hc : c ≤ 800000000000) (hf : (f, F) ∈ B) (l : List Nat) (hl : l.length ≤ 1000000) (hlv : ∀ v, v ∈ l → v < n) {dv : Value} (hd : SrcAt wr dv 1 l.length (l.map natV)) (hoff : ∀ g o m cc, dv = .slice (some ⟨g, o, none⟩) m cc → ¬ L.at p g) :
    Calls Try.prog 26 #[ptr p, .int .i64 f, dv] wr (OpQ p n (c + 3 * 16777300) L wr (alQ l F) B) := by
  have N1 := Lib.hid (NotS hn R b (by omega) hf)
  have S0 := Lib.hid (Sd.start R)
  have HD := Lib.hid hd
  have OFF := Lib.hid hoff
  have LL := Lib.hid hl
  have LV := Lib.hid hlv
  obtain ⟨ao, cp, rfl⟩ := hd.form
  clear R b hf hd hoff hl hlv
  go_enter Try.func26, Try.ntmps26
  go_wp2_with fail
  refine N1.out.mono ?_
  rintro e w1 ⟨r1, M1, ret1, q1, _⟩
  have K1 : Hid (Kp (L.at p) wr w1) := Lib.hid (by obtain ⟨_, _, _, k, _⟩ := ret1; exact k)
  obtain ⟨rfl, L1, s1⟩ := S0.out.step ret1
  have S1 := Lib.hid s1
  have Q1 := Lib.hid q1
  have HD1 := Lib.hid (HD.out.kp K1.out (fun _ g o m cc h => OFF.out g o m cc h))
  clear ret1 s1 q1 N1 S0
  go_wp2_with fail
  refine (ExistsS hn S1.out.rep Q1.out (by omega) (.head _) l LL.out LV.out HD1.out).mono ?_
  rintro e w2 ⟨r2, M2, ret2, q2, _⟩
  obtain ⟨rfl, L2, s2⟩ := S1.out.step ret2
  have S2 := Lib.hid s2
  have Q2 := Lib.hid q2
  clear ret2 s2 q2 S1 Q1
  go_wp2_with fail
  refine (NotS hn S2.out.rep Q2.out (by omega) (.head _)).mono ?_
  rintro e w3 ⟨r3, M3, ret3, q3, h3⟩
  obtain ⟨rfl, L3, s3⟩ := S2.out.step ret3
  have FIN : Hid (OpQ p n (c + 3 * 16777300) L wr (alQ l F) B (.returned (.int .i64 r3)) w3) := Lib.hid ⟨r3, M3, s3.ret _, (q3.mono (by omega)).sub (fun x hx => by
    rcases List.mem_cons.1 hx with rfl | hx
    · exact .head _
    · exact .tail _ (.tail _ (.tail _ hx))), h3⟩
  clear ret3 s3 q3 S2 Q2 h3
  go_wp2_with fail
  go_ret
  exact FIN.out

/-- 'Implies'. -/
theorem Qk.grow {M' : Mgr} {c' : Nat} (b : Qk n c M B) (wf : M'.WF) (e : Mgr.Ext M M') (hc : M'.nodes.length ≤ c') : Qk n c' M' B := by
  refine ⟨wf, by rw [e.n, b.nn], fun v hv => by rw [e.lev]; exact b.pl v (by rw [e.n] at hv; exact hv), hc, fun x hx => ?_⟩
  obtain ⟨v, s⟩ := b.sem x hx
  obtain ⟨k, hk, sk, _⟩ := Mgr.valid_nat b.wf v
  refine ⟨?_, fun a => ?_⟩
  · unfold Mgr.valid at v ⊢
    simp only [Bool.and_eq_true, decide_eq_true_eq] at v ⊢
    exact ⟨v.1, by rw [e.vis, v.2]⟩
  · rw [← s a, hk, Int.toNat_natCast, e.sem b.wf sk]
set_option maxRecDepth 100000 in
theorem ImpliesS (hn : n ≤ 6) (R : Rep wr p M L) (b : Qk n c M B) (hc : c ≤ 800000000000) (hf : (f, F) ∈ B) (hg : (g, G) ∈ B) (x : Bool) (hx : x = true ↔ ∀ a, F a = true → G a = true) :
    Calls Try.prog 28 #[ptr p, .int .i64 f, .int .i64 g] wr fun e w' => ∃ M', Ret p L wr M' (.bool x) e w' ∧ Qk n (c + 16777300) M' B := by
  obtain ⟨v1, s1⟩ := b.at hf
  obtain ⟨v2, s2⟩ := b.at hg
  have V1 := Lib.hid (valid_as f true R v1)
  have V2 := Lib.hid (valid_as g true R v2)
  obtain ⟨k1, rfl, t1, _⟩ := Mgr.valid_nat b.wf v1
  obtain ⟨k2, rfl, t2, _⟩ := Mgr.valid_nat b.wf v2
  have hr : M.Reads (M.n - M.n) (iteF M k1 k2 1) := iteF_reads b.wf t1 t2 (.inl (by omega)) (by omega) (by omega) (by omega)
  have sp := Mgr.build_spec M.n M b.wf (Nat.le_refl _) _ hr
  have hr0 : M.Reads 0 (iteF M k1 k2 1) := by rw [Nat.sub_self] at hr; exact hr
  have cost := Mgr.build_cost b.wf hr0 (Mgr.states_any hr0)
  rw [b.nn] at cost
  have h64 := pow_le_64 hn
  have hm : n * 2 ^ n ≤ 6 * 64 := Nat.mul_le_mul hn h64
  have hcc := b.cost
  have AP := Lib.hid (Apply_ok k1 k2 1 R t1 t2 (.inl (by omega)) (by rw [b.nn]; unfold big; omega))
  rw [b.nn] at AP sp
  have key : (((Mgr.build n M (iteF M k1 k2 1)).2 : Int) == 1) = x := by
    rw [Bool.eq_iff_iff, hx, beq_iff_eq]
    have sem : ∀ a, iteF M k1 k2 1 a = if F a then G a else true := fun a => by
      unfold iteF
      have e1 := s1 a
      have e2 := s2 a
      rw [Int.toNat_natCast] at e1 e2
      rw [e1, e2, Mgr.sem_one]
    constructor
    · intro e a ha
      have e2 : (Mgr.build n M (iteF M k1 k2 1)).2 = 1 := by omega
      have := sp.sem a
      rw [e2, Mgr.sem_one, sem, ha, if_pos rfl] at this
      exact this.symm
    · intro h
      have : (Mgr.build n M (iteF M k1 k2 1)).2 = 1 := Mgr.canon sp.wf sp.st (.inl (by omega)) (fun a => by
        rw [sp.sem, sem, Mgr.sem_one]
        cases ha : F a
        · simp
        · rw [if_pos rfl]; exact h a ha)
      omega
  have QG := Lib.hid (b.grow sp.wf sp.ext (c' := c + 16777300) (by omega))
  have S0 := Lib.hid (Sd.start R)
  generalize Mgr.build n M (iteF M k1 k2 1) = Z at *
  clear R b hf hg v1 s1 v2 s2 t1 t2 hr sp hr0 cost hx
  go_enter Try.func28, Try.ntmps28
  go_wp2_with fail
  refine V1.out.mono ?_
  rintro e w1 ⟨rfl, rfl⟩
  go_wp2_with fail
  refine V2.out.mono ?_
  rintro e w2 ⟨rfl, rfl⟩
  go_wp2_with fail
  refine AP.out.mono ?_
  intro e w3 h3
  obtain ⟨rfl, L3, s3⟩ := S0.out.step h3
  have FIN : Hid (∃ M', Ret p L wr M' (.bool x) (.returned (.bool x)) w3 ∧ Qk n (c + 16777300) M' B) := Lib.hid ⟨Z.1, s3.ret _, QG.out⟩
  clear h3 s3 S0 AP V1 V2 QG
  go_wp2_with fail
  go_ret
  exact FIN.out
end

end Go.Proofs.Ytngbodmooddjbaa
