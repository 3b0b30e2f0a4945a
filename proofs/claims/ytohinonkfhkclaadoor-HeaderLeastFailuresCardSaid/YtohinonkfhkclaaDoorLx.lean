/-
  Plain mathematics: least assignments and counts of unions of cubes.
-/
import Derived.Test.YtohinonkfhkclaaDoorLe
import Derived.Test.YtohinonkfhkclaaDoorXe
import Derived.Test.YtohinonkfhkclaaDoorCn
namespace Go.Proofs.YtohinonkfhkclaaDoor

/-! ### cubes -/
/-- The assignments that agree with x on the variables W. -/
def agB (W : Nat → Bool) (x a : Nat → Bool) : Bool := (List.range 220).all fun v => !W v || (a v == x v)
theorem agB_iff {W : Nat → Bool} {x a : Nat → Bool} : agB W x a = true ↔ ∀ v, v < 220 → W v = true → a v = x v := by
  unfold agB
  rw [List.all_eq_true]
  constructor
  · intro h v hv hw
    have := h v (List.mem_range.2 hv)
    rw [hw] at this
    simpa using this
  · intro h v hv
    have hv := List.mem_range.1 hv
    cases hw : W v
    · simp
    · simp [h v hv hw]
/-- The union of the cubes of l. -/
def cubF (W : Nat → Bool) (l : List (Nat → Bool)) : Bfn := fun a => l.any fun x => agB W x a
theorem cubF_iff {W : Nat → Bool} {l : List (Nat → Bool)} {a : Nat → Bool} : cubF W l a = true ↔ ∃ x, x ∈ l ∧ ∀ v, v < 220 → W v = true → a v = x v := by
  unfold cubF
  rw [List.any_eq_true]
  constructor
  · rintro ⟨x, hx, h⟩; exact ⟨x, hx, agB_iff.1 h⟩
  · rintro ⟨x, hx, h⟩; exact ⟨x, hx, agB_iff.2 h⟩
theorem cubF_congr {W : Nat → Bool} {l : List (Nat → Bool)} {a b : Nat → Bool} (h : ∀ v, v < 220 → W v = true → a v = b v) : cubF W l a = cubF W l b := by
  rw [Bool.eq_iff_iff, cubF_iff, cubF_iff]
  constructor
  · rintro ⟨x, hx, e⟩; exact ⟨x, hx, fun v hv hw => by rw [← h v hv hw]; exact e v hv hw⟩
  · rintro ⟨x, hx, e⟩; exact ⟨x, hx, fun v hv hw => by rw [h v hv hw]; exact e v hv hw⟩
theorem cubF_st (W : Nat → Bool) (l : List (Nat → Bool)) : PSt 220 (cubF W l) (l.length + 1) := fun M _ _ => by
  refine ⟨fun d a => l.findIdx fun x => agB (fun v => W v && decide (M.lev v < d)) x a, fun d a => Nat.lt_succ_of_le (List.findIdx_le_length ..), fun d a a' e b => ?_⟩
  dsimp only at e
  by_cases h : (l.findIdx fun x => agB (fun v => W v && decide (M.lev v < d)) x a) < l.length
  · have h1 := List.findIdx_getElem (w := h)
    have h2 : agB (fun v => W v && decide (M.lev v < d)) (l[l.findIdx fun x => agB (fun v => W v && decide (M.lev v < d)) x a]) a' = true := by
      have h' := h
      simp only [e] at h' ⊢
      exact List.findIdx_getElem (w := h')
    rw [agB_iff] at h1 h2
    refine cubF_congr (fun v hv hw => ?_)
    unfold Mgr.mix
    by_cases hd : M.lev v < d
    · rw [if_pos hd, if_pos hd, h1 v hv (by simp [hw, hd]), h2 v hv (by simp [hw, hd])]
    · rw [if_neg hd, if_neg hd]
  · have no : ∀ c, ¬ (l.findIdx fun x => agB (fun v => W v && decide (M.lev v < d)) x c) < l.length → cubF W l (M.mix d c b) = false := fun c hc => by
      cases hx : cubF W l (M.mix d c b)
      · rfl
      obtain ⟨x, hm, hx⟩ := cubF_iff.1 hx
      refine absurd (List.findIdx_lt_length_of_exists ⟨x, hm, ?_⟩) hc
      rw [agB_iff]
      intro v hv hw
      simp only [Bool.and_eq_true, decide_eq_true_eq] at hw
      have := hx v hv hw.1
      unfold Mgr.mix at this
      rw [if_pos hw.2] at this
      exact this
    rw [no a h, no a' (by rw [← e]; exact h)]

/-! ### counts -/
theorem cntL_zero : ∀ (vs : List Nat) {F : Bfn}, (∀ a, F a = false) → cntL F vs = 0
  | [], F, h => by unfold cntL; simp [h]
  | v :: vs, F, h => by
    simp only [cntL]
    rw [cntL_zero vs (fun a => h _), cntL_zero vs (fun a => h _)]
theorem cntL_or : ∀ (vs : List Nat) {F G : Bfn}, (∀ a, F a = true → G a = true → False) → cntL (fun a => F a || G a) vs = cntL F vs + cntL G vs
  | [], F, G, h => by
    have := h (fun _ => false)
    unfold cntL
    cases h1 : F (fun _ => false) <;> cases h2 : G (fun _ => false) <;> simp_all
  | v :: vs, F, G, h => by
    simp only [cntL]
    rw [cntL_or vs (fun a => h _), cntL_or vs (fun a => h _)]
    omega
theorem cntL_one (x : Nat → Bool) : ∀ (vs : List Nat) {F : Bfn}, vs.Nodup → (∀ a, F a = true ↔ ∀ v, v ∈ vs → a v = x v) → cntL F vs = 1
  | [], F, _, h => by unfold cntL; rw [(h _).2 (fun v hv => by cases hv)]; rfl
  | v :: vs, F, nd, h => by
    rw [List.nodup_cons] at nd
    simp only [cntL]
    have one : cntL (fun a => F (Mgr.upd a v (x v))) vs = 1 := cntL_one x vs nd.2 (fun a => by
      rw [h]
      constructor
      · intro k u hu
        have := k u (List.mem_cons_of_mem _ hu)
        rw [Mgr.upd_other _ _ _ _ (fun e => nd.1 (by rw [← e]; exact hu))] at this
        exact this
      · intro k u hu
        rcases List.mem_cons.1 hu with rfl | hu
        · exact Mgr.upd_same _ _ _
        · rw [Mgr.upd_other _ _ _ _ (fun e => nd.1 (by rw [← e]; exact hu))]; exact k u hu)
    have zero : cntL (fun a => F (Mgr.upd a v (!x v))) vs = 0 := cntL_zero vs (fun a => by
      cases hx : F (Mgr.upd a v (!x v))
      · rfl
      · have := (h _).1 hx v List.mem_cons_self
        rw [Mgr.upd_same] at this
        cases hv : x v <;> rw [hv] at this <;> cases this)
    cases hx : x v <;> rw [hx] at one zero <;> simp only [Bool.not_true, Bool.not_false] at zero <;> omega

/-! ### least assignments -/
/-- Values at the variables of a list. -/
def aL : List Nat → List Bool → (Nat → Bool) → Nat → Bool
  | v :: vs, x :: xs, a => aL vs xs (Mgr.upd a v x)
  | _, _, a => a
theorem aL_off : ∀ (vs : List Nat) (xs : List Bool) (a : Nat → Bool) {u : Nat}, u ∉ vs → aL vs xs a u = a u
  | [], _, _, _, _ => rfl
  | _ :: _, [], _, _, _ => rfl
  | v :: vs, x :: xs, a, u, h => by
    rw [List.mem_cons, not_or] at h
    simp only [aL]
    rw [aL_off vs xs _ h.2, Mgr.upd_other _ _ _ _ h.1]
theorem upd_id {a : Nat → Bool} {v : Nat} {b : Bool} (h : a v = b) : Mgr.upd a v b = a := by
  funext u
  unfold Mgr.upd
  by_cases e : u = v
  · subst e; simp [h]
  · simp [e]
/-- The number that the values at the variables of a list make. -/
def lexN (a : Nat → Bool) : List Nat → Nat
  | [] => 0
  | v :: vs => (if a v then 2 ^ vs.length else 0) + lexN a vs
theorem lexN_lt (a : Nat → Bool) : ∀ vs, lexN a vs < 2 ^ vs.length
  | [] => by simp [lexN]
  | v :: vs => by
    have := lexN_lt a vs
    simp only [lexN, List.length_cons, Nat.pow_succ]
    split <;> omega
theorem lexN_append (a : Nat → Bool) (l2 : List Nat) : ∀ l1, lexN a (l1 ++ l2) = lexN a l1 * 2 ^ l2.length + lexN a l2
  | [] => by simp [lexN]
  | v :: l1 => by
    rw [List.cons_append]
    simp only [lexN]
    rw [lexN_append a l2 l1, List.length_append, Nat.pow_add, Nat.add_mul]
    split <;> omega
theorem lexN_congr {a b : Nat → Bool} : ∀ {vs : List Nat}, (∀ v, v ∈ vs → a v = b v) → lexN a vs = lexN b vs
  | [], _ => rfl
  | v :: vs, h => by
    simp only [lexN]
    rw [h v List.mem_cons_self, lexN_congr (fun u hu => h u (List.mem_cons_of_mem _ hu))]
theorem lexN_inj {a b : Nat → Bool} : ∀ {vs : List Nat}, lexN a vs = lexN b vs → ∀ v, v ∈ vs → a v = b v
  | [], _, v, hv => by cases hv
  | u :: vs, h, v, hv => by
    simp only [lexN] at h
    have h1 := lexN_lt a vs
    have h2 := lexN_lt b vs
    have key : a u = b u ∧ lexN a vs = lexN b vs := by
      cases h3 : a u <;> cases h4 : b u <;> simp only [h3, h4, if_true, if_false, Bool.false_eq_true] at h <;> first | (exact ⟨rfl, by omega⟩) | (exfalso; omega)
    rcases List.mem_cons.1 hv with rfl | hv
    · exact key.1
    · exact lexN_inj key.2 v hv
theorem lexN_map (a : Nat → Bool) (f : Nat → Nat) : ∀ n, lexN a ((List.range n).map f) = hval (fun b => a (f b)) n
  | 0 => rfl
  | n + 1 => by
    rw [List.range_succ, List.map_append, lexN_append, lexN_map a f n]
    show _ * 2 ^ 1 + ((if a (f n) then 2 ^ 0 else 0) + 0) = 2 * hval (fun b => a (f b)) n + if a (f n) then 1 else 0
    split <;> omega

/-- F depends on the variables of vs alone. -/
def Dep (F : Bfn) (vs : List Nat) : Prop := ∀ a b : Nat → Bool, (∀ v, v ∈ vs → a v = b v) → F a = F b
theorem Dep.tail {F : Bfn} {v : Nat} {vs : List Nat} (h : Dep F (v :: vs)) (x : Bool) : Dep (fun a => F (Mgr.upd a v x)) vs := fun a b hab => h _ _ (fun u hu => by
  by_cases e : u = v
  · subst e; rw [Mgr.upd_same, Mgr.upd_same]
  · rw [Mgr.upd_other _ _ _ _ e, Mgr.upd_other _ _ _ _ e]
    rcases List.mem_cons.1 hu with h | h
    · exact (e h).elim
    · exact hab u h)
theorem lsB_sat {F : Bfn} {v : Nat} {b : Nat → Bool} (hb : F b = true) : ∃ c, F (Mgr.upd c v (lsB F v)) = true := by
  by_cases h : ∀ a, F (Mgr.upd a v false) = false
  · rw [lsB_t h]
    refine ⟨b, ?_⟩
    cases hv : b v
    · have := h b; rw [upd_id hv, hb] at this; cases this
    · rw [upd_id hv, hb]
  · rw [lsB_f h]
    obtain ⟨c, hc⟩ := Classical.not_forall.1 h
    exact ⟨c, by simpa using hc⟩
theorem ls_sat : ∀ (vs : List Nat) {F : Bfn}, vs.Nodup → Dep F vs → (∃ b, F b = true) → ∀ a0, F (aL vs (lsV F vs) a0) = true
  | [], F, _, dep, ⟨b, hb⟩, a0 => by rw [← hb]; exact dep _ _ (fun v hv => by cases hv)
  | v :: vs, F, nd, dep, ⟨b, hb⟩, a0 => by
    rw [List.nodup_cons] at nd
    simp only [lsV, aL]
    have := ls_sat vs nd.2 (dep.tail (lsB F v)) (lsB_sat hb) (Mgr.upd a0 v (lsB F v))
    rw [upd_id (by rw [aL_off vs _ _ nd.1, Mgr.upd_same])] at this
    exact this
theorem ls_le : ∀ (vs : List Nat) {F : Bfn}, vs.Nodup → ∀ {b : Nat → Bool}, F b = true → ∀ a0, lexN (aL vs (lsV F vs) a0) vs ≤ lexN b vs
  | [], _, _, _, _, _ => Nat.le_refl _
  | v :: vs, F, nd, b, hb, a0 => by
    rw [List.nodup_cons] at nd
    simp only [lsV, aL, lexN]
    rw [aL_off vs _ _ nd.1, Mgr.upd_same]
    by_cases e : b v = lsB F v
    · have := ls_le vs (F := fun a => F (Mgr.upd a v (lsB F v))) nd.2 (b := b) (by rw [upd_id e]; exact hb) (Mgr.upd a0 v (lsB F v))
      rw [e]; omega
    · have h1 := lexN_lt (aL vs (lsV (fun a => F (Mgr.upd a v (lsB F v))) vs) (Mgr.upd a0 v (lsB F v))) vs
      cases hB : lsB F v
      · rw [hB] at e h1
        have hv : b v = true := by cases h : b v <;> simp_all
        rw [hv]
        simp only [Bool.false_eq_true, if_false, if_true]
        omega
      · exfalso
        rw [hB] at e
        have hv : b v = false := by cases h : b v <;> simp_all
        have h2 : ∀ a, F (Mgr.upd a v false) = false := by
          apply Classical.byContradiction
          intro h; rw [lsB_f h] at hB; cases hB
        have := h2 b
        rw [upd_id hv, hb] at this
        cases this

/-! ### headers -/
theorem mem_hvC {v : Nat} : v ∈ hvK false 104 ↔ 12 ≤ v ∧ v < 220 ∧ v % 2 = 0 := by
  unfold hvK hvar
  rw [List.mem_map]
  constructor
  · rintro ⟨i, hi, rfl⟩
    have := List.mem_range.1 hi
    simp; omega
  · rintro ⟨h1, h2, h3⟩
    exact ⟨(v - 12) / 2, List.mem_range.2 (by omega), by simp; omega⟩
/-- The variables that header.Least reads. -/
def hlV : List Nat := List.range 12 ++ hvK false 104
theorem hlV_len : hlV.length = 116 := by unfold hlV; rw [List.length_append, hvK_len, List.length_range]
theorem mem_hlV {v : Nat} : v ∈ hlV ↔ v < 220 ∧ (v < 12 ∨ v % 2 = 0) := by
  unfold hlV
  rw [List.mem_append, List.mem_range, mem_hvC]
  omega
theorem hlV_nodup : hlV.Nodup := by decide +kernel
/-- The number of a packet. -/
def pkN (p : Pkt) : Nat := p.f 0 * 2 ^ 72 + p.f 1 * 2 ^ 40 + p.f 2 * 2 ^ 32 + p.f 3 * 2 ^ 16 + p.f 4
theorem hvK_parts (nx : Bool) : hvK nx 104 = (List.range (fw 0)).map (fun b => fvar 0 b nx) ++ ((List.range (fw 1)).map (fun b => fvar 1 b nx) ++ ((List.range (fw 2)).map (fun b => fvar 2 b nx) ++ ((List.range (fw 3)).map (fun b => fvar 3 b nx) ++ (List.range (fw 4)).map (fun b => fvar 4 b nx)))) := by
  cases nx <;> decide +kernel
theorem lexN_hvK (nx : Bool) (a : Nat → Bool) : lexN a (hvK nx 104) = pkN (getP a nx) := by
  rw [hvK_parts]
  simp only [lexN_append, lexN_map, ← fval_hval, List.length_append, List.length_map, List.length_range]
  unfold pkN
  rw [getP_f a nx (by omega), getP_f a nx (by omega), getP_f a nx (by omega), getP_f a nx (by omega), getP_f a nx (by omega)]
  show fval 0 nx a * 2 ^ 72 + (fval 1 nx a * 2 ^ 40 + (fval 2 nx a * 2 ^ 32 + (fval 3 nx a * 2 ^ 16 + fval 4 nx a))) = _
  omega
theorem pkN_inj {p q : Pkt} (hp : p.ok) (hq : q.ok) (h : pkN p = pkN q) : p = q := by
  have a0 := hp.lt (k := 0) (by omega)
  have a1 := hp.lt (k := 1) (by omega)
  have a2 := hp.lt (k := 2) (by omega)
  have a3 := hp.lt (k := 3) (by omega)
  have a4 := hp.lt (k := 4) (by omega)
  have b0 := hq.lt (k := 0) (by omega)
  have b1 := hq.lt (k := 1) (by omega)
  have b2 := hq.lt (k := 2) (by omega)
  have b3 := hq.lt (k := 3) (by omega)
  have b4 := hq.lt (k := 4) (by omega)
  obtain ⟨p2, p3, p4⟩ := hp.f_val
  obtain ⟨q2, q3, q4⟩ := hq.f_val
  have e0 : p.f 0 = p.src := rfl
  have e1 : p.f 1 = p.dst := rfl
  have e2 : q.f 0 = q.src := rfl
  have e3 : q.f 1 = q.dst := rfl
  rw [show 2 ^ fw 0 = 4294967296 from rfl] at a0 b0
  rw [show 2 ^ fw 1 = 4294967296 from rfl] at a1 b1
  rw [show 2 ^ fw 2 = 256 from rfl] at a2 b2
  rw [show 2 ^ fw 3 = 65536 from rfl] at a3 b3
  rw [show 2 ^ fw 4 = 65536 from rfl] at a4 b4
  unfold pkN at h
  rw [show (2 : Nat) ^ 72 = 4722366482869645213696 from rfl, show (2 : Nat) ^ 40 = 1099511627776 from rfl, show (2 : Nat) ^ 32 = 4294967296 from rfl, show (2 : Nat) ^ 16 = 65536 from rfl] at h
  have f0 : p.f 0 = q.f 0 := by omega
  have f1 : p.f 1 = q.f 1 := by omega
  have f2 : p.f 2 = q.f 2 := by omega
  have f3 : p.f 3 = q.f 3 := by omega
  have f4 : p.f 4 = q.f 4 := by omega
  obtain ⟨ps, pd, pp, psp, pdp⟩ := p
  obtain ⟨qs, qd, qp, qsp, qdp⟩ := q
  dsimp only at *
  have : ps = qs := by omega
  have : pd = qd := by omega
  have : pp = qp := by omega
  have : psp = qsp := by omega
  have : pdp = qdp := by omega
  subst_vars; rfl

/-- The current packet. -/
def curW (v : Nat) : Bool := decide (12 ≤ v) && decide (v % 2 = 0)
/-- .. and the failed links. -/
def lnkW (k : Nat) (v : Nat) : Bool := decide (v < k) || curW v
theorem fval_cur {a b : Nat → Bool} (h : ∀ v, v < 220 → curW v = true → a v = b v) {k : Nat} (hk : k < 5) : fval k false a = fval k false b := bval_congr _ (fun i hi => by
  unfold fbit
  have e : fvar k (fw k - 1 - i) false = 12 + 2 * (ff k + (fw k - 1 - i)) + 0 := fvar_eq k _ false
  exact h _ (fvar_lt hk (by omega) false) (by rw [e]; unfold curW; rw [Bool.and_eq_true, decide_eq_true_eq, decide_eq_true_eq]; omega))
theorem getP_cur {a b : Nat → Bool} (h : ∀ v, v < 220 → curW v = true → a v = b v) : getP a false = getP b false := by
  unfold getP
  rw [fval_cur h (by omega), fval_cur h (by omega), fval_cur h (by omega), fval_cur h (by omega), fval_cur h (by omega)]
/-- The cube of a packet. -/
def encP (dn : Nat → Bool) (p : Pkt) : Nat → Bool := encF dn p p
theorem getP_encP (dn : Nat → Bool) {p : Pkt} (hp : p.ok) : getP (encP dn p) false = p := getP_enc dn hp hp false (fun _ _ => rfl)
theorem pk_iff {q : Pkt} (h : q.ok) (nx : Bool) (a : Nat → Bool) : pkF q nx 5 a = true ↔ getP a nx = q := by
  have e : pkF q nx 5 a = true ↔ ∀ k, k < 5 → fval k nx a = q.f k := by
    have r : ∀ k x, rgF k nx x x a = true ↔ fval k nx a = x := fun k x => by unfold rgF; rw [decide_eq_true_eq]; omega
    simp only [pkF, Bool.and_eq_true, r]
    constructor
    · rintro ⟨h0, h1, h2, h3, h4, _⟩ k hk
      rcases five hk with rfl | rfl | rfl | rfl | rfl
      · exact h0
      · exact h1
      · exact h2
      · exact h3
      · exact h4
    · intro h
      exact ⟨h 0 (by omega), h 1 (by omega), h 2 (by omega), h 3 (by omega), h 4 (by omega), trivial⟩
  rw [e]
  constructor
  · intro hk
    refine pkN_inj (getP_ok a nx) h ?_
    unfold pkN
    rw [getP_f a nx (by omega), getP_f a nx (by omega), getP_f a nx (by omega), getP_f a nx (by omega), getP_f a nx (by omega), hk 0 (by omega), hk 1 (by omega), hk 2 (by omega), hk 3 (by omega), hk 4 (by omega)]
  · intro hk k hk5
    rw [← hk, getP_f a nx hk5]
theorem cur_of_getP {a b : Nat → Bool} (h : getP a false = getP b false) {v : Nat} (hv : v < 220) (hw : curW v = true) : a v = b v := by
  have e := congrArg pkN h
  rw [← lexN_hvK, ← lexN_hvK] at e
  unfold curW at hw
  rw [Bool.and_eq_true, decide_eq_true_eq, decide_eq_true_eq] at hw
  exact lexN_inj e v (mem_hvC.2 ⟨hw.1, hv, hw.2⟩)
/-- A packet is a cube. -/
theorem pk_cub {q : Pkt} (h : q.ok) (dn : Nat → Bool) (a : Nat → Bool) : pkF q false 5 a = cubF curW [encP dn q] a := by
  rw [Bool.eq_iff_iff, pk_iff h false, cubF_iff]
  constructor
  · intro e
    exact ⟨_, List.mem_singleton.2 rfl, fun v hv hw => cur_of_getP (by rw [e, getP_encP dn h]) hv hw⟩
  · rintro ⟨x, hx, e⟩
    rw [List.mem_singleton.1 hx] at e
    rw [getP_cur e, getP_encP dn h]
end Go.Proofs.YtohinonkfhkclaaDoor
