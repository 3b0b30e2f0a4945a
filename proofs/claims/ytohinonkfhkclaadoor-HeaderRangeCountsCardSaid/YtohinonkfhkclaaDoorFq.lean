/-
  Plain mathematics: the law FailureLists.
-/
import Derived.Test.YtohinonkfhkclaaDoorFb
namespace Go.Proofs.YtohinonkfhkclaaDoor
open Go.RowKit

/-! ### the order -/
theorem lexB_tr : ∀ (a b c : List Nat), a.length = b.length → b.length = c.length → lexB a b = true → lexB b c = true → lexB a c = true
  | [], _, _, _, _, h, _ => by simp [lexB] at h
  | _ :: _, [], _, h, _, _, _ => by simp at h
  | _ :: _, _ :: _, [], _, h, _, _ => by simp at h
  | x :: a, y :: b, z :: c, h1, h2, h3, h4 => by
    simp only [lexB] at *
    by_cases e1 : x = y
    · subst e1
      by_cases e2 : x = z
      · subst e2
        simp only [if_true] at *
        exact lexB_tr a b c (by simpa using h1) (by simpa using h2) h3 h4
      · rw [if_neg e2] at *; exact h4
    · rw [if_neg e1] at h3
      have h3' := of_decide_eq_true h3
      by_cases e2 : y = z
      · subst e2; rw [if_neg e1]; exact h3
      · rw [if_neg e2] at h4
        have h4' := of_decide_eq_true h4
        rw [if_neg (by omega)]; exact decide_eq_true (by omega)
theorem lexB_tri : ∀ (a b : List Nat), a.length = b.length → a ≠ b → lexB a b = false → lexB b a = true
  | [], [], _, h, _ => absurd rfl h
  | [], _ :: _, h, _, _ => by simp at h
  | _ :: _, [], h, _, _ => by simp at h
  | x :: a, y :: b, h1, h2, h3 => by
    simp only [lexB] at *
    by_cases e1 : x = y
    · subst e1
      simp only [if_true] at *
      exact lexB_tri a b (by simpa using h1) (fun h => h2 (by rw [h])) h3
    · rw [if_neg e1] at h3
      have h3' := of_decide_eq_false h3
      rw [if_neg (fun h => e1 h.symm)]; exact decide_eq_true (by omega)
theorem befB_tr {a b c : List Nat} (h1 : befB a b = true) (h2 : befB b c = true) : befB a c = true := by
  unfold befB at *
  by_cases e1 : a.length = b.length
  · rw [if_pos e1] at h1
    by_cases e2 : b.length = c.length
    · rw [if_pos e2] at h2
      rw [if_pos (by omega)]; exact lexB_tr a b c e1 e2 h1 h2
    · rw [if_neg e2] at h2
      rw [if_neg (by omega)]; have := of_decide_eq_true h2; exact decide_eq_true (by omega)
  · rw [if_neg e1] at h1
    have g1 := of_decide_eq_true h1
    by_cases e2 : b.length = c.length
    · rw [if_neg (by omega)]; exact decide_eq_true (by omega)
    · rw [if_neg e2] at h2
      have := of_decide_eq_true h2
      rw [if_neg (by omega)]; exact decide_eq_true (by omega)
theorem befB_same (a : List Nat) : befB a a = false := by unfold befB; rw [if_pos rfl]; exact lexB_same a
theorem befB_tri {a b : List Nat} (h1 : a ≠ b) (h2 : befB a b = false) : befB b a = true := by
  unfold befB at *
  by_cases e1 : a.length = b.length
  · rw [if_pos e1] at h2; rw [if_pos e1.symm]; exact lexB_tri a b e1 h1 h2
  · rw [if_neg e1] at h2
    have := of_decide_eq_false h2
    rw [if_neg (fun h => e1 h.symm)]; exact decide_eq_true (by omega)

def SrtB (l : List (List Nat)) : Prop := l.Pairwise fun a b => befB a b = true
theorem SrtB.eq : ∀ {l m : List (List Nat)}, SrtB l → SrtB m → (∀ c, c ∈ l ↔ c ∈ m) → l = m
  | [], [], _, _, _ => rfl
  | [], y :: m, _, _, h => by have := (h y).2 (.head _); cases this
  | x :: l, [], _, _, h => by have := (h x).1 (.head _); cases this
  | x :: l, y :: m, h1, h2, h => by
    obtain ⟨p1, q1⟩ := List.pairwise_cons.1 h1
    obtain ⟨p2, q2⟩ := List.pairwise_cons.1 h2
    have e : x = y := by
      rcases List.mem_cons.1 ((h x).1 (.head _)) with e | e
      · exact e
      · rcases List.mem_cons.1 ((h y).2 (.head _)) with e' | e'
        · exact e'.symm
        · have := befB_tr (p1 y e') (p2 x e)
          rw [befB_same] at this; cases this
    subst e
    rw [SrtB.eq q1 q2 (fun c => ?_)]
    constructor
    · intro hc
      rcases List.mem_cons.1 ((h c).1 (.tail _ hc)) with e | e
      · have := p1 c hc; rw [e, befB_same] at this; cases this
      · exact e
    · intro hc
      rcases List.mem_cons.1 ((h c).2 (.tail _ hc)) with e | e
      · have := p2 c hc; rw [e, befB_same] at this; cases this
      · exact e
theorem insL_cons (y : List Nat) (l : List (List Nat)) (x : List Nat) : insL (y :: l) x = if befB y x = true then y :: insL l x else if y = x then y :: l else x :: y :: l := by
  by_cases hy : befB y x = true
  · rw [if_pos hy]
    have e : insK (y :: l) x = insK l x + 1 := by simp only [insK]; rw [if_pos hy]
    unfold insL
    rw [e, List.getElem?_cons_succ]
    split
    · rfl
    · rw [List.take_succ_cons, List.drop_succ_cons]; rfl
  · rw [if_neg hy]
    have e : insK (y :: l) x = 0 := by simp only [insK]; rw [if_neg hy]
    unfold insL
    rw [e, List.getElem?_cons_zero]
    by_cases h : y = x
    · rw [if_pos (by rw [h]), if_pos h]
    · rw [if_neg (fun h2 => h (Option.some.inj h2)), if_neg h]; rfl
theorem insL_mem : ∀ (l : List (List Nat)) (x c : List Nat), c ∈ insL l x ↔ c = x ∨ c ∈ l
  | [], x, c => by
    have : insL [] x = [x] := rfl
    rw [this]; simp
  | y :: l, x, c => by
    rw [insL_cons]
    split
    · rw [List.mem_cons, insL_mem l x c, List.mem_cons]
      constructor
      · rintro (h | h | h)
        · exact .inr (.inl h)
        · exact .inl h
        · exact .inr (.inr h)
      · rintro (h | h | h)
        · exact .inr (.inl h)
        · exact .inl h
        · exact .inr (.inr h)
    · split
      · rename_i h
        subst h
        constructor
        · exact fun h => .inr h
        · rintro (h | h)
          · rw [h]; exact .head _
          · exact h
      · rw [List.mem_cons]
theorem insL_srt : ∀ (l : List (List Nat)) (x : List Nat), SrtB l → SrtB (insL l x)
  | [], x, _ => by
    have : insL [] x = [x] := rfl
    rw [this]; exact List.pairwise_singleton _ _
  | y :: l, x, h => by
    obtain ⟨p1, q1⟩ := List.pairwise_cons.1 h
    rw [insL_cons]
    split
    · rename_i hb
      refine List.pairwise_cons.2 ⟨fun c hc => ?_, insL_srt l x q1⟩
      rcases (insL_mem l x c).1 hc with e | e
      · rw [e]; exact hb
      · exact p1 c e
    · split
      · exact h
      · rename_i hb hne
        have hx : befB x y = true := befB_tri hne (by simpa using hb)
        refine List.pairwise_cons.2 ⟨fun c hc => ?_, h⟩
        rcases List.mem_cons.1 hc with e | e
        · rw [e]; exact hx
        · exact befB_tr hx (p1 c e)
theorem insL_len (l : List (List Nat)) (x : List Nat) : (insL l x).length ≤ l.length + 1 := by
  unfold insL
  split
  · omega
  · have := insK_le l x; simp; omega

/-! ### all sets of at most two links -/
def allU : List (List Nat) := setsL (fun _ => true) 12 2
def srtC : List (List Nat) → Bool
  | [] => true
  | x :: l => l.all (fun y => befB x y) && srtC l
theorem srtC_ok : ∀ l, srtC l = true → SrtB l
  | [], _ => List.Pairwise.nil
  | x :: l, h => by
    simp only [srtC, Bool.and_eq_true] at h
    exact List.pairwise_cons.2 ⟨fun y hy => List.all_eq_true.1 h.1 y hy, srtC_ok l h.2⟩
theorem allU_srt : SrtB allU := srtC_ok _ (by decide +kernel)
theorem sets_part : ((List.range 13).all fun L => (List.range 3).all fun K => decide (setsL (fun _ => true) L K = allU.filter fun c => decide (c.length ≤ K) && c.all fun v => decide (v < L))) = true := by decide +kernel
theorem allU_dn : (allU.all fun c => decide (c = dnL (fun v => decide (v ∈ c)) 12)) = true := by decide +kernel
theorem dw_small : ((List.range 4096).all fun s => !decide ((dwL s).length ≤ 2) || decide (dwL s ∈ allU)) = true := by decide +kernel
theorem dw_last : ((List.range 4096).all fun s => (dwL s).all fun v => decide (v ≤ (dwL s).getD ((dwL s).length - 1) 0)) = true := by decide +kernel
theorem dwL_mod (s : Nat) : dwL s = dwL (s % 4096) := dwL_ext fun v hv => by
  rw [show (4096 : Nat) = 2 ^ 12 from rfl, Nat.testBit_mod_two_pow]; simp [hv]
theorem dwL_in (s : Nat) (h : (dwL s).length ≤ 2) : dwL s ∈ allU := by
  rw [dwL_mod] at *
  have := List.all_eq_true.1 dw_small (s % 4096) (List.mem_range.2 (Nat.mod_lt _ (by omega)))
  simpa [h] using this
theorem dwL_last (s : Nat) {v : Nat} (hv : v ∈ dwL s) : v ≤ (dwL s).getD ((dwL s).length - 1) 0 := by
  rw [dwL_mod] at *
  have := List.all_eq_true.1 dw_last (s % 4096) (List.mem_range.2 (Nat.mod_lt _ (by omega)))
  have := List.all_eq_true.1 this v hv
  exact of_decide_eq_true this
theorem setsUp_true (F : Bfn) (L : Nat) : ∀ s, setsUp F L s = (setsUp (fun _ => true) L s).filter (inF F)
  | 0 => rfl
  | s + 1 => by
    rw [setsUp_succ, setsUp_succ, List.filter_append, ← setsUp_true F L s]
    congr 1
    rw [List.filter_filter]
    exact List.filter_congr (fun c _ => by simp [inF])
theorem setsL_part (F : Bfn) {L K : Nat} (hL : L ≤ 12) (hK : K ≤ 2) : setsL F L K = (allU.filter fun c => decide (c.length ≤ K) && c.all fun v => decide (v < L)).filter (inF F) := by
  have := List.all_eq_true.1 sets_part L (List.mem_range.2 (by omega))
  have := of_decide_eq_true (List.all_eq_true.1 this K (List.mem_range.2 (by omega)))
  rw [← this]
  exact setsUp_true F L _

/-! ### the law -/
def exS (s : Nat) : Bfn := exF (dnF ((dwL s).map Int.ofNat)) 12
def orF (ss : List Nat) : Bfn := fun a => ss.any fun s => exS s a
theorem orF_rd (ss : List Nat) : Rd 0 12 (orF ss) := by
  intro a b h
  unfold orF
  induction ss with
  | nil => rfl
  | cons s ss ih =>
    have := exF_rd (dnF ((dwL s).map Int.ofNat)) 12 (Nat.le_refl _) a b h
    simp only [List.any_cons, ih]
    rw [show exS s a = exS s b from this]
theorem orF_take (ss : List Nat) {i : Nat} (h : i < ss.length) : orF (ss.take (i + 1)) = fun a => orF (ss.take i) a || exS ss[i] a := by
  funext a
  unfold orF
  rw [List.take_add_one, List.getElem?_eq_getElem h, List.any_append]
  simp only [Option.toList, List.any_cons, List.any_nil, Bool.or_false]
theorem exS_mem (s : Nat) {c : List Nat} (hc : c ∈ allU) : inF (exS s) c = true ↔ c = dwL s := by
  unfold inF exS
  rw [exF_eq _ _ 12 (Nat.le_refl _)]
  constructor
  · intro h
    have e := of_decide_eq_true (List.all_eq_true.1 allU_dn c hc)
    rw [e]
    unfold dwL dnL
    refine List.filter_congr fun v hv => ?_
    have hv := List.mem_range.1 hv
    have := h v (by omega) hv
    rw [this, dnF_map, Bool.eq_iff_iff, decide_eq_true_eq, dwL_mem]
    exact ⟨fun h => h.2, fun h => ⟨hv, h⟩⟩
  · rintro rfl v _ hv
    rw [dnF_map]
def okS (links k : Int) (s : Nat) : Bool := decide (((dwL s).length : Int) ≤ max k (-1)) && decide (dwL s = [] ∨ ((dwL s).getD ((dwL s).length - 1) 0 : Int) < clamp3 links 0 12)
def wantL (links k : Int) (ss : List Nat) : List (List Nat) := ss.foldl (fun l s => if okS links k s = true then insL l (dwL s) else l) []
theorem wantL_take (links k : Int) (ss : List Nat) {i : Nat} (h : i < ss.length) : wantL links k (ss.take (i + 1)) = if okS links k ss[i] = true then insL (wantL links k (ss.take i)) (dwL ss[i]) else wantL links k (ss.take i) := by
  unfold wantL
  rw [List.take_add_one, List.getElem?_eq_getElem h, List.foldl_append]; rfl
theorem wantL_all (links k : Int) (ss : List Nat) : ∀ i, i ≤ ss.length → SrtB (wantL links k (ss.take i)) ∧ (∀ c, c ∈ wantL links k (ss.take i) ↔ ∃ s, s ∈ ss.take i ∧ okS links k s = true ∧ c = dwL s) ∧ (wantL links k (ss.take i)).length ≤ i
  | 0, _ => by
    refine ⟨by simp [wantL, SrtB], fun c => ?_, by simp [wantL]⟩
    simp [wantL]
  | i + 1, h => by
    obtain ⟨h1, h2, h3⟩ := wantL_all links k ss i (by omega)
    have hm : ∀ s, s ∈ ss.take (i + 1) ↔ s ∈ ss.take i ∨ s = ss[i] := fun s => by
      rw [List.take_add_one, List.getElem?_eq_getElem (by omega), List.mem_append]
      simp only [Option.toList, List.mem_singleton]
    rw [wantL_take links k ss (by omega)]
    by_cases ho : okS links k ss[i] = true
    · rw [if_pos ho]
      refine ⟨insL_srt _ _ h1, fun c => ?_, by have := insL_len (wantL links k (ss.take i)) (dwL ss[i]); omega⟩
      rw [insL_mem, h2]
      constructor
      · rintro (e | ⟨s, g1, g2, g3⟩)
        · exact ⟨ss[i], (hm _).2 (.inr rfl), ho, e⟩
        · exact ⟨s, (hm _).2 (.inl g1), g2, g3⟩
      · rintro ⟨s, g1, g2, g3⟩
        rcases (hm s).1 g1 with g | g
        · exact .inr ⟨s, g, g2, g3⟩
        · rw [g] at g3; exact .inl g3
    · rw [if_neg ho]
      refine ⟨h1, fun c => ?_, by omega⟩
      rw [h2]
      constructor
      · rintro ⟨s, g1, g2, g3⟩
        exact ⟨s, (hm _).2 (.inl g1), g2, g3⟩
      · rintro ⟨s, g1, g2, g3⟩
        rcases (hm s).1 g1 with g | g
        · exact ⟨s, g, g2, g3⟩
        · rw [g] at g2; exact absurd g2 ho
theorem okS_eq (links : Int) {k : Int} (h0 : 0 ≤ k) (s : Nat) : okS links k s = (decide ((dwL s).length ≤ k.toNat) && (dwL s).all fun v => decide (v < clN links 12)) := by
  unfold okS
  rw [← clN_clamp]
  have hm : max k (-1) = k := by omega
  rw [hm, Bool.eq_iff_iff, Bool.and_eq_true, Bool.and_eq_true, decide_eq_true_eq, decide_eq_true_eq, decide_eq_true_eq, List.all_eq_true]
  refine and_congr (by omega) ?_
  constructor
  · rintro (h | h) v hv
    · rw [h] at hv; cases hv
    · have := dwL_last s hv
      exact decide_eq_true (by omega)
  · intro h
    rcases List.eq_nil_or_concat (dwL s) with e | ⟨l, b, e⟩
    · exact .inl e
    · refine .inr ?_
      have hb : (dwL s).getD ((dwL s).length - 1) 0 = b := by rw [e]; simp
      have := of_decide_eq_true (h b (by rw [e]; simp))
      rw [hb]; omega
theorem lists_eq (ss : List Nat) (links : Int) {k : Int} (h0 : 0 ≤ k) (h2 : k ≤ 2) : setsL (orF ss) (clN links 12) k.toNat = wantL links k ss := by
  obtain ⟨w1, w2, _⟩ := wantL_all links k ss ss.length (Nat.le_refl _)
  rw [List.take_length] at w1 w2
  rw [setsL_part _ (clN_le _ _) (by omega)]
  refine SrtB.eq ((allU_srt.filter _).filter _) w1 fun c => ?_
  rw [w2, List.mem_filter, List.mem_filter]
  constructor
  · rintro ⟨⟨g1, g2⟩, g3⟩
    obtain ⟨s, hs, e⟩ := List.any_eq_true.1 g3
    have hc := (exS_mem s g1).1 e
    refine ⟨s, hs, ?_, hc⟩
    rw [okS_eq links h0, ← hc]; exact g2
  · rintro ⟨s, hs, ho, rfl⟩
    rw [okS_eq links h0] at ho
    have hu := dwL_in s (by
      have := of_decide_eq_true (Bool.and_eq_true_iff.1 ho).1
      omega)
    exact ⟨⟨hu, ho⟩, List.any_eq_true.2 ⟨s, hs, (exS_mem s hu).2 rfl⟩⟩

end Go.Proofs.YtohinonkfhkclaaDoor
