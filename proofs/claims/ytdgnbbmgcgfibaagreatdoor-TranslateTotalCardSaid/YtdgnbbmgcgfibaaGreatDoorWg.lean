/-
 Image and Preimage of sets of current packets: what they answer, and at what cost.
-/
import Derived.Test.YtdgnbbmgcgfibaaGreatDoorWf
import Derived.Test.YtdgnbbmgcgfibaaGreatDoorIm
namespace Go.Proofs.YtdgnbbmgcgfibaaGreatDoor
open Go.RowKit

/-! ### sets of packets as functions -/
def psF (X : Pkt → Bool) : Bfn := fun a => X (pkA false a)
def pnF (X : Pkt → Bool) : Bfn := fun a => X (pkA true a)
theorem ps_cur (X : Pkt → Bool) : ∀ v, v < 220 → nxV v = true → ∀ a : Nat → Bool, psF X (Mgr.upd a v false) = psF X (Mgr.upd a v true) := fun v _ hn a => by
 have hv := of_decide_eq_true hn
 have e : pkA false (Mgr.upd a v false) = pkA false (Mgr.upd a v true) := pkA_congr (fun u _ => by
  have : hvar u false ≠ v := fun h => by
   have : hvar u false = 12 + 2 * u + 0 := rfl
   omega
  unfold Mgr.upd
  rw [if_neg this, if_neg this])
 unfold psF
 rw [e]
theorem nx_12 {v u : Nat} (hv : v < 12) (hn : nxV u = true) : v ≠ u := fun h => by
 have := of_decide_eq_true hn
 omega
theorem pv_cur {v : Nat} (hv : v < 12) (X : Pkt → Bool) : ∀ u, u < 220 → nxV u = true → ∀ a : Nat → Bool, (fun a => a v && psF X a) (Mgr.upd a u false) = (fun a => a v && psF X a) (Mgr.upd a u true) := fun u hu hn a => by
 have e := ps_cur X u hu hn a
 show (Mgr.upd a u false v && psF X (Mgr.upd a u false)) = (Mgr.upd a u true v && psF X (Mgr.upd a u true))
 rw [e]
 unfold Mgr.upd
 rw [if_neg (nx_12 hv hn), if_neg (nx_12 hv hn)]
theorem xch_pn (X : Pkt → Bool) : rnF xch (pnF X) = psF X := funext fun a => by
 show X (pkA true (fun v => a (xch v))) = X (pkA false a)
 rw [xch_pk true a]
 rfl
theorem xch_ps (X : Pkt → Bool) : rnF xch (psF X) = pnF X := funext fun a => by
 show X (pkA false (fun v => a (xch v))) = X (pkA true a)
 rw [xch_pk false a]
 rfl
theorem xch_v {v : Nat} (hv : v < 12) (F : Bfn) : rnF xch (fun a => a v && F a) = fun a => a v && rnF xch F a := funext fun a => by
 show (a (xch v) && F (fun v => a (xch v))) = (a v && F (fun v => a (xch v)))
 rw [show xch v = v by unfold xch; rw [if_pos hv]]
theorem ps_rd (X : Pkt → Bool) : Rd 12 220 (psF X) := fun a b hab => by
 unfold psF
 rw [pkA_congr (nx := false) (a := a) (b := b) (fun u hu => hab _ (by unfold hvar; omega) (hvar_lt hu false))]
theorem pn_rd (X : Pkt → Bool) : Rd 12 220 (pnF X) := fun a b hab => by
 unfold pnF
 rw [pkA_congr (nx := true) (a := a) (b := b) (fun u hu => hab _ (by unfold hvar; omega) (hvar_lt hu true))]
noncomputable def imB (R : Pkt → Pkt → Prop) (X : Pkt → Bool) : Pkt → Bool := fun q => @decide (∃ p : Pkt, p.ok ∧ X p = true ∧ R p q) (Classical.propDecidable _)
theorem imB_iff {R : Pkt → Pkt → Prop} {X : Pkt → Bool} {q : Pkt} : imB R X q = true ↔ ∃ p : Pkt, p.ok ∧ X p = true ∧ R p q := by
 unfold imB
 exact @decide_eq_true_iff _ (Classical.propDecidable _)
noncomputable def preB (R : Pkt → Pkt → Prop) (X : Pkt → Bool) : Pkt → Bool := fun p => @decide (∃ q : Pkt, q.ok ∧ X q = true ∧ R p q) (Classical.propDecidable _)
theorem preB_iff {R : Pkt → Pkt → Prop} {X : Pkt → Bool} {p : Pkt} : preB R X p = true ↔ ∃ q : Pkt, q.ok ∧ X q = true ∧ R p q := by
 unfold preB
 exact @decide_eq_true_iff _ (Classical.propDecidable _)
theorem ex_wit (nx : Bool) {F : Bfn} (R : Pkt → Pkt → Prop) (hF : ∀ w, F w = true ↔ R (pkA nx w) (pkA (!nx) w)) (a : Nat → Bool) : exQ (hvK nx 104) F a = true ↔ ∃ q : Pkt, q.ok ∧ R q (pkA (!nx) a) := by
 rw [exQ_iff]
 have kept : ∀ b, pkA (!nx) (ovr (hvK nx 104) b a) = pkA (!nx) a := fun b => pkA_congr (fun u hu => by unfold ovr; rw [if_neg hv_not])
 constructor
 ·rintro ⟨b, h⟩
  have := (hF _).1 h
  rw [kept] at this
  exact ⟨_, pkA_ok _ _, this⟩
 ·rintro ⟨q, hq, h⟩
  refine ⟨fun v => q.bit ((v - 12) / 2), (hF _).2 ?_⟩
  rw [kept, (pkA_iff hq nx (ovr (hvK nx 104) (fun v => q.bit ((v - 12) / 2)) a)).2 (fun u hu => by
   unfold ovr
   rw [if_pos (hv_mem hu)]
   show q.bit u = q.bit ((hvar u nx - 12) / 2)
   congr 1
   unfold hvar
   cases nx <;> simp <;> omega)]
  exact h
section
variable {F : Bfn} {R : Pkt → Pkt → Prop} {X : Pkt → Bool}
theorem ex_im (hF : ∀ w, F w = true ↔ R (pkA false w) (pkA true w)) : exQ (hvK false 104) (fun a => F a && psF X a) = pnF (imB R X) := funext fun a => by
 rw [Bool.eq_iff_iff, ex_wit false (fun p q => X p = true ∧ R p q) (fun w => by rw [Bool.and_eq_true, hF, and_comm]; rfl)]
 exact imB_iff.symm
theorem ex_pre (hF : ∀ w, F w = true ↔ R (pkA false w) (pkA true w)) : exQ (hvK true 104) (fun a => F a && rnF xch (psF X) a) = psF (preB R X) := funext fun a => by
 rw [xch_ps, Bool.eq_iff_iff, ex_wit true (fun q p => X q = true ∧ R p q) (fun w => by rw [Bool.and_eq_true, hF, and_comm]; rfl)]
 exact preB_iff.symm
end

/-! ### a link beside -/
theorem v_not {v : Nat} (hv : v < 12) (nx : Bool) : v ∉ hvK nx 104 := fun h => by
 obtain ⟨u, _, e⟩ := mem_hvK.1 h
 unfold hvar at e
 omega
theorem ex_v {v : Nat} (hv : v < 12) (nx : Bool) (F : Bfn) : exQ (hvK nx 104) (fun a => a v && F a) = fun a => a v && exQ (hvK nx 104) F a := funext fun a => by
 have e : ∀ b, ovr (hvK nx 104) b a v = a v := fun b => by unfold ovr; rw [if_neg (v_not hv nx)]
 rw [Bool.eq_iff_iff, exQ_iff, Bool.and_eq_true, exQ_iff]
 simp only [Bool.and_eq_true, e]
 exact ⟨fun ⟨b, h1, h2⟩ => ⟨h1, b, h2⟩, fun ⟨h1, b, h2⟩ => ⟨b, h1, h2⟩⟩
theorem PSt.link {v : Nat} {F : Bfn} {s : Nat} (hv : v < 12) (h : PSt 220 F s) : PSt 220 (fun a => a v && F a) (s * 2) := fun M hn hp => by
 obtain ⟨st, h1, h2⟩ := h M hn hp
 refine ⟨fun d a => st d a * 2 + if v < d ∧ a v = true then 1 else 0, fun d a => mul_add_lt (h1 d a) (by split <;> omega), fun d a a' e b => ?_⟩
 dsimp only at e
 have e1 : st d a = st d a' := by split at e <;> split at e <;> omega
 show (M.mix d a b v && F (M.mix d a b)) = (M.mix d a' b v && F (M.mix d a' b))
 rw [h2 d a a' e1 b]
 have hl := hp v (by omega)
 have e2 : M.mix d a b v = M.mix d a' b v := by
  unfold Mgr.mix
  rw [hl]
  by_cases hd : v < d
  ·rw [if_pos hd, if_pos hd]
   rw [e1] at e
   cases h : a v <;> cases h' : a' v <;> simp [h, h', hd] at e ⊢
  ·rw [if_neg hd, if_neg hd]
 rw [e2]
theorem Listed.link {M : Mgr} (hn : M.n = 220) (hp : M.Plain) {v : Nat} (hv : v < 12) (nx : Bool) {F : Bfn} (hF : Rd 12 220 F) {N : Nat} (h : Listed (M.ProF (hvK nx 104) F) N) : Listed (M.ProF (hvK nx 104) (fun a => a v && F a)) (N + 2) := by
 refine (h.or ((Listed.one (fun _ => false)).or (Listed.one (fun a => a v && exQ (hvK nx 104) F a)))).mono (fun G hG => ?_) (Nat.le_refl _)
 obtain ⟨d', a', d, a, rfl⟩ := hG
 have hl := hp v (by omega)
 have key : ∀ x, exQ (hvK nx 104) (fun y => (fun a => a v && F a) (M.mix d' a' y)) (M.mix d a x) = ((if v < d' then a' v else if v < d then a v else x v) && exQ (hvK nx 104) (fun y => F (M.mix d' a' y)) (M.mix d a x)) := fun x => by
  have e : ∀ b, M.mix d' a' (ovr (hvK nx 104) b (M.mix d a x)) v = if v < d' then a' v else if v < d then a v else x v := fun b => by
   unfold Mgr.mix ovr
   rw [hl, if_neg (v_not hv nx)]
   by_cases h1 : v < d'
   ·rw [if_pos h1, if_pos h1]
   ·rw [if_neg h1, if_neg h1]
    show (if M.lev v < d then a v else x v) = _
    rw [hl]
  rw [Bool.eq_iff_iff, exQ_iff, Bool.and_eq_true, exQ_iff]
  simp only [Bool.and_eq_true, e]
  exact ⟨fun ⟨b, h1, h2⟩ => ⟨h1, b, h2⟩, fun ⟨h1, b, h2⟩ => ⟨b, h1, h2⟩⟩
 by_cases h1 : v < d' ∨ v < d
 ·-- the link is given
  obtain ⟨c, hc⟩ : ∃ c : Bool, ∀ x : Nat → Bool, (if v < d' then a' v else if v < d then a v else x v) = c := by
   by_cases h2 : v < d'
   ·exact ⟨a' v, fun x => by rw [if_pos h2]⟩
   ·exact ⟨a v, fun x => by rw [if_neg h2, if_pos (h1.resolve_left h2)]⟩
  cases c
  ·exact .inr (.inl (funext fun x => by rw [key, hc, Bool.false_and]))
  ·exact .inl ⟨d', a', d, a, funext fun x => by rw [key, hc, Bool.true_and]⟩
 ·-- nothing of the packets is given
  have h2 : ¬ v < d' := fun q => h1 (.inl q)
  have h3 : ¬ v < d := fun q => h1 (.inr q)
  refine .inr (.inr (funext fun x => ?_))
  rw [key, if_neg h2, if_neg h3]
  congr 1
  rw [Bool.eq_iff_iff, exQ_iff, exQ_iff]
  have e : ∀ b, F (M.mix d' a' (ovr (hvK nx 104) b (M.mix d a x))) = F (ovr (hvK nx 104) b x) := fun b => hF _ _ (fun u h12 hu => by
   have hlu := hp u (by omega)
   unfold Mgr.mix ovr
   rw [hlu, if_neg (by omega)]
   by_cases hm : u ∈ hvK nx 104
   ·rw [if_pos hm, if_pos hm]
   ·rw [if_neg hm, if_neg hm]
    show (if M.lev u < d then a u else x u) = x u
    rw [hlu, if_neg (by omega)])
  simp only [e]

/-! ### the calls -/
section
variable {p c : Nat} {M : Mgr} {L : Lay} {w : World} {B : List (Int × Bfn)} {r f : Int} {F : Bfn} {R : Pkt → Pkt → Prop} {X : Pkt → Bool} {N s : Nat}
theorem ImgP_ok (hw : Rep w p M L) (b : Qk 220 c M B) (g : Gl w) (ho : ¬ L.at p 0) (hr : (r, F) ∈ B) (hf : (f, psF X) ∈ B) (hF : ∀ w, F w = true ↔ R (pkA false w) (pkA true w))
  (hN : ∀ M : Mgr, M.n = 220 → M.Plain → Listed (M.ProF (hvK false 104) (fun a => F a && psF X a)) N) (hs : PSt 220 (exQ (hvK false 104) (fun a => F a && psF X a)) s) (hc : c + N + (1105 * s + 220) ≤ 4000000000000) :
  Calls Tryz.prog 14 #[ptr p, .int .i64 r, .int .i64 f] w (OpQ p 220 (c + N + (1105 * s + 220)) L w (psF (imB R X)) B) := by
 have := Image_ok hw b g ho hr hf (curB_ok b hf (ps_cur X)) hN hs hc
 rw [ex_im hF, xch_pn] at this
 exact this
theorem ImgV_ok {v : Nat} (hv : v < 12) (hw : Rep w p M L) (b : Qk 220 c M B) (g : Gl w) (ho : ¬ L.at p 0) (hr : (r, F) ∈ B) (hf : (f, fun a => a v && psF X a) ∈ B) (hrd : Rd 12 220 F) (hF : ∀ w, F w = true ↔ R (pkA false w) (pkA true w))
  (hN : ∀ M : Mgr, M.n = 220 → M.Plain → Listed (M.ProF (hvK false 104) (fun a => F a && psF X a)) N) (hs : PSt 220 (exQ (hvK false 104) (fun a => F a && psF X a)) s) (hc : c + (N + 2) + (1105 * (s * 2) + 220) ≤ 4000000000000) :
  Calls Tryz.prog 14 #[ptr p, .int .i64 r, .int .i64 f] w (OpQ p 220 (c + (N + 2) + (1105 * (s * 2) + 220)) L w (fun a => a v && psF (imB R X) a) B) := by
 have e : (fun a : Nat → Bool => F a && (a v && psF X a)) = fun a => a v && (F a && psF X a) := funext fun a => by
  cases F a <;> cases a v <;> rfl
 have rd : Rd 12 220 (fun a => F a && psF X a) := Rd.op (fun x y => x && y) hrd (ps_rd X)
 have := Image_ok (G := fun a => a v && psF X a) (N := N + 2) (s := s * 2) hw b g ho hr hf (curB_ok b hf (pv_cur hv X)) (fun M hn hp => by rw [e]; exact Listed.link hn hp hv false rd (hN M hn hp)) (by rw [e, ex_v hv]; exact PSt.link hv hs) hc
 rw [e, ex_v hv, ex_im hF, xch_v hv, xch_pn] at this
 exact this
theorem PreP_ok (hw : Rep w p M L) (b : Qk 220 c M B) (g : Gl w) (ho : ¬ L.at p 0) (hr : (r, F) ∈ B) (hf : (f, psF X) ∈ B) (hF : ∀ w, F w = true ↔ R (pkA false w) (pkA true w))
  (hN : ∀ M : Mgr, M.n = 220 → M.Plain → Listed (M.ProF (hvK true 104) (fun a => F a && rnF xch (psF X) a)) N) (hs : PSt 220 (psF X) s) (hc : c + (1105 * s + 220) + N ≤ 4000000000000) :
  Calls Tryz.prog 13 #[ptr p, .int .i64 r, .int .i64 f] w (OpQ p 220 (c + (1105 * s + 220) + N) L w (psF (preB R X)) B) := by
 have := Preimage_ok hw b g ho hr hf (curB_ok b hf (ps_cur X)) hN hs hc
 rw [ex_pre hF] at this
 exact this
theorem PreV_ok {v : Nat} (hv : v < 12) (hw : Rep w p M L) (b : Qk 220 c M B) (g : Gl w) (ho : ¬ L.at p 0) (hr : (r, fun a => a v && F a) ∈ B) (hf : (f, psF X) ∈ B) (hrd : Rd 12 220 F) (hF : ∀ w, F w = true ↔ R (pkA false w) (pkA true w))
  (hN : ∀ M : Mgr, M.n = 220 → M.Plain → Listed (M.ProF (hvK true 104) (fun a => F a && rnF xch (psF X) a)) N) (hs : PSt 220 (psF X) s) (hc : c + (1105 * s + 220) + (N + 2) ≤ 4000000000000) :
  Calls Tryz.prog 13 #[ptr p, .int .i64 r, .int .i64 f] w (OpQ p 220 (c + (1105 * s + 220) + (N + 2)) L w (fun a => a v && psF (preB R X) a) B) := by
 have e : (fun a : Nat → Bool => (a v && F a) && rnF xch (psF X) a) = fun a => a v && (F a && rnF xch (psF X) a) := funext fun a => by
  cases F a <;> cases a v <;> rfl
 have rd : Rd 12 220 (fun a => F a && rnF xch (psF X) a) := Rd.op (fun x y => x && y) hrd (by rw [xch_ps]; exact pn_rd X)
 have := Preimage_ok (F := fun a => a v && F a) (N := N + 2) hw b g ho hr hf (curB_ok b hf (ps_cur X)) (fun M hn hp => by rw [e]; exact Listed.link hn hp hv true rd (hN M hn hp)) hs hc
 rw [e, ex_v hv, ex_pre hF] at this
 exact this
end

/-! ### matches -/
def muR (m : Mt) : Ru := ⟨true, m.pr, m.sa, ntN (mkN (clI m.sl)), m.da, ntN (mkN (clI m.dl)), m.s0, m.s1, m.d0, m.d1⟩
theorem wn_in {k : Nat} {lo hi : Int} (h0 : 0 ≤ lo) (h1 : lo ≤ hi) (h2 : hi ≤ 65535) : wnF k lo hi = rgF k false (u32 lo) (u32 hi) := by
 unfold wnF wnP u32
 rw [if_pos (by omega)]
 dsimp only
 rw [show (max lo 0).toNat = (lo % 4294967296).toNat by omega, show (min hi 65535).toNat = (hi % 4294967296).toNat by omega]
theorem mt_ps {m : Mt} (hm : mtB m = true) : mtF m false = psF (gB [muR m]) := funext fun a => by
 obtain ⟨_, _, hpr, hs, hd⟩ := mtB_true hm
 have e1 : gB [muR m] (pkA false a) = (muR m).F a := by
  rw [ru_pk]
  show (ruB (muR m) (pkA false a) || false) = _
  rw [Bool.or_false]
 show mtF m false a = gB [muR m] (pkA false a)
 rw [e1]
 have e2 : mfx m false a = (muR m).cu a := by
  unfold mfx Ru.cu Ru.wi
  by_cases h0 : 0 ≤ m.pr
  ·rw [if_pos h0]
   show (mf1 m false a && rgF 2 false (u32 m.pr) (u32 m.pr) a) = ((wiF 0 false m.sa (ntN (mkN (clI m.sl))) 32 a && wiF 1 false m.da (ntN (mkN (clI m.dl))) 32 a) && (decide (m.pr = -1) || wnF 2 m.pr m.pr a))
   rw [wn_in h0 (by omega) (by omega), decide_eq_false (by omega), Bool.false_or]
   rfl
  ·rw [if_neg h0]
   show mf1 m false a = ((wiF 0 false m.sa (ntN (mkN (clI m.sl))) 32 a && wiF 1 false m.da (ntN (mkN (clI m.dl))) 32 a) && (decide (m.pr = -1) || wnF 2 m.pr m.pr a))
   rw [decide_eq_true (by omega), Bool.true_or, Bool.and_true]
   rfl
 show (mfx m false a && rgF 3 false (u32 m.s0) (u32 m.s1) a && rgF 4 false (u32 m.d0) (u32 m.d1) a) = ((muR m).cu a && wnF 3 m.s0 m.s1 a && wnF 4 m.d0 m.d1 a)
 rw [e2, wn_in hs.1 hs.2.1 hs.2.2, wn_in hd.1 hd.2.1 hd.2.2]

/-! ### the relation of sources -/
theorem NI1 : NI 1 ≤ 361300000000 := by decide +kernel
theorem NI2 : NI 2 ≤ 761200000000 := by decide +kernel
theorem NP1 : NP 1 ≤ 88700000000 := by decide +kernel
theorem TB1 : 33 * TB 1 100 ≤ 151400000 := by decide +kernel
theorem TB2 : 33 * TB 2 100 ≤ 320100000 := by decide +kernel
theorem QB1 : QB 1 100 ≤ 20500000 := by decide +kernel
def srR (ac : ByteArray → List Ru) (ts : List Tr) : Pkt → Pkt → Prop := fun p q => q ∈ pkSrc ac ts p
def dsR (ts : List Tr) : Pkt → Pkt → Prop := fun p q => q = pkDst ts p
section
variable {ac : ByteArray → List Ru} {ts : List Tr} {gs : List Ru}
theorem srS_img (hok : ∀ t, t ∈ ts → t.ok) (w : Nat → Bool) : (srcF (ts.map (Tr.ent ac)) w && psF (gB gs) w) = true ↔ SrcR ac ts gs (pkA false w) (pkA true w) := by
 rw [Bool.and_eq_true, src_pk ac ts hok, and_comm]
 exact Iff.rfl
theorem srS_pre (hok : ∀ t, t ∈ ts → t.ok) (w : Nat → Bool) : (srcF (ts.map (Tr.ent ac)) w && rnF xch (psF (gB gs)) w) = true ↔ PreR ac ts gs (pkA true w) (pkA false w) := by
 rw [xch_ps, Bool.and_eq_true, src_pk ac ts hok, and_comm]
 exact Iff.rfl
end
end Go.Proofs.YtdgnbbmgcgfibaaGreatDoor
