/-
  'append(s, make([]T, n)...)': an append of n zeros, the elements one cell each.
-/
import Derived.Test.YtngbodmooddjbaaGreatTab
import Derived.Maps.AppendAt
namespace Go.Proofs.YtngbodmooddjbaaGreat
open Go.RowKit

section
variable {P : Program} (w : World)
theorem run_append_zgrow (t ti ty e : TypeId) (i : TypeInfo) (z : Value) (ht : P.underlying t = some (.slice e)) (hti : P.underlying ti = some (.int .i64)) (hi : P.info? e = some i) (hz : i.zero = some z) (hs1 : i.size = 1) (hzc : z.cells = #[z])
    (b : Addr) (sLen sCap : Nat) (olds : List Value) (hlo : olds.length = sLen * i.size) (holds : ∀ j v, olds[j]? = some v → w.cell? (b.add j) = some v)
    (n : Nat) (hg : sCap < sLen + n) (h63 : ((sLen + n : Nat) : Int) ≤ 9223372036854775807) (hmk : (n : Int) * i.bytes ≤ 281474976710656) (hfit : Builtin.nextslicecap (sLen + n) sCap * i.bytes ≤ 281474976710656) (hn0 : 0 < n) :
    (Builtin.append_ #[t, ti] ty #[.slice (some b) sLen sCap, .int .i64 (n : Int)]).run P w =
      .ok (.slice (some ⟨w.heap.size, 0, none⟩) (sLen + n) (grownCap w (sLen + n) sCap e))
        (w.drew.alloc (.cells (olds.toArray ++ (List.replicate n z).toArray ++ Builtin.zeroCells z.cells (grownCap w (sLen + n) sCap e - (sLen + n))) e)) := by
  have hn : ¬ (sLen + n ≤ sCap) := by omega
  have h63' : ¬ (9223372036854775807 < ((sLen : Int) + (n : Int))) := by omega
  have h48' : ¬ (281474976710656 < Builtin.nextslicecap (sLen + n) sCap * i.bytes) := by omega
  have hmk' : ¬ (281474976710656 < (n : Int) * i.bytes) := by omega
  have hneg : ¬ ((n : Int) < 0) := by omega
  have hw : IntKind.i64.wrap (n : Int) = (n : Int) := IntWalk.i64_in _ ⟨by omega, by omega⟩
  have hn1 : ¬ n = 0 := by omega
  have hfo := run_firstCells_some (P := P) w.drew i.size sLen b sLen sCap olds hlo (by simpa using holds)
  rw [hs1] at hfo
  have hzr : Builtin.zeroCells z.cells n = (List.replicate n z).toArray := by
    apply Array.ext'
    simp [Builtin.zeroCells, hzc]
    apply List.ext_getElem
    · simp
    · intro i h1 h2
      simp [Nat.mod_one]
  simp [Builtin.append_, run_underlying ht, run_underlying hti, asInt, asIntOf, sizeOf, typeInfo, zeroValue, hi, hz, hw, hneg, hmk', hn, h63', h48', Question.forced, hfo, newRow, grownCap, hs1, hn1, hzr]
theorem zeroCells_one {z : Value} (hzc : z.cells = #[z]) (n : Nat) : Builtin.zeroCells z.cells n = (List.replicate n z).toArray := by
  apply Array.ext'
  simp [Builtin.zeroCells, hzc]
  apply List.ext_getElem
  · simp
  · intro i h1 h2
    simp [Nat.mod_one]
theorem run_append_zroom (t ti ty e : TypeId) (i : TypeInfo) (z : Value) (ht : P.underlying t = some (.slice e)) (hti : P.underlying ti = some (.int .i64)) (hi : P.info? e = some i) (hz : i.zero = some z) (hs1 : i.size = 1) (hzc : z.cells = #[z]) (hz1 : z.oneCell' = true)
    (g sLen sCap : Nat) (cur : Array Value) (hg : w.heap[g]? = some (.cells cur e (0, 0))) (m : Nat) (hm63 : (m : Int) ≤ 9223372036854775807) (hmk : (m : Int) * i.bytes ≤ 281474976710656)
    (hroom : sLen + m ≤ sCap) (hfit : sLen + m ≤ cur.size) :
    (Builtin.append_ #[t, ti] ty #[.slice (some ⟨g, 0, none⟩) sLen sCap, .int .i64 (m : Int)]).run P w =
      .ok (.slice (some ⟨g, 0, none⟩) (sLen + m) sCap) (w.setRow g (cur.toList.take (sLen * 1) ++ List.replicate m z ++ cur.toList.drop (sLen * 1 + (List.replicate m z).length)).toArray) := by
  have hmk' : ¬ (281474976710656 < (m : Int) * i.bytes) := by omega
  have hneg : ¬ ((m : Int) < 0) := by omega
  have hw : IntKind.i64.wrap (m : Int) = (m : Int) := IntWalk.i64_in _ ⟨by omega, by omega⟩
  have hst := run_storeCells_at P g (sLen * 1) e (List.replicate m z) 0 cur w hg (by simpa using hfit) (fun u hu => by rw [(List.mem_replicate.1 hu).2]; exact hz1)
  simp only [Nat.add_zero] at hst
  have hzr := zeroCells_one hzc m
  simp only [Nat.mul_one] at hst ⊢
  by_cases hm0 : m = 0
  · have hm0' : (m = 0) = True := eq_true hm0
    have hrep : List.replicate m z = [] := by rw [hm0]; rfl
    rw [hrep] at hst ⊢
    clear hm0
    simp [Builtin.append_, run_underlying ht, run_underlying hti, asInt, asIntOf, sizeOf, typeInfo, zeroValue, hi, hz, hw, hneg, hmk', hroom, hs1, hm0', Addr.add_lit]
    rw [hst]
    simp
  · simp [Builtin.append_, run_underlying ht, run_underlying hti, asInt, asIntOf, sizeOf, typeInfo, zeroValue, hi, hz, hw, hneg, hmk', hroom, hs1, hm0, hzr, Addr.add_lit]
    rw [hst]
    simp
theorem run_append_zeros {t ti e : TypeId} (ty : TypeId) {base : Nat} {i : TypeInfo} {z : Value} (ht : P.underlying t = some (.slice e)) (hti : P.underlying ti = some (.int .i64)) (hi : P.info? e = some i) (hz : i.zero = some z) (hs1 : i.size = 1) (hby : i.bytes = 1) (hzc : z.cells = #[z]) (hz1 : z.oneCell' = true)
    {g cap n m : Nat} {xs : List Value} (hown : w.ownsRow base e 1 (.slice (some ⟨g, 0, none⟩) n cap) n xs) (h63 : n + m ≤ 10000000000000) (hbase : base ≤ w.heap.size) :
    ∃ v' w', (Builtin.append_ #[t, ti] ty #[.slice (some ⟨g, 0, none⟩) n cap, .int .i64 (m : Int)]).run P w = .ok v' w' ∧ w'.ownsRow base e 1 v' (n + m) (xs ++ List.replicate m z) ∧ w.grownBy w' (some g) ∧ (v'.ownBlock = some g ∨ v'.ownBlock = some w.heap.size) := by
  have hml := maxLen_val
  have hlen : (xs ++ List.replicate m z).length = (n + m) * 1 := by rw [List.length_append, hown.1, List.length_replicate]; omega
  rcases hown.2 with ⟨hv, _⟩ | ⟨g', cap', cur, hv, hbg, hg, hnc, hcm, hcs, htake⟩
  · cases hv
  · cases hv
    by_cases hroom : n + m ≤ cap
    · have hr := run_append_zroom (P := P) w t ti ty e i z ht hti hi hz hs1 hzc hz1 g n cap cur hg m (by omega) (by rw [hby]; omega) hroom (by omega)
      refine ⟨_, _, hr, ⟨hlen, .inr ⟨g, cap, _, rfl, hbg, setRow_heap w g cur _ e _ hg, hroom, hcm, ?_, ?_⟩⟩, ⟨rfl, rfl, rfl, by simp, fun k _ hk => setRow_other w g k _ (fun e => hk (by rw [e]))⟩, .inl rfl⟩
      · simp only [List.size_toArray, List.length_append, List.length_take, List.length_drop, Array.length_toList, List.length_replicate]
        omega
      · rw [htake, ← hlen]
        exact List.take_left
    · have holds : ∀ j u, xs[j]? = some u → w.cell? ((⟨g, 0, none⟩ : Addr).add j) = some u := hown.cells (g := g) rfl
      have hr := run_append_zgrow (P := P) w t ti ty e i z ht hti hi hz hs1 hzc ⟨g, 0, none⟩ n cap xs (by rw [hs1]; exact hown.1) holds m (by omega) (by omega) (by rw [hby]; omega) (by rw [hby]; exact growslice_fits (by omega) (by omega)) (by omega)
      have hge := grownCap_ge w (n + m) cap e
      have hcm' : grownCap w (n + m) cap e ≤ maxLen := grownCap_le_maxLen w (n + m) cap e (by omega)
      have hx := hown.1
      refine ⟨_, _, hr, ⟨hlen, .inr ⟨w.heap.size, _, _, rfl, hbase, heap_alloc_new w.drew _, hge, hcm', ?_, ?_⟩⟩, ⟨rfl, rfl, rfl, by simp, fun k hk _ => Below.heap_alloc w.drew _ k hk⟩, .inr rfl⟩
      · simp only [Array.size_append, List.size_toArray, size_zeroCells, hzc, List.length_replicate, hx]
        simp
        omega
      · simp only [Array.toList_append]
        rw [← hlen]
        exact List.take_left
end
section
variable {P : Program} {w : World}
theorem wp_append_zeros {o : Oper} {a : Act} {K : Act → World → Prop} {Q : Exit → Act → World → Prop} {s x : Operand} {t ti : TypeId}
    (ho : o.op = .call { callee := .builtin .append, args := #[s, x], argTypes := #[t, ti] })
    {base : Nat} {e : TypeId} {i : TypeInfo} {z : Value} (ht : P.underlying t = some (.slice e)) (hti : P.underlying ti = some (.int .i64)) (hi : P.info? e = some i) (hz : i.zero = some z) (hs1 : i.size = 1) (hby : i.bytes = 1) (hzc : z.cells = #[z]) (hz1 : z.oneCell' = true)
    {g cap n m : Nat} {xs : List Value} (hs : a.eval s = .slice (some ⟨g, 0, none⟩) n cap) (hown : w.ownsRow base e 1 (.slice (some ⟨g, 0, none⟩) n cap) n xs) (hx : a.eval x = .int .i64 (m : Int)) (h63 : n + m ≤ 10000000000000) (hbase : base ≤ w.heap.size)
    (h : ∀ v' w', w'.ownsRow base e 1 v' (n + m) (xs ++ List.replicate m z) → w.grownBy w' (some g) → (v'.ownBlock = some g ∨ v'.ownBlock = some w.heap.size) → K (a.put o.dst v') w') : o.wp P a w K Q := by
  obtain ⟨v', w', hr, h2, h3, h4⟩ := run_append_zeros (P := P) w o.type ht hti hi hz hs1 hby hzc hz1 hown h63 hbase
  unfold Oper.wp execOp
  simp only [ho, resolve, invoke, builtin, Sem.run_bind, Sem.run_pure, Result.andThen_ok, List.map_toArray, List.map_cons, List.map_nil, hs, hx, hr]
  exact h v' w' h2 h3 h4
theorem step_append_zeros {ops : Array Oper} {o : Oper} {a : Act} {K : Act → World → Prop} {Q : Exit → Act → World → Prop} {E : Prop} (hgd : o.guard = none) (s x : Operand) {t ti : TypeId}
    (ho : o.op = .call { callee := .builtin .append, args := #[s, x], argTypes := #[t, ti] })
    {base : Nat} {e : TypeId} {i : TypeInfo} {z : Value} (ht : P.underlying t = some (.slice e)) (hti : P.underlying ti = some (.int .i64)) (hi : P.info? e = some i) (hz : i.zero = some z) (hs1 : i.size = 1) (hby : i.bytes = 1) (hzc : z.cells = #[z]) (hz1 : z.oneCell' = true)
    {g cap n m : Nat} {xs : List Value} (hs : a.eval s = .slice (some ⟨g, 0, none⟩) n cap) (hown : w.ownsRow base e 1 (.slice (some ⟨g, 0, none⟩) n cap) n xs) {zz : Int} (hx : a.eval x = .int .i64 zz) (hzz : zz = (m : Int)) (h63 : n + m ≤ 10000000000000) (hbase : base ≤ w.heap.size)
    (h : ∀ v' w', w'.ownsRow base e 1 v' (n + m) (xs ++ List.replicate m z) → w.grownBy w' (some g) → (v'.ownBlock = some g ∨ v'.ownBlock = some w.heap.size) → K (a.put o.dst v') w') :
    if Region.wanted o (yielded ops a.tmps) = true then Oper.wp P o a w K Q else E := by
  subst hzz
  have hw : Region.wanted o (yielded ops a.tmps) = true := by simp [Region.wanted, hgd]
  rw [if_pos hw]
  exact wp_append_zeros ho ht hti hi hz hs1 hby hzc hz1 hs hown hx h63 hbase h
end

end Go.Proofs.YtngbodmooddjbaaGreat
