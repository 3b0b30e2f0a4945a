/-
  Walks: the checks at a router whose lists are empty.
-/
import Derived.Test.YtdgnbbmgcgfibaaGreatDoorKz
namespace Go.Proofs.YtdgnbbmgcgfibaaGreatDoor
open Go.RowKit

/-- The way through the checks. -/
def CkI (w X : World) (cs : Array Value) (gk : Nat) (s : Value) (x : World) : Prop := ∃ k : Nat, k + gk = 10 ∧ s = .int .i64 (k : Int) ∧ Kp No X x ∧ (4 < k → ∀ (a : Option Addr) (m c : Nat), cs[6]? = some (.slice a m c) → ∀ j, j < m → NatOk w a j)
theorem NatOk.back {w w' : World} {a : Option Addr} {m c j : Nat} (h : NatOk w' a j) (k : Kp No w w') (hf : Flat w trK (.slice a m c)) (hj : j < m) : NatOk w a j := by
  obtain ⟨g, o, a0, a1, a2, a3, a4, a5, a6, a7, a8, e, _, hc, hb, ht⟩ := h
  obtain ⟨g', o', e', hg', _⟩ := Cels.at hf hj
  rw [e] at e'
  cases e'
  have tr : ∀ z, w.cell? ⟨g, z, none⟩ = w'.cell? ⟨g, z, none⟩ := fun z => (k.cell hg' (fun h => h)).symm
  exact ⟨g, o, a0, a1, a2, a3, a4, a5, a6, a7, a8, e, hg', by simp only [tr]; exact hc, hb, ht⟩
theorem cel10b {y : World} {b : Nat} {t : TypeId} {v0 v1 v2 v3 v4 v5 v6 v7 v8 v9 : Value} (h : y.heap[b]? = some (.cells #[v0, v1, v2, v3, v4, v5, v6, v7, v8, v9] t (0, 0))) : y.cell? ⟨b, 0, none⟩ = some v0 ∧ y.cell? ⟨b, 1, none⟩ = some v1 ∧ y.cell? ⟨b, 2, none⟩ = some v2 ∧ y.cell? ⟨b, 3, none⟩ = some v3 ∧ y.cell? ⟨b, 4, none⟩ = some v4 ∧ y.cell? ⟨b, 5, none⟩ = some v5 ∧ y.cell? ⟨b, 6, none⟩ = some v6 ∧ y.cell? ⟨b, 7, none⟩ = some v7 ∧ y.cell? ⟨b, 8, none⟩ = some v8 ∧ y.cell? ⟨b, 9, none⟩ = some v9 :=
  ⟨by simp [World.cell?, h], by simp [World.cell?, h], by simp [World.cell?, h], by simp [World.cell?, h], by simp [World.cell?, h], by simp [World.cell?, h], by simp [World.cell?, h], by simp [World.cell?, h], by simp [World.cell?, h], by simp [World.cell?, h]⟩
set_option maxRecDepth 1000000 in
set_option maxHeartbeats 16000000 in
theorem CheckRouter_any (cs : Array Value) (w : World) (ok : RtC w cs) : Calls Tryz.prog 20 #[.agg cs] w (NatPost w cs) := by
  have h0 := heap_alloc_new w (.cells cs 41)
  have BX : Hid (∀ y, Kp No (w.alloc (.cells cs 41)) y → y.heap[w.heap.size]? = some (.cells cs 41 (0, 0))) := Lib.hid (fun y k => (k.block _ (heap_lt h0) (fun h => h)).trans h0)
  have KA := Lib.hid (Kp.alloc (w := w) (.cells cs 41))
  have OK := Lib.hid ok
  clear h0 ok
  obtain ⟨nm, e0⟩ := OK.out.name
  obtain ⟨asn, e1, _, _⟩ := OK.out.asn
  have NM := Lib.hid (fun (y : World) => Name_any nm y)
  go_enter Tryz.func20, Tryz.ntmps20
  go_upto_region 1 with fail
  generalize w.alloc (.cells cs 41) = X at *
  have f0 : X.cell? ⟨w.heap.size, 0, none⟩ = some (.string nm) := by rw [cell_of_row _ _ _ _ _ _ (BX.out X (Kp.refl _ _))]; exact e0
  have f1 : X.cell? ⟨w.heap.size, 1, none⟩ = some (.int .i64 asn) := by rw [cell_of_row _ _ _ _ _ _ (BX.out X (Kp.refl _ _))]; exact e1
  clear e0 e1
  go_wp2_with fail
  refine (NM.out _).mono ?_
  rintro e y ⟨q0, rfl, rfl⟩
  cases q0
  · go_wp2
    go_ret
    exact ⟨_, rfl, KA.out, fun h => by cases h⟩
  go_wp2_with fail
  refine (within_ok _ _ _ _).mono ?_
  rintro e y ⟨rfl, rfl⟩
  generalize wiB asn 0 65535 = q1
  cases q1
  · go_wp2
    go_ret
    exact ⟨_, rfl, KA.out, fun h => by cases h⟩
  clear f0 f1
  have g0 := heap_alloc_new X (.cells #[.func (.func 44) #[] #[], .func (.func 45) #[] #[], .func (.func 46) #[] #[], .func (.func 47) #[] #[], .func (.func 48) #[] #[], .func (.func 49) #[] #[], .func (.func 50) #[] #[], .func (.func 51) #[] #[], .func (.func 52) #[] #[], .func (.func 53) #[] #[]] 68)
  have KY := Lib.hid (Kp.alloc (w := X) (.cells #[.func (.func 44) #[] #[], .func (.func 45) #[] #[], .func (.func 46) #[] #[], .func (.func 47) #[] #[], .func (.func 48) #[] #[], .func (.func 49) #[] #[], .func (.func 50) #[] #[], .func (.func 51) #[] #[], .func (.func 52) #[] #[], .func (.func 53) #[] #[]] 68))
  go_wp2
  generalize X.alloc (.cells #[.func (.func 44) #[] #[], .func (.func 45) #[] #[], .func (.func 46) #[] #[], .func (.func 47) #[] #[], .func (.func 48) #[] #[], .func (.func 49) #[] #[], .func (.func 50) #[] #[], .func (.func 51) #[] #[], .func (.func 52) #[] #[], .func (.func 53) #[] #[]] 68) = Y at *
  have NB : Hid (∀ y, Kp No Y y → y.heap[X.heap.size]? = some (.cells #[.func (.func 44) #[] #[], .func (.func 45) #[] #[], .func (.func 46) #[] #[], .func (.func 47) #[] #[], .func (.func 48) #[] #[], .func (.func 49) #[] #[], .func (.func 50) #[] #[], .func (.func 51) #[] #[], .func (.func 52) #[] #[], .func (.func 53) #[] #[]] 68 (0, 0))) := Lib.hid (fun y q => (q.block _ (heap_lt g0) (fun h => h)).trans g0)
  clear g0
  go_loopg [18] 10 (fun gk s x => CkI w Y cs gk s x)
  case atStart => exact ⟨0, by omega, rfl, Kp.refl _ _, fun h => by omega⟩
  case round =>
    obtain ⟨k, hk, rfl, kp, hno⟩ := hrel
    have HK := Lib.hid hk
    have KP := Lib.hid kp
    have HNO := Lib.hid hno
    have OW := Lib.hid (OK.out.no (KA.out.trans_no (KY.out.trans_no kp)))
    by_cases hlt : k < 10
    · have hkk : k = 0 ∨ k = 1 ∨ k = 2 ∨ k = 3 ∨ k = 4 ∨ k = 5 ∨ k = 6 ∨ k = 7 ∨ k = 8 ∨ k = 9 := by omega
      clear hk hno hlt
      obtain ⟨g0, g1, g2, g3, g4, g5, g6, g7, g8, g9⟩ := cel10b (NB.out wr kp)
      clear kp
      rcases hkk with rfl | rfl | rfl | rfl | rfl | rfl | rfl | rfl | rfl | rfl
      · go_wp2_with (first | (refine wpList_load_rt rfl _ rfl w.heap.size rfl cs OK.out.sz (BX.out _ (KY.out.trans_no KP.out)) ?_))
        refine (checkInterfaces_any cs wr OW.out).mono ?_
        rintro e y ⟨n, rfl, ky⟩
        have KU := Lib.hid (KP.out.trans_no ky)
        clear ky g0 g1 g2 g3 g4 g5 g6 g7 g8 g9
        by_cases hn0 : n = 0
        · subst hn0
          go_wp2
          go_roundg 9
          case measure => have := HK.out; omega
          case rel => exact ⟨1, by have := HK.out; omega, by go_num, KU.out, fun h => by omega⟩
        · have hnb : (n != 0) = true := by simp [hn0]
          go_wp2
          go_ret
          exact ⟨_, rfl, KA.out.trans_no (KY.out.trans_no KU.out), fun h => absurd h hn0⟩
      · go_wp2_with (first | (refine wpList_load_rt rfl _ rfl w.heap.size rfl cs OK.out.sz (BX.out _ (KY.out.trans_no KP.out)) ?_))
        refine (checkPrefixLists_any cs wr OW.out).mono ?_
        rintro e y ⟨n, rfl, ky⟩
        have KU := Lib.hid (KP.out.trans_no ky)
        clear ky g0 g1 g2 g3 g4 g5 g6 g7 g8 g9
        by_cases hn0 : n = 0
        · subst hn0
          go_wp2
          go_roundg 8
          case measure => have := HK.out; omega
          case rel => exact ⟨2, by have := HK.out; omega, by go_num, KU.out, fun h => by omega⟩
        · have hnb : (n != 0) = true := by simp [hn0]
          go_wp2
          go_ret
          exact ⟨_, rfl, KA.out.trans_no (KY.out.trans_no KU.out), fun h => absurd h hn0⟩
      · go_wp2_with (first | (refine wpList_load_rt rfl _ rfl w.heap.size rfl cs OK.out.sz (BX.out _ (KY.out.trans_no KP.out)) ?_))
        refine (checkRouteMaps_any cs wr OW.out).mono ?_
        rintro e y ⟨n, rfl, ky⟩
        have KU := Lib.hid (KP.out.trans_no ky)
        clear ky g0 g1 g2 g3 g4 g5 g6 g7 g8 g9
        by_cases hn0 : n = 0
        · subst hn0
          go_wp2
          go_roundg 7
          case measure => have := HK.out; omega
          case rel => exact ⟨3, by have := HK.out; omega, by go_num, KU.out, fun h => by omega⟩
        · have hnb : (n != 0) = true := by simp [hn0]
          go_wp2
          go_ret
          exact ⟨_, rfl, KA.out.trans_no (KY.out.trans_no KU.out), fun h => absurd h hn0⟩
      · go_wp2_with (first | (refine wpList_load_rt rfl _ rfl w.heap.size rfl cs OK.out.sz (BX.out _ (KY.out.trans_no KP.out)) ?_))
        refine (checkACLs_any cs wr OW.out).mono ?_
        rintro e y ⟨n, rfl, ky⟩
        have KU := Lib.hid (KP.out.trans_no ky)
        clear ky g0 g1 g2 g3 g4 g5 g6 g7 g8 g9
        by_cases hn0 : n = 0
        · subst hn0
          go_wp2
          go_roundg 6
          case measure => have := HK.out; omega
          case rel => exact ⟨4, by have := HK.out; omega, by go_num, KU.out, fun h => by omega⟩
        · have hnb : (n != 0) = true := by simp [hn0]
          go_wp2
          go_ret
          exact ⟨_, rfl, KA.out.trans_no (KY.out.trans_no KU.out), fun h => absurd h hn0⟩
      · go_wp2_with (first | (refine wpList_load_rt rfl _ rfl w.heap.size rfl cs OK.out.sz (BX.out _ (KY.out.trans_no KP.out)) ?_))
        refine (checkNAT_any cs wr OW.out).mono ?_
        rintro e y ⟨n, rfl, ky, hn⟩
        have HN := Lib.hid hn
        clear hn
        have KU := Lib.hid (KP.out.trans_no ky)
        clear ky g0 g1 g2 g3 g4 g5 g6 g7 g8 g9
        by_cases hn0 : n = 0
        · subst hn0
          go_wp2
          go_roundg 5
          case measure => have := HK.out; omega
          case rel => exact ⟨5, by have := HK.out; omega, by go_num, KU.out, fun _ a m c hc j hj => by
               obtain ⟨a6, n6, c6, e6, f6, _⟩ := OK.out.nat
               rw [e6] at hc
               cases hc
               exact (HN.out trivial _ _ _ e6 j hj).back (KA.out.trans_no (KY.out.trans_no KP.out)) f6 hj⟩
        · have hnb : (n != 0) = true := by simp [hn0]
          go_wp2
          go_ret
          exact ⟨_, rfl, KA.out.trans_no (KY.out.trans_no KU.out), fun h => absurd h hn0⟩
      · go_wp2_with (first | (refine wpList_load_rt rfl _ rfl w.heap.size rfl cs OK.out.sz (BX.out _ (KY.out.trans_no KP.out)) ?_))
        refine (checkFilters_any cs wr OW.out).mono ?_
        rintro e y ⟨n, rfl, ky⟩
        have KU := Lib.hid (KP.out.trans_no ky)
        clear ky g0 g1 g2 g3 g4 g5 g6 g7 g8 g9
        by_cases hn0 : n = 0
        · subst hn0
          go_wp2
          go_roundg 4
          case measure => have := HK.out; omega
          case rel => exact ⟨6, by have := HK.out; omega, by go_num, KU.out, fun _ => HNO.out (by omega)⟩
        · have hnb : (n != 0) = true := by simp [hn0]
          go_wp2
          go_ret
          exact ⟨_, rfl, KA.out.trans_no (KY.out.trans_no KU.out), fun h => absurd h hn0⟩
      · go_wp2_with (first | (refine wpList_load_rt rfl _ rfl w.heap.size rfl cs OK.out.sz (BX.out _ (KY.out.trans_no KP.out)) ?_))
        refine (checkStatics_any cs wr OW.out).mono ?_
        rintro e y ⟨n, rfl, ky⟩
        have KU := Lib.hid (KP.out.trans_no ky)
        clear ky g0 g1 g2 g3 g4 g5 g6 g7 g8 g9
        by_cases hn0 : n = 0
        · subst hn0
          go_wp2
          go_roundg 3
          case measure => have := HK.out; omega
          case rel => exact ⟨7, by have := HK.out; omega, by go_num, KU.out, fun _ => HNO.out (by omega)⟩
        · have hnb : (n != 0) = true := by simp [hn0]
          go_wp2
          go_ret
          exact ⟨_, rfl, KA.out.trans_no (KY.out.trans_no KU.out), fun h => absurd h hn0⟩
      · go_wp2_with (first | (refine wpList_load_rt rfl _ rfl w.heap.size rfl cs OK.out.sz (BX.out _ (KY.out.trans_no KP.out)) ?_))
        refine (checkLinkState_any cs wr OW.out).mono ?_
        rintro e y ⟨n, rfl, ky⟩
        have KU := Lib.hid (KP.out.trans_no ky)
        clear ky g0 g1 g2 g3 g4 g5 g6 g7 g8 g9
        by_cases hn0 : n = 0
        · subst hn0
          go_wp2
          go_roundg 2
          case measure => have := HK.out; omega
          case rel => exact ⟨8, by have := HK.out; omega, by go_num, KU.out, fun _ => HNO.out (by omega)⟩
        · have hnb : (n != 0) = true := by simp [hn0]
          go_wp2
          go_ret
          exact ⟨_, rfl, KA.out.trans_no (KY.out.trans_no KU.out), fun h => absurd h hn0⟩
      · go_wp2_with (first | (refine wpList_load_rt rfl _ rfl w.heap.size rfl cs OK.out.sz (BX.out _ (KY.out.trans_no KP.out)) ?_))
        refine (checkDistanceVector_any cs wr OW.out).mono ?_
        rintro e y ⟨n, rfl, ky⟩
        have KU := Lib.hid (KP.out.trans_no ky)
        clear ky g0 g1 g2 g3 g4 g5 g6 g7 g8 g9
        by_cases hn0 : n = 0
        · subst hn0
          go_wp2
          go_roundg 1
          case measure => have := HK.out; omega
          case rel => exact ⟨9, by have := HK.out; omega, by go_num, KU.out, fun _ => HNO.out (by omega)⟩
        · have hnb : (n != 0) = true := by simp [hn0]
          go_wp2
          go_ret
          exact ⟨_, rfl, KA.out.trans_no (KY.out.trans_no KU.out), fun h => absurd h hn0⟩
      · go_wp2_with (first | (refine wpList_load_rt rfl _ rfl w.heap.size rfl cs OK.out.sz (BX.out _ (KY.out.trans_no KP.out)) ?_))
        refine (checkPathVector_any cs wr OW.out).mono ?_
        rintro e y ⟨n, rfl, ky⟩
        have KU := Lib.hid (KP.out.trans_no ky)
        clear ky g0 g1 g2 g3 g4 g5 g6 g7 g8 g9
        by_cases hn0 : n = 0
        · subst hn0
          go_wp2
          go_roundg 0
          case measure => have := HK.out; omega
          case rel => exact ⟨10, by have := HK.out; omega, by go_num, KU.out, fun _ => HNO.out (by omega)⟩
        · have hnb : (n != 0) = true := by simp [hn0]
          go_wp2
          go_ret
          exact ⟨_, rfl, KA.out.trans_no (KY.out.trans_no KU.out), fun h => absurd h hn0⟩
    · obtain rfl : k = 10 := by omega
      clear hk kp hno
      go_wp2
      go_ret
      exact ⟨_, rfl, KA.out.trans_no (KY.out.trans_no KP.out), fun _ => HNO.out (by omega)⟩
/-- An access list of the router has at most four rules. -/
def AclS (w : World) (a : Option Addr) (j : Nat) : Prop := ∃ (g o : Nat) (s : ByteArray) (b : Option Addr) (n c : Nat), a = some ⟨g, o, none⟩ ∧ w.cell? ⟨g, o + j * 2, none⟩ = some (.string s) ∧ w.cell? ⟨g, o + j * 2 + 1, none⟩ = some (.slice b n c) ∧ n ≤ 4
/-- What a small router is known to be. -/
def SmlR (w : World) (cs : Array Value) : Prop := (∀ (a : Option Addr) (m c : Nat), cs[6]? = some (.slice a m c) → m ≤ 4 ∧ ∀ j, j < m → NatOk w a j) ∧ ∀ (a : Option Addr) (m c : Nat), cs[5]? = some (.slice a m c) → m ≤ 4 ∧ ∀ j, j < m → AclS w a j
def SmlPost (w : World) (cs : Array Value) (e : Ending) (w' : World) : Prop := ∃ b, e = .returned (.bool b) ∧ Kp No w w' ∧ (b = true → SmlR w cs)
def SmlI (w X : World) (ao : Option Addr) (n gk : Nat) (s : Value) (x : World) : Prop := ∃ k : Nat, k + gk = n ∧ s = .int .i64 (k : Int) ∧ Kp No X x ∧ ∀ j, j < k → AclS w ao j
set_option maxRecDepth 1000000 in
set_option maxHeartbeats 8000000 in
theorem Small_any (cs : Array Value) (w : World) (ok : RtC w cs) : Calls Tryz.prog 6 #[.agg cs] w (SmlPost w cs) := by
  have h0 := heap_alloc_new w (.cells cs 41)
  have BX : Hid (∀ y, Kp No (w.alloc (.cells cs 41)) y → y.heap[w.heap.size]? = some (.cells cs 41 (0, 0))) := Lib.hid (fun y k => (k.block _ (heap_lt h0) (fun h => h)).trans h0)
  have KA := Lib.hid (Kp.alloc (w := w) (.cells cs 41))
  have OK := Lib.hid ok
  clear h0 ok
  obtain ⟨ifsA, ifsN, ifsC, ifsE, ifsF, ifsB⟩ := OK.out.ifs
  obtain ⟨aclsA, aclsN, aclsC, aclsE, aclsF, aclsB⟩ := OK.out.acls
  obtain ⟨natA, natN, natC, natE, natF, natB⟩ := OK.out.nat
  obtain ⟨listsA, listsN, listsC, listsE, listsF, listsB⟩ := OK.out.lists
  obtain ⟨mapsA, mapsN, mapsC, mapsE, mapsF, mapsB⟩ := OK.out.maps
  obtain ⟨stsA, stsN, stsC, stsE, stsF, stsB⟩ := OK.out.sts
  have ifsQ : (ifsN : Int) ≤ 9223372036854775807 := by have := ifsB; omega
  have aclsQ : (aclsN : Int) ≤ 9223372036854775807 := by have := aclsB; omega
  have natQ : (natN : Int) ≤ 9223372036854775807 := by have := natB; omega
  have listsQ : (listsN : Int) ≤ 9223372036854775807 := by have := listsB; omega
  have mapsQ : (mapsN : Int) ≤ 9223372036854775807 := by have := mapsB; omega
  have stsQ : (stsN : Int) ≤ 9223372036854775807 := by have := stsB; omega
  have AF := Lib.hid (And.intro aclsF aclsB)
  have AE := Lib.hid (And.intro aclsE natE)
  go_enter Tryz.func6, Tryz.ntmps6
  go_upto_region 1 with fail
  generalize w.alloc (.cells cs 41) = X at *
  have CX : Hid (∀ y, Kp No X y → y.cell? ⟨w.heap.size, 5, none⟩ = some (.slice aclsA aclsN aclsC)) := Lib.hid (fun y q => by rw [cell_of_row _ _ _ _ _ _ (BX.out y q)]; exact AE.out.1)
  have f2 : X.cell? ⟨w.heap.size, 2, none⟩ = some (.slice ifsA ifsN ifsC) := by rw [cell_of_row _ _ _ _ _ _ (BX.out X (Kp.refl _ _))]; exact ifsE
  have f5 : X.cell? ⟨w.heap.size, 5, none⟩ = some (.slice aclsA aclsN aclsC) := by rw [cell_of_row _ _ _ _ _ _ (BX.out X (Kp.refl _ _))]; exact aclsE
  have f6 : X.cell? ⟨w.heap.size, 6, none⟩ = some (.slice natA natN natC) := by rw [cell_of_row _ _ _ _ _ _ (BX.out X (Kp.refl _ _))]; exact natE
  have f3 : X.cell? ⟨w.heap.size, 3, none⟩ = some (.slice listsA listsN listsC) := by rw [cell_of_row _ _ _ _ _ _ (BX.out X (Kp.refl _ _))]; exact listsE
  have f4 : X.cell? ⟨w.heap.size, 4, none⟩ = some (.slice mapsA mapsN mapsC) := by rw [cell_of_row _ _ _ _ _ _ (BX.out X (Kp.refl _ _))]; exact mapsE
  have f7 : X.cell? ⟨w.heap.size, 7, none⟩ = some (.slice stsA stsN stsC) := by rw [cell_of_row _ _ _ _ _ _ (BX.out X (Kp.refl _ _))]; exact stsE
  clear ifsE aclsE natE listsE mapsE stsE ifsF aclsF natF listsF mapsF stsF ifsB natB listsB mapsB stsB aclsB
  by_cases b2 : (8 : Int) < ifsN
  · go_wp2
    go_ret
    exact ⟨_, rfl, KA.out, fun h => by cases h⟩
  by_cases b5 : (4 : Int) < aclsN
  · go_wp2
    go_ret
    exact ⟨_, rfl, KA.out, fun h => by cases h⟩
  by_cases b6 : (4 : Int) < natN
  · go_wp2
    go_ret
    exact ⟨_, rfl, KA.out, fun h => by cases h⟩
  by_cases b3 : (8 : Int) < listsN
  · go_wp2
    go_ret
    exact ⟨_, rfl, KA.out, fun h => by cases h⟩
  by_cases b4 : (8 : Int) < mapsN
  · go_wp2
    go_ret
    exact ⟨_, rfl, KA.out, fun h => by cases h⟩
  by_cases b7 : (16 : Int) < stsN
  · go_wp2
    go_ret
    exact ⟨_, rfl, KA.out, fun h => by cases h⟩
  have SZ := Lib.hid (And.intro b5 b6)
  go_wp2
  go_loopg [3] aclsN (fun gk s x => SmlI w X aclsA aclsN gk s x)
  case atStart => exact ⟨0, by omega, rfl, Kp.refl _ _, fun j h => by omega⟩
  case round =>
    clear f2 f3 f4 f5 f6 f7
    obtain ⟨k, hk, rfl, kp, hno⟩ := hrel
    have HK := Lib.hid hk
    have KP := Lib.hid kp
    have HNO := Lib.hid hno
    have f5 := CX.out wr kp
    by_cases hlt : k < aclsN
    · have hlti : (k : Int) < aclsN := by omega
      have HLT := Lib.hid hlt
      obtain ⟨g, o, a0, a1, an, ac, e, hg, ⟨c0, c1⟩, h0, hf, hl, hm⟩ := ac_at (AF.out.1.no (KA.out.trans_no kp)) hlt
      have CW := Lib.hid (Cels.at AF.out.1 hlt)
      have hanb : (an : Int) ≤ 9223372036854775807 := by omega
      subst e
      have NEW : Hid (an ≤ 4 → AclS w (some ⟨g, o, none⟩) k) := Lib.hid (fun t => by
        obtain ⟨g', o', e', hg', _⟩ := CW.out
        cases e'
        have kw := KA.out.trans_no kp
        have tr : ∀ z, w.cell? ⟨g, z, none⟩ = wr.cell? ⟨g, z, none⟩ := fun z => (kw.cell hg' (fun h => h)).symm
        exact ⟨g, o, a0, a1, an, ac, rfl, by rw [tr]; exact c0, by rw [tr]; exact c1, t⟩)
      clear CW hk kp hno hg h0 hf hl hm
      by_cases h4 : (4 : Int) < an
      · go_wp2
        go_ret
        exact ⟨_, rfl, KA.out.trans_no KP.out, fun h => by cases h⟩
      · have h4n : an ≤ 4 := by omega
        have H4 := Lib.hid h4n
        clear h4n
        go_wp2
        go_roundg (aclsN - (k + 1))
        case measure => have := HK.out; have := HLT.out; omega
        case rel => exact ⟨k + 1, by have := HK.out; have := HLT.out; omega, by go_num, KP.out, fun j hj => by
          by_cases e : j = k
          · rw [e]; exact NEW.out H4.out
          · exact HNO.out j (by omega)⟩
    · obtain rfl : k = aclsN := by omega
      have hge : ¬ (k : Int) < k := by omega
      clear hk kp hno hlt
      go_wp2_with (first | (refine wpList_load_rt rfl _ rfl w.heap.size rfl cs OK.out.sz (BX.out _ KP.out) ?_))
      refine (CheckRouter_any cs wr (OK.out.no (KA.out.trans_no KP.out))).mono ?_
      rintro e y ⟨n, rfl, ky, hn⟩
      have KY := Lib.hid (KP.out.trans_no ky)
      have HN := Lib.hid hn
      clear ky hn
      by_cases hn0 : n = 0
      · subst hn0
        go_wp2
        go_ret
        refine ⟨_, rfl, KA.out.trans_no KY.out, fun _ => ⟨fun a m c hc => ?_, fun a m c hc => ?_⟩⟩
        · obtain ⟨_, _, _, e6, f6, _⟩ := OK.out.nat
          rw [e6] at hc
          cases hc
          have e7 := AE.out.2
          rw [e6] at e7
          cases e7
          exact ⟨by have := SZ.out.2; omega, fun j hj => (HN.out trivial _ _ _ e6 j hj).back (KA.out.trans_no KP.out) f6 hj⟩
        · rw [AE.out.1] at hc
          cases hc
          exact ⟨by have := SZ.out.1; omega, HNO.out⟩
      · have hnb : (n == 0) = false := by simp [hn0]
        go_wp2
        go_ret
        exact ⟨_, rfl, KA.out.trans_no KY.out, fun h => by cases h⟩

end Go.Proofs.YtdgnbbmgcgfibaaGreatDoor

namespace Go.Proofs.YtdgnbbmgcgfibaaGreatDoor
open Go.RowKit

def OkPost (w : World) (e : Ending) (w' : World) : Prop := e = .returned (.int .i64 0) ∧ Kp No w w'
set_option maxRecDepth 100000 in
set_option maxHeartbeats 2000000 in
theorem checkACLs_none (cs : Array Value) (w : World) (h5 : cs[5]? = some (.slice none 0 0)) : Calls Tryz.prog 47 #[.agg cs] w (OkPost w) := by
  have h0 := heap_alloc_new w (.cells cs 41)
  have KA := Lib.hid (Kp.alloc (w := w) (.cells cs 41))
  have f5 : (w.alloc (.cells cs 41)).cell? ⟨w.heap.size, 5, none⟩ = some (.slice none 0 0) := by rw [cell_of_row _ _ _ _ _ _ h0]; exact h5
  clear h0 h5
  go_enter Tryz.func47, Tryz.ntmps47
  go_upto_region 1 with fail
  generalize w.alloc (.cells cs 41) = X at *
  go_wp2_with fail
  go_loopg [15] 1 (fun _ s x => s = .int .i64 0 ∧ x = X)
  case atStart => exact ⟨rfl, rfl⟩
  case round =>
    obtain ⟨rfl, rfl⟩ := hrel
    go_wp2
    go_ret
    exact ⟨rfl, KA.out⟩
set_option maxRecDepth 100000 in
set_option maxHeartbeats 2000000 in
theorem checkInterfaces_none (cs : Array Value) (w : World) (h2 : cs[2]? = some (.slice none 0 0)) : Calls Tryz.prog 44 #[.agg cs] w (OkPost w) := by
  have h0 := heap_alloc_new w (.cells cs 41)
  have KA := Lib.hid (Kp.alloc (w := w) (.cells cs 41))
  have f2 : (w.alloc (.cells cs 41)).cell? ⟨w.heap.size, 2, none⟩ = some (.slice none 0 0) := by rw [cell_of_row _ _ _ _ _ _ h0]; exact h2
  clear h0 h2
  go_enter Tryz.func44, Tryz.ntmps44
  go_upto_region 1 with fail
  generalize w.alloc (.cells cs 41) = X at *
  go_wp2_with fail
  go_loopg [14] 1 (fun _ s x => s = .int .i64 0 ∧ x = X)
  case atStart => exact ⟨rfl, rfl⟩
  case round =>
    obtain ⟨rfl, rfl⟩ := hrel
    go_wp2
    go_ret
    exact ⟨rfl, KA.out⟩
set_option maxRecDepth 100000 in
set_option maxHeartbeats 2000000 in
theorem checkPrefixLists_none (cs : Array Value) (w : World) (h3 : cs[3]? = some (.slice none 0 0)) : Calls Tryz.prog 45 #[.agg cs] w (OkPost w) := by
  have h0 := heap_alloc_new w (.cells cs 41)
  have KA := Lib.hid (Kp.alloc (w := w) (.cells cs 41))
  have f3 : (w.alloc (.cells cs 41)).cell? ⟨w.heap.size, 3, none⟩ = some (.slice none 0 0) := by rw [cell_of_row _ _ _ _ _ _ h0]; exact h3
  clear h0 h3
  go_enter Tryz.func45, Tryz.ntmps45
  go_upto_region 1 with fail
  generalize w.alloc (.cells cs 41) = X at *
  go_wp2_with fail
  go_loopg [15] 1 (fun _ s x => s = .int .i64 0 ∧ x = X)
  case atStart => exact ⟨rfl, rfl⟩
  case round =>
    obtain ⟨rfl, rfl⟩ := hrel
    go_wp2
    go_ret
    exact ⟨rfl, KA.out⟩
set_option maxRecDepth 100000 in
set_option maxHeartbeats 2000000 in
theorem checkRouteMaps_none (cs : Array Value) (w : World) (h4 : cs[4]? = some (.slice none 0 0)) : Calls Tryz.prog 46 #[.agg cs] w (OkPost w) := by
  have h0 := heap_alloc_new w (.cells cs 41)
  have KA := Lib.hid (Kp.alloc (w := w) (.cells cs 41))
  have f4 : (w.alloc (.cells cs 41)).cell? ⟨w.heap.size, 4, none⟩ = some (.slice none 0 0) := by rw [cell_of_row _ _ _ _ _ _ h0]; exact h4
  clear h0 h4
  go_enter Tryz.func46, Tryz.ntmps46
  go_upto_region 1 with fail
  generalize w.alloc (.cells cs 41) = X at *
  go_wp2_with fail
  go_loopg [15] 1 (fun _ s x => s = .int .i64 0 ∧ x = X)
  case atStart => exact ⟨rfl, rfl⟩
  case round =>
    obtain ⟨rfl, rfl⟩ := hrel
    go_wp2
    go_ret
    exact ⟨rfl, KA.out⟩
set_option maxRecDepth 100000 in
set_option maxHeartbeats 2000000 in
theorem checkStatics_none (cs : Array Value) (w : World) (h7 : cs[7]? = some (.slice none 0 0)) : Calls Tryz.prog 50 #[.agg cs] w (OkPost w) := by
  have h0 := heap_alloc_new w (.cells cs 41)
  have KA := Lib.hid (Kp.alloc (w := w) (.cells cs 41))
  have f7 : (w.alloc (.cells cs 41)).cell? ⟨w.heap.size, 7, none⟩ = some (.slice none 0 0) := by rw [cell_of_row _ _ _ _ _ _ h0]; exact h7
  clear h0 h7
  go_enter Tryz.func50, Tryz.ntmps50
  go_upto_region 1 with fail
  generalize w.alloc (.cells cs 41) = X at *
  go_wp2_with fail
  go_loopg [15] 1 (fun _ s x => s = .int .i64 0 ∧ x = X)
  case atStart => exact ⟨rfl, rfl⟩
  case round =>
    obtain ⟨rfl, rfl⟩ := hrel
    go_wp2
    go_ret
    exact ⟨rfl, KA.out⟩
set_option maxRecDepth 100000 in
set_option maxHeartbeats 2000000 in
theorem checkFilters_none (cs : Array Value) (w : World) (h2 : cs[2]? = some (.slice none 0 0)) : Calls Tryz.prog 49 #[.agg cs] w (OkPost w) := by
  have h0 := heap_alloc_new w (.cells cs 41)
  have KA := Lib.hid (Kp.alloc (w := w) (.cells cs 41))
  have f2 : (w.alloc (.cells cs 41)).cell? ⟨w.heap.size, 2, none⟩ = some (.slice none 0 0) := by rw [cell_of_row _ _ _ _ _ _ h0]; exact h2
  clear h0 h2
  go_enter Tryz.func49, Tryz.ntmps49
  go_upto_region 1 with fail
  generalize w.alloc (.cells cs 41) = X at *
  go_wp2_with fail
  go_loopg [8] 1 (fun _ s x => s = .int .i64 0 ∧ x = X)
  case atStart => exact ⟨rfl, rfl⟩
  case round =>
    obtain ⟨rfl, rfl⟩ := hrel
    go_wp2
    go_ret
    exact ⟨rfl, KA.out⟩
set_option maxRecDepth 100000 in
set_option maxHeartbeats 2000000 in
theorem checkLinkState_none (cs : Array Value) (w : World) (c8 : cs[8]? = some (.bool false)) (c9 : cs[9]? = some (.int .i64 0)) (c10 : cs[10]? = some (.slice none 0 0)) (c11 : cs[11]? = some (.slice none 0 0)) : Calls Tryz.prog 51 #[.agg cs] w (OkPost w) := by
  have h0 := heap_alloc_new w (.cells cs 41)
  have KA := Lib.hid (Kp.alloc (w := w) (.cells cs 41))
  have f8 : (w.alloc (.cells cs 41)).cell? ⟨w.heap.size, 8, none⟩ = some (.bool false) := by rw [cell_of_row _ _ _ _ _ _ h0]; exact c8
  have f9 : (w.alloc (.cells cs 41)).cell? ⟨w.heap.size, 9, none⟩ = some (.int .i64 0) := by rw [cell_of_row _ _ _ _ _ _ h0]; exact c9
  have f10 : (w.alloc (.cells cs 41)).cell? ⟨w.heap.size, 10, none⟩ = some (.slice none 0 0) := by rw [cell_of_row _ _ _ _ _ _ h0]; exact c10
  have f11 : (w.alloc (.cells cs 41)).cell? ⟨w.heap.size, 11, none⟩ = some (.slice none 0 0) := by rw [cell_of_row _ _ _ _ _ _ h0]; exact c11
  clear h0 c8 c9 c10 c11
  go_enter Tryz.func51, Tryz.ntmps51
  go_upto_region 1 with fail
  generalize w.alloc (.cells cs 41) = X at *
  go_wp2_with fail
  go_ret
  exact ⟨rfl, KA.out.trans_no (Kp.alloc _)⟩
set_option maxRecDepth 100000 in
set_option maxHeartbeats 2000000 in
theorem checkDistanceVector_none (cs : Array Value) (w : World) (c12 : cs[12]? = some (.bool false)) (c13 : cs[13]? = some (.int .i64 0)) (c14 : cs[14]? = some (.string ⟨#[]⟩)) (c15 : cs[15]? = some (.string ⟨#[]⟩)) (c16 : cs[16]? = some (.slice none 0 0)) : Calls Tryz.prog 52 #[.agg cs] w (OkPost w) := by
  have h0 := heap_alloc_new w (.cells cs 41)
  have KA := Lib.hid (Kp.alloc (w := w) (.cells cs 41))
  have f12 : (w.alloc (.cells cs 41)).cell? ⟨w.heap.size, 12, none⟩ = some (.bool false) := by rw [cell_of_row _ _ _ _ _ _ h0]; exact c12
  have f13 : (w.alloc (.cells cs 41)).cell? ⟨w.heap.size, 13, none⟩ = some (.int .i64 0) := by rw [cell_of_row _ _ _ _ _ _ h0]; exact c13
  have f14 : (w.alloc (.cells cs 41)).cell? ⟨w.heap.size, 14, none⟩ = some (.string ⟨#[]⟩) := by rw [cell_of_row _ _ _ _ _ _ h0]; exact c14
  have f15 : (w.alloc (.cells cs 41)).cell? ⟨w.heap.size, 15, none⟩ = some (.string ⟨#[]⟩) := by rw [cell_of_row _ _ _ _ _ _ h0]; exact c15
  have f16 : (w.alloc (.cells cs 41)).cell? ⟨w.heap.size, 16, none⟩ = some (.slice none 0 0) := by rw [cell_of_row _ _ _ _ _ _ h0]; exact c16
  clear h0 c12 c13 c14 c15 c16
  go_enter Tryz.func52, Tryz.ntmps52
  go_upto_region 1 with fail
  generalize w.alloc (.cells cs 41) = X at *
  go_wp2_with fail
  go_ret
  exact ⟨rfl, KA.out.trans_no (Kp.alloc _)⟩
set_option maxRecDepth 100000 in
set_option maxHeartbeats 2000000 in
theorem checkPathVector_none (cs : Array Value) (w : World) (c17 : cs[17]? = some (.bool false)) (c18 : cs[18]? = some (.int .i64 0)) (c19 : cs[19]? = some (.int .i64 0)) (c20 : cs[20]? = some (.slice none 0 0)) (c21 : cs[21]? = some (.slice none 0 0)) (c22 : cs[22]? = some (.slice none 0 0)) (c23 : cs[23]? = some (.slice none 0 0)) (c24 : cs[24]? = some (.slice none 0 0)) : Calls Tryz.prog 53 #[.agg cs] w (OkPost w) := by
  have h0 := heap_alloc_new w (.cells cs 41)
  have KA := Lib.hid (Kp.alloc (w := w) (.cells cs 41))
  have f17 : (w.alloc (.cells cs 41)).cell? ⟨w.heap.size, 17, none⟩ = some (.bool false) := by rw [cell_of_row _ _ _ _ _ _ h0]; exact c17
  have f18 : (w.alloc (.cells cs 41)).cell? ⟨w.heap.size, 18, none⟩ = some (.int .i64 0) := by rw [cell_of_row _ _ _ _ _ _ h0]; exact c18
  have f19 : (w.alloc (.cells cs 41)).cell? ⟨w.heap.size, 19, none⟩ = some (.int .i64 0) := by rw [cell_of_row _ _ _ _ _ _ h0]; exact c19
  have f20 : (w.alloc (.cells cs 41)).cell? ⟨w.heap.size, 20, none⟩ = some (.slice none 0 0) := by rw [cell_of_row _ _ _ _ _ _ h0]; exact c20
  have f21 : (w.alloc (.cells cs 41)).cell? ⟨w.heap.size, 21, none⟩ = some (.slice none 0 0) := by rw [cell_of_row _ _ _ _ _ _ h0]; exact c21
  have f22 : (w.alloc (.cells cs 41)).cell? ⟨w.heap.size, 22, none⟩ = some (.slice none 0 0) := by rw [cell_of_row _ _ _ _ _ _ h0]; exact c22
  have f23 : (w.alloc (.cells cs 41)).cell? ⟨w.heap.size, 23, none⟩ = some (.slice none 0 0) := by rw [cell_of_row _ _ _ _ _ _ h0]; exact c23
  have f24 : (w.alloc (.cells cs 41)).cell? ⟨w.heap.size, 24, none⟩ = some (.slice none 0 0) := by rw [cell_of_row _ _ _ _ _ _ h0]; exact c24
  clear h0 c17 c18 c19 c20 c21 c22 c23 c24
  go_enter Tryz.func53, Tryz.ntmps53
  go_upto_region 1 with fail
  generalize w.alloc (.cells cs 41) = X at *
  go_wp2_with fail
  go_ret
  exact ⟨rfl, KA.out.trans_no (Kp.alloc _)⟩
theorem letter_r (w : World) : Calls Tryz.prog 75 #[.int .u8 114] w fun e w' => e = .returned (.bool true) ∧ w = w' := by
  go_enter Tryz.func75, Tryz.ntmps75
  go_wp2
  all_goals (go_ret; exact ⟨rfl, rfl⟩)
set_option maxRecDepth 100000 in
theorem Name_r (w : World) : Calls Tryz.prog 42 #[.string ⟨#[114]⟩] w fun e w' => e = .returned (.bool true) ∧ w = w' := by
  go_enter Tryz.func42, Tryz.ntmps42
  go_wp2_with fail
  refine (letter_r _).mono ?_
  rintro e w' ⟨rfl, rfl⟩
  go_wp2_with fail
  go_loopg [3] 1 (fun _ s x => s = .int .i64 1 ∧ x = w)
  case atStart => exact ⟨rfl, rfl⟩
  case round =>
    obtain ⟨rfl, rfl⟩ := hrel
    go_wp2
    go_ret
    exact ⟨rfl, rfl⟩
set_option maxRecDepth 100000 in
theorem rightTranslation_one (w : World) : Calls Tryz.prog 86 #[.agg #[.int .i64 1, .int .u32 167772161, .int .u32 335544321, .int .i64 0, .int .i64 0, .int .i64 0, .string ⟨#[]⟩, .int .u32 0, .int .u32 0]] w (fun e w' => e = .returned (.bool true) ∧ Kp No w w') := by
  go_enter Tryz.func86, Tryz.ntmps86
  go_wp2
  go_ret
  exact ⟨rfl, (Kp.alloc _).trans_no (Kp.alloc _)⟩
/-- The cells of the translation of the harness. -/
def TrOne (y : World) (b : Nat) : Prop := y.heap[b]? = some (.cells #[.int .i64 1, .int .u32 167772161, .int .u32 335544321, .int .i64 0, .int .i64 0, .int .i64 0, .string ⟨#[]⟩, .int .u32 0, .int .u32 0] 66 (0, 0))
theorem TrOne.no {w w' : World} {b : Nat} (h : TrOne w b) (k : Kp No w w') : TrOne w' b := (k.block _ (heap_lt h) (fun h => h)).trans h
set_option maxRecDepth 1000000 in
set_option maxHeartbeats 4000000 in
theorem checkNAT_one (cs : Array Value) (b : Nat) (w : World) (hb : TrOne w b) (h6 : cs[6]? = some (.slice (some ⟨b, 0, none⟩) 1 1)) : Calls Tryz.prog 48 #[.agg cs] w (OkPost w) := by
  have h0 := heap_alloc_new w (.cells cs 41)
  have KA := Lib.hid (Kp.alloc (w := w) (.cells cs 41))
  have f6 : (w.alloc (.cells cs 41)).cell? ⟨w.heap.size, 6, none⟩ = some (.slice (some ⟨b, 0, none⟩) 1 1) := by rw [cell_of_row _ _ _ _ _ _ h0]; exact h6
  have HB := Lib.hid (hb.no KA.out)
  clear h0 h6 hb
  go_enter Tryz.func48, Tryz.ntmps48
  go_upto_region 1 with fail
  generalize w.alloc (.cells cs 41) = X at *
  go_wp2_with fail
  go_loopg [12] 1 (fun gk s x => ∃ k : Nat, k + gk = 1 ∧ s = .int .i64 (k : Int) ∧ Kp No X x)
  case atStart => exact ⟨0, rfl, rfl, Kp.refl _ _⟩
  case round =>
    obtain ⟨k, hk, rfl, kp⟩ := hrel
    have KP := Lib.hid kp
    have HK := Lib.hid hk
    have hkk : k = 0 ∨ k = 1 := by omega
    obtain ⟨c0, c1, c2, c3, c4, c5, c6, c7, c8⟩ := cel9 (HB.out.no kp)
    clear hk kp
    rcases hkk with rfl | rfl
    · go_wp2_with fail
      refine (rightTranslation_one _).mono ?_
      rintro e y ⟨rfl, ky⟩
      have KY := Lib.hid (KP.out.trans_no ((Kp.alloc _).trans_no ky))
      have n0 := (ky.block _ (heap_lt (heap_alloc_new wr (.cells #[.int .i64 1, .int .u32 167772161, .int .u32 335544321, .int .i64 0, .int .i64 0, .int .i64 0, .string ⟨#[]⟩, .int .u32 0, .int .u32 0] 66))) (fun h => h)).trans (heap_alloc_new wr (.cells #[.int .i64 1, .int .u32 167772161, .int .u32 335544321, .int .i64 0, .int .i64 0, .int .i64 0, .string ⟨#[]⟩, .int .u32 0, .int .u32 0] 66))
      obtain ⟨d0, d1, d2, d3, d4, d5, d6, d7, d8⟩ := cel9 n0
      clear ky n0 c0 c1 c2 c3 c4 c5 c6 c7 c8
      go_wp2
      go_roundg 0
      case measure => have := HK.out; omega
      case rel => exact ⟨1, rfl, rfl, KY.out⟩
    · clear c0 c1 c2 c3 c4 c5 c6 c7 c8
      go_wp2
      go_ret
      exact ⟨rfl, KA.out.trans_no KP.out⟩
/-- The cells of the router of the harness. -/
def oneC (b : Nat) : Array Value := #[.string ⟨#[114]⟩, .int .i64 0, .slice none 0 0, .slice none 0 0, .slice none 0 0, .slice none 0 0, .slice (some ⟨b, 0, none⟩) 1 1, .slice none 0 0, .bool false, .int .i64 0, .slice none 0 0, .slice none 0 0, .bool false, .int .i64 0, .string ⟨#[]⟩, .string ⟨#[]⟩, .slice none 0 0, .bool false, .int .i64 0, .int .i64 0, .slice none 0 0, .slice none 0 0, .slice none 0 0, .slice none 0 0, .slice none 0 0]
structure OneR (cs : Array Value) (b : Nat) : Prop where
  sz : cs.size = 25
  c0 : cs[0]? = some (.string ⟨#[114]⟩)
  c1 : cs[1]? = some (.int .i64 0)
  c2 : cs[2]? = some (.slice none 0 0)
  c3 : cs[3]? = some (.slice none 0 0)
  c4 : cs[4]? = some (.slice none 0 0)
  c5 : cs[5]? = some (.slice none 0 0)
  c6 : cs[6]? = some (.slice (some ⟨b, 0, none⟩) 1 1)
  c7 : cs[7]? = some (.slice none 0 0)
  c8 : cs[8]? = some (.bool false)
  c9 : cs[9]? = some (.int .i64 0)
  c10 : cs[10]? = some (.slice none 0 0)
  c11 : cs[11]? = some (.slice none 0 0)
  c12 : cs[12]? = some (.bool false)
  c13 : cs[13]? = some (.int .i64 0)
  c14 : cs[14]? = some (.string ⟨#[]⟩)
  c15 : cs[15]? = some (.string ⟨#[]⟩)
  c16 : cs[16]? = some (.slice none 0 0)
  c17 : cs[17]? = some (.bool false)
  c18 : cs[18]? = some (.int .i64 0)
  c19 : cs[19]? = some (.int .i64 0)
  c20 : cs[20]? = some (.slice none 0 0)
  c21 : cs[21]? = some (.slice none 0 0)
  c22 : cs[22]? = some (.slice none 0 0)
  c23 : cs[23]? = some (.slice none 0 0)
  c24 : cs[24]? = some (.slice none 0 0)
theorem OneR.of (b : Nat) : OneR (oneC b) b where
  sz := rfl
  c0 := rfl
  c1 := rfl
  c2 := rfl
  c3 := rfl
  c4 := rfl
  c5 := rfl
  c6 := rfl
  c7 := rfl
  c8 := rfl
  c9 := rfl
  c10 := rfl
  c11 := rfl
  c12 := rfl
  c13 := rfl
  c14 := rfl
  c15 := rfl
  c16 := rfl
  c17 := rfl
  c18 := rfl
  c19 := rfl
  c20 := rfl
  c21 := rfl
  c22 := rfl
  c23 := rfl
  c24 := rfl
set_option maxRecDepth 1000000 in
set_option maxHeartbeats 16000000 in
theorem CheckRouter_one (cs : Array Value) (b : Nat) (w : World) (ok : OneR cs b) (hb : TrOne w b) : Calls Tryz.prog 20 #[.agg cs] w (OkPost w) := by
  have h0 := heap_alloc_new w (.cells cs 41)
  have BX : Hid (∀ y, Kp No (w.alloc (.cells cs 41)) y → y.heap[w.heap.size]? = some (.cells cs 41 (0, 0))) := Lib.hid (fun y k => (k.block _ (heap_lt h0) (fun h => h)).trans h0)
  have KA := Lib.hid (Kp.alloc (w := w) (.cells cs 41))
  have OK := Lib.hid ok
  have HB := Lib.hid (hb.no KA.out)
  clear h0 ok hb
  go_enter Tryz.func20, Tryz.ntmps20
  go_upto_region 1 with fail
  generalize w.alloc (.cells cs 41) = X at *
  have f0 : X.cell? ⟨w.heap.size, 0, none⟩ = some (.string ⟨#[114]⟩) := by rw [cell_of_row _ _ _ _ _ _ (BX.out X (Kp.refl _ _))]; exact OK.out.c0
  have f1 : X.cell? ⟨w.heap.size, 1, none⟩ = some (.int .i64 0) := by rw [cell_of_row _ _ _ _ _ _ (BX.out X (Kp.refl _ _))]; exact OK.out.c1
  go_wp2_with fail
  refine (Name_r _).mono ?_
  rintro e y ⟨rfl, rfl⟩
  go_wp2_with fail
  refine (within_ok _ _ _ _).mono ?_
  rintro e y ⟨rfl, rfl⟩
  have q1 : wiB 0 0 65535 = true := by decide
  rw [q1]
  clear f0 f1 q1
  have g0 := heap_alloc_new X (.cells #[.func (.func 44) #[] #[], .func (.func 45) #[] #[], .func (.func 46) #[] #[], .func (.func 47) #[] #[], .func (.func 48) #[] #[], .func (.func 49) #[] #[], .func (.func 50) #[] #[], .func (.func 51) #[] #[], .func (.func 52) #[] #[], .func (.func 53) #[] #[]] 68)
  have KY := Lib.hid (Kp.alloc (w := X) (.cells #[.func (.func 44) #[] #[], .func (.func 45) #[] #[], .func (.func 46) #[] #[], .func (.func 47) #[] #[], .func (.func 48) #[] #[], .func (.func 49) #[] #[], .func (.func 50) #[] #[], .func (.func 51) #[] #[], .func (.func 52) #[] #[], .func (.func 53) #[] #[]] 68))
  go_wp2
  generalize X.alloc (.cells #[.func (.func 44) #[] #[], .func (.func 45) #[] #[], .func (.func 46) #[] #[], .func (.func 47) #[] #[], .func (.func 48) #[] #[], .func (.func 49) #[] #[], .func (.func 50) #[] #[], .func (.func 51) #[] #[], .func (.func 52) #[] #[], .func (.func 53) #[] #[]] 68) = Y at *
  have NB : Hid (∀ y, Kp No Y y → y.heap[X.heap.size]? = some (.cells #[.func (.func 44) #[] #[], .func (.func 45) #[] #[], .func (.func 46) #[] #[], .func (.func 47) #[] #[], .func (.func 48) #[] #[], .func (.func 49) #[] #[], .func (.func 50) #[] #[], .func (.func 51) #[] #[], .func (.func 52) #[] #[], .func (.func 53) #[] #[]] 68 (0, 0))) := Lib.hid (fun y q => (q.block _ (heap_lt g0) (fun h => h)).trans g0)
  clear g0
  go_loopg [18] 10 (fun gk s x => ∃ k : Nat, k + gk = 10 ∧ s = .int .i64 (k : Int) ∧ Kp No Y x)
  case atStart => exact ⟨0, by omega, rfl, Kp.refl _ _⟩
  case round =>
    obtain ⟨k, hk, rfl, kp⟩ := hrel
    have HK := Lib.hid hk
    have KP := Lib.hid kp
    have HW := Lib.hid ((HB.out.no KY.out).no kp)
    by_cases hlt : k < 10
    · have hkk : k = 0 ∨ k = 1 ∨ k = 2 ∨ k = 3 ∨ k = 4 ∨ k = 5 ∨ k = 6 ∨ k = 7 ∨ k = 8 ∨ k = 9 := by omega
      clear hk hlt
      obtain ⟨g0, g1, g2, g3, g4, g5, g6, g7, g8, g9⟩ := cel10b (NB.out wr kp)
      clear kp
      rcases hkk with rfl | rfl | rfl | rfl | rfl | rfl | rfl | rfl | rfl | rfl
      · go_wp2_with (first | (refine wpList_load_rt rfl _ rfl w.heap.size rfl cs OK.out.sz (BX.out _ (KY.out.trans_no KP.out)) ?_))
        refine (checkInterfaces_none cs wr OK.out.c2).mono ?_
        rintro e y ⟨rfl, ky⟩
        have KU := Lib.hid (KP.out.trans_no ky)
        clear ky g0 g1 g2 g3 g4 g5 g6 g7 g8 g9
        go_wp2
        go_roundg 9
        case measure => have := HK.out; omega
        case rel => exact ⟨1, by have := HK.out; omega, by go_num, KU.out⟩
      · go_wp2_with (first | (refine wpList_load_rt rfl _ rfl w.heap.size rfl cs OK.out.sz (BX.out _ (KY.out.trans_no KP.out)) ?_))
        refine (checkPrefixLists_none cs wr OK.out.c3).mono ?_
        rintro e y ⟨rfl, ky⟩
        have KU := Lib.hid (KP.out.trans_no ky)
        clear ky g0 g1 g2 g3 g4 g5 g6 g7 g8 g9
        go_wp2
        go_roundg 8
        case measure => have := HK.out; omega
        case rel => exact ⟨2, by have := HK.out; omega, by go_num, KU.out⟩
      · go_wp2_with (first | (refine wpList_load_rt rfl _ rfl w.heap.size rfl cs OK.out.sz (BX.out _ (KY.out.trans_no KP.out)) ?_))
        refine (checkRouteMaps_none cs wr OK.out.c4).mono ?_
        rintro e y ⟨rfl, ky⟩
        have KU := Lib.hid (KP.out.trans_no ky)
        clear ky g0 g1 g2 g3 g4 g5 g6 g7 g8 g9
        go_wp2
        go_roundg 7
        case measure => have := HK.out; omega
        case rel => exact ⟨3, by have := HK.out; omega, by go_num, KU.out⟩
      · go_wp2_with (first | (refine wpList_load_rt rfl _ rfl w.heap.size rfl cs OK.out.sz (BX.out _ (KY.out.trans_no KP.out)) ?_))
        refine (checkACLs_none cs wr OK.out.c5).mono ?_
        rintro e y ⟨rfl, ky⟩
        have KU := Lib.hid (KP.out.trans_no ky)
        clear ky g0 g1 g2 g3 g4 g5 g6 g7 g8 g9
        go_wp2
        go_roundg 6
        case measure => have := HK.out; omega
        case rel => exact ⟨4, by have := HK.out; omega, by go_num, KU.out⟩
      · go_wp2_with (first | (refine wpList_load_rt rfl _ rfl w.heap.size rfl cs OK.out.sz (BX.out _ (KY.out.trans_no KP.out)) ?_))
        refine (checkNAT_one cs b wr HW.out OK.out.c6).mono ?_
        rintro e y ⟨rfl, ky⟩
        have KU := Lib.hid (KP.out.trans_no ky)
        clear ky g0 g1 g2 g3 g4 g5 g6 g7 g8 g9
        go_wp2
        go_roundg 5
        case measure => have := HK.out; omega
        case rel => exact ⟨5, by have := HK.out; omega, by go_num, KU.out⟩
      · go_wp2_with (first | (refine wpList_load_rt rfl _ rfl w.heap.size rfl cs OK.out.sz (BX.out _ (KY.out.trans_no KP.out)) ?_))
        refine (checkFilters_none cs wr OK.out.c2).mono ?_
        rintro e y ⟨rfl, ky⟩
        have KU := Lib.hid (KP.out.trans_no ky)
        clear ky g0 g1 g2 g3 g4 g5 g6 g7 g8 g9
        go_wp2
        go_roundg 4
        case measure => have := HK.out; omega
        case rel => exact ⟨6, by have := HK.out; omega, by go_num, KU.out⟩
      · go_wp2_with (first | (refine wpList_load_rt rfl _ rfl w.heap.size rfl cs OK.out.sz (BX.out _ (KY.out.trans_no KP.out)) ?_))
        refine (checkStatics_none cs wr OK.out.c7).mono ?_
        rintro e y ⟨rfl, ky⟩
        have KU := Lib.hid (KP.out.trans_no ky)
        clear ky g0 g1 g2 g3 g4 g5 g6 g7 g8 g9
        go_wp2
        go_roundg 3
        case measure => have := HK.out; omega
        case rel => exact ⟨7, by have := HK.out; omega, by go_num, KU.out⟩
      · go_wp2_with (first | (refine wpList_load_rt rfl _ rfl w.heap.size rfl cs OK.out.sz (BX.out _ (KY.out.trans_no KP.out)) ?_))
        refine (checkLinkState_none cs wr OK.out.c8 OK.out.c9 OK.out.c10 OK.out.c11).mono ?_
        rintro e y ⟨rfl, ky⟩
        have KU := Lib.hid (KP.out.trans_no ky)
        clear ky g0 g1 g2 g3 g4 g5 g6 g7 g8 g9
        go_wp2
        go_roundg 2
        case measure => have := HK.out; omega
        case rel => exact ⟨8, by have := HK.out; omega, by go_num, KU.out⟩
      · go_wp2_with (first | (refine wpList_load_rt rfl _ rfl w.heap.size rfl cs OK.out.sz (BX.out _ (KY.out.trans_no KP.out)) ?_))
        refine (checkDistanceVector_none cs wr OK.out.c12 OK.out.c13 OK.out.c14 OK.out.c15 OK.out.c16).mono ?_
        rintro e y ⟨rfl, ky⟩
        have KU := Lib.hid (KP.out.trans_no ky)
        clear ky g0 g1 g2 g3 g4 g5 g6 g7 g8 g9
        go_wp2
        go_roundg 1
        case measure => have := HK.out; omega
        case rel => exact ⟨9, by have := HK.out; omega, by go_num, KU.out⟩
      · go_wp2_with (first | (refine wpList_load_rt rfl _ rfl w.heap.size rfl cs OK.out.sz (BX.out _ (KY.out.trans_no KP.out)) ?_))
        refine (checkPathVector_none cs wr OK.out.c17 OK.out.c18 OK.out.c19 OK.out.c20 OK.out.c21 OK.out.c22 OK.out.c23 OK.out.c24).mono ?_
        rintro e y ⟨rfl, ky⟩
        have KU := Lib.hid (KP.out.trans_no ky)
        clear ky g0 g1 g2 g3 g4 g5 g6 g7 g8 g9
        go_wp2
        go_roundg 0
        case measure => have := HK.out; omega
        case rel => exact ⟨10, by have := HK.out; omega, by go_num, KU.out⟩
    · obtain rfl : k = 10 := by omega
      clear hk kp
      go_wp2
      go_ret
      exact ⟨rfl, KA.out.trans_no (KY.out.trans_no KP.out)⟩
end Go.Proofs.YtdgnbbmgcgfibaaGreatDoor
