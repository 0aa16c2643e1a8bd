/- The law PairsMeet, as the evaluator has it. -/
import Derived.Test.YtkpfjolcmkikeaaLawY
import Derived.Test.YtkpfjolcmkikeaaReach3
set_option linter.unusedSimpArgs false
set_option linter.unusedVariables false
set_option maxHeartbeats 4000000
set_option maxRecDepth 10000
namespace Go.Proofs.Ytkpfjolcmkikeaa
open Go.Fx

def inPr (l : List Pt) (j : Nat) : Bool := l.any fun p => decide (p.n = (j : Int)) || decide (p.s = (j : Int))

theorem prs_sorted (n : Nt) : ∀ k, (prsTo n k).Pairwise (fun p q => p.n < q.n) ∧ ∀ p ∈ prsTo n k, p.n < (k : Int)
  | 0 => ⟨List.Pairwise.nil, fun p h => by simp [prsTo] at h⟩
  | k + 1 => by
    obtain ⟨h1, h2⟩ := prs_sorted n k
    rw [prsTo_succ]
    cases hp : n.pr k with
    | none =>
      rw [Option.toList_none, List.append_nil]
      exact ⟨h1, fun p h => by have := h2 p h; omega⟩
    | some q =>
      have hq := (pr_spec hp).1
      rw [Option.toList_some]
      refine ⟨List.pairwise_append.2 ⟨h1, List.pairwise_singleton _ _, fun a ha b hb => ?_⟩, fun p h => ?_⟩
      · rw [List.mem_singleton] at hb; rw [hb, hq]; exact h2 a ha
      · rcases List.mem_append.1 h with h | h
        · have := h2 p h; omega
        · rw [List.mem_singleton] at h; rw [h, hq]; omega

theorem pr_link {n : Nt} (hG : n.Good) {i : Nat} {p : Pt} (h : n.pr i = some p) : n.has ⟨p.n, 0⟩ = true ∧ n.lk ⟨p.n, 0⟩ = ⟨p.s, 0⟩ ∧ n.has ⟨p.s, 0⟩ = true ∧ n.lk ⟨p.s, 0⟩ = ⟨p.n, 0⟩ := by
  obtain ⟨e1, e2, e3, e4⟩ := pr_spec h
  obtain ⟨_, g2, g3⟩ := good_link hG e2
  rw [e3] at g2 g3
  rw [e1]
  exact ⟨e2, e3, g2, g3⟩

theorem meets_iff {n : Nt} (hG : n.Good) {i : Nat} : inPr n.prs i = true ↔ n.has ⟨i, 0⟩ = true ∧ (n.lk ⟨i, 0⟩).s = 0 := by
  unfold inPr
  rw [List.any_eq_true]
  constructor
  · rintro ⟨p, hp, h⟩
    obtain ⟨k, hk, hpk⟩ := prs_mem.1 hp
    obtain ⟨g1, g2, g3, g4⟩ := pr_link hG hpk
    rw [Bool.or_eq_true, decide_eq_true_eq, decide_eq_true_eq] at h
    rcases h with h | h
    · rw [h] at g1 g2; exact ⟨g1, by rw [g2]⟩
    · rw [h] at g3 g4; exact ⟨g3, by rw [g4]⟩
  · rintro ⟨h1, h2⟩
    obtain ⟨g1, g2, g3⟩ := good_link hG h1
    obtain ⟨q, hq⟩ : ∃ q, n.lk ⟨i, 0⟩ = q := ⟨_, rfl⟩
    rw [hq] at h2 g1 g2 g3
    obtain ⟨a, b⟩ := q
    simp only at h2
    subst h2
    have h3 := has_iff.1 g2
    have h4 := has_iff.1 h1
    simp only at h3 h4
    obtain ⟨j, rfl⟩ : ∃ j : Nat, a = j := ⟨a.toNat, by omega⟩
    have hne : ¬ (j : Int) = (i : Int) := fun h => g1 (by rw [h])
    by_cases hlt : (i : Int) < j
    · refine ⟨⟨i, j⟩, prs_mem.2 ⟨i, by omega, ?_⟩, by simp⟩
      unfold Nt.pr
      rw [hq, if_pos ⟨h1, rfl, hlt⟩]
    · refine ⟨⟨j, i⟩, prs_mem.2 ⟨j, by omega, ?_⟩, by simp⟩
      unfold Nt.pr
      rw [g3, if_pos ⟨g2, rfl, by simp only; omega⟩]

def MetK (n : Nt) (k : Nat) (mt : List Bool) : Prop := mt.length = n.ns.length ∧ ∀ j, j < n.ns.length → mt[j]? = some (inPr (n.prs.take k) j)

theorem pairsMeet_law {n : Nt} (hn : n.Ok) : eP S 12 [.g (encT n)] = some (.a (.b true)) := by
  have f0 := fixed17_ok
  have a1 := Small_ok hn 150
  have a2 := RCheck_ok hn
  refine x_fn (orcS (by decide)) (fc := F12) rfl rfl ?_
  by_cases h1 : n.small 150
  case neg =>
    rw [bool_f h1] at a1
    simp only [encT] at a1
    simp only [F12, f0, a1, fxa, fxc, fxE, fxL, fxI, nxE, evO, evR, cellsT, ldCells, mkT, lenA, binPV, Env.init, resV, resT, frT, klT, ownT, intT, O.adds, ownA, rowsA, over, wrOk, keysT, keysA, ne_eq, if_true, if_false, ite_self, Nat.reduceLT, Nat.reduceSub, Nat.reduceBEq, Nat.reduceEqDiff, Nat.reduceAdd, Nat.reduceLeDiff, reduceCtorEq, Nat.reduceMul]
  rw [bool_t h1] at a1
  by_cases hG : n.Good
  case neg =>
    rw [bool_f hG] at a2
    simp only [Bool.false_eq_true, if_false, encT] at a1 a2
    simp only [F12, f0, a1, a2, Int.reduceEq, fxa, fxc, fxE, fxL, fxI, nxE, evO, evR, cellsT, ldCells, mkT, lenA, binPV, Env.init, resV, resT, frT, klT, ownT, intT, O.adds, ownA, rowsA, over, wrOk, keysT, keysA, ne_eq, if_true, if_false, ite_self, Nat.reduceLT, Nat.reduceSub, Nat.reduceBEq, Nat.reduceEqDiff, Nat.reduceAdd, Nat.reduceLeDiff, reduceCtorEq, Nat.reduceMul]
  rw [bool_t hG] at a2
  have hns := hn.ns
  have b1 := All_ok hn
  have b2 := Ready_ok hn
  rw [bool_t hG] at b1
  have hrl := rds_len n
  have hpl : n.prs.length ≤ n.ns.length := prsTo_len n n.ns.length
  have hb := good_big hG
  have hge0 : (0 : Int) ≤ (n.ns.length : Int) := by omega
  have hbb : (n.ns.length : Int) ≤ (n.ns.length : Int) ∧ (n.ns.length : Int) * ((1 : Nat) : Int) ≤ 140737488355328 := by omega
  have hIn := fun p : Pt => in17_ok (l := n.prs) (by omega) p
  have hsub : ∀ p ∈ n.rds, n.prs.any (eqP p) = true := by
    intro p hp
    rw [in17_mem]
    unfold Nt.rds at hp
    rw [bool_t hG, if_pos rfl] at hp
    exact (List.mem_filter.1 hp).1
  simp only [if_true, encT, encP] at a1 a2 b1 b2 hIn
  simp only [F12, f0, a1, a2, b1, hbb, hge0, Int.reduceEq, Int.toNat_natCast, and_self, if_true, fxa, fxc, fxE, fxL, fxI, nxE, evO, evR, cellsT, ldCells, mkT, lenA, binPV, Env.init, resV, resT, frT, klT, ownT, intT, O.adds, ownA, rowsA, over, wrOk, keysT, keysA, ne_eq, if_true, if_false, ite_self, Nat.reduceLT, Nat.reduceSub, Nat.reduceBEq, Nat.reduceEqDiff, Nat.reduceAdd, Nat.reduceLeDiff, reduceCtorEq, Nat.reduceMul]
  refine loop_nat n.prs.length (fun i e σ => ∃ mt, MetK n i mt ∧ e 1 = .a (.ptr (1, 0) 0 0) ∧ e 3 = .a (.p (.l (n.prs.map encP))) ∧ e 4 = .a (.own (30, 1) 0 n.ns.length) ∧ e 5 = .a (.p (.i .i64 (i : Nat))) ∧ σ.bs (1, 0) = some (.var [.p (.l (n.ns.map encN)), .p (.i .i64 n.cap)]) ∧ σ.bs (30, 1) = some (.row 1 4 (mt.map encB))) (i0 := 0) (Nat.zero_le _) ?_ ?_ ?_
  · refine ⟨List.replicate n.ns.length false, ⟨by simp, fun j hj => by rw [List.getElem?_replicate, if_pos hj]; rfl⟩, ?_, ?_, ?_, ?_, ?_, ?_⟩
    all_goals simp only [encP, List.map_replicate, encB, fxa, fxc, fxE, fxL, fxI, nxE, evO, evR, cellsT, ldCells, mkT, lenA, binPV, Env.init, resV, resT, frT, klT, ownT, intT, O.adds, ownA, rowsA, over, wrOk, keysT, keysA, ne_eq, if_true, if_false, ite_self, Nat.reduceLT, Nat.reduceSub, Nat.reduceBEq, Nat.reduceEqDiff, Nat.reduceAdd, Nat.reduceLeDiff, reduceCtorEq, Nat.reduceMul]
    all_goals rfl
  · rintro i e σ hi ⟨mt, ⟨hM1, hM2⟩, e1, e3, e4, e5, s1, s30⟩
    obtain ⟨⟨xn, xs⟩, hx⟩ : ∃ x, n.prs[i]? = some x := ⟨_, List.getElem?_eq_getElem hi⟩
    have hx' := mapGet encP hx
    have hxm := List.mem_of_getElem? hx
    obtain ⟨k, hk, hpk⟩ := prs_mem.1 hxm
    obtain ⟨g1, g2, g3, g4⟩ := pr_link hG hpk
    have hin := prs_in hG hxm
    simp only at g1 g2 g3 g4 hin
    obtain ⟨a, rfl⟩ : ∃ a : Nat, xn = a := ⟨xn.toNat, by omega⟩
    obtain ⟨b, rfl⟩ : ∃ b : Nat, xs = b := ⟨xs.toNat, by omega⟩
    have hlt : ((i : Nat) : Int) < (n.prs.length : Int) := by omega
    have hge : (0 : Int) ≤ ((i : Nat) : Int) := by omega
    have hra : ((n.prs.map encP).all fun r => decide (r.length = 2)) = true := by simp [encP]
    have q1 : ¬ ((a : Nat) : Int) < 0 := by omega
    have q2 : ¬ ((a : Nat) : Int) ≥ ((b : Nat) : Int) := by omega
    have q3 : ¬ ((b : Nat) : Int) ≥ (n.ns.length : Int) := by omega
    have k1 := getN (l := n.ns) hin.1 hin.2.1
    have k2 := getN (l := n.ns) hin.2.2.1 hin.2.2.2.1
    have m1 := has_iff.1 g1
    have m2 := has_iff.1 g3
    simp only at m1 m2
    have k3 := getP (l := (n.nd (a : Int)).to) (i := 0) (by omega) m1.2.2.2
    have k4 := getP (l := (n.nd (b : Int)).to) (i := 0) (by omega) m2.2.2.2
    have m3 := m1.2.2.2
    have m4 := m2.2.2.2
    unfold Nt.lk Nd.tt at g2 g4
    simp only at g2 g4
    rw [g2] at k3
    rw [g4] at k4
    obtain ⟨y, hy⟩ : ∃ y, n.nd (a : Int) = y := ⟨_, rfl⟩
    have hy2 : n.ns.getD ((a : Int)).toNat zN = y := hy
    obtain ⟨z, hz⟩ : ∃ z, n.nd (b : Int) = z := ⟨_, rfl⟩
    have hz2 : n.ns.getD ((b : Int)).toNat zN = z := hz
    rw [hy2] at k1
    rw [hz2] at k2
    rw [hy] at k3 m3
    rw [hz] at k4 m4
    have haN : a < n.ns.length := by omega
    have hbN : b < n.ns.length := by omega
    have r1 := mapGet encB (hM2 a haN)
    have hb0 : (mt.set a true)[b]? = some (inPr (n.prs.take i) b) := by rw [List.getElem?_set_ne (by omega)]; exact hM2 b hbN
    have r2 := mapGet encB hb0
    have hs1 : (mt.map encB).set a [.b true] = (mt.set a true).map encB := by rw [List.map_set]; rfl
    have hs2 : ((mt.set a true).map encB).set b [.b true] = ((mt.set a true).set b true).map encB := by simp only [List.map_set]; rfl
    have ga : (0 : Int) ≤ (a : Int) := by omega
    have gb : (0 : Int) ≤ (b : Int) := by omega
    have la : (a : Int) < (n.ns.length : Int) := by omega
    have lb : (b : Int) < (n.ns.length : Int) := by omega
    have hK : MetK n (i + 1) ((mt.set a true).set b true) := by
      refine ⟨by simp [hM1], fun j hj => ?_⟩
      have : inPr (n.prs.take (i + 1)) j = (inPr (n.prs.take i) j || (decide ((a : Int) = (j : Int)) || decide ((b : Int) = (j : Int)))) := by
        unfold inPr
        rw [List.take_add_one, hx, List.any_append]; simp
      rw [this]
      by_cases e2 : b = j
      · subst e2; rw [List.getElem?_set_self (by simp; omega)]; simp
      · rw [List.getElem?_set_ne e2]
        by_cases e3 : a = j
        · subst e3; rw [List.getElem?_set_self (by omega)]; simp
        · rw [List.getElem?_set_ne e3, hM2 j hj]
          have : ¬ (a : Int) = (j : Int) := by omega
          have : ¬ (b : Int) = (j : Int) := by omega
          simp [*]
    have t1 : (decide ((b : Int) = (b : Int)) && decide ((0 : Int) = 0)) = true := by simp
    have t2 : (decide ((a : Int) = (a : Int)) && decide ((0 : Int) = 0)) = true := by simp
    simp only [Int.toNat_natCast] at k1 k2
    simp only [encP, encB, Int.toNat_zero] at hx' hra k3 k4 r1 r2
    cases i with
    | zero =>
      have q4 : ¬ ((0 : Nat) : Int) > 0 := by omega
      simp only [F12b0, e1, e3, e4, e5, s1, s30, hlt, hge, hx', hra, q1, q2, q3, q4, k1, k2, k3, k4, m3, m4, encN, t1, t2, ga, gb, la, lb, r1, r2, hs1, hs2, rowK, encP, encB, Int.le_refl, Int.toNat_natCast, Int.toNat_zero, Nat.zero_add, fxa, fxc, fxE, fxL, fxI, nxE, evO, evR, cellsT, ldCells, mkT, lenA, binPV, Env.init, resV, resT, frT, klT, ownT, intT, O.adds, ownA, rowsA, over, wrOk, keysT, keysA, ne_eq, if_true, if_false, ite_self, Nat.reduceLT, Nat.reduceSub, Nat.reduceBEq, Nat.reduceEqDiff, Nat.reduceAdd, Nat.reduceLeDiff, reduceCtorEq, Nat.reduceMul]
      exact ⟨_, hK, rfl, rfl⟩
    | succ i' =>
      have q4 : ((i' + 1 : Nat) : Int) > 0 := by omega
      have q5 : IntKind.i64.wrap (((i' + 1 : Nat) : Int) - 1) = (i' : Int) := by rw [wrap_in _ (by omega)]; omega
      obtain ⟨w, hw⟩ : ∃ w, n.prs[i']? = some w := ⟨_, List.getElem?_eq_getElem (by omega)⟩
      have hw' := mapGet encP hw
      have hsrt : w.n < (a : Int) := by
        have h0 : n.prs.Pairwise (fun p q => p.n < q.n) := (prs_sorted n n.ns.length).1
        have h := List.pairwise_iff_getElem.1 h0 i' (i' + 1) (List.getElem?_eq_some_iff.1 hw).1 hi (by omega)
        rw [(List.getElem?_eq_some_iff.1 hw).2, (List.getElem?_eq_some_iff.1 hx).2] at h
        exact h
      have q6 : ¬ w.n ≥ (a : Int) := by omega
      have q7 : ((i' : Nat) : Int) < (n.prs.length : Int) := by omega
      have q8 : (0 : Int) ≤ ((i' : Nat) : Int) := by omega
      simp only [encP] at hw'
      simp only [F12b0, e1, e3, e4, e5, s1, s30, hlt, hge, hx', hra, q1, q2, q3, q4, q5, q6, q7, q8, hw', k1, k2, k3, k4, m3, m4, encN, t1, t2, ga, gb, la, lb, r1, r2, hs1, hs2, rowK, encP, encB, Int.le_refl, Int.toNat_natCast, Int.toNat_zero, Nat.zero_add, fxa, fxc, fxE, fxL, fxI, nxE, evO, evR, cellsT, ldCells, mkT, lenA, binPV, Env.init, resV, resT, frT, klT, ownT, intT, O.adds, ownA, rowsA, over, wrOk, keysT, keysA, ne_eq, if_true, if_false, ite_self, Nat.reduceLT, Nat.reduceSub, Nat.reduceBEq, Nat.reduceEqDiff, Nat.reduceAdd, Nat.reduceLeDiff, reduceCtorEq, Nat.reduceMul]
      exact ⟨_, hK, by rw [wrap_succ (i' + 1) (by omega)], rfl⟩
  · rintro e σ ⟨mt, ⟨hM1, hM2⟩, e1, e3, e4, e5, s1, s30⟩
    have hlt : ¬ ((n.prs.length : Nat) : Int) < (n.prs.length : Int) := by omega
    rw [List.take_length] at hM2
    simp only [F12b0, e1, e3, e4, e5, s1, s30, hlt, List.length_map, fxa, fxc, fxE, fxL, fxI, nxE, evO, evR, cellsT, ldCells, mkT, lenA, binPV, Env.init, resV, resT, frT, klT, ownT, intT, O.adds, ownA, rowsA, over, wrOk, keysT, keysA, ne_eq, if_true, if_false, ite_self, Nat.reduceLT, Nat.reduceSub, Nat.reduceBEq, Nat.reduceEqDiff, Nat.reduceAdd, Nat.reduceLeDiff, reduceCtorEq, Nat.reduceMul]
    refine loop_nat n.ns.length (fun i e σ => e 1 = .a (.ptr (1, 0) 0 0) ∧ e 3 = .a (.p (.l (n.prs.map encP))) ∧ e 4 = .a (.own (30, 1) 0 n.ns.length) ∧ e 8 = .a (.p (.i .i64 (i : Nat))) ∧ σ.bs (1, 0) = some (.var [.p (.l (n.ns.map encN)), .p (.i .i64 n.cap)]) ∧ σ.bs (30, 1) = some (.row 1 4 (mt.map encB))) (i0 := 0) (Nat.zero_le _) ?_ ?_ ?_
    · refine ⟨?_, ?_, ?_, ?_, ?_, ?_⟩ <;> simp only [e1, e3, e4, s1, s30, fxa, fxc, fxE, fxL, fxI, nxE, evO, evR, cellsT, ldCells, mkT, lenA, binPV, Env.init, resV, resT, frT, klT, ownT, intT, O.adds, ownA, rowsA, over, wrOk, keysT, keysA, ne_eq, if_true, if_false, ite_self, Nat.reduceLT, Nat.reduceSub, Nat.reduceBEq, Nat.reduceEqDiff, Nat.reduceAdd, Nat.reduceLeDiff, reduceCtorEq, Nat.reduceMul]
      rfl
    · rintro i e σ hi ⟨e1, e3, e4, e8, s1, s30⟩
      obtain ⟨x, hx⟩ : ∃ x, n.ns[i]? = some x := ⟨_, List.getElem?_eq_getElem hi⟩
      have hx' := mapGet encN hx
      have hlt : ((i : Nat) : Int) < (n.ns.length : Int) := by omega
      have hge : (0 : Int) ≤ ((i : Nat) : Int) := by omega
      have r1 := mapGet encB (hM2 i hi)
      have hnd : n.nd (i : Int) = x := by unfold Nt.nd; rw [List.getD_eq_getElem?_getD, Int.toNat_natCast, hx]; rfl
      have hmi := meets_iff hG (i := i)
      rw [has_iff] at hmi
      unfold Nt.lk at hmi
      simp only [hnd] at hmi
      simp only [encB] at r1
      by_cases h0 : (0 : Int) < (x.to.length : Int)
      · have k3 := getP (l := x.to) (i := 0) (by omega) h0
        obtain ⟨q, hq⟩ : ∃ q, x.tt 0 = q := ⟨_, rfl⟩
        have hq2 : x.to.getD (0 : Int).toNat zP = q := hq
        rw [hq2] at k3
        rw [hq] at hmi
        have hgt : (x.to.length : Int) > 0 := h0
        simp only [encP, Int.toNat_zero] at k3
        by_cases hs : q.s = 0
        · have hr : inPr n.prs i = true := hmi.2 ⟨⟨hge, hlt, by omega, h0⟩, hs⟩
          rw [hr] at r1
          simp only [F12b1, e1, e3, e4, e8, s1, s30, hlt, hge, hx', h0, hgt, k3, hs, r1, rowK, encB, Int.le_refl, Int.toNat_natCast, Int.toNat_zero, Nat.zero_add, fxa, fxc, fxE, fxL, fxI, nxE, evO, evR, cellsT, ldCells, mkT, lenA, binPV, Env.init, resV, resT, frT, klT, ownT, intT, O.adds, ownA, rowsA, over, wrOk, keysT, keysA, ne_eq, if_true, if_false, ite_self, Nat.reduceLT, Nat.reduceSub, Nat.reduceBEq, Nat.reduceEqDiff, Nat.reduceAdd, Nat.reduceLeDiff, reduceCtorEq, Nat.reduceMul]
          rw [wrap_succ i (by omega)]
        · have hr : inPr n.prs i = false := by
            cases h : inPr n.prs i with
            | false => rfl
            | true => exact absurd (hmi.1 h).2 hs
          rw [hr] at r1
          simp only [F12b1, e1, e3, e4, e8, s1, s30, hlt, hge, hx', h0, hgt, k3, hs, r1, rowK, encB, Int.le_refl, Int.toNat_natCast, Int.toNat_zero, Nat.zero_add, fxa, fxc, fxE, fxL, fxI, nxE, evO, evR, cellsT, ldCells, mkT, lenA, binPV, Env.init, resV, resT, frT, klT, ownT, intT, O.adds, ownA, rowsA, over, wrOk, keysT, keysA, ne_eq, if_true, if_false, ite_self, Nat.reduceLT, Nat.reduceSub, Nat.reduceBEq, Nat.reduceEqDiff, Nat.reduceAdd, Nat.reduceLeDiff, reduceCtorEq, Nat.reduceMul]
          rw [wrap_succ i (by omega)]
      · have hgt : ¬ (x.to.length : Int) > 0 := h0
        have hr : inPr n.prs i = false := by
          cases h : inPr n.prs i with
          | false => rfl
          | true => exact absurd (hmi.1 h).1.2.2.2 h0
        rw [hr] at r1
        simp only [F12b1, e1, e3, e4, e8, s1, s30, hlt, hge, hx', h0, hgt, r1, rowK, encB, Int.le_refl, Int.toNat_natCast, Int.toNat_zero, Nat.zero_add, fxa, fxc, fxE, fxL, fxI, nxE, evO, evR, cellsT, ldCells, mkT, lenA, binPV, Env.init, resV, resT, frT, klT, ownT, intT, O.adds, ownA, rowsA, over, wrOk, keysT, keysA, ne_eq, if_true, if_false, ite_self, Nat.reduceLT, Nat.reduceSub, Nat.reduceBEq, Nat.reduceEqDiff, Nat.reduceAdd, Nat.reduceLeDiff, reduceCtorEq, Nat.reduceMul]
        rw [wrap_succ i (by omega)]
    · rintro e σ ⟨e1, e3, e4, e8, s1, s30⟩
      have hlt : ¬ ((n.ns.length : Nat) : Int) < (n.ns.length : Int) := by omega
      simp only [F12b1, e1, e3, e4, e8, s1, s30, hlt, b2, fxa, fxc, fxE, fxL, fxI, nxE, evO, evR, cellsT, ldCells, mkT, lenA, binPV, Env.init, resV, resT, frT, klT, ownT, intT, O.adds, ownA, rowsA, over, wrOk, keysT, keysA, ne_eq, if_true, if_false, ite_self, Nat.reduceLT, Nat.reduceSub, Nat.reduceBEq, Nat.reduceEqDiff, Nat.reduceAdd, Nat.reduceLeDiff, reduceCtorEq, Nat.reduceMul]
      refine loop_nat n.rds.length (fun i e σ => e 3 = .a (.p (.l (n.prs.map encP))) ∧ e 10 = .a (.p (.l (n.rds.map encP))) ∧ e 11 = .a (.p (.i .i64 (i : Nat)))) (i0 := 0) (Nat.zero_le _) ?_ ?_ ?_
      · refine ⟨?_, ?_, ?_⟩ <;> simp only [e3, encP, fxa, fxc, fxE, fxL, fxI, nxE, evO, evR, cellsT, ldCells, mkT, lenA, binPV, Env.init, resV, resT, frT, klT, ownT, intT, O.adds, ownA, rowsA, over, wrOk, keysT, keysA, ne_eq, if_true, if_false, ite_self, Nat.reduceLT, Nat.reduceSub, Nat.reduceBEq, Nat.reduceEqDiff, Nat.reduceAdd, Nat.reduceLeDiff, reduceCtorEq, Nat.reduceMul]
        all_goals rfl
      · rintro i e σ hi ⟨e3, e10, e11⟩
        obtain ⟨x, hx⟩ : ∃ x, n.rds[i]? = some x := ⟨_, List.getElem?_eq_getElem hi⟩
        have hx' := mapGet encP hx
        have hlt : ((i : Nat) : Int) < (n.rds.length : Int) := by omega
        have hge : (0 : Int) ≤ ((i : Nat) : Int) := by omega
        have hra : ((n.rds.map encP).all fun r => decide (r.length = 2)) = true := by simp [encP]
        have c := hIn x
        rw [hsub x (List.mem_of_getElem? hx)] at c
        simp only [encP] at hx' hra c
        simp only [F12b2, e3, e10, e11, hlt, hge, hx', hra, c, encP, fxa, fxc, fxE, fxL, fxI, nxE, evO, evR, cellsT, ldCells, mkT, lenA, binPV, Env.init, resV, resT, frT, klT, ownT, intT, O.adds, ownA, rowsA, over, wrOk, keysT, keysA, ne_eq, if_true, if_false, ite_self, Nat.reduceLT, Nat.reduceSub, Nat.reduceBEq, Nat.reduceEqDiff, Nat.reduceAdd, Nat.reduceLeDiff, reduceCtorEq, Nat.reduceMul]
        rw [wrap_succ i (by omega)]
      · rintro e σ ⟨e3, e10, e11⟩
        have hlt : ¬ ((n.rds.length : Nat) : Int) < (n.rds.length : Int) := by omega
        simp only [F12b2, e3, e10, e11, hlt, List.length_map, fxa, fxc, fxE, fxL, fxI, nxE, evO, evR, cellsT, ldCells, mkT, lenA, binPV, Env.init, resV, resT, frT, klT, ownT, intT, O.adds, ownA, rowsA, over, wrOk, keysT, keysA, ne_eq, if_true, if_false, ite_self, Nat.reduceLT, Nat.reduceSub, Nat.reduceBEq, Nat.reduceEqDiff, Nat.reduceAdd, Nat.reduceLeDiff, reduceCtorEq, Nat.reduceMul]
end Go.Proofs.Ytkpfjolcmkikeaa
