/- The law RuleAsks, as the evaluator has it. -/
import Derived.Test.YtomcceambpneiaaRuleK
set_option linter.unusedSimpArgs false
set_option linter.unusedVariables false
set_option maxHeartbeats 4000000
set_option maxRecDepth 10000
namespace Go.Proofs.Ytomcceambpneiaa
open Go.Fx

/-! ### one that asks, and one that is told -/
theorem to_le {x : Nd} (hm : x.may) (h : (x.to.length : Int) ≤ x.ports) : (x.to.length : Int) ≤ 10 ∧ (cls x.k = 2 → (x.to.length : Int) ≤ 9) ∧ 0 ≤ x.ports := by
  have h1 := hm.to8
  have h2 := hm.al8
  have h3 := cls_2 x.k
  have h4 : x.ports ≤ 10 ∧ (cls x.k = 2 → x.ports ≤ 9) := by
    unfold Nd.ports
    rw [h3]
    repeat' split
    all_goals omega
  omega
theorem idx_lt {α : Type} {f : α → Bool} {l : List α} (h : ¬ idx f l < 0) : ∃ (i : Nat) (x : α), idx f l = (i : Int) ∧ l[i]? = some x := by
  unfold idx at h ⊢
  cases hf : l.findIdx? f with
  | none => rw [hf] at h; simp at h
  | some i =>
    rw [List.findIdx?_eq_some_iff_getElem] at hf
    exact ⟨i, _, rfl, List.getElem?_eq_getElem hf.1⟩
theorem oth_in {x : Nd} (h : (x.to.length : Int) ≤ 10) : oth x = max ((x.to.length : Int) - 1) 0 := by unfold oth; rw [wr_in (by omega)]

theorem asks_spec {a b : Nd} (ha : a.may) (hb : b.may) (ta : (a.to.length : Int) ≤ a.ports) (tb : (b.to.length : Int) ≤ b.ports) (h1 : cls a.k = 1) (h2 : cls b.k = 2)
    (hbd : ¬ ((a.k = 3 ∧ b.k = 2 ∨ a.k = 9 ∧ b.k = 8) ∧ a.lv ≠ b.lv)) : (askR a b).2 = 0 ∧ (askR a b).1.sw = false ∧ 1 ≤ (askR a b).1.k ∧ (askR a b).1.k ≤ 5 ∧ 0 ≤ needR (askR a b).1 a b ∧ needR (askR a b).1 a b ≤ 17 := by
  have la := to_le ha ta
  have lb := to_le hb tb
  have oa := oth_in la.1
  have ob := oth_in lb.1
  have lb2 := lb.2.1 h2
  have nd : ∀ p : Pl, p.sw = false → needR p a b = needX p a b := fun p h => by unfold needR; rw [if_neg (by simp [h])]
  have n5 : 0 ≤ needX (plainR 5).1 a b ∧ needX (plainR 5).1 a b ≤ 17 := by
    unfold needX plainR
    simp only [Int.reduceEq, if_false, or_self, if_true]
    rw [oa, ob, wr_in (z := max ((a.to.length : Int) - 1) 0 - 1) (by omega), wr_in (z := 1 + max (max ((a.to.length : Int) - 1) 0 - 1) 0) (by omega), wr_in (by omega)]
    omega
  have fl : (plainR 5).2 = 0 ∧ (plainR 5).1.sw = false ∧ 1 ≤ (plainR 5).1.k ∧ (plainR 5).1.k ≤ 5 ∧ 0 ≤ needR (plainR 5).1 a b ∧ needR (plainR 5).1 a b ≤ 17 := by
    rw [nd _ rfl]; exact ⟨rfl, rfl, by show (1 : Int) ≤ 5; omega, by show (5 : Int) ≤ 5; omega, n5⟩
  unfold askR pickR outR
  split
  · rename_i h
    rw [if_neg (fun h3 => hbd ⟨.inl h, h3⟩), nd _ rfl]
    refine ⟨rfl, rfl, by show (1 : Int) ≤ 1; omega, by show (1 : Int) ≤ 5; omega, ?_⟩
    unfold needX plainR
    simp only [Int.reduceEq, if_false, or_self, if_true]; omega
  split
  · rename_i h0 h
    rw [if_neg (fun h3 => hbd ⟨.inr h, h3⟩)]
    split
    · exact fl
    · rename_i h3
      obtain ⟨i, x, e1, e2⟩ := idx_lt h3
      have e1 : pickIx a b = (i : Int) := e1
      rw [nd _ rfl, e1]
      refine ⟨rfl, rfl, by show (1 : Int) ≤ 2; omega, by show (2 : Int) ≤ 5; omega, ?_⟩
      have hal := ha.al8
      have hx := ha.alt i x e2
      have hil := (List.getElem?_eq_some_iff.1 e2).1
      unfold needX
      simp only [if_true]
      rw [if_neg (by omega), Int.toNat_natCast, List.getD_eq_getElem?_getD, e2]
      simp only [Option.getD_some]
      rw [wr_in (z := x.n + (a.al.length : Int)) (by omega), wr_in (by omega)]
      omega
  split
  · rw [nd _ rfl]
    refine ⟨rfl, rfl, by show (1 : Int) ≤ 3; omega, by show (3 : Int) ≤ 5; omega, ?_⟩
    unfold needX plainR
    simp only [Int.reduceEq, if_false, true_or, if_true]; omega
  split
  · split
    · exact fl
    · rw [nd _ rfl]
      refine ⟨rfl, rfl, by show (1 : Int) ≤ 4; omega, by show (4 : Int) ≤ 5; omega, ?_⟩
      unfold needX
      simp only [Int.reduceEq, if_false, or_true, if_true]; omega
  · exact fl

theorem ruleAsks_law {a b : Nd} (ha : a.Ok) (hb : b.Ok) : eP S 6 [.g (encN a), .g (encN b)] = some (.a (.b true)) := by
  have f0 := fixed14_ok
  have a1 := RNode_ok ha
  have a2 := RNode_ok hb
  have a3 := RPorts_ok ha
  have a4 := RPorts_ok hb
  refine x_fn (orcS (by decide)) (fc := F6) rfl rfl ?_
  by_cases h1 : a.may
  case neg =>
    rw [bool_f h1] at a1
    simp only [encN] at a1
    simp only [F6, f0, a1, fxa, fxc, fxE, fxL, fxI, nxE, evO, evR, cellsT, ldCells, mkT, lenA, binPV, Env.init, resV, resT, frT, klT, ownT, intT, O.adds, ownA, rowsA, over, wrOk, keysT, keysA, ne_eq, if_true, if_false, ite_self, Nat.reduceLT, Nat.reduceSub, Nat.reduceBEq, Nat.reduceEqDiff, Nat.reduceAdd, Nat.reduceLeDiff, reduceCtorEq, Nat.reduceMul]
  rw [bool_t h1] at a1
  by_cases h2 : b.may
  case neg =>
    rw [bool_f h2] at a2
    simp only [encN] at a1 a2
    simp only [F6, f0, a1, a2, fxa, fxc, fxE, fxL, fxI, nxE, evO, evR, cellsT, ldCells, mkT, lenA, binPV, Env.init, resV, resT, frT, klT, ownT, intT, O.adds, ownA, rowsA, over, wrOk, keysT, keysA, ne_eq, if_true, if_false, ite_self, Nat.reduceLT, Nat.reduceSub, Nat.reduceBEq, Nat.reduceEqDiff, Nat.reduceAdd, Nat.reduceLeDiff, reduceCtorEq, Nat.reduceMul]
  rw [bool_t h2] at a2
  simp only [encN] at a1 a2 a3 a4
  by_cases h3 : (a.to.length : Int) > a.ports
  · simp only [F6, f0, a1, a2, a3, h3, fxa, fxc, fxE, fxL, fxI, nxE, evO, evR, cellsT, ldCells, mkT, lenA, binPV, Env.init, resV, resT, frT, klT, ownT, intT, O.adds, ownA, rowsA, over, wrOk, keysT, keysA, ne_eq, if_true, if_false, ite_self, Nat.reduceLT, Nat.reduceSub, Nat.reduceBEq, Nat.reduceEqDiff, Nat.reduceAdd, Nat.reduceLeDiff, reduceCtorEq, Nat.reduceMul]
  by_cases h4 : (b.to.length : Int) > b.ports
  · simp only [F6, f0, a1, a2, a3, a4, h3, h4, fxa, fxc, fxE, fxL, fxI, nxE, evO, evR, cellsT, ldCells, mkT, lenA, binPV, Env.init, resV, resT, frT, klT, ownT, intT, O.adds, ownA, rowsA, over, wrOk, keysT, keysA, ne_eq, if_true, if_false, ite_self, Nat.reduceLT, Nat.reduceSub, Nat.reduceBEq, Nat.reduceEqDiff, Nat.reduceAdd, Nat.reduceLeDiff, reduceCtorEq, Nat.reduceMul]
  have c1 := Of_ok ha hb
  have ea := asks_ok a.k
  have eb := asks_ok b.k
  have ta := told_ok a.k
  have tb := told_ok b.k
  by_cases q1 : cls a.k = 1
  · rw [decide_eq_true q1] at ea
    rw [decide_eq_false (by omega)] at ta
    by_cases q2 : cls b.k = 1
    · have e1 : ofR a b = noR 140 := by unfold ofR; rw [q1, q2]; simp
      rw [decide_eq_true q2] at eb
      rw [e1] at c1
      simp only [encLE, encL, encN, noR, p0, zN, List.map_nil] at c1
      simp only [F6, f0, a1, a2, a3, a4, h3, h4, c1, ea, eb, Int.reduceEq, fxa, fxc, fxE, fxL, fxI, nxE, evO, evR, cellsT, ldCells, mkT, lenA, binPV, Env.init, resV, resT, frT, klT, ownT, intT, O.adds, ownA, rowsA, over, wrOk, keysT, keysA, ne_eq, if_true, if_false, ite_self, Nat.reduceLT, Nat.reduceSub, Nat.reduceBEq, Nat.reduceEqDiff, Nat.reduceAdd, Nat.reduceLeDiff, reduceCtorEq, Nat.reduceMul]
    rw [decide_eq_false q2] at eb
    by_cases q3 : cls b.k = 2
    case neg =>
      rw [decide_eq_false q3] at tb
      obtain ⟨⟨p, e⟩, hp⟩ : ∃ z, ofR a b = z := ⟨_, rfl⟩
      rw [hp] at c1
      simp only [encLE, encL, encN] at c1
      simp only [F6, f0, a1, a2, a3, a4, h3, h4, c1, ea, eb, ta, tb, Int.reduceEq, fxa, fxc, fxE, fxL, fxI, nxE, evO, evR, cellsT, ldCells, mkT, lenA, binPV, Env.init, resV, resT, frT, klT, ownT, intT, O.adds, ownA, rowsA, over, wrOk, keysT, keysA, ne_eq, if_true, if_false, ite_self, Nat.reduceLT, Nat.reduceSub, Nat.reduceBEq, Nat.reduceEqDiff, Nat.reduceAdd, Nat.reduceLeDiff, reduceCtorEq, Nat.reduceMul]
    rw [decide_eq_true q3] at tb
    have e1 : ofR a b = askR a b := by unfold ofR; rw [q1, q3]; simp
    rw [e1] at c1
    by_cases hbd : (a.k = 3 ∧ b.k = 2 ∨ a.k = 9 ∧ b.k = 8) ∧ a.lv ≠ b.lv
    · have e2 : askR a b = noR 140 := by
        obtain ⟨h5 | h5, h6⟩ := hbd
        · unfold askR; rw [if_pos h5, if_pos h6]
        · unfold askR pickR; rw [if_neg (by omega), if_pos h5, if_pos h6]
      rw [e2] at c1
      obtain ⟨h5, h6⟩ := hbd
      simp only [encLE, encL, encN, noR, p0, zN, List.map_nil] at c1
      rcases h5 with ⟨h5, h7⟩ | ⟨h5, h7⟩
      · rw [h5] at a1 a3 c1 ea ta
        rw [h7] at a2 a4 c1 eb tb
        simp only [F6, f0, a1, a2, a3, a4, h3, h4, h5, h6, h7, c1, ea, eb, ta, tb, Int.reduceEq, fxa, fxc, fxE, fxL, fxI, nxE, evO, evR, cellsT, ldCells, mkT, lenA, binPV, Env.init, resV, resT, frT, klT, ownT, intT, O.adds, ownA, rowsA, over, wrOk, keysT, keysA, ne_eq, if_true, if_false, ite_self, Nat.reduceLT, Nat.reduceSub, Nat.reduceBEq, Nat.reduceEqDiff, Nat.reduceAdd, Nat.reduceLeDiff, reduceCtorEq, Nat.reduceMul]
      · rw [h5] at a1 a3 c1 ea ta
        rw [h7] at a2 a4 c1 eb tb
        simp only [F6, f0, a1, a2, a3, a4, h3, h4, h5, h6, h7, c1, ea, eb, ta, tb, Int.reduceEq, fxa, fxc, fxE, fxL, fxI, nxE, evO, evR, cellsT, ldCells, mkT, lenA, binPV, Env.init, resV, resT, frT, klT, ownT, intT, O.adds, ownA, rowsA, over, wrOk, keysT, keysA, ne_eq, if_true, if_false, ite_self, Nat.reduceLT, Nat.reduceSub, Nat.reduceBEq, Nat.reduceEqDiff, Nat.reduceAdd, Nat.reduceLeDiff, reduceCtorEq, Nat.reduceMul]
    · obtain ⟨r1, r2, r3, r4, r5, r6⟩ := asks_spec h1 h2 (by omega) (by omega) q1 q3 hbd
      obtain ⟨⟨p, e⟩, hp⟩ : ∃ z, askR a b = z := ⟨_, rfl⟩
      rw [hp] at c1 r1 r2 r3 r4 r5 r6
      simp only at r1 r2 r3 r4 r5 r6
      subst r1
      have n1 := need_ok (p := p) (a := a) (b := b)
      have r3' : p.k ≥ 1 := r3
      have r5' : needR p a b ≥ 0 := r5
      simp only [encLE, encL, encN] at c1 n1
      rw [r2] at n1
      rw [r2] at c1
      by_cases s1 : a.k = 3
      · by_cases s2 : b.k = 2
        · have s3 : a.lv = b.lv := by
            by_cases h : a.lv = b.lv
            · exact h
            · exact absurd ⟨.inl ⟨s1, s2⟩, h⟩ hbd
          rw [s1] at a1 a3 c1 ea ta n1
          rw [s2] at a2 a4 c1 eb tb n1
          rw [s3] at a1 a3 c1 n1
          simp only [F6, f0, a1, a2, a3, a4, h3, h4, s1, s2, s3, c1, n1, r2, r3', r4, r5', r6, ea, eb, ta, tb, Int.reduceEq, fxa, fxc, fxE, fxL, fxI, nxE, evO, evR, cellsT, ldCells, mkT, lenA, binPV, Env.init, resV, resT, frT, klT, ownT, intT, O.adds, ownA, rowsA, over, wrOk, keysT, keysA, ne_eq, if_true, if_false, ite_self, Nat.reduceLT, Nat.reduceSub, Nat.reduceBEq, Nat.reduceEqDiff, Nat.reduceAdd, Nat.reduceLeDiff, reduceCtorEq, Nat.reduceMul]
        · rw [s1] at a1 a3 c1 ea ta n1
          simp only [F6, f0, a1, a2, a3, a4, h3, h4, s1, s2, c1, n1, r2, r3', r4, r5', r6, ea, eb, ta, tb, Int.reduceEq, fxa, fxc, fxE, fxL, fxI, nxE, evO, evR, cellsT, ldCells, mkT, lenA, binPV, Env.init, resV, resT, frT, klT, ownT, intT, O.adds, ownA, rowsA, over, wrOk, keysT, keysA, ne_eq, if_true, if_false, ite_self, Nat.reduceLT, Nat.reduceSub, Nat.reduceBEq, Nat.reduceEqDiff, Nat.reduceAdd, Nat.reduceLeDiff, reduceCtorEq, Nat.reduceMul]
      by_cases s4 : a.k = 9
      · by_cases s2 : b.k = 8
        · have s3 : a.lv = b.lv := by
            by_cases h : a.lv = b.lv
            · exact h
            · exact absurd ⟨.inr ⟨s4, s2⟩, h⟩ hbd
          rw [s4] at a1 a3 c1 ea ta n1
          rw [s2] at a2 a4 c1 eb tb n1
          rw [s3] at a1 a3 c1 n1
          simp only [F6, f0, a1, a2, a3, a4, h3, h4, s2, s3, s4, c1, n1, r2, r3', r4, r5', r6, ea, eb, ta, tb, Int.reduceEq, fxa, fxc, fxE, fxL, fxI, nxE, evO, evR, cellsT, ldCells, mkT, lenA, binPV, Env.init, resV, resT, frT, klT, ownT, intT, O.adds, ownA, rowsA, over, wrOk, keysT, keysA, ne_eq, if_true, if_false, ite_self, Nat.reduceLT, Nat.reduceSub, Nat.reduceBEq, Nat.reduceEqDiff, Nat.reduceAdd, Nat.reduceLeDiff, reduceCtorEq, Nat.reduceMul]
        · rw [s4] at a1 a3 c1 ea ta n1
          simp only [F6, f0, a1, a2, a3, a4, h3, h4, s2, s4, c1, n1, r2, r3', r4, r5', r6, ea, eb, ta, tb, Int.reduceEq, fxa, fxc, fxE, fxL, fxI, nxE, evO, evR, cellsT, ldCells, mkT, lenA, binPV, Env.init, resV, resT, frT, klT, ownT, intT, O.adds, ownA, rowsA, over, wrOk, keysT, keysA, ne_eq, if_true, if_false, ite_self, Nat.reduceLT, Nat.reduceSub, Nat.reduceBEq, Nat.reduceEqDiff, Nat.reduceAdd, Nat.reduceLeDiff, reduceCtorEq, Nat.reduceMul]
      · simp only [F6, f0, a1, a2, a3, a4, h3, h4, s1, s4, c1, n1, r2, r3', r4, r5', r6, ea, eb, ta, tb, Int.reduceEq, fxa, fxc, fxE, fxL, fxI, nxE, evO, evR, cellsT, ldCells, mkT, lenA, binPV, Env.init, resV, resT, frT, klT, ownT, intT, O.adds, ownA, rowsA, over, wrOk, keysT, keysA, ne_eq, if_true, if_false, ite_self, Nat.reduceLT, Nat.reduceSub, Nat.reduceBEq, Nat.reduceEqDiff, Nat.reduceAdd, Nat.reduceLeDiff, reduceCtorEq, Nat.reduceMul]
  · rw [decide_eq_false q1] at ea
    by_cases q2 : cls a.k = 2
    · rw [decide_eq_true q2] at ta
      by_cases q3 : cls b.k = 2
      · have e1 : ofR a b = noR 140 := by unfold ofR; rw [q2, q3]; simp
        rw [decide_eq_true q3] at tb
        rw [e1] at c1
        simp only [encLE, encL, encN, noR, p0, zN, List.map_nil] at c1
        simp only [F6, f0, a1, a2, a3, a4, h3, h4, c1, ea, eb, ta, tb, Int.reduceEq, fxa, fxc, fxE, fxL, fxI, nxE, evO, evR, cellsT, ldCells, mkT, lenA, binPV, Env.init, resV, resT, frT, klT, ownT, intT, O.adds, ownA, rowsA, over, wrOk, keysT, keysA, ne_eq, if_true, if_false, ite_self, Nat.reduceLT, Nat.reduceSub, Nat.reduceBEq, Nat.reduceEqDiff, Nat.reduceAdd, Nat.reduceLeDiff, reduceCtorEq, Nat.reduceMul]
      · rw [decide_eq_false q3] at tb
        obtain ⟨⟨p, e⟩, hp⟩ : ∃ z, ofR a b = z := ⟨_, rfl⟩
        rw [hp] at c1
        simp only [encLE, encL, encN] at c1
        simp only [F6, f0, a1, a2, a3, a4, h3, h4, c1, ea, ta, tb, Int.reduceEq, fxa, fxc, fxE, fxL, fxI, nxE, evO, evR, cellsT, ldCells, mkT, lenA, binPV, Env.init, resV, resT, frT, klT, ownT, intT, O.adds, ownA, rowsA, over, wrOk, keysT, keysA, ne_eq, if_true, if_false, ite_self, Nat.reduceLT, Nat.reduceSub, Nat.reduceBEq, Nat.reduceEqDiff, Nat.reduceAdd, Nat.reduceLeDiff, reduceCtorEq, Nat.reduceMul]
    · rw [decide_eq_false q2] at ta
      obtain ⟨⟨p, e⟩, hp⟩ : ∃ z, ofR a b = z := ⟨_, rfl⟩
      rw [hp] at c1
      simp only [encLE, encL, encN] at c1
      simp only [F6, f0, a1, a2, a3, a4, h3, h4, c1, ea, ta, Int.reduceEq, fxa, fxc, fxE, fxL, fxI, nxE, evO, evR, cellsT, ldCells, mkT, lenA, binPV, Env.init, resV, resT, frT, klT, ownT, intT, O.adds, ownA, rowsA, over, wrOk, keysT, keysA, ne_eq, if_true, if_false, ite_self, Nat.reduceLT, Nat.reduceSub, Nat.reduceBEq, Nat.reduceEqDiff, Nat.reduceAdd, Nat.reduceLeDiff, reduceCtorEq, Nat.reduceMul]
end Go.Proofs.Ytomcceambpneiaa
