/- The laws RuleLevels, RuleKinds and RuleAsks, as the evaluator has them. -/
import Derived.Test.YtomcceambpneiaaRuleL
set_option linter.unusedSimpArgs false
set_option linter.unusedVariables false
set_option maxHeartbeats 4000000
set_option maxRecDepth 10000
namespace Go.Proofs.Ytomcceambpneiaa
open Go.Fx

theorem control_ok (k : Int) : eP S 18 [.a (.i .i64 k)] = some (.a (.b (decide (cls k = 3)))) := by
  refine x_fn (orcS (by decide)) (fc := F18) rfl rfl ?_
  have h := cls_3 k
  have hd : decide (cls k = 3) = decide (k = 4 ∨ k = 5 ∨ k = 6) := by rw [decide_eq_decide]; exact h
  rw [hd]
  by_cases h1 : k = 4
  · simp only [F18, h1, true_or, fxa, fxc, fxE, fxL, fxI, nxE, evO, evR, cellsT, ldCells, mkT, lenA, binPV, Env.init, resV, resT, frT, klT, ownT, intT, O.adds, ownA, rowsA, over, wrOk, keysT, keysA, ne_eq, if_true, if_false, ite_self, Nat.reduceLT, Nat.reduceSub, Nat.reduceBEq, Nat.reduceEqDiff, Nat.reduceAdd, Nat.reduceLeDiff, reduceCtorEq, Nat.reduceMul]
  by_cases h2 : k = 5
  · simp only [F18, h2, Int.reduceEq, true_or, or_true, fxa, fxc, fxE, fxL, fxI, nxE, evO, evR, cellsT, ldCells, mkT, lenA, binPV, Env.init, resV, resT, frT, klT, ownT, intT, O.adds, ownA, rowsA, over, wrOk, keysT, keysA, ne_eq, if_true, if_false, ite_self, Nat.reduceLT, Nat.reduceSub, Nat.reduceBEq, Nat.reduceEqDiff, Nat.reduceAdd, Nat.reduceLeDiff, reduceCtorEq, Nat.reduceMul]
  · simp only [F18, h1, h2, false_or, fxa, fxc, fxE, fxL, fxI, nxE, evO, evR, cellsT, ldCells, mkT, lenA, binPV, Env.init, resV, resT, frT, klT, ownT, intT, O.adds, ownA, rowsA, over, wrOk, keysT, keysA, ne_eq, if_true, if_false, ite_self, Nat.reduceLT, Nat.reduceSub, Nat.reduceBEq, Nat.reduceEqDiff, Nat.reduceAdd, Nat.reduceLeDiff, reduceCtorEq, Nat.reduceMul]
theorem asks_ok (k : Int) : eP S 19 [.a (.i .i64 k)] = some (.a (.b (decide (cls k = 1)))) := by
  refine x_fn (orcS (by decide)) (fc := F19) rfl rfl ?_
  have h := cls_1 k
  have hd : decide (cls k = 1) = decide (k = 3 ∨ k = 9 ∨ k = 11 ∨ k = 12) := by rw [decide_eq_decide]; exact h
  rw [hd]
  by_cases h1 : k = 3
  · simp only [F19, h1, true_or, fxa, fxc, fxE, fxL, fxI, nxE, evO, evR, cellsT, ldCells, mkT, lenA, binPV, Env.init, resV, resT, frT, klT, ownT, intT, O.adds, ownA, rowsA, over, wrOk, keysT, keysA, ne_eq, if_true, if_false, ite_self, Nat.reduceLT, Nat.reduceSub, Nat.reduceBEq, Nat.reduceEqDiff, Nat.reduceAdd, Nat.reduceLeDiff, reduceCtorEq, Nat.reduceMul]
  by_cases h2 : k = 9
  · simp only [F19, h2, Int.reduceEq, true_or, or_true, fxa, fxc, fxE, fxL, fxI, nxE, evO, evR, cellsT, ldCells, mkT, lenA, binPV, Env.init, resV, resT, frT, klT, ownT, intT, O.adds, ownA, rowsA, over, wrOk, keysT, keysA, ne_eq, if_true, if_false, ite_self, Nat.reduceLT, Nat.reduceSub, Nat.reduceBEq, Nat.reduceEqDiff, Nat.reduceAdd, Nat.reduceLeDiff, reduceCtorEq, Nat.reduceMul]
  by_cases h3 : k = 11
  · simp only [F19, h3, Int.reduceEq, true_or, or_true, fxa, fxc, fxE, fxL, fxI, nxE, evO, evR, cellsT, ldCells, mkT, lenA, binPV, Env.init, resV, resT, frT, klT, ownT, intT, O.adds, ownA, rowsA, over, wrOk, keysT, keysA, ne_eq, if_true, if_false, ite_self, Nat.reduceLT, Nat.reduceSub, Nat.reduceBEq, Nat.reduceEqDiff, Nat.reduceAdd, Nat.reduceLeDiff, reduceCtorEq, Nat.reduceMul]
  · simp only [F19, h1, h2, h3, false_or, fxa, fxc, fxE, fxL, fxI, nxE, evO, evR, cellsT, ldCells, mkT, lenA, binPV, Env.init, resV, resT, frT, klT, ownT, intT, O.adds, ownA, rowsA, over, wrOk, keysT, keysA, ne_eq, if_true, if_false, ite_self, Nat.reduceLT, Nat.reduceSub, Nat.reduceBEq, Nat.reduceEqDiff, Nat.reduceAdd, Nat.reduceLeDiff, reduceCtorEq, Nat.reduceMul]
theorem told_ok (k : Int) : eP S 20 [.a (.i .i64 k)] = some (.a (.b (decide (cls k = 2)))) := by
  refine x_fn (orcS (by decide)) (fc := F20) rfl rfl ?_
  have h := cls_2 k
  have hd : decide (cls k = 2) = decide (k = 2 ∨ k = 8 ∨ k = 10 ∨ k = 13) := by rw [decide_eq_decide]; exact h
  rw [hd]
  by_cases h1 : k = 2
  · simp only [F20, h1, true_or, fxa, fxc, fxE, fxL, fxI, nxE, evO, evR, cellsT, ldCells, mkT, lenA, binPV, Env.init, resV, resT, frT, klT, ownT, intT, O.adds, ownA, rowsA, over, wrOk, keysT, keysA, ne_eq, if_true, if_false, ite_self, Nat.reduceLT, Nat.reduceSub, Nat.reduceBEq, Nat.reduceEqDiff, Nat.reduceAdd, Nat.reduceLeDiff, reduceCtorEq, Nat.reduceMul]
  by_cases h2 : k = 8
  · simp only [F20, h2, Int.reduceEq, true_or, or_true, fxa, fxc, fxE, fxL, fxI, nxE, evO, evR, cellsT, ldCells, mkT, lenA, binPV, Env.init, resV, resT, frT, klT, ownT, intT, O.adds, ownA, rowsA, over, wrOk, keysT, keysA, ne_eq, if_true, if_false, ite_self, Nat.reduceLT, Nat.reduceSub, Nat.reduceBEq, Nat.reduceEqDiff, Nat.reduceAdd, Nat.reduceLeDiff, reduceCtorEq, Nat.reduceMul]
  by_cases h3 : k = 10
  · simp only [F20, h3, Int.reduceEq, true_or, or_true, fxa, fxc, fxE, fxL, fxI, nxE, evO, evR, cellsT, ldCells, mkT, lenA, binPV, Env.init, resV, resT, frT, klT, ownT, intT, O.adds, ownA, rowsA, over, wrOk, keysT, keysA, ne_eq, if_true, if_false, ite_self, Nat.reduceLT, Nat.reduceSub, Nat.reduceBEq, Nat.reduceEqDiff, Nat.reduceAdd, Nat.reduceLeDiff, reduceCtorEq, Nat.reduceMul]
  · simp only [F20, h1, h2, h3, false_or, fxa, fxc, fxE, fxL, fxI, nxE, evO, evR, cellsT, ldCells, mkT, lenA, binPV, Env.init, resV, resT, frT, klT, ownT, intT, O.adds, ownA, rowsA, over, wrOk, keysT, keysA, ne_eq, if_true, if_false, ite_self, Nat.reduceLT, Nat.reduceSub, Nat.reduceBEq, Nat.reduceEqDiff, Nat.reduceAdd, Nat.reduceLeDiff, reduceCtorEq, Nat.reduceMul]

/-- what a plan of x, the first one, and y may be -/
inductive Src (x y : Nd) : Pl × Int → Prop
  | no : Src x y (noR 140)
  | drop : x.k = 7 → Src x y (plainR 8)
  | join : cls x.k = 3 → x.k = y.k → x.lv = y.lv → Src x y (plainR 6)
  | pass : cls x.k = 3 → Src x y (passR x y)
  | ask : cls x.k = 1 → cls y.k = 2 → Src x y (askR x y)
theorem of_src (a b : Nd) : Src a b (ofR a b) ∨ ∃ r, Src b a r ∧ ofR a b = swapR r := by
  unfold ofR
  split
  · exact .inl .no
  split
  · rename_i h; exact .inl (.drop ((cls_4 _).1 h))
  split
  · rename_i h; exact .inr ⟨_, .drop ((cls_4 _).1 h), rfl⟩
  split
  · rename_i h; exact .inl (.join h.1 h.2.2.2 h.2.2.1)
  split
  · rename_i h; exact .inl (.pass h.1)
  split
  · rename_i h; exact .inr ⟨_, .pass h, rfl⟩
  split
  · rename_i h; exact .inl (.ask h.1 h.2)
  split
  · rename_i h; exact .inr ⟨_, .ask h.2 h.1, rfl⟩
  · exact .inl .no

theorem wr_in {z : Int} (h : -9223372036854775808 ≤ z ∧ z ≤ 9223372036854775807) : wr z = z := wrap_in z h
theorem passLv_in {x y : Nd} (hy : 0 ≤ y.lv ∧ y.lv ≤ 60) : passLv x y = if x.k = 5 then y.lv - 1 else if x.k = 6 then y.lv + 1 else y.lv := by
  unfold passLv
  rw [wr_in (by omega), wr_in (by omega)]

theorem ruleLevels_law {kind level : Int} {b : Nd} (hk : wf kind) (hl : wf level) (hb : b.Ok) : eP S 5 [.a (.i .i64 kind), .g (encN b), .a (.i .i64 level)] = some (.a (.b true)) := by
  have f0 := fixed14_ok
  have a1 := RNode_ok hb
  have c3 := control_ok b.k
  refine x_fn (orcS (by decide)) (fc := F5) rfl rfl ?_
  by_cases h1 : kind < 4
  · simp only [F5, f0, h1, fxa, fxc, fxE, fxL, fxI, nxE, evO, evR, cellsT, ldCells, mkT, lenA, binPV, Env.init, resV, resT, frT, klT, ownT, intT, O.adds, ownA, rowsA, over, wrOk, keysT, keysA, ne_eq, if_true, if_false, ite_self, Nat.reduceLT, Nat.reduceSub, Nat.reduceBEq, Nat.reduceEqDiff, Nat.reduceAdd, Nat.reduceLeDiff, reduceCtorEq, Nat.reduceMul]
  by_cases h2 : kind > 6
  · simp only [F5, f0, h1, h2, fxa, fxc, fxE, fxL, fxI, nxE, evO, evR, cellsT, ldCells, mkT, lenA, binPV, Env.init, resV, resT, frT, klT, ownT, intT, O.adds, ownA, rowsA, over, wrOk, keysT, keysA, ne_eq, if_true, if_false, ite_self, Nat.reduceLT, Nat.reduceSub, Nat.reduceBEq, Nat.reduceEqDiff, Nat.reduceAdd, Nat.reduceLeDiff, reduceCtorEq, Nat.reduceMul]
  by_cases h3 : b.may
  case neg =>
    rw [bool_f h3] at a1
    simp only [encN] at a1
    simp only [F5, f0, a1, h1, h2, fxa, fxc, fxE, fxL, fxI, nxE, evO, evR, cellsT, ldCells, mkT, lenA, binPV, Env.init, resV, resT, frT, klT, ownT, intT, O.adds, ownA, rowsA, over, wrOk, keysT, keysA, ne_eq, if_true, if_false, ite_self, Nat.reduceLT, Nat.reduceSub, Nat.reduceBEq, Nat.reduceEqDiff, Nat.reduceAdd, Nat.reduceLeDiff, reduceCtorEq, Nat.reduceMul]
  rw [bool_t h3] at a1
  simp only [encN] at a1
  by_cases h4 : level < 0
  · simp only [F5, f0, a1, h1, h2, h4, fxa, fxc, fxE, fxL, fxI, nxE, evO, evR, cellsT, ldCells, mkT, lenA, binPV, Env.init, resV, resT, frT, klT, ownT, intT, O.adds, ownA, rowsA, over, wrOk, keysT, keysA, ne_eq, if_true, if_false, ite_self, Nat.reduceLT, Nat.reduceSub, Nat.reduceBEq, Nat.reduceEqDiff, Nat.reduceAdd, Nat.reduceLeDiff, reduceCtorEq, Nat.reduceMul]
  by_cases h5 : level > 60
  · simp only [F5, f0, a1, h1, h2, h4, h5, fxa, fxc, fxE, fxL, fxI, nxE, evO, evR, cellsT, ldCells, mkT, lenA, binPV, Env.init, resV, resT, frT, klT, ownT, intT, O.adds, ownA, rowsA, over, wrOk, keysT, keysA, ne_eq, if_true, if_false, ite_self, Nat.reduceLT, Nat.reduceSub, Nat.reduceBEq, Nat.reduceEqDiff, Nat.reduceAdd, Nat.reduceLeDiff, reduceCtorEq, Nat.reduceMul]
  by_cases h6 : b.k < 2
  · simp only [F5, f0, a1, h1, h2, h4, h5, h6, fxa, fxc, fxE, fxL, fxI, nxE, evO, evR, cellsT, ldCells, mkT, lenA, binPV, Env.init, resV, resT, frT, klT, ownT, intT, O.adds, ownA, rowsA, over, wrOk, keysT, keysA, ne_eq, if_true, if_false, ite_self, Nat.reduceLT, Nat.reduceSub, Nat.reduceBEq, Nat.reduceEqDiff, Nat.reduceAdd, Nat.reduceLeDiff, reduceCtorEq, Nat.reduceMul]
  by_cases h7 : b.k = 7
  · rw [h7] at a1
    simp only [F5, f0, a1, h1, h2, h4, h5, h6, h7, Int.reduceLT, fxa, fxc, fxE, fxL, fxI, nxE, evO, evR, cellsT, ldCells, mkT, lenA, binPV, Env.init, resV, resT, frT, klT, ownT, intT, O.adds, ownA, rowsA, over, wrOk, keysT, keysA, ne_eq, if_true, if_false, ite_self, Nat.reduceLT, Nat.reduceSub, Nat.reduceBEq, Nat.reduceEqDiff, Nat.reduceAdd, Nat.reduceLeDiff, reduceCtorEq, Nat.reduceMul]
  have hAO : (⟨kind, level, 0, [], [], []⟩ : Nd).Ok := ⟨hk, hl, wf_s (i := 0) (by decide), by simp, by simp, by simp, by simp, by simp⟩
  have c1 := Of_ok hAO hb
  have b0 := h3.lv0
  have b1 := h3.lv1
  have k13 := h3.k1
  have ca : cls (⟨kind, level, 0, [], [], []⟩ : Nd).k = 3 := (cls_3 _).2 (by show kind = 4 ∨ kind = 5 ∨ kind = 6; omega)
  have cb0 : ¬ cls b.k = 0 := by unfold cls; repeat' split
                                 all_goals omega
  have cb4 : ¬ cls b.k = 4 := fun h => h7 ((cls_4 _).1 h)
  have hpl := passLv_in (x := ⟨kind, level, 0, [], [], []⟩) (y := b) ⟨b0, b1⟩
  simp only at hpl
  by_cases hlt : level < b.lv
  · have e1 : ofR ⟨kind, level, 0, [], [], []⟩ b = passR ⟨kind, level, 0, [], [], []⟩ b := by
      unfold ofR
      rw [ca, if_neg (by omega), if_neg (by omega), if_neg cb4, if_neg (fun h => by have := h.2.2.1; simp only at this; omega), if_pos ⟨rfl, .inr (by simp only; omega)⟩]
    have hnge : ¬ level ≥ b.lv := by omega
    rw [e1] at c1
    unfold passR at c1
    rw [if_neg (by simp only; omega), hpl] at c1
    have key : ∀ want : Int, (if kind = 5 then b.lv - 1 else if kind = 6 then b.lv + 1 else b.lv) = want → (want > 60 → eP S 14 [.g [.i .i64 kind, .i .i64 level, .i .i64 0, .s [], .l [], .l []], .g (encN b)] = some (encLE (noR 141))) ∧
        (¬ want > 60 → eP S 14 [.g [.i .i64 kind, .i .i64 level, .i .i64 0, .s [], .l [], .l []], .g (encN b)] = some (encLE (⟨7, false, want, 0, zN⟩, 0))) := by
      rintro want rfl
      constructor
      · intro h; rw [if_pos h] at c1; exact c1
      · intro h; rw [if_neg h] at c1; exact c1
    clear c1
    have w1 : IntKind.i64.wrap (b.lv - 1) = b.lv - 1 := wrap_in _ (by omega)
    have w2 : IntKind.i64.wrap (b.lv + 1) = b.lv + 1 := wrap_in _ (by omega)
    by_cases k5 : kind = 5
    · obtain ⟨q1, q2⟩ := key (b.lv - 1) (by rw [if_pos k5])
      have hn : ¬ b.lv - 1 > 60 := by omega
      have c1 := q2 hn
      rw [k5] at c1
      simp only [encLE, encL, encN, zN, List.map_nil] at c1
      simp only [F5, f0, a1, c1, k5, h4, h5, h6, h7, hlt, hn, w1, Int.reduceLT, Int.reduceGT, Int.reduceEq, gt_iff_lt, fxa, fxc, fxE, fxL, fxI, nxE, evO, evR, cellsT, ldCells, mkT, lenA, binPV, Env.init, resV, resT, frT, klT, ownT, intT, O.adds, ownA, rowsA, over, wrOk, keysT, keysA, ne_eq, if_true, if_false, ite_self, Nat.reduceLT, Nat.reduceSub, Nat.reduceBEq, Nat.reduceEqDiff, Nat.reduceAdd, Nat.reduceLeDiff, reduceCtorEq, Nat.reduceMul]
    by_cases k6 : kind = 6
    · obtain ⟨q1, q2⟩ := key (b.lv + 1) (by rw [if_neg k5, if_pos k6])
      by_cases hn : b.lv + 1 > 60
      · have c1 := q1 hn
        rw [k6] at c1
        simp only [encLE, encL, encN, noR, p0, zN, List.map_nil] at c1
        simp only [F5, f0, a1, c1, k6, h4, h5, h6, h7, hlt, hn, w2, Int.reduceLT, Int.reduceGT, Int.reduceEq, gt_iff_lt, Int.lt_irrefl, fxa, fxc, fxE, fxL, fxI, nxE, evO, evR, cellsT, ldCells, mkT, lenA, binPV, Env.init, resV, resT, frT, klT, ownT, intT, O.adds, ownA, rowsA, over, wrOk, keysT, keysA, ne_eq, if_true, if_false, ite_self, Nat.reduceLT, Nat.reduceSub, Nat.reduceBEq, Nat.reduceEqDiff, Nat.reduceAdd, Nat.reduceLeDiff, reduceCtorEq, Nat.reduceMul]
      · have c1 := q2 hn
        rw [k6] at c1
        simp only [encLE, encL, encN, zN, List.map_nil] at c1
        simp only [F5, f0, a1, c1, k6, h4, h5, h6, h7, hlt, hn, w2, Int.reduceLT, Int.reduceGT, Int.reduceEq, gt_iff_lt, Int.lt_irrefl, fxa, fxc, fxE, fxL, fxI, nxE, evO, evR, cellsT, ldCells, mkT, lenA, binPV, Env.init, resV, resT, frT, klT, ownT, intT, O.adds, ownA, rowsA, over, wrOk, keysT, keysA, ne_eq, if_true, if_false, ite_self, Nat.reduceLT, Nat.reduceSub, Nat.reduceBEq, Nat.reduceEqDiff, Nat.reduceAdd, Nat.reduceLeDiff, reduceCtorEq, Nat.reduceMul]
    · obtain ⟨q1, q2⟩ := key b.lv (by rw [if_neg k5, if_neg k6])
      have hn : ¬ b.lv > 60 := by omega
      have c1 := q2 hn
      simp only [encLE, encL, encN, zN, List.map_nil] at c1
      simp only [F5, f0, a1, c1, k5, k6, h1, h2, h4, h5, h6, h7, hlt, hn, Int.reduceLT, Int.reduceGT, Int.reduceEq, fxa, fxc, fxE, fxL, fxI, nxE, evO, evR, cellsT, ldCells, mkT, lenA, binPV, Env.init, resV, resT, frT, klT, ownT, intT, O.adds, ownA, rowsA, over, wrOk, keysT, keysA, ne_eq, if_true, if_false, ite_self, Nat.reduceLT, Nat.reduceSub, Nat.reduceBEq, Nat.reduceEqDiff, Nat.reduceAdd, Nat.reduceLeDiff, reduceCtorEq, Nat.reduceMul]
  · by_cases hb3 : cls b.k = 3
    · rw [decide_eq_true hb3] at c3
      by_cases he : level = b.lv
      · subst he
        by_cases hkk : kind = b.k
        · have e1 : ofR ⟨kind, b.lv, 0, [], [], []⟩ b = plainR 6 := by
            unfold ofR
            rw [ca, if_neg (by omega), if_neg (by omega), if_neg cb4, if_pos ⟨rfl, hb3, rfl, hkk⟩]
          rw [e1, hkk] at c1
          rw [hkk] at h1 h2
          simp only [encLE, encL, encN, plainR, zN, List.map_nil] at c1
          simp only [F5, f0, a1, c1, c3, h1, h2, h4, h5, h6, h7, hlt, hkk, Int.reduceEq, fxa, fxc, fxE, fxL, fxI, nxE, evO, evR, cellsT, ldCells, mkT, lenA, binPV, Env.init, resV, resT, frT, klT, ownT, intT, O.adds, ownA, rowsA, over, wrOk, keysT, keysA, ne_eq, if_true, if_false, ite_self, Nat.reduceLT, Nat.reduceSub, Nat.reduceBEq, Nat.reduceEqDiff, Nat.reduceAdd, Nat.reduceLeDiff, reduceCtorEq, Nat.reduceMul]
        · have e1 : ofR ⟨kind, b.lv, 0, [], [], []⟩ b = noR 140 := by
            unfold ofR
            rw [ca, if_neg (by omega), if_neg (by omega), if_neg cb4, if_neg (fun h => hkk h.2.2.2), if_pos ⟨rfl, .inr (Int.le_refl _)⟩]
            exact pass_no (Int.le_refl _)
          rw [e1] at c1
          simp only [encLE, encL, encN, noR, p0, zN, List.map_nil] at c1
          simp only [F5, f0, a1, c1, c3, h1, h2, h4, h5, h6, h7, hlt, hkk, Int.reduceEq, fxa, fxc, fxE, fxL, fxI, nxE, evO, evR, cellsT, ldCells, mkT, lenA, binPV, Env.init, resV, resT, frT, klT, ownT, intT, O.adds, ownA, rowsA, over, wrOk, keysT, keysA, ne_eq, if_true, if_false, ite_self, Nat.reduceLT, Nat.reduceSub, Nat.reduceBEq, Nat.reduceEqDiff, Nat.reduceAdd, Nat.reduceLeDiff, reduceCtorEq, Nat.reduceMul]
      · obtain ⟨⟨p, e⟩, hp⟩ : ∃ z, ofR ⟨kind, level, 0, [], [], []⟩ b = z := ⟨_, rfl⟩
        rw [hp] at c1
        simp only [encLE, encL, encN, List.map_nil] at c1
        simp only [F5, f0, a1, c1, c3, h1, h2, h4, h5, h6, h7, hlt, he, Int.reduceEq, fxa, fxc, fxE, fxL, fxI, nxE, evO, evR, cellsT, ldCells, mkT, lenA, binPV, Env.init, resV, resT, frT, klT, ownT, intT, O.adds, ownA, rowsA, over, wrOk, keysT, keysA, ne_eq, if_true, if_false, ite_self, Nat.reduceLT, Nat.reduceSub, Nat.reduceBEq, Nat.reduceEqDiff, Nat.reduceAdd, Nat.reduceLeDiff, reduceCtorEq, Nat.reduceMul]
    · rw [decide_eq_false hb3] at c3
      have e1 : ofR ⟨kind, level, 0, [], [], []⟩ b = noR 140 := by
        unfold ofR
        rw [ca, if_neg (by omega), if_neg (by omega), if_neg cb4, if_neg (fun h => hb3 h.2.1), if_pos ⟨rfl, .inl hb3⟩]
        exact pass_no (by simp only; omega)
      rw [e1] at c1
      simp only [encLE, encL, encN, noR, p0, zN, List.map_nil] at c1
      simp only [F5, f0, a1, c1, c3, h1, h2, h4, h5, h6, h7, hlt, Int.reduceEq, fxa, fxc, fxE, fxL, fxI, nxE, evO, evR, cellsT, ldCells, mkT, lenA, binPV, Env.init, resV, resT, frT, klT, ownT, intT, O.adds, ownA, rowsA, over, wrOk, keysT, keysA, ne_eq, if_true, if_false, ite_self, Nat.reduceLT, Nat.reduceSub, Nat.reduceBEq, Nat.reduceEqDiff, Nat.reduceAdd, Nat.reduceLeDiff, reduceCtorEq, Nat.reduceMul]
end Go.Proofs.Ytomcceambpneiaa
