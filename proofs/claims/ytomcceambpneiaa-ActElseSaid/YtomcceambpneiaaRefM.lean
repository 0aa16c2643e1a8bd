/- The document's Meets. -/
import Derived.Test.YtomcceambpneiaaActD
import Derived.Test.YtomcceambpneiaaRefP
set_option linter.unusedSimpArgs false
set_option linter.unusedVariables false
set_option maxHeartbeats 4000000
set_option maxRecDepth 10000
namespace Go.Proofs.Ytomcceambpneiaa
open Go.Fx

theorem rat_ok (i j : Int) : eP S 51 [.a (.i .i64 i), .a (.i .i64 j)] = some (.g [.i .i64 i, .i .i64 j]) := by
  refine x_fn (orcS (by decide)) (fc := F51) rfl rfl ?_
  simp only [F51, fxa, fxc, fxE, fxL, fxI, nxE, evO, evR, cellsT, ldCells, mkT, lenA, binPV, Env.init, resV, resT, frT, klT, ownT, intT, O.adds, ownA, rowsA, over, wrOk, keysT, keysA, ne_eq, if_true, if_false, ite_self, Nat.reduceLT, Nat.reduceSub, Nat.reduceBEq, Nat.reduceEqDiff, Nat.reduceAdd, Nat.reduceLeDiff, reduceCtorEq, Nat.reduceMul]
theorem RMeets_ok (n : Nt) (i : Int) : eP S 28 [.g (encT n), .a (.i .i64 i)] = some (.a (.i .i64 (meetR n i))) := by
  refine x_fn (orcS (by decide)) (fc := F28) rfl rfl ?_
  have c1 := RPeer_ok n ⟨i, 0⟩
  have p1 := rat_ok i 0
  unfold meetR
  obtain ⟨q, hq⟩ : ∃ q, n.lk ⟨i, 0⟩ = q := ⟨_, rfl⟩
  rw [hq] at c1 ⊢
  simp only [encT, encP] at c1
  by_cases h1 : n.has ⟨i, 0⟩ = true
  · by_cases h2 : q.s = 0
    · simp only [h1, if_true, encP] at c1
      simp only [F28, encT, c1, p1, h1, h2, fxa, fxc, fxE, fxL, fxI, nxE, evO, evR, cellsT, ldCells, mkT, lenA, binPV, Env.init, resV, resT, frT, klT, ownT, intT, O.adds, ownA, rowsA, over, wrOk, keysT, keysA, ne_eq, if_true, if_false, ite_self, Nat.reduceLT, Nat.reduceSub, Nat.reduceBEq, Nat.reduceEqDiff, Nat.reduceAdd, Nat.reduceLeDiff, reduceCtorEq, Nat.reduceMul]
    · simp only [h1, if_true, encP] at c1
      simp only [F28, encT, c1, p1, h1, h2, fxa, fxc, fxE, fxL, fxI, nxE, evO, evR, cellsT, ldCells, mkT, lenA, binPV, Env.init, resV, resT, frT, klT, ownT, intT, O.adds, ownA, rowsA, over, wrOk, keysT, keysA, ne_eq, if_true, if_false, ite_self, Nat.reduceLT, Nat.reduceSub, Nat.reduceBEq, Nat.reduceEqDiff, Nat.reduceAdd, Nat.reduceLeDiff, reduceCtorEq, Nat.reduceMul]
  · simp only [h1, Bool.false_eq_true, if_false, zP, encP] at c1
    simp only [F28, encT, c1, p1, h1, Int.reduceEq, fxa, fxc, fxE, fxL, fxI, nxE, evO, evR, cellsT, ldCells, mkT, lenA, binPV, Env.init, resV, resT, frT, klT, ownT, intT, O.adds, ownA, rowsA, over, wrOk, keysT, keysA, ne_eq, if_true, if_false, ite_self, Nat.reduceLT, Nat.reduceSub, Nat.reduceBEq, Nat.reduceEqDiff, Nat.reduceAdd, Nat.reduceLeDiff, reduceCtorEq, Nat.reduceMul]

end Go.Proofs.Ytomcceambpneiaa
