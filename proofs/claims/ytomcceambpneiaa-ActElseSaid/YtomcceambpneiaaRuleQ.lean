/- Plans that are the same. -/
import Derived.Test.YtomcceambpneiaaRule2
set_option linter.unusedSimpArgs false
set_option linter.unusedVariables false
set_option maxHeartbeats 4000000
set_option maxRecDepth 10000
namespace Go.Proofs.Ytomcceambpneiaa
open Go.Fx

theorem PSame_ok {p q : Pl} (hp : p.nd.Ok) : eP S 15 [.g (encL p), .g (encL q)] = some (.a (.b (bool (p = q)))) := by
  refine x_fnB (orcS (by decide)) (fc := F15) rfl rfl ?_
  have c1 := One_ok (b := q.nd) hp
  simp only [encN] at c1
  by_cases h1 : p.k = q.k
  case neg => simp only [F15, encL, h1, fxa, fxc, fxE, fxL, fxI, nxE, evO, evR, cellsT, ldCells, mkT, lenA, binPV, Env.init, resV, resT, frT, klT, ownT, intT, O.adds, ownA, rowsA, over, wrOk, keysT, keysA, ne_eq, if_true, if_false, ite_self, Nat.reduceLT, Nat.reduceSub, Nat.reduceBEq, Nat.reduceEqDiff, Nat.reduceAdd, Nat.reduceLeDiff, reduceCtorEq, Nat.reduceMul]; intro h; exact h1 (by rw [h])
  by_cases h2 : p.sw = q.sw
  case neg => simp only [F15, encL, h1, h2, fxa, fxc, fxE, fxL, fxI, nxE, evO, evR, cellsT, ldCells, mkT, lenA, binPV, Env.init, resV, resT, frT, klT, ownT, intT, O.adds, ownA, rowsA, over, wrOk, keysT, keysA, ne_eq, if_true, if_false, ite_self, Nat.reduceLT, Nat.reduceSub, Nat.reduceBEq, Nat.reduceEqDiff, Nat.reduceAdd, Nat.reduceLeDiff, reduceCtorEq, Nat.reduceMul]; intro h; exact h2 (by rw [h])
  by_cases h3 : p.lv = q.lv
  case neg => simp only [F15, encL, h1, h2, h3, fxa, fxc, fxE, fxL, fxI, nxE, evO, evR, cellsT, ldCells, mkT, lenA, binPV, Env.init, resV, resT, frT, klT, ownT, intT, O.adds, ownA, rowsA, over, wrOk, keysT, keysA, ne_eq, if_true, if_false, ite_self, Nat.reduceLT, Nat.reduceSub, Nat.reduceBEq, Nat.reduceEqDiff, Nat.reduceAdd, Nat.reduceLeDiff, reduceCtorEq, Nat.reduceMul]; intro h; exact h3 (by rw [h])
  by_cases h4 : p.alt = q.alt
  case neg => simp only [F15, encL, h1, h2, h3, h4, fxa, fxc, fxE, fxL, fxI, nxE, evO, evR, cellsT, ldCells, mkT, lenA, binPV, Env.init, resV, resT, frT, klT, ownT, intT, O.adds, ownA, rowsA, over, wrOk, keysT, keysA, ne_eq, if_true, if_false, ite_self, Nat.reduceLT, Nat.reduceSub, Nat.reduceBEq, Nat.reduceEqDiff, Nat.reduceAdd, Nat.reduceLeDiff, reduceCtorEq, Nat.reduceMul]; intro h; exact h4 (by rw [h])
  simp only [F15, encL, h1, h2, h3, h4, c1, fxa, fxc, fxE, fxL, fxI, nxE, evO, evR, cellsT, ldCells, mkT, lenA, binPV, Env.init, resV, resT, frT, klT, ownT, intT, O.adds, ownA, rowsA, over, wrOk, keysT, keysA, ne_eq, if_true, if_false, ite_self, Nat.reduceLT, Nat.reduceSub, Nat.reduceBEq, Nat.reduceEqDiff, Nat.reduceAdd, Nat.reduceLeDiff, reduceCtorEq, Nat.reduceMul]
  rw [bool_iff]
  obtain ⟨pk, ps, pl, pa, pn⟩ := p
  obtain ⟨qk, qs, ql, qa, qn⟩ := q
  simp only at h1 h2 h3 h4
  subst h1 h2 h3 h4
  simp
end Go.Proofs.Ytomcceambpneiaa
