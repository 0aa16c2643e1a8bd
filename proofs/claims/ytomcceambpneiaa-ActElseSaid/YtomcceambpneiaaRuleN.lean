/- The document's own Need and Meets. -/
import Derived.Test.YtomcceambpneiaaAct7
import Derived.Test.YtomcceambpneiaaRefM
set_option linter.unusedSimpArgs false
set_option linter.unusedVariables false
set_option maxHeartbeats 4000000
set_option maxRecDepth 10000
namespace Go.Proofs.Ytomcceambpneiaa
open Go.Fx

theorem max_as (z : Int) : (if (0 : Int) > z then 0 else z) = max z 0 := by omega
theorem need5 {x : Nd} (hx : x.Ok) : max (wr ((x.to.length : Int) - 2)) 0 = max (wr (oth x - 1)) 0 := by
  have := hx.to
  unfold oth wr
  rw [wrap_in ((x.to.length : Int) - 1) (by omega), wrap_in ((x.to.length : Int) - 2) (by omega), wrap_in _ (by omega)]
  omega
theorem RNeed_ok {p : Pl} {a b : Nd} (ka : a.Ok) (kb : b.Ok) : eP S 29 [.g (encL p), .g (encN a), .g (encN b)] = some (.a (.i .i64 (needR p a b))) := by
  refine x_fn (orcS (by decide)) (fc := F29) rfl rfl ?_
  have ma := max_as (wr ((a.to.length : Int) - 1))
  have mb := max_as (wr ((b.to.length : Int) - 1))
  have mc := max_as (wr ((a.to.length : Int) - 2))
  have md := max_as (wr ((b.to.length : Int) - 2))
  rw [need5 ka] at mc
  rw [need5 kb] at md
  have oa : max (wr ((a.to.length : Int) - 1)) 0 = oth a := rfl
  have ob : max (wr ((b.to.length : Int) - 1)) 0 = oth b := rfl
  rw [oa] at ma
  rw [ob] at mb
  unfold wr at ma mb mc md
  unfold needR
  cases hsw : p.sw with
  | true =>
    rw [if_pos rfl]
    unfold needX
    by_cases k2 : p.k = 2
    · by_cases h1 : p.alt < 0
      · simp only [F29, encL, encN, hsw, mb, ma, k2, h1, true_or, or_true, if_true, fxa, fxc, fxE, fxL, fxI, nxE, evO, evR, cellsT, ldCells, mkT, lenA, binPV, Env.init, resV, resT, frT, klT, ownT, intT, O.adds, ownA, rowsA, over, wrOk, keysT, keysA, ne_eq, if_true, if_false, ite_self, Nat.reduceLT, Nat.reduceSub, Nat.reduceBEq, Nat.reduceEqDiff, Nat.reduceAdd, Nat.reduceLeDiff, reduceCtorEq, Nat.reduceMul]
      by_cases h2 : p.alt ≥ (b.al.length : Int)
      · simp only [F29, encL, encN, hsw, mb, ma, k2, h1, h2, true_or, or_true, if_true, fxa, fxc, fxE, fxL, fxI, nxE, evO, evR, cellsT, ldCells, mkT, lenA, binPV, Env.init, resV, resT, frT, klT, ownT, intT, O.adds, ownA, rowsA, over, wrOk, keysT, keysA, ne_eq, if_true, if_false, ite_self, Nat.reduceLT, Nat.reduceSub, Nat.reduceBEq, Nat.reduceEqDiff, Nat.reduceAdd, Nat.reduceLeDiff, reduceCtorEq, Nat.reduceMul]
      have g := getA (l := b.al) (i := p.alt) (by omega) (by omega)
      have hge : 0 ≤ p.alt := by omega
      have hlt : p.alt < (b.al.length : Int) := by omega
      simp only [F29, encL, encN, encA, hsw, mb, ma, k2, h1, h2, g, hge, hlt, allA, or_self, wr, List.length_map, fxa, fxc, fxE, fxL, fxI, nxE, evO, evR, cellsT, ldCells, mkT, lenA, binPV, Env.init, resV, resT, frT, klT, ownT, intT, O.adds, ownA, rowsA, over, wrOk, keysT, keysA, ne_eq, if_true, if_false, ite_self, Nat.reduceLT, Nat.reduceSub, Nat.reduceBEq, Nat.reduceEqDiff, Nat.reduceAdd, Nat.reduceLeDiff, reduceCtorEq, Nat.reduceMul]
    by_cases k3 : p.k = 3
    · simp only [F29, encL, encN, hsw, mb, ma, k3, Int.reduceEq, true_or, or_true, fxa, fxc, fxE, fxL, fxI, nxE, evO, evR, cellsT, ldCells, mkT, lenA, binPV, Env.init, resV, resT, frT, klT, ownT, intT, O.adds, ownA, rowsA, over, wrOk, keysT, keysA, ne_eq, if_true, if_false, ite_self, Nat.reduceLT, Nat.reduceSub, Nat.reduceBEq, Nat.reduceEqDiff, Nat.reduceAdd, Nat.reduceLeDiff, reduceCtorEq, Nat.reduceMul]
    by_cases k4 : p.k = 4
    · simp only [F29, encL, encN, hsw, mb, ma, k4, Int.reduceEq, true_or, or_true, fxa, fxc, fxE, fxL, fxI, nxE, evO, evR, cellsT, ldCells, mkT, lenA, binPV, Env.init, resV, resT, frT, klT, ownT, intT, O.adds, ownA, rowsA, over, wrOk, keysT, keysA, ne_eq, if_true, if_false, ite_self, Nat.reduceLT, Nat.reduceSub, Nat.reduceBEq, Nat.reduceEqDiff, Nat.reduceAdd, Nat.reduceLeDiff, reduceCtorEq, Nat.reduceMul]
    by_cases k5 : p.k = 5
    · simp only [F29, encL, encN, hsw, mb, ma, mc, md, k5, wr, Int.reduceEq, or_self, List.length_map, fxa, fxc, fxE, fxL, fxI, nxE, evO, evR, cellsT, ldCells, mkT, lenA, binPV, Env.init, resV, resT, frT, klT, ownT, intT, O.adds, ownA, rowsA, over, wrOk, keysT, keysA, ne_eq, if_true, if_false, ite_self, Nat.reduceLT, Nat.reduceSub, Nat.reduceBEq, Nat.reduceEqDiff, Nat.reduceAdd, Nat.reduceLeDiff, reduceCtorEq, Nat.reduceMul]
    by_cases k7 : p.k = 7
    · by_cases h4 : b.k = 4
      · simp only [F29, encL, encN, hsw, mb, ma, k7, h4, wr, Int.reduceEq, or_self, List.length_map, fxa, fxc, fxE, fxL, fxI, nxE, evO, evR, cellsT, ldCells, mkT, lenA, binPV, Env.init, resV, resT, frT, klT, ownT, intT, O.adds, ownA, rowsA, over, wrOk, keysT, keysA, ne_eq, if_true, if_false, ite_self, Nat.reduceLT, Nat.reduceSub, Nat.reduceBEq, Nat.reduceEqDiff, Nat.reduceAdd, Nat.reduceLeDiff, reduceCtorEq, Nat.reduceMul]
      · simp only [F29, encL, encN, hsw, mb, ma, k7, h4, wr, Int.reduceEq, or_self, List.length_map, fxa, fxc, fxE, fxL, fxI, nxE, evO, evR, cellsT, ldCells, mkT, lenA, binPV, Env.init, resV, resT, frT, klT, ownT, intT, O.adds, ownA, rowsA, over, wrOk, keysT, keysA, ne_eq, if_true, if_false, ite_self, Nat.reduceLT, Nat.reduceSub, Nat.reduceBEq, Nat.reduceEqDiff, Nat.reduceAdd, Nat.reduceLeDiff, reduceCtorEq, Nat.reduceMul]
    by_cases k8 : p.k = 8
    · simp only [F29, encL, encN, hsw, mb, ma, k8, wr, Int.reduceEq, or_self, List.length_map, fxa, fxc, fxE, fxL, fxI, nxE, evO, evR, cellsT, ldCells, mkT, lenA, binPV, Env.init, resV, resT, frT, klT, ownT, intT, O.adds, ownA, rowsA, over, wrOk, keysT, keysA, ne_eq, if_true, if_false, ite_self, Nat.reduceLT, Nat.reduceSub, Nat.reduceBEq, Nat.reduceEqDiff, Nat.reduceAdd, Nat.reduceLeDiff, reduceCtorEq, Nat.reduceMul]
    · simp only [F29, encL, encN, hsw, mb, ma, k2, k3, k4, k5, k7, k8, or_self, List.length_map, fxa, fxc, fxE, fxL, fxI, nxE, evO, evR, cellsT, ldCells, mkT, lenA, binPV, Env.init, resV, resT, frT, klT, ownT, intT, O.adds, ownA, rowsA, over, wrOk, keysT, keysA, ne_eq, if_true, if_false, ite_self, Nat.reduceLT, Nat.reduceSub, Nat.reduceBEq, Nat.reduceEqDiff, Nat.reduceAdd, Nat.reduceLeDiff, reduceCtorEq, Nat.reduceMul]
  | false =>
    rw [if_neg (by simp)]
    unfold needX
    by_cases k2 : p.k = 2
    · by_cases h1 : p.alt < 0
      · simp only [F29, encL, encN, hsw, mb, ma, k2, h1, true_or, or_true, if_true, fxa, fxc, fxE, fxL, fxI, nxE, evO, evR, cellsT, ldCells, mkT, lenA, binPV, Env.init, resV, resT, frT, klT, ownT, intT, O.adds, ownA, rowsA, over, wrOk, keysT, keysA, ne_eq, if_true, if_false, ite_self, Nat.reduceLT, Nat.reduceSub, Nat.reduceBEq, Nat.reduceEqDiff, Nat.reduceAdd, Nat.reduceLeDiff, reduceCtorEq, Nat.reduceMul]
      by_cases h2 : p.alt ≥ (a.al.length : Int)
      · simp only [F29, encL, encN, hsw, mb, ma, k2, h1, h2, true_or, or_true, if_true, fxa, fxc, fxE, fxL, fxI, nxE, evO, evR, cellsT, ldCells, mkT, lenA, binPV, Env.init, resV, resT, frT, klT, ownT, intT, O.adds, ownA, rowsA, over, wrOk, keysT, keysA, ne_eq, if_true, if_false, ite_self, Nat.reduceLT, Nat.reduceSub, Nat.reduceBEq, Nat.reduceEqDiff, Nat.reduceAdd, Nat.reduceLeDiff, reduceCtorEq, Nat.reduceMul]
      have g := getA (l := a.al) (i := p.alt) (by omega) (by omega)
      have hge : 0 ≤ p.alt := by omega
      have hlt : p.alt < (a.al.length : Int) := by omega
      simp only [F29, encL, encN, encA, hsw, mb, ma, k2, h1, h2, g, hge, hlt, allA, or_self, wr, List.length_map, fxa, fxc, fxE, fxL, fxI, nxE, evO, evR, cellsT, ldCells, mkT, lenA, binPV, Env.init, resV, resT, frT, klT, ownT, intT, O.adds, ownA, rowsA, over, wrOk, keysT, keysA, ne_eq, if_true, if_false, ite_self, Nat.reduceLT, Nat.reduceSub, Nat.reduceBEq, Nat.reduceEqDiff, Nat.reduceAdd, Nat.reduceLeDiff, reduceCtorEq, Nat.reduceMul]
    by_cases k3 : p.k = 3
    · simp only [F29, encL, encN, hsw, mb, ma, k3, Int.reduceEq, true_or, or_true, fxa, fxc, fxE, fxL, fxI, nxE, evO, evR, cellsT, ldCells, mkT, lenA, binPV, Env.init, resV, resT, frT, klT, ownT, intT, O.adds, ownA, rowsA, over, wrOk, keysT, keysA, ne_eq, if_true, if_false, ite_self, Nat.reduceLT, Nat.reduceSub, Nat.reduceBEq, Nat.reduceEqDiff, Nat.reduceAdd, Nat.reduceLeDiff, reduceCtorEq, Nat.reduceMul]
    by_cases k4 : p.k = 4
    · simp only [F29, encL, encN, hsw, mb, ma, k4, Int.reduceEq, true_or, or_true, fxa, fxc, fxE, fxL, fxI, nxE, evO, evR, cellsT, ldCells, mkT, lenA, binPV, Env.init, resV, resT, frT, klT, ownT, intT, O.adds, ownA, rowsA, over, wrOk, keysT, keysA, ne_eq, if_true, if_false, ite_self, Nat.reduceLT, Nat.reduceSub, Nat.reduceBEq, Nat.reduceEqDiff, Nat.reduceAdd, Nat.reduceLeDiff, reduceCtorEq, Nat.reduceMul]
    by_cases k5 : p.k = 5
    · simp only [F29, encL, encN, hsw, mb, ma, mc, md, k5, wr, Int.reduceEq, or_self, List.length_map, fxa, fxc, fxE, fxL, fxI, nxE, evO, evR, cellsT, ldCells, mkT, lenA, binPV, Env.init, resV, resT, frT, klT, ownT, intT, O.adds, ownA, rowsA, over, wrOk, keysT, keysA, ne_eq, if_true, if_false, ite_self, Nat.reduceLT, Nat.reduceSub, Nat.reduceBEq, Nat.reduceEqDiff, Nat.reduceAdd, Nat.reduceLeDiff, reduceCtorEq, Nat.reduceMul]
    by_cases k7 : p.k = 7
    · by_cases h4 : a.k = 4
      · simp only [F29, encL, encN, hsw, mb, ma, k7, h4, wr, Int.reduceEq, or_self, List.length_map, fxa, fxc, fxE, fxL, fxI, nxE, evO, evR, cellsT, ldCells, mkT, lenA, binPV, Env.init, resV, resT, frT, klT, ownT, intT, O.adds, ownA, rowsA, over, wrOk, keysT, keysA, ne_eq, if_true, if_false, ite_self, Nat.reduceLT, Nat.reduceSub, Nat.reduceBEq, Nat.reduceEqDiff, Nat.reduceAdd, Nat.reduceLeDiff, reduceCtorEq, Nat.reduceMul]
      · simp only [F29, encL, encN, hsw, mb, ma, k7, h4, wr, Int.reduceEq, or_self, List.length_map, fxa, fxc, fxE, fxL, fxI, nxE, evO, evR, cellsT, ldCells, mkT, lenA, binPV, Env.init, resV, resT, frT, klT, ownT, intT, O.adds, ownA, rowsA, over, wrOk, keysT, keysA, ne_eq, if_true, if_false, ite_self, Nat.reduceLT, Nat.reduceSub, Nat.reduceBEq, Nat.reduceEqDiff, Nat.reduceAdd, Nat.reduceLeDiff, reduceCtorEq, Nat.reduceMul]
    by_cases k8 : p.k = 8
    · simp only [F29, encL, encN, hsw, mb, ma, k8, wr, Int.reduceEq, or_self, List.length_map, fxa, fxc, fxE, fxL, fxI, nxE, evO, evR, cellsT, ldCells, mkT, lenA, binPV, Env.init, resV, resT, frT, klT, ownT, intT, O.adds, ownA, rowsA, over, wrOk, keysT, keysA, ne_eq, if_true, if_false, ite_self, Nat.reduceLT, Nat.reduceSub, Nat.reduceBEq, Nat.reduceEqDiff, Nat.reduceAdd, Nat.reduceLeDiff, reduceCtorEq, Nat.reduceMul]
    · simp only [F29, encL, encN, hsw, mb, ma, k2, k3, k4, k5, k7, k8, or_self, List.length_map, fxa, fxc, fxE, fxL, fxI, nxE, evO, evR, cellsT, ldCells, mkT, lenA, binPV, Env.init, resV, resT, frT, klT, ownT, intT, O.adds, ownA, rowsA, over, wrOk, keysT, keysA, ne_eq, if_true, if_false, ite_self, Nat.reduceLT, Nat.reduceSub, Nat.reduceBEq, Nat.reduceEqDiff, Nat.reduceAdd, Nat.reduceLeDiff, reduceCtorEq, Nat.reduceMul]
end Go.Proofs.Ytomcceambpneiaa
