/- The document's ports: what one is linked to. -/
import Derived.Test.YtomcceambpneiaaWire2
import Derived.Test.YtomcceambpneiaaFb
set_option linter.unusedSimpArgs false
set_option linter.unusedVariables false
set_option maxHeartbeats 4000000
set_option maxRecDepth 10000
namespace Go.Proofs.Ytomcceambpneiaa
open Go.Fx

theorem Rto_ok {n : Nt} {p : Pt} (h : n.has p = true) : eP S 78 [.g (encT n), .g (encP p)] = some (.g (encP (n.lk p))) := by
  have hp := has_iff.1 h
  have g := getN (l := n.ns) hp.1 hp.2.1
  have g2 := getP (l := (n.nd p.n).to) hp.2.2.1 hp.2.2.2
  have h4 := hp.2.2.2
  simp only [Nt.nd] at h4 g2
  refine x_fn (orcS (by decide)) (fc := F78) rfl rfl ?_
  simp only [F78, Nt.lk, Nt.nd, Nd.tt, hp.1, hp.2.1, hp.2.2.1, h4, g, g2, fxa, fxc, fxE, fxL, fxI, nxE, evO, evR, cellsT, ldCells, mkT, lenA, binPV, Env.init, resV, resT, frT, klT, ownT, intT, O.adds, ownA, rowsA, over, wrOk, keysT, keysA, ne_eq, if_true, if_false, ite_self, Nat.reduceLT, Nat.reduceSub, Nat.reduceBEq, Nat.reduceEqDiff, Nat.reduceAdd, Nat.reduceLeDiff, reduceCtorEq, Nat.reduceMul]

theorem RPeer_ok (n : Nt) (p : Pt) : eP S 50 [.g (encT n), .g (encP p)] = some (.t [(true, encP (if n.has p then n.lk p else zP)), (false, [.i .i64 (if n.has p then 0 else 130)])]) := by
  have a1 := Has_ok n p
  refine x_fn (orcS (by decide)) (fc := F50) rfl rfl ?_
  simp only [encT, encP] at a1
  cases h1 : n.has p with
  | false =>
    rw [h1] at a1
    simp only [F50, a1, zP, Bool.false_eq_true, fxa, fxc, fxE, fxL, fxI, nxE, evO, evR, cellsT, ldCells, mkT, lenA, binPV, Env.init, resV, resT, frT, klT, ownT, intT, O.adds, ownA, rowsA, over, wrOk, keysT, keysA, ne_eq, if_true, if_false, ite_self, Nat.reduceLT, Nat.reduceSub, Nat.reduceBEq, Nat.reduceEqDiff, Nat.reduceAdd, Nat.reduceLeDiff, reduceCtorEq, Nat.reduceMul]
  | true =>
    have a2 := Rto_ok h1
    rw [h1] at a1
    simp only [encT, encP] at a2
    simp only [F50, a1, a2, fxa, fxc, fxE, fxL, fxI, nxE, evO, evR, cellsT, ldCells, mkT, lenA, binPV, Env.init, resV, resT, frT, klT, ownT, intT, O.adds, ownA, rowsA, over, wrOk, keysT, keysA, ne_eq, if_true, if_false, ite_self, Nat.reduceLT, Nat.reduceSub, Nat.reduceBEq, Nat.reduceEqDiff, Nat.reduceAdd, Nat.reduceLeDiff, reduceCtorEq, Nat.reduceMul]

end Go.Proofs.Ytomcceambpneiaa
