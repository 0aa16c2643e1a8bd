/- What two nodes do: the program's functions. -/
import Derived.Test.YtomcceambpneiaaStore1
set_option linter.unusedSimpArgs false
set_option linter.unusedVariables false
set_option maxHeartbeats 4000000
set_option maxRecDepth 10000
namespace Go.Proofs.Ytomcceambpneiaa
open Go.Fx

structure Pl where
  k : Int
  sw : Bool
  lv : Int
  alt : Int
  nd : Nd
  deriving DecidableEq
def encL (p : Pl) : List PV := [.i .i64 p.k, .b p.sw, .i .i64 p.lv, .i .i64 p.alt, .i .i64 p.nd.k, .i .i64 p.nd.lv, .i .i64 p.nd.n, .s p.nd.s, .l (p.nd.al.map encA), .l (p.nd.to.map encP)]
def encLE (x : Pl × Int) : PT := .t [(true, encL x.1), (false, [.i .i64 x.2])]
def p0 : Pl := ⟨0, false, 0, 0, zN⟩
def plainR (k : Int) : Pl × Int := (⟨k, false, 0, 0, zN⟩, 0)
def noR (e : Int) : Pl × Int := (p0, e)
def swapR (x : Pl × Int) : Pl × Int := if x.2 = 0 then (⟨x.1.k, true, x.1.lv, x.1.alt, x.1.nd⟩, 0) else x
def cls (k : Int) : Int := if k = 3 ∨ k = 9 ∨ k = 11 ∨ k = 12 then 1 else if k = 2 ∨ k = 8 ∨ k = 10 ∨ k = 13 then 2 else if k = 4 ∨ k = 5 ∨ k = 6 then 3 else if k = 7 then 4 else 0
def wr (i : Int) : Int := IntKind.i64.wrap i
def passLv (x y : Nd) : Int := if x.k = 5 then wr (y.lv - 1) else if x.k = 6 then wr (y.lv + 1) else y.lv
def passR (x y : Nd) : Pl × Int := if x.lv ≥ y.lv then noR 140 else if passLv x y > 60 then noR 141 else (⟨7, false, passLv x y, 0, zN⟩, 0)
def pickIx (x y : Nd) : Int := idx (fun a => decide (a.s = y.s) && decide (a.n = wr (y.to.length - 1))) x.al
def pickR (x y : Nd) : Pl × Int := if x.lv ≠ y.lv then noR 140 else if pickIx x y < 0 then plainR 5 else (⟨2, false, 0, pickIx x y, zN⟩, 0)
def truthN (b : Bool) : Nd := ⟨8, 0, 0, if b then [84, 114, 117, 101] else [70, 97, 108, 115, 101], [], [zP]⟩
def outN (x y : Nd) : Nd :=
  if x.s = [43] then ⟨10, 0, wr (x.n + y.n), [], [], []⟩ else if x.s = [45] then ⟨10, 0, wr (x.n - y.n), [], [], []⟩ else if x.s = [42] then ⟨10, 0, wr (x.n * y.n), [], [], []⟩
  else if x.s = [47] then ⟨10, 0, wr (x.n.tdiv y.n), [], [], []⟩ else if x.s = [60] then truthN (decide (x.n < y.n)) else if x.s = [61, 61] then truthN (decide (x.n = y.n)) else ⟨10, 0, 0, [], [], []⟩
def outR (x y : Nd) : Pl × Int := if x.s = [47] ∧ y.n = 0 then plainR 5 else (⟨4, false, 0, 0, { outN x y with lv := x.lv }⟩, 0)
def askR (x y : Nd) : Pl × Int :=
  if x.k = 3 ∧ y.k = 2 then (if x.lv ≠ y.lv then noR 140 else plainR 1) else if x.k = 9 ∧ y.k = 8 then pickR x y else if x.k = 11 ∧ y.k = 10 then plainR 3 else if x.k = 12 ∧ y.k = 10 then outR x y else plainR 5
def ofR (a b : Nd) : Pl × Int :=
  if cls a.k = 0 ∨ cls b.k = 0 then noR 140 else if cls a.k = 4 then plainR 8 else if cls b.k = 4 then swapR (plainR 8)
  else if cls a.k = 3 ∧ cls b.k = 3 ∧ a.lv = b.lv ∧ a.k = b.k then plainR 6
  else if cls a.k = 3 ∧ (cls b.k ≠ 3 ∨ a.lv ≤ b.lv) then passR a b
  else if cls b.k = 3 then swapR (passR b a) else if cls a.k = 1 ∧ cls b.k = 2 then askR a b else if cls a.k = 2 ∧ cls b.k = 1 then swapR (askR b a) else noR 140

theorem class_ok (k : Int) : eP S 34 [.a (.i .i64 k)] = some (.a (.i .i64 (cls k))) := by
  refine x_fn (orcS (by decide)) (fc := F34) rfl rfl ?_
  unfold cls
  by_cases h1 : k = 3
  · simp only [F34, h1, Int.reduceEq, or_true, true_or, or_false, false_or, fxa, fxc, fxE, fxL, fxI, nxE, evO, evR, cellsT, ldCells, mkT, lenA, binPV, Env.init, resV, resT, frT, klT, ownT, intT, O.adds, ownA, rowsA, over, wrOk, keysT, keysA, ne_eq, if_true, if_false, ite_self, Nat.reduceLT, Nat.reduceSub, Nat.reduceBEq, Nat.reduceEqDiff, Nat.reduceAdd, Nat.reduceLeDiff, reduceCtorEq, Nat.reduceMul]
  by_cases h2 : k = 9
  · simp only [F34, h2, Int.reduceEq, or_true, true_or, or_false, false_or, fxa, fxc, fxE, fxL, fxI, nxE, evO, evR, cellsT, ldCells, mkT, lenA, binPV, Env.init, resV, resT, frT, klT, ownT, intT, O.adds, ownA, rowsA, over, wrOk, keysT, keysA, ne_eq, if_true, if_false, ite_self, Nat.reduceLT, Nat.reduceSub, Nat.reduceBEq, Nat.reduceEqDiff, Nat.reduceAdd, Nat.reduceLeDiff, reduceCtorEq, Nat.reduceMul]
  by_cases h3 : k = 11
  · simp only [F34, h3, Int.reduceEq, or_true, true_or, or_false, false_or, fxa, fxc, fxE, fxL, fxI, nxE, evO, evR, cellsT, ldCells, mkT, lenA, binPV, Env.init, resV, resT, frT, klT, ownT, intT, O.adds, ownA, rowsA, over, wrOk, keysT, keysA, ne_eq, if_true, if_false, ite_self, Nat.reduceLT, Nat.reduceSub, Nat.reduceBEq, Nat.reduceEqDiff, Nat.reduceAdd, Nat.reduceLeDiff, reduceCtorEq, Nat.reduceMul]
  by_cases h4 : k = 12
  · simp only [F34, h4, Int.reduceEq, or_true, true_or, or_false, false_or, fxa, fxc, fxE, fxL, fxI, nxE, evO, evR, cellsT, ldCells, mkT, lenA, binPV, Env.init, resV, resT, frT, klT, ownT, intT, O.adds, ownA, rowsA, over, wrOk, keysT, keysA, ne_eq, if_true, if_false, ite_self, Nat.reduceLT, Nat.reduceSub, Nat.reduceBEq, Nat.reduceEqDiff, Nat.reduceAdd, Nat.reduceLeDiff, reduceCtorEq, Nat.reduceMul]
  by_cases h5 : k = 2
  · simp only [F34, h5, Int.reduceEq, or_true, true_or, or_false, false_or, or_self, fxa, fxc, fxE, fxL, fxI, nxE, evO, evR, cellsT, ldCells, mkT, lenA, binPV, Env.init, resV, resT, frT, klT, ownT, intT, O.adds, ownA, rowsA, over, wrOk, keysT, keysA, ne_eq, if_true, if_false, ite_self, Nat.reduceLT, Nat.reduceSub, Nat.reduceBEq, Nat.reduceEqDiff, Nat.reduceAdd, Nat.reduceLeDiff, reduceCtorEq, Nat.reduceMul]
  by_cases h6 : k = 8
  · simp only [F34, h6, Int.reduceEq, or_true, true_or, or_false, false_or, or_self, fxa, fxc, fxE, fxL, fxI, nxE, evO, evR, cellsT, ldCells, mkT, lenA, binPV, Env.init, resV, resT, frT, klT, ownT, intT, O.adds, ownA, rowsA, over, wrOk, keysT, keysA, ne_eq, if_true, if_false, ite_self, Nat.reduceLT, Nat.reduceSub, Nat.reduceBEq, Nat.reduceEqDiff, Nat.reduceAdd, Nat.reduceLeDiff, reduceCtorEq, Nat.reduceMul]
  by_cases h7 : k = 10
  · simp only [F34, h7, Int.reduceEq, or_true, true_or, or_false, false_or, or_self, fxa, fxc, fxE, fxL, fxI, nxE, evO, evR, cellsT, ldCells, mkT, lenA, binPV, Env.init, resV, resT, frT, klT, ownT, intT, O.adds, ownA, rowsA, over, wrOk, keysT, keysA, ne_eq, if_true, if_false, ite_self, Nat.reduceLT, Nat.reduceSub, Nat.reduceBEq, Nat.reduceEqDiff, Nat.reduceAdd, Nat.reduceLeDiff, reduceCtorEq, Nat.reduceMul]
  by_cases h8 : k = 13
  · simp only [F34, h8, Int.reduceEq, or_true, true_or, or_false, false_or, or_self, fxa, fxc, fxE, fxL, fxI, nxE, evO, evR, cellsT, ldCells, mkT, lenA, binPV, Env.init, resV, resT, frT, klT, ownT, intT, O.adds, ownA, rowsA, over, wrOk, keysT, keysA, ne_eq, if_true, if_false, ite_self, Nat.reduceLT, Nat.reduceSub, Nat.reduceBEq, Nat.reduceEqDiff, Nat.reduceAdd, Nat.reduceLeDiff, reduceCtorEq, Nat.reduceMul]
  by_cases h9 : k = 4
  · simp only [F34, h9, Int.reduceEq, or_true, true_or, or_false, false_or, or_self, fxa, fxc, fxE, fxL, fxI, nxE, evO, evR, cellsT, ldCells, mkT, lenA, binPV, Env.init, resV, resT, frT, klT, ownT, intT, O.adds, ownA, rowsA, over, wrOk, keysT, keysA, ne_eq, if_true, if_false, ite_self, Nat.reduceLT, Nat.reduceSub, Nat.reduceBEq, Nat.reduceEqDiff, Nat.reduceAdd, Nat.reduceLeDiff, reduceCtorEq, Nat.reduceMul]
  by_cases h10 : k = 5
  · simp only [F34, h10, Int.reduceEq, or_true, true_or, or_false, false_or, or_self, fxa, fxc, fxE, fxL, fxI, nxE, evO, evR, cellsT, ldCells, mkT, lenA, binPV, Env.init, resV, resT, frT, klT, ownT, intT, O.adds, ownA, rowsA, over, wrOk, keysT, keysA, ne_eq, if_true, if_false, ite_self, Nat.reduceLT, Nat.reduceSub, Nat.reduceBEq, Nat.reduceEqDiff, Nat.reduceAdd, Nat.reduceLeDiff, reduceCtorEq, Nat.reduceMul]
  by_cases h11 : k = 6
  · simp only [F34, h11, Int.reduceEq, or_true, true_or, or_false, false_or, or_self, fxa, fxc, fxE, fxL, fxI, nxE, evO, evR, cellsT, ldCells, mkT, lenA, binPV, Env.init, resV, resT, frT, klT, ownT, intT, O.adds, ownA, rowsA, over, wrOk, keysT, keysA, ne_eq, if_true, if_false, ite_self, Nat.reduceLT, Nat.reduceSub, Nat.reduceBEq, Nat.reduceEqDiff, Nat.reduceAdd, Nat.reduceLeDiff, reduceCtorEq, Nat.reduceMul]
  by_cases h12 : k = 7
  · simp only [F34, h12, Int.reduceEq, or_true, true_or, or_false, false_or, or_self, fxa, fxc, fxE, fxL, fxI, nxE, evO, evR, cellsT, ldCells, mkT, lenA, binPV, Env.init, resV, resT, frT, klT, ownT, intT, O.adds, ownA, rowsA, over, wrOk, keysT, keysA, ne_eq, if_true, if_false, ite_self, Nat.reduceLT, Nat.reduceSub, Nat.reduceBEq, Nat.reduceEqDiff, Nat.reduceAdd, Nat.reduceLeDiff, reduceCtorEq, Nat.reduceMul]
  · simp only [F34, h1, h2, h3, h4, h5, h6, h7, h8, h9, h10, h11, h12, or_self, fxa, fxc, fxE, fxL, fxI, nxE, evO, evR, cellsT, ldCells, mkT, lenA, binPV, Env.init, resV, resT, frT, klT, ownT, intT, O.adds, ownA, rowsA, over, wrOk, keysT, keysA, ne_eq, if_true, if_false, ite_self, Nat.reduceLT, Nat.reduceSub, Nat.reduceBEq, Nat.reduceEqDiff, Nat.reduceAdd, Nat.reduceLeDiff, reduceCtorEq, Nat.reduceMul]

theorem plain_ok (k : Int) : eP S 36 [.a (.i .i64 k)] = some (encLE (plainR k)) := by
  refine x_fn (orcS (by decide)) (fc := F36) rfl rfl ?_
  simp only [F36, encLE, encL, plainR, zN, fxa, fxc, fxE, fxL, fxI, nxE, evO, evR, cellsT, ldCells, mkT, lenA, binPV, Env.init, resV, resT, frT, klT, ownT, intT, O.adds, ownA, rowsA, over, wrOk, keysT, keysA, ne_eq, if_true, if_false, ite_self, Nat.reduceLT, Nat.reduceSub, Nat.reduceBEq, Nat.reduceEqDiff, Nat.reduceAdd, Nat.reduceLeDiff, reduceCtorEq, Nat.reduceMul]

theorem swapped_ok (x : Pl × Int) : eP S 37 [.g (encL x.1), .a (.i .i64 x.2)] = some (encLE (swapR x)) := by
  refine x_fn (orcS (by decide)) (fc := F37) rfl rfl ?_
  unfold swapR
  by_cases h : x.2 = 0
  · simp only [F37, encLE, encL, h, fxa, fxc, fxE, fxL, fxI, nxE, evO, evR, cellsT, ldCells, mkT, lenA, binPV, Env.init, resV, resT, frT, klT, ownT, intT, O.adds, ownA, rowsA, over, wrOk, keysT, keysA, ne_eq, if_true, if_false, ite_self, Nat.reduceLT, Nat.reduceSub, Nat.reduceBEq, Nat.reduceEqDiff, Nat.reduceAdd, Nat.reduceLeDiff, reduceCtorEq, Nat.reduceMul]
  · simp only [F37, encLE, encL, h, fxa, fxc, fxE, fxL, fxI, nxE, evO, evR, cellsT, ldCells, mkT, lenA, binPV, Env.init, resV, resT, frT, klT, ownT, intT, O.adds, ownA, rowsA, over, wrOk, keysT, keysA, ne_eq, if_true, if_false, ite_self, Nat.reduceLT, Nat.reduceSub, Nat.reduceBEq, Nat.reduceEqDiff, Nat.reduceAdd, Nat.reduceLeDiff, reduceCtorEq, Nat.reduceMul]

theorem pass_ok (x y : Nd) : eP S 38 [.g (encN x), .g (encN y)] = some (encLE (passR x y)) := by
  refine x_fn (orcS (by decide)) (fc := F38) rfl rfl ?_
  unfold passR passLv wr
  by_cases h5 : x.k = 5
  · by_cases h1 : x.lv ≥ y.lv
    · simp only [F38, encLE, encL, noR, p0, zN, h5, h1, fxa, fxc, fxE, fxL, fxI, nxE, evO, evR, cellsT, ldCells, mkT, lenA, binPV, Env.init, resV, resT, frT, klT, ownT, intT, O.adds, ownA, rowsA, over, wrOk, keysT, keysA, ne_eq, if_true, if_false, ite_self, Nat.reduceLT, Nat.reduceSub, Nat.reduceBEq, Nat.reduceEqDiff, Nat.reduceAdd, Nat.reduceLeDiff, reduceCtorEq, Nat.reduceMul]
    · by_cases h2 : IntKind.i64.wrap (y.lv - 1) > 60
      · simp only [F38, encLE, encL, noR, p0, zN, h5, h1, h2, fxa, fxc, fxE, fxL, fxI, nxE, evO, evR, cellsT, ldCells, mkT, lenA, binPV, Env.init, resV, resT, frT, klT, ownT, intT, O.adds, ownA, rowsA, over, wrOk, keysT, keysA, ne_eq, if_true, if_false, ite_self, Nat.reduceLT, Nat.reduceSub, Nat.reduceBEq, Nat.reduceEqDiff, Nat.reduceAdd, Nat.reduceLeDiff, reduceCtorEq, Nat.reduceMul]
      · simp only [F38, encLE, encL, noR, p0, zN, h5, h1, h2, fxa, fxc, fxE, fxL, fxI, nxE, evO, evR, cellsT, ldCells, mkT, lenA, binPV, Env.init, resV, resT, frT, klT, ownT, intT, O.adds, ownA, rowsA, over, wrOk, keysT, keysA, ne_eq, if_true, if_false, ite_self, Nat.reduceLT, Nat.reduceSub, Nat.reduceBEq, Nat.reduceEqDiff, Nat.reduceAdd, Nat.reduceLeDiff, reduceCtorEq, Nat.reduceMul]
  by_cases h6 : x.k = 6
  · by_cases h1 : x.lv ≥ y.lv
    · simp only [F38, encLE, encL, noR, p0, zN, h6, h1, Int.reduceEq, fxa, fxc, fxE, fxL, fxI, nxE, evO, evR, cellsT, ldCells, mkT, lenA, binPV, Env.init, resV, resT, frT, klT, ownT, intT, O.adds, ownA, rowsA, over, wrOk, keysT, keysA, ne_eq, if_true, if_false, ite_self, Nat.reduceLT, Nat.reduceSub, Nat.reduceBEq, Nat.reduceEqDiff, Nat.reduceAdd, Nat.reduceLeDiff, reduceCtorEq, Nat.reduceMul]
    · by_cases h2 : IntKind.i64.wrap (y.lv + 1) > 60
      · simp only [F38, encLE, encL, noR, p0, zN, h6, h1, h2, Int.reduceEq, fxa, fxc, fxE, fxL, fxI, nxE, evO, evR, cellsT, ldCells, mkT, lenA, binPV, Env.init, resV, resT, frT, klT, ownT, intT, O.adds, ownA, rowsA, over, wrOk, keysT, keysA, ne_eq, if_true, if_false, ite_self, Nat.reduceLT, Nat.reduceSub, Nat.reduceBEq, Nat.reduceEqDiff, Nat.reduceAdd, Nat.reduceLeDiff, reduceCtorEq, Nat.reduceMul]
      · simp only [F38, encLE, encL, noR, p0, zN, h6, h1, h2, Int.reduceEq, fxa, fxc, fxE, fxL, fxI, nxE, evO, evR, cellsT, ldCells, mkT, lenA, binPV, Env.init, resV, resT, frT, klT, ownT, intT, O.adds, ownA, rowsA, over, wrOk, keysT, keysA, ne_eq, if_true, if_false, ite_self, Nat.reduceLT, Nat.reduceSub, Nat.reduceBEq, Nat.reduceEqDiff, Nat.reduceAdd, Nat.reduceLeDiff, reduceCtorEq, Nat.reduceMul]
  by_cases h1 : x.lv ≥ y.lv
  · simp only [F38, encLE, encL, noR, p0, zN, h5, h6, h1, Int.reduceEq, fxa, fxc, fxE, fxL, fxI, nxE, evO, evR, cellsT, ldCells, mkT, lenA, binPV, Env.init, resV, resT, frT, klT, ownT, intT, O.adds, ownA, rowsA, over, wrOk, keysT, keysA, ne_eq, if_true, if_false, ite_self, Nat.reduceLT, Nat.reduceSub, Nat.reduceBEq, Nat.reduceEqDiff, Nat.reduceAdd, Nat.reduceLeDiff, reduceCtorEq, Nat.reduceMul]
  · by_cases h2 : y.lv > 60
    · simp only [F38, encLE, encL, noR, p0, zN, h5, h6, h1, h2, Int.reduceEq, fxa, fxc, fxE, fxL, fxI, nxE, evO, evR, cellsT, ldCells, mkT, lenA, binPV, Env.init, resV, resT, frT, klT, ownT, intT, O.adds, ownA, rowsA, over, wrOk, keysT, keysA, ne_eq, if_true, if_false, ite_self, Nat.reduceLT, Nat.reduceSub, Nat.reduceBEq, Nat.reduceEqDiff, Nat.reduceAdd, Nat.reduceLeDiff, reduceCtorEq, Nat.reduceMul]
    · simp only [F38, encLE, encL, noR, p0, zN, h5, h6, h1, h2, Int.reduceEq, fxa, fxc, fxE, fxL, fxI, nxE, evO, evR, cellsT, ldCells, mkT, lenA, binPV, Env.init, resV, resT, frT, klT, ownT, intT, O.adds, ownA, rowsA, over, wrOk, keysT, keysA, ne_eq, if_true, if_false, ite_self, Nat.reduceLT, Nat.reduceSub, Nat.reduceBEq, Nat.reduceEqDiff, Nat.reduceAdd, Nat.reduceLeDiff, reduceCtorEq, Nat.reduceMul]

theorem pick1_ok (a : Ar) (y : Nd) (k : Key) (σ : St) (hk : σ.bs k = some (.var ((encN y).map .p))) (hlt : k.2 < σ.clk) :
    eS S (.f 80) [.g ((encA a).map .p), .a (.ptr k 0 0)] σ = some (.a (.p (.b (decide (a.s = y.s) && decide (a.n = wr (y.to.length - 1))))), σ.add 2 (.var ((encA a).map .p))) := by
  have hne : ¬ k = (2, σ.clk) := by rintro rfl; exact Nat.lt_irrefl _ hlt
  simp only [encN, List.map_cons, List.map_nil] at hk
  refine x_fnX (fc := F80) rfl rfl ?_
  unfold wr
  cases h1 : decide (a.s = y.s) with
  | false => simp only [F80, hk, hne, h1, fxa, fxc, fxE, fxL, fxI, nxE, evO, evR, cellsT, ldCells, mkT, lenA, binPV, Env.init, resV, resT, frT, klT, ownT, intT, O.adds, ownA, rowsA, over, wrOk, keysT, keysA, ne_eq, if_true, if_false, ite_self, Nat.reduceLT, Nat.reduceSub, Nat.reduceBEq, Nat.reduceEqDiff, Nat.reduceAdd, Nat.reduceLeDiff, reduceCtorEq, Nat.reduceMul]
  | true => simp only [F80, hk, hne, h1, fxa, fxc, fxE, fxL, fxI, nxE, evO, evR, cellsT, ldCells, mkT, lenA, binPV, Env.init, resV, resT, frT, klT, ownT, intT, O.adds, ownA, rowsA, over, wrOk, keysT, keysA, ne_eq, if_true, if_false, ite_self, Nat.reduceLT, Nat.reduceSub, Nat.reduceBEq, Nat.reduceEqDiff, Nat.reduceAdd, Nat.reduceLeDiff, reduceCtorEq, Nat.reduceMul]

theorem pick_ok {x y : Nd} (hx : x.Ok) : eP S 52 [.g (encN x), .g (encN y)] = some (encLE (pickR x y)) := by
  refine x_fn (orcS (by decide)) (fc := F52) rfl rfl ?_
  have c5 := plain_ok 5
  unfold pickR
  by_cases h1 : x.lv = y.lv
  case neg => simp only [F52, encLE, encL, noR, p0, zN, h1, fxa, fxc, fxE, fxL, fxI, nxE, evO, evR, cellsT, ldCells, mkT, lenA, binPV, Env.init, resV, resT, frT, klT, ownT, intT, O.adds, ownA, rowsA, over, wrOk, keysT, keysA, ne_eq, if_true, if_false, ite_self, Nat.reduceLT, Nat.reduceSub, Nat.reduceBEq, Nat.reduceEqDiff, Nat.reduceAdd, Nat.reduceLeDiff, reduceCtorEq, Nat.reduceMul]
  obtain ⟨σ0, hσ0⟩ : ∃ σ0, σ0 = ((St.empty.add 2 (.var ((encN x).map .p))).add 3 (.var ((encN y).map .p))).add 4 (.var [.p (.i .i64 0), .p (.b false), .p (.i .i64 0), .p (.i .i64 0), .p (.i .i64 0), .p (.i .i64 0), .p (.i .i64 0), .p (.s []), .nil, .nil]) := ⟨_, rfl⟩
  obtain ⟨σ1, hcall, h4, h5⟩ := indexA_ok x.al hx.al 80 [(3, 1)] (by simp) (by decide) (fun a => decide (a.s = y.s) && decide (a.n = wr (y.to.length - 1))) (fun σ => (σ.bs (3, 1) = some (.var ((encN y).map .p)) ∧ 2 ≤ σ.clk) ∧ σ.bs (4, 2) = some (.var [.p (.i .i64 0), .p (.b false), .p (.i .i64 0), .p (.i .i64 0), .p (.i .i64 0), .p (.i .i64 0), .p (.i .i64 0), .p (.s []), .nil, .nil]))
    (fun a σ hσ => ⟨_, pick1_ok a y (3, 1) σ hσ.1.1 (by have := hσ.1.2; simp; omega), by
      refine ⟨⟨?_, ?_⟩, ?_⟩
      · simp only [add_bs]; rw [if_neg (by simp)]; exact hσ.1.1
      · simp only [add_clk]; have := hσ.1.2; omega
      · simp only [add_bs]; rw [if_neg (by simp)]; exact hσ.2⟩) σ0 (by rw [hσ0]; refine ⟨⟨?_, ?_⟩, ?_⟩ <;> simp [add_bs, add_clk, empty_clk])
  rw [hσ0] at hcall
  have hcall : eS S (.f 79) [.a (.p (.l (x.al.map encA))), .a (.fn 80 [(3, 1)])] _ = some (.a (.p (.i .i64 (pickIx x y))), σ1) := hcall
  simp only [encN, List.map_cons, List.map_nil, h1] at hcall h4
  simp only [encLE, encL, plainR, zN, List.map_nil] at c5
  by_cases h2 : pickIx x y < 0
  · simp only [F52, encLE, encL, noR, plainR, p0, zN, h1, capsOf, hcall, h2, h4, h5, c5, not_true_eq_false, fxa, fxc, fxE, fxL, fxI, nxE, evO, evR, cellsT, ldCells, mkT, lenA, binPV, Env.init, resV, resT, frT, klT, ownT, intT, O.adds, ownA, rowsA, over, wrOk, keysT, keysA, ne_eq, if_true, if_false, ite_self, Nat.reduceLT, Nat.reduceSub, Nat.reduceBEq, Nat.reduceEqDiff, Nat.reduceAdd, Nat.reduceLeDiff, reduceCtorEq, Nat.reduceMul]
  · simp only [F52, encLE, encL, noR, plainR, p0, zN, h1, capsOf, hcall, h2, h4, h5, c5, not_true_eq_false, fxa, fxc, fxE, fxL, fxI, nxE, evO, evR, cellsT, ldCells, mkT, lenA, binPV, Env.init, resV, resT, frT, klT, ownT, intT, O.adds, ownA, rowsA, over, wrOk, keysT, keysA, ne_eq, if_true, if_false, ite_self, Nat.reduceLT, Nat.reduceSub, Nat.reduceBEq, Nat.reduceEqDiff, Nat.reduceAdd, Nat.reduceLeDiff, reduceCtorEq, Nat.reduceMul]

theorem truth_ok (b : Bool) : eP S 81 [.a (.b b)] = some (.g (encN (truthN b))) := by
  refine x_fn (orcS (by decide)) (fc := F81) rfl rfl ?_
  unfold truthN
  cases b
  · simp only [F81, zP, Int.reduceLE, Int.reduceMul, Int.reduceToNat, Int.cast_ofNat_Int, fxa, fxc, fxE, fxL, fxI, nxE, evO, evR, cellsT, ldCells, mkT, lenA, binPV, Env.init, resV, resT, frT, klT, ownT, intT, O.adds, ownA, rowsA, over, wrOk, keysT, keysA, ne_eq, if_true, if_false, ite_self, Nat.reduceLT, Nat.reduceSub, Nat.reduceBEq, Nat.reduceEqDiff, Nat.reduceAdd, Nat.reduceLeDiff, reduceCtorEq, Nat.reduceMul]
  · simp only [F81, zP, Int.reduceLE, Int.reduceMul, Int.reduceToNat, Int.cast_ofNat_Int, fxa, fxc, fxE, fxL, fxI, nxE, evO, evR, cellsT, ldCells, mkT, lenA, binPV, Env.init, resV, resT, frT, klT, ownT, intT, O.adds, ownA, rowsA, over, wrOk, keysT, keysA, ne_eq, if_true, if_false, ite_self, Nat.reduceLT, Nat.reduceSub, Nat.reduceBEq, Nat.reduceEqDiff, Nat.reduceAdd, Nat.reduceLeDiff, reduceCtorEq, Nat.reduceMul]

/-- the operators' names are different -/
theorem nmU : ((43 : UInt8) = 45) = False ∧ ((43 : UInt8) = 42) = False ∧ ((43 : UInt8) = 47) = False ∧ ((43 : UInt8) = 60) = False ∧ ((43 : UInt8) = 61) = False ∧ ((45 : UInt8) = 43) = False ∧ ((45 : UInt8) = 42) = False ∧ ((45 : UInt8) = 47) = False ∧ ((45 : UInt8) = 60) = False ∧ ((45 : UInt8) = 61) = False ∧ ((42 : UInt8) = 43) = False ∧ ((42 : UInt8) = 45) = False ∧ ((42 : UInt8) = 47) = False ∧ ((42 : UInt8) = 60) = False ∧ ((42 : UInt8) = 61) = False ∧ ((47 : UInt8) = 43) = False ∧ ((47 : UInt8) = 45) = False ∧ ((47 : UInt8) = 42) = False ∧ ((47 : UInt8) = 60) = False ∧ ((47 : UInt8) = 61) = False ∧ ((60 : UInt8) = 43) = False ∧ ((60 : UInt8) = 45) = False ∧ ((60 : UInt8) = 42) = False ∧ ((60 : UInt8) = 47) = False ∧ ((60 : UInt8) = 61) = False ∧ ((61 : UInt8) = 43) = False ∧ ((61 : UInt8) = 45) = False ∧ ((61 : UInt8) = 42) = False ∧ ((61 : UInt8) = 47) = False ∧ ((61 : UInt8) = 60) = False :=
  ⟨eq_false (by decide), eq_false (by decide), eq_false (by decide), eq_false (by decide), eq_false (by decide), eq_false (by decide), eq_false (by decide), eq_false (by decide), eq_false (by decide), eq_false (by decide), eq_false (by decide), eq_false (by decide), eq_false (by decide), eq_false (by decide), eq_false (by decide), eq_false (by decide), eq_false (by decide), eq_false (by decide), eq_false (by decide), eq_false (by decide), eq_false (by decide), eq_false (by decide), eq_false (by decide), eq_false (by decide), eq_false (by decide), eq_false (by decide), eq_false (by decide), eq_false (by decide), eq_false (by decide), eq_false (by decide)⟩

theorem out_ok (x y : Nd) : eP S 53 [.g (encN x), .g (encN y)] = some (encLE (outR x y)) := by
  refine x_fn (orcS (by decide)) (fc := F53) rfl rfl ?_
  have c5 := plain_ok 5
  have t1 := truth_ok (decide (x.n < y.n))
  have t2 := truth_ok (decide (x.n = y.n))
  unfold outR outN
  simp only [encN, truthN, zP, encP, List.map_cons, List.map_nil] at t1 t2
  obtain ⟨n1, hn1⟩ : ∃ b, decide (x.n < y.n) = b := ⟨_, rfl⟩
  obtain ⟨n2, hn2⟩ : ∃ b, decide (x.n = y.n) = b := ⟨_, rfl⟩
  rw [hn1] at t1 ⊢
  rw [hn2] at t2 ⊢
  simp only [encLE, encL, plainR, zN, List.map_nil] at c5
  by_cases h1 : x.s = [43]
  · simp only [F53, encLE, encL, plainR, zN, wr, h1, List.cons.injEq, nmU, List.cons_ne_nil, not_true_eq_false, fxa, fxc, fxE, fxL, fxI, nxE, evO, evR, cellsT, ldCells, mkT, lenA, binPV, Env.init, resV, resT, frT, klT, ownT, intT, O.adds, ownA, rowsA, over, wrOk, keysT, keysA, ne_eq, if_true, if_false, ite_self, Nat.reduceLT, Nat.reduceSub, Nat.reduceBEq, Nat.reduceEqDiff, Nat.reduceAdd, Nat.reduceLeDiff, reduceCtorEq, Nat.reduceMul]
  by_cases h2 : x.s = [45]
  · simp only [F53, encLE, encL, plainR, zN, wr, h2, List.cons.injEq, nmU, List.cons_ne_nil, not_true_eq_false, fxa, fxc, fxE, fxL, fxI, nxE, evO, evR, cellsT, ldCells, mkT, lenA, binPV, Env.init, resV, resT, frT, klT, ownT, intT, O.adds, ownA, rowsA, over, wrOk, keysT, keysA, ne_eq, if_true, if_false, ite_self, Nat.reduceLT, Nat.reduceSub, Nat.reduceBEq, Nat.reduceEqDiff, Nat.reduceAdd, Nat.reduceLeDiff, reduceCtorEq, Nat.reduceMul]
  by_cases h3 : x.s = [42]
  · simp only [F53, encLE, encL, plainR, zN, wr, h3, List.cons.injEq, nmU, List.cons_ne_nil, not_true_eq_false, fxa, fxc, fxE, fxL, fxI, nxE, evO, evR, cellsT, ldCells, mkT, lenA, binPV, Env.init, resV, resT, frT, klT, ownT, intT, O.adds, ownA, rowsA, over, wrOk, keysT, keysA, ne_eq, if_true, if_false, ite_self, Nat.reduceLT, Nat.reduceSub, Nat.reduceBEq, Nat.reduceEqDiff, Nat.reduceAdd, Nat.reduceLeDiff, reduceCtorEq, Nat.reduceMul]
  by_cases h4 : x.s = [47]
  · by_cases h5 : y.n = 0
    · simp only [F53, encLE, encL, plainR, zN, wr, h4, h5, c5, List.cons.injEq, nmU, List.cons_ne_nil, not_true_eq_false, fxa, fxc, fxE, fxL, fxI, nxE, evO, evR, cellsT, ldCells, mkT, lenA, binPV, Env.init, resV, resT, frT, klT, ownT, intT, O.adds, ownA, rowsA, over, wrOk, keysT, keysA, ne_eq, if_true, if_false, ite_self, Nat.reduceLT, Nat.reduceSub, Nat.reduceBEq, Nat.reduceEqDiff, Nat.reduceAdd, Nat.reduceLeDiff, reduceCtorEq, Nat.reduceMul]
    · simp only [F53, encLE, encL, plainR, zN, wr, h4, h5, c5, List.cons.injEq, nmU, List.cons_ne_nil, not_true_eq_false, fxa, fxc, fxE, fxL, fxI, nxE, evO, evR, cellsT, ldCells, mkT, lenA, binPV, Env.init, resV, resT, frT, klT, ownT, intT, O.adds, ownA, rowsA, over, wrOk, keysT, keysA, ne_eq, if_true, if_false, ite_self, Nat.reduceLT, Nat.reduceSub, Nat.reduceBEq, Nat.reduceEqDiff, Nat.reduceAdd, Nat.reduceLeDiff, reduceCtorEq, Nat.reduceMul]
  by_cases h6 : x.s = [60]
  · simp only [F53, encLE, encL, plainR, zN, wr, h6, t1, hn1, truthN, zP, List.cons.injEq, nmU, List.cons_ne_nil, not_true_eq_false, fxa, fxc, fxE, fxL, fxI, nxE, evO, evR, cellsT, ldCells, mkT, lenA, binPV, Env.init, resV, resT, frT, klT, ownT, intT, O.adds, ownA, rowsA, over, wrOk, keysT, keysA, ne_eq, if_true, if_false, ite_self, Nat.reduceLT, Nat.reduceSub, Nat.reduceBEq, Nat.reduceEqDiff, Nat.reduceAdd, Nat.reduceLeDiff, reduceCtorEq, Nat.reduceMul]
  by_cases h7 : x.s = [61, 61]
  · simp only [F53, encLE, encL, plainR, zN, wr, h7, t2, hn2, truthN, zP, List.cons.injEq, nmU, List.cons_ne_nil, not_true_eq_false, fxa, fxc, fxE, fxL, fxI, nxE, evO, evR, cellsT, ldCells, mkT, lenA, binPV, Env.init, resV, resT, frT, klT, ownT, intT, O.adds, ownA, rowsA, over, wrOk, keysT, keysA, ne_eq, if_true, if_false, ite_self, Nat.reduceLT, Nat.reduceSub, Nat.reduceBEq, Nat.reduceEqDiff, Nat.reduceAdd, Nat.reduceLeDiff, reduceCtorEq, Nat.reduceMul]
  · simp only [F53, encLE, encL, plainR, zN, wr, h1, h2, h3, h4, h6, h7, List.cons.injEq, nmU, List.cons_ne_nil, not_true_eq_false, fxa, fxc, fxE, fxL, fxI, nxE, evO, evR, cellsT, ldCells, mkT, lenA, binPV, Env.init, resV, resT, frT, klT, ownT, intT, O.adds, ownA, rowsA, over, wrOk, keysT, keysA, ne_eq, if_true, if_false, ite_self, Nat.reduceLT, Nat.reduceSub, Nat.reduceBEq, Nat.reduceEqDiff, Nat.reduceAdd, Nat.reduceLeDiff, reduceCtorEq, Nat.reduceMul]

theorem ask_ok {x y : Nd} (hx : x.Ok) : eP S 39 [.g (encN x), .g (encN y)] = some (encLE (askR x y)) := by
  refine x_fn (orcS (by decide)) (fc := F39) rfl rfl ?_
  have c1 := plain_ok 1
  have c3 := plain_ok 3
  have c5 := plain_ok 5
  have cp := pick_ok (x := x) (y := y) hx
  have co := out_ok x y
  obtain ⟨⟨⟨pk, ps, pl, pa, ⟨n1, n2, n3, n4, n5, n6⟩⟩, pe⟩, hp⟩ : ∃ z, pickR x y = z := ⟨_, rfl⟩
  obtain ⟨⟨⟨ok, os, ol, oa, ⟨m1, m2, m3, m4, m5, m6⟩⟩, oe⟩, ho⟩ : ∃ z, outR x y = z := ⟨_, rfl⟩
  unfold askR
  rw [hp] at cp ⊢
  rw [ho] at co ⊢
  simp only [encN, encLE, encL] at cp co
  simp only [encLE, encL, plainR, zN, List.map_nil] at c1 c3 c5
  by_cases h1 : x.k = 3 ∧ y.k = 2
  · obtain ⟨h1, h2⟩ := h1
    by_cases h3 : x.lv = y.lv
    · simp only [F39, encLE, encL, plainR, noR, p0, zN, h1, h2, h3, c1, Int.reduceEq, not_true_eq_false, fxa, fxc, fxE, fxL, fxI, nxE, evO, evR, cellsT, ldCells, mkT, lenA, binPV, Env.init, resV, resT, frT, klT, ownT, intT, O.adds, ownA, rowsA, over, wrOk, keysT, keysA, ne_eq, if_true, if_false, ite_self, Nat.reduceLT, Nat.reduceSub, Nat.reduceBEq, Nat.reduceEqDiff, Nat.reduceAdd, Nat.reduceLeDiff, reduceCtorEq, Nat.reduceMul]
    · simp only [F39, encLE, encL, plainR, noR, p0, zN, h1, h2, h3, c1, Int.reduceEq, not_true_eq_false, fxa, fxc, fxE, fxL, fxI, nxE, evO, evR, cellsT, ldCells, mkT, lenA, binPV, Env.init, resV, resT, frT, klT, ownT, intT, O.adds, ownA, rowsA, over, wrOk, keysT, keysA, ne_eq, if_true, if_false, ite_self, Nat.reduceLT, Nat.reduceSub, Nat.reduceBEq, Nat.reduceEqDiff, Nat.reduceAdd, Nat.reduceLeDiff, reduceCtorEq, Nat.reduceMul]
  by_cases h2 : x.k = 9 ∧ y.k = 8
  · obtain ⟨h2, h3⟩ := h2
    rw [h2, h3] at cp
    simp only [F39, encLE, encL, plainR, noR, p0, zN, h2, h3, cp, Int.reduceEq, not_true_eq_false, fxa, fxc, fxE, fxL, fxI, nxE, evO, evR, cellsT, ldCells, mkT, lenA, binPV, Env.init, resV, resT, frT, klT, ownT, intT, O.adds, ownA, rowsA, over, wrOk, keysT, keysA, ne_eq, if_true, if_false, ite_self, Nat.reduceLT, Nat.reduceSub, Nat.reduceBEq, Nat.reduceEqDiff, Nat.reduceAdd, Nat.reduceLeDiff, reduceCtorEq, Nat.reduceMul]
  by_cases h3 : x.k = 11 ∧ y.k = 10
  · obtain ⟨h3, h4⟩ := h3
    simp only [F39, encLE, encL, plainR, noR, p0, zN, h3, h4, c3, Int.reduceEq, not_true_eq_false, fxa, fxc, fxE, fxL, fxI, nxE, evO, evR, cellsT, ldCells, mkT, lenA, binPV, Env.init, resV, resT, frT, klT, ownT, intT, O.adds, ownA, rowsA, over, wrOk, keysT, keysA, ne_eq, if_true, if_false, ite_self, Nat.reduceLT, Nat.reduceSub, Nat.reduceBEq, Nat.reduceEqDiff, Nat.reduceAdd, Nat.reduceLeDiff, reduceCtorEq, Nat.reduceMul]
  by_cases h4 : x.k = 12 ∧ y.k = 10
  · obtain ⟨h4, h5⟩ := h4
    rw [h4, h5] at co
    simp only [F39, encLE, encL, plainR, noR, p0, zN, h4, h5, co, Int.reduceEq, not_true_eq_false, fxa, fxc, fxE, fxL, fxI, nxE, evO, evR, cellsT, ldCells, mkT, lenA, binPV, Env.init, resV, resT, frT, klT, ownT, intT, O.adds, ownA, rowsA, over, wrOk, keysT, keysA, ne_eq, if_true, if_false, ite_self, Nat.reduceLT, Nat.reduceSub, Nat.reduceBEq, Nat.reduceEqDiff, Nat.reduceAdd, Nat.reduceLeDiff, reduceCtorEq, Nat.reduceMul]
  have g1 : (decide (x.k = 3) && decide (y.k = 2)) = false := by simpa using h1
  have g2 : (decide (x.k = 9) && decide (y.k = 8)) = false := by simpa using h2
  have g3 : (decide (x.k = 11) && decide (y.k = 10)) = false := by simpa using h3
  have g4 : (decide (x.k = 12) && decide (y.k = 10)) = false := by simpa using h4
  simp only [F39, encLE, encL, plainR, noR, p0, zN, h1, h2, h3, h4, g1, g2, g3, g4, c5, Int.reduceEq, not_true_eq_false, fxa, fxc, fxE, fxL, fxI, nxE, evO, evR, cellsT, ldCells, mkT, lenA, binPV, Env.init, resV, resT, frT, klT, ownT, intT, O.adds, ownA, rowsA, over, wrOk, keysT, keysA, ne_eq, if_true, if_false, ite_self, Nat.reduceLT, Nat.reduceSub, Nat.reduceBEq, Nat.reduceEqDiff, Nat.reduceAdd, Nat.reduceLeDiff, reduceCtorEq, Nat.reduceMul]

theorem of1_ok (i j : Int) (a b : Nd) (ka kb : Key) (σ : St) (ha : σ.bs ka = some (.var ((encN a).map .p))) (hb : σ.bs kb = some (.var ((encN b).map .p))) :
    eS S (.f 33) [.a (.p (.i .i64 i)), .a (.p (.i .i64 j)), .a (.ptr ka 0 0), .a (.ptr kb 0 0)] σ = some (.a (.p (.b (decide (cls a.k = i) && decide (cls b.k = j)))), σ) := by
  have c1 := class_ok a.k
  have c2 := class_ok b.k
  simp only [encN, List.map_cons, List.map_nil] at ha hb
  refine x_fnX (fc := F33) rfl rfl ?_
  cases h1 : decide (cls a.k = i) with
  | false => simp only [F33, ha, hb, c1, c2, h1, fxa, fxc, fxE, fxL, fxI, nxE, evO, evR, cellsT, ldCells, mkT, lenA, binPV, Env.init, resV, resT, frT, klT, ownT, intT, O.adds, ownA, rowsA, over, wrOk, keysT, keysA, ne_eq, if_true, if_false, ite_self, Nat.reduceLT, Nat.reduceSub, Nat.reduceBEq, Nat.reduceEqDiff, Nat.reduceAdd, Nat.reduceLeDiff, reduceCtorEq, Nat.reduceMul]
  | true => simp only [F33, ha, hb, c1, c2, h1, fxa, fxc, fxE, fxL, fxI, nxE, evO, evR, cellsT, ldCells, mkT, lenA, binPV, Env.init, resV, resT, frT, klT, ownT, intT, O.adds, ownA, rowsA, over, wrOk, keysT, keysA, ne_eq, if_true, if_false, ite_self, Nat.reduceLT, Nat.reduceSub, Nat.reduceBEq, Nat.reduceEqDiff, Nat.reduceAdd, Nat.reduceLeDiff, reduceCtorEq, Nat.reduceMul]
theorem of2_ok (i : Int) (a b : Nd) (ka kb : Key) (σ : St) (ha : σ.bs ka = some (.var ((encN a).map .p))) (hb : σ.bs kb = some (.var ((encN b).map .p))) :
    eS S (.f 35) [.a (.p (.i .i64 i)), .a (.ptr ka 0 0), .a (.ptr kb 0 0)] σ = some (.a (.p (.b (decide (cls a.k = i) || decide (cls b.k = i)))), σ) := by
  have c1 := class_ok a.k
  have c2 := class_ok b.k
  simp only [encN, List.map_cons, List.map_nil] at ha hb
  refine x_fnX (fc := F35) rfl rfl ?_
  cases h1 : decide (cls a.k = i) with
  | false => simp only [F35, ha, hb, c1, c2, h1, fxa, fxc, fxE, fxL, fxI, nxE, evO, evR, cellsT, ldCells, mkT, lenA, binPV, Env.init, resV, resT, frT, klT, ownT, intT, O.adds, ownA, rowsA, over, wrOk, keysT, keysA, ne_eq, if_true, if_false, ite_self, Nat.reduceLT, Nat.reduceSub, Nat.reduceBEq, Nat.reduceEqDiff, Nat.reduceAdd, Nat.reduceLeDiff, reduceCtorEq, Nat.reduceMul]
  | true => simp only [F35, ha, hb, c1, c2, h1, fxa, fxc, fxE, fxL, fxI, nxE, evO, evR, cellsT, ldCells, mkT, lenA, binPV, Env.init, resV, resT, frT, klT, ownT, intT, O.adds, ownA, rowsA, over, wrOk, keysT, keysA, ne_eq, if_true, if_false, ite_self, Nat.reduceLT, Nat.reduceSub, Nat.reduceBEq, Nat.reduceEqDiff, Nat.reduceAdd, Nat.reduceLeDiff, reduceCtorEq, Nat.reduceMul]

theorem Of_ok {a b : Nd} (ha : a.Ok) (hb : b.Ok) : eP S 14 [.g (encN a), .g (encN b)] = some (encLE (ofR a b)) := by
  have ca := class_ok a.k
  have cb := class_ok b.k
  have c8 := plain_ok 8
  have c6 := plain_ok 6
  have cs8 := swapped_ok (plainR 8)
  have pab := pass_ok a b
  have pba := pass_ok b a
  have spba := swapped_ok (passR b a)
  have aab := ask_ok (x := a) (y := b) ha
  have aba := ask_ok (x := b) (y := a) hb
  have saba := swapped_ok (askR b a)
  obtain ⟨⟨⟨q1, q2, q3, q4, ⟨q5, q6, q7, q8, q9, q10⟩⟩, qe⟩, hq⟩ : ∃ z, passR a b = z := ⟨_, rfl⟩
  obtain ⟨⟨⟨r1, r2, r3, r4, ⟨r5, r6, r7, r8, r9, r10⟩⟩, re⟩, hr⟩ : ∃ z, passR b a = z := ⟨_, rfl⟩
  obtain ⟨⟨⟨s1, s2, s3, s4, ⟨s5, s6, s7, s8, s9, s10⟩⟩, se⟩, hs⟩ : ∃ z, askR a b = z := ⟨_, rfl⟩
  obtain ⟨⟨⟨t1, t2, t3, t4, ⟨t5, t6, t7, t8, t9, t10⟩⟩, te⟩, ht⟩ : ∃ z, askR b a = z := ⟨_, rfl⟩
  rw [hq] at pab
  rw [hr] at pba spba
  rw [hs] at aab
  rw [ht] at aba saba
  obtain ⟨⟨⟨u1, u2, u3, u4, ⟨u5, u6, u7, u8, u9, u10⟩⟩, ue⟩, hu⟩ : ∃ z, swapR (⟨r1, r2, r3, r4, ⟨r5, r6, r7, r8, r9, r10⟩⟩, re) = z := ⟨_, rfl⟩
  obtain ⟨⟨⟨w1, w2, w3, w4, ⟨w5, w6, w7, w8, w9, w10⟩⟩, we⟩, hw⟩ : ∃ z, swapR (⟨t1, t2, t3, t4, ⟨t5, t6, t7, t8, t9, t10⟩⟩, te) = z := ⟨_, rfl⟩
  rw [hu] at spba
  rw [hw] at saba
  have e8 : swapR (plainR 8) = (⟨8, true, 0, 0, zN⟩, 0) := rfl
  rw [e8] at cs8
  simp only [encLE, encL, encN, plainR, zN, List.map_nil] at c8 c6 cs8 pab pba spba aab aba saba
  have o1 := fun i j σ (h1 : σ.bs (2, 0) = some (.var ((encN a).map .p))) h2 => of1_ok i j a b (2, 0) (3, 1) σ h1 h2
  have o2 := fun i σ (h1 : σ.bs (2, 0) = some (.var ((encN a).map .p))) h2 => of2_ok i a b (2, 0) (3, 1) σ h1 h2
  obtain ⟨σ1, hσ1⟩ : ∃ σ1, σ1 = ((St.empty.add 2 (.var ((encN a).map .p))).add 3 (.var ((encN b).map .p))).add 4 (.var [.p (.i .i64 0), .p (.b false), .p (.i .i64 0), .p (.i .i64 0), .p (.i .i64 0), .p (.i .i64 0), .p (.i .i64 0), .p (.s []), .nil, .nil]) := ⟨_, rfl⟩
  have b2 : σ1.bs (2, 0) = some (.var ((encN a).map .p)) := by rw [hσ1]; simp [add_bs, add_clk, empty_clk]
  have b3 : σ1.bs (3, 1) = some (.var ((encN b).map .p)) := by rw [hσ1]; simp [add_bs, add_clk, empty_clk]
  have k0 := o2 0 σ1 b2 b3
  have k33 := o1 3 3 σ1 b2 b3
  have k12 := o1 1 2 σ1 b2 b3
  have k21 := o1 2 1 σ1 b2 b3
  rw [hσ1] at k0 k33 k12 k21
  simp only [encN, List.map_cons, List.map_nil] at k0 k33 k12 k21
  unfold ofR
  rw [hq, hr, hs, ht]
  refine x_fn (orcS (by decide)) (fc := F14) rfl rfl ?_
  by_cases h0 : cls a.k = 0 ∨ cls b.k = 0
  · have d0 : (decide (cls a.k = 0) || decide (cls b.k = 0)) = true := by simpa using h0
    rw [d0] at k0
    simp only [F14, capsOf, encLE, encL, noR, p0, zN, h0, k0, fxa, fxc, fxE, fxL, fxI, nxE, evO, evR, cellsT, ldCells, mkT, lenA, binPV, Env.init, resV, resT, frT, klT, ownT, intT, O.adds, ownA, rowsA, over, wrOk, keysT, keysA, ne_eq, if_true, if_false, ite_self, Nat.reduceLT, Nat.reduceSub, Nat.reduceBEq, Nat.reduceEqDiff, Nat.reduceAdd, Nat.reduceLeDiff, reduceCtorEq, Nat.reduceMul]
  have d0 : (decide (cls a.k = 0) || decide (cls b.k = 0)) = false := by simpa using h0
  rw [d0] at k0
  have h0a : ¬ cls a.k = 0 := fun h => h0 (.inl h)
  have h0b : ¬ cls b.k = 0 := fun h => h0 (.inr h)
  by_cases h1 : cls a.k = 4
  · simp only [F14, capsOf, encLE, encL, plainR, zN, h0a, h0b, h1, k0, ca, c8, Int.reduceEq, or_self, false_or, or_false, not_false_eq_true, not_true_eq_false, fxa, fxc, fxE, fxL, fxI, nxE, evO, evR, cellsT, ldCells, mkT, lenA, binPV, Env.init, resV, resT, frT, klT, ownT, intT, O.adds, ownA, rowsA, over, wrOk, keysT, keysA, ne_eq, if_true, if_false, ite_self, Nat.reduceLT, Nat.reduceSub, Nat.reduceBEq, Nat.reduceEqDiff, Nat.reduceAdd, Nat.reduceLeDiff, reduceCtorEq, Nat.reduceMul]
  by_cases h2 : cls b.k = 4
  · simp only [F14, capsOf, encLE, encL, plainR, zN, swapR, h0a, h0b, h1, h2, k0, ca, cb, c8, cs8, Int.reduceEq, or_self, false_or, or_false, not_false_eq_true, not_true_eq_false, fxa, fxc, fxE, fxL, fxI, nxE, evO, evR, cellsT, ldCells, mkT, lenA, binPV, Env.init, resV, resT, frT, klT, ownT, intT, O.adds, ownA, rowsA, over, wrOk, keysT, keysA, ne_eq, if_true, if_false, ite_self, Nat.reduceLT, Nat.reduceSub, Nat.reduceBEq, Nat.reduceEqDiff, Nat.reduceAdd, Nat.reduceLeDiff, reduceCtorEq, Nat.reduceMul]
  by_cases h3 : cls a.k = 3 ∧ cls b.k = 3 ∧ a.lv = b.lv ∧ a.k = b.k
  · obtain ⟨h3, h4, h5, h6⟩ := h3
    have d3 : (decide (cls a.k = 3) && decide (cls b.k = 3)) = true := by simp [h3, h4]
    rw [d3] at k33
    have h43 : ¬ (3 : Int) = 4 := by decide
    have h03 : ¬ ((3 : Int) = 0 ∨ (3 : Int) = 0) := by decide
    rw [h6] at h3 ca k0 k33
    rw [h5] at k0 k33
    simp only [F14, capsOf, encLE, encL, plainR, zN, h3, h4, h5, h6, h43, h03, k0, k33, ca, cb, c6, Int.reduceEq, or_self, false_or, or_false, not_false_eq_true, not_true_eq_false, fxa, fxc, fxE, fxL, fxI, nxE, evO, evR, cellsT, ldCells, mkT, lenA, binPV, Env.init, resV, resT, frT, klT, ownT, intT, O.adds, ownA, rowsA, over, wrOk, keysT, keysA, ne_eq, if_true, if_false, ite_self, Nat.reduceLT, Nat.reduceSub, Nat.reduceBEq, Nat.reduceEqDiff, Nat.reduceAdd, Nat.reduceLeDiff, reduceCtorEq, Nat.reduceMul]
  have d33 : ((decide (cls a.k = 3) && decide (cls b.k = 3)) = true ∧ a.lv = b.lv ∧ a.k = b.k) ↔ False := by simp; intro x y; exact fun z w => h3 ⟨x, y, z, w⟩
  obtain ⟨v33, hv33⟩ : ∃ v, (decide (cls a.k = 3) && decide (cls b.k = 3)) = v := ⟨_, rfl⟩
  rw [hv33] at k33 d33
  have g33 : ∀ {α : Type} (x y : α), (if ((decide (cls a.k = 3) && decide (cls b.k = 3)) && decide (a.lv = b.lv) && decide (a.k = b.k)) = true then x else y) = y := by
    intro α x y; rw [if_neg]; simp; intro x y; exact fun z w => h3 ⟨x, y, z, w⟩
  by_cases h4 : cls a.k = 3
  · by_cases h5 : cls b.k = 3
    · have hv : v33 = true := by rw [← hv33]; simp [h4, h5]
      rw [hv] at k33
      by_cases h6 : a.lv ≤ b.lv
      · by_cases h7 : a.lv = b.lv
        · have h8 : ¬ a.k = b.k := fun h => h3 ⟨h4, h5, h7, h⟩
          rw [h7] at k0 k33 pab
          simp only [F14, capsOf, encLE, encL, h0a, h0b, h1, h2, h4, h5, h7, h8, Int.le_refl, k0, k33, ca, cb, pab, true_or, or_true, Int.reduceEq, or_self, false_or, or_false, not_false_eq_true, not_true_eq_false, fxa, fxc, fxE, fxL, fxI, nxE, evO, evR, cellsT, ldCells, mkT, lenA, binPV, Env.init, resV, resT, frT, klT, ownT, intT, O.adds, ownA, rowsA, over, wrOk, keysT, keysA, ne_eq, if_true, if_false, ite_self, Nat.reduceLT, Nat.reduceSub, Nat.reduceBEq, Nat.reduceEqDiff, Nat.reduceAdd, Nat.reduceLeDiff, reduceCtorEq, Nat.reduceMul]
        · simp only [F14, capsOf, encLE, encL, h0a, h0b, h1, h2, h4, h5, h6, h7, k0, k33, ca, cb, pab, true_or, or_true, Int.reduceEq, or_self, false_or, or_false, not_false_eq_true, not_true_eq_false, fxa, fxc, fxE, fxL, fxI, nxE, evO, evR, cellsT, ldCells, mkT, lenA, binPV, Env.init, resV, resT, frT, klT, ownT, intT, O.adds, ownA, rowsA, over, wrOk, keysT, keysA, ne_eq, if_true, if_false, ite_self, Nat.reduceLT, Nat.reduceSub, Nat.reduceBEq, Nat.reduceEqDiff, Nat.reduceAdd, Nat.reduceLeDiff, reduceCtorEq, Nat.reduceMul]
      · have h7 : ¬ a.lv = b.lv := by omega
        simp only [F14, capsOf, encLE, encL, h0a, h0b, h1, h2, h4, h5, h6, h7, hu, k0, k33, ca, cb, pba, spba, or_self, Int.reduceEq, or_self, false_or, or_false, not_false_eq_true, not_true_eq_false, fxa, fxc, fxE, fxL, fxI, nxE, evO, evR, cellsT, ldCells, mkT, lenA, binPV, Env.init, resV, resT, frT, klT, ownT, intT, O.adds, ownA, rowsA, over, wrOk, keysT, keysA, ne_eq, if_true, if_false, ite_self, Nat.reduceLT, Nat.reduceSub, Nat.reduceBEq, Nat.reduceEqDiff, Nat.reduceAdd, Nat.reduceLeDiff, reduceCtorEq, Nat.reduceMul]
    · have hv : v33 = false := by rw [← hv33]; simp [h5]
      rw [hv] at k33
      simp only [F14, capsOf, encLE, encL, h0a, h0b, h1, h2, h4, h5, k0, k33, ca, cb, pab, true_or, or_true, Int.reduceEq, or_self, false_or, or_false, not_false_eq_true, not_true_eq_false, fxa, fxc, fxE, fxL, fxI, nxE, evO, evR, cellsT, ldCells, mkT, lenA, binPV, Env.init, resV, resT, frT, klT, ownT, intT, O.adds, ownA, rowsA, over, wrOk, keysT, keysA, ne_eq, if_true, if_false, ite_self, Nat.reduceLT, Nat.reduceSub, Nat.reduceBEq, Nat.reduceEqDiff, Nat.reduceAdd, Nat.reduceLeDiff, reduceCtorEq, Nat.reduceMul]
  · have hv : v33 = false := by rw [← hv33]; simp [h4]
    rw [hv] at k33
    by_cases h5 : cls b.k = 3
    · simp only [F14, capsOf, encLE, encL, h0a, h0b, h1, h2, h4, h5, hu, k0, k33, ca, cb, pba, spba, or_self, Int.reduceEq, or_self, false_or, or_false, not_false_eq_true, not_true_eq_false, fxa, fxc, fxE, fxL, fxI, nxE, evO, evR, cellsT, ldCells, mkT, lenA, binPV, Env.init, resV, resT, frT, klT, ownT, intT, O.adds, ownA, rowsA, over, wrOk, keysT, keysA, ne_eq, if_true, if_false, ite_self, Nat.reduceLT, Nat.reduceSub, Nat.reduceBEq, Nat.reduceEqDiff, Nat.reduceAdd, Nat.reduceLeDiff, reduceCtorEq, Nat.reduceMul]
    by_cases h6 : cls a.k = 1 ∧ cls b.k = 2
    · have d6 : (decide (cls a.k = 1) && decide (cls b.k = 2)) = true := by simpa using h6
      rw [d6] at k12
      simp only [F14, capsOf, encLE, encL, h0a, h0b, h1, h2, h4, h5, h6, k0, k33, k12, ca, cb, aab, Int.reduceEq, or_self, false_or, or_false, not_false_eq_true, not_true_eq_false, fxa, fxc, fxE, fxL, fxI, nxE, evO, evR, cellsT, ldCells, mkT, lenA, binPV, Env.init, resV, resT, frT, klT, ownT, intT, O.adds, ownA, rowsA, over, wrOk, keysT, keysA, ne_eq, if_true, if_false, ite_self, Nat.reduceLT, Nat.reduceSub, Nat.reduceBEq, Nat.reduceEqDiff, Nat.reduceAdd, Nat.reduceLeDiff, reduceCtorEq, Nat.reduceMul]
    have d6 : (decide (cls a.k = 1) && decide (cls b.k = 2)) = false := by simpa using h6
    rw [d6] at k12
    by_cases h7 : cls a.k = 2 ∧ cls b.k = 1
    · have d7 : (decide (cls a.k = 2) && decide (cls b.k = 1)) = true := by simpa using h7
      rw [d7] at k21
      simp only [F14, capsOf, encLE, encL, h0a, h0b, h1, h2, h4, h5, h6, h7, hw, k0, k33, k12, k21, ca, cb, aba, saba, Int.reduceEq, or_self, false_or, or_false, not_false_eq_true, not_true_eq_false, fxa, fxc, fxE, fxL, fxI, nxE, evO, evR, cellsT, ldCells, mkT, lenA, binPV, Env.init, resV, resT, frT, klT, ownT, intT, O.adds, ownA, rowsA, over, wrOk, keysT, keysA, ne_eq, if_true, if_false, ite_self, Nat.reduceLT, Nat.reduceSub, Nat.reduceBEq, Nat.reduceEqDiff, Nat.reduceAdd, Nat.reduceLeDiff, reduceCtorEq, Nat.reduceMul]
    · have d7 : (decide (cls a.k = 2) && decide (cls b.k = 1)) = false := by simpa using h7
      rw [d7] at k21
      simp only [F14, capsOf, encLE, encL, noR, p0, zN, h0a, h0b, h1, h2, h4, h5, h6, h7, k0, k33, k12, k21, ca, cb, Int.reduceEq, or_self, false_or, or_false, not_false_eq_true, not_true_eq_false, fxa, fxc, fxE, fxL, fxI, nxE, evO, evR, cellsT, ldCells, mkT, lenA, binPV, Env.init, resV, resT, frT, klT, ownT, intT, O.adds, ownA, rowsA, over, wrOk, keysT, keysA, ne_eq, if_true, if_false, ite_self, Nat.reduceLT, Nat.reduceSub, Nat.reduceBEq, Nat.reduceEqDiff, Nat.reduceAdd, Nat.reduceLeDiff, reduceCtorEq, Nat.reduceMul]

def oth (x : Nd) : Int := max (wr ((x.to.length : Int) - 1)) 0
theorem others_ok (x : Nd) : eP S 40 [.g (encN x)] = some (.a (.i .i64 (oth x))) := by
  refine x_fn (orcS (by decide)) (fc := F40) rfl rfl ?_
  have hm : (if (0 : Int) > IntKind.i64.wrap ((x.to.length : Int) - 1) then 0 else IntKind.i64.wrap ((x.to.length : Int) - 1)) = oth x := by unfold oth wr; omega
  simp only [F40, hm, fxa, fxc, fxE, fxL, fxI, nxE, evO, evR, cellsT, ldCells, mkT, lenA, binPV, Env.init, resV, resT, frT, klT, ownT, intT, O.adds, ownA, rowsA, over, wrOk, keysT, keysA, ne_eq, if_true, if_false, ite_self, Nat.reduceLT, Nat.reduceSub, Nat.reduceBEq, Nat.reduceEqDiff, Nat.reduceAdd, Nat.reduceLeDiff, reduceCtorEq, Nat.reduceMul]
end Go.Proofs.Ytomcceambpneiaa
