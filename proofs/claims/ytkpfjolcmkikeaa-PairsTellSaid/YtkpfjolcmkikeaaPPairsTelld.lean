/- Part 4 of what is proved for the law PairsTell: it returns true, whatever the input. No condition. -/
import Derived.Test.YtkpfjolcmkikeaaChecked
import Derived.Test.YtkpfjolcmkikeaaRows
import Derived.Test.YtkpfjolcmkikeaaPPairsTellc
section
set_option linter.unusedSimpArgs false
set_option linter.unusedVariables false
set_option maxHeartbeats 4000000
set_option maxRecDepth 10000
namespace Go.Proofs.Ytkpfjolcmkikeaa
open Go.Fx
structure Pl where
  k : Int
  sw : Bool
  lv : Int
  alt : Int
  nd : Nd
  deriving DecidableEq
def encL (p : Pl) : List PV := [.i .i64 p.k, .b p.sw, .i .i64 p.lv, .i .i64 p.alt, .i .i64 p.nd.k, .i .i64 p.nd.lv, .i .i64 p.nd.n, .s p.nd.s, .l (p.nd.al.map encA), .l (p.nd.to.map encP)]
def encLE (x : Pl × Int) : PT := .t [(true, encL x.1), (false, [.i .i64 x.2])]
def p0 : Pl := ⟨0, false, 0, 0, zN⟩
def plainR (k : Int) : Pl × Int := (⟨k, false, 0, 0, zN⟩, 0)
def noR (e : Int) : Pl × Int := (p0, e)
def swapR (x : Pl × Int) : Pl × Int := if x.2 = 0 then (⟨x.1.k, true, x.1.lv, x.1.alt, x.1.nd⟩, 0) else x
def cls (k : Int) : Int := if k = 3 ∨ k = 9 ∨ k = 11 ∨ k = 12 then 1 else if k = 2 ∨ k = 8 ∨ k = 10 ∨ k = 13 then 2 else if k = 4 ∨ k = 5 ∨ k = 6 then 3 else if k = 7 then 4 else 0
def wr (i : Int) : Int := IntKind.i64.wrap i
def passLv (x y : Nd) : Int := if x.k = 5 then wr (y.lv - 1) else if x.k = 6 then wr (y.lv + 1) else y.lv
def passR (x y : Nd) : Pl × Int := if x.lv ≥ y.lv then noR 140 else if passLv x y > 60 then noR 141 else (⟨7, false, passLv x y, 0, zN⟩, 0)
def pickIx (x y : Nd) : Int := idx (fun a => decide (a.s = y.s) && decide (a.n = wr (y.to.length - 1))) x.al
def pickR (x y : Nd) : Pl × Int := if x.lv ≠ y.lv then noR 140 else if pickIx x y < 0 then plainR 5 else (⟨2, false, 0, pickIx x y, zN⟩, 0)
def truthN (b : Bool) : Nd := ⟨8, 0, 0, if b then [84, 114, 117, 101] else [70, 97, 108, 115, 101], [], [zP]⟩
def outN (x y : Nd) : Nd :=
  if x.s = [43] then ⟨10, 0, wr (x.n + y.n), [], [], []⟩ else if x.s = [45] then ⟨10, 0, wr (x.n - y.n), [], [], []⟩ else if x.s = [42] then ⟨10, 0, wr (x.n * y.n), [], [], []⟩
  else if x.s = [47] then ⟨10, 0, wr (x.n.tdiv y.n), [], [], []⟩ else if x.s = [60] then truthN (decide (x.n < y.n)) else if x.s = [61, 61] then truthN (decide (x.n = y.n)) else ⟨10, 0, 0, [], [], []⟩
def outR (x y : Nd) : Pl × Int := if x.s = [47] ∧ y.n = 0 then plainR 5 else (⟨4, false, 0, 0, { outN x y with lv := x.lv }⟩, 0)
def askR (x y : Nd) : Pl × Int :=
  if x.k = 3 ∧ y.k = 2 then (if x.lv ≠ y.lv then noR 140 else plainR 1) else if x.k = 9 ∧ y.k = 8 then pickR x y else if x.k = 11 ∧ y.k = 10 then plainR 3 else if x.k = 12 ∧ y.k = 10 then outR x y else plainR 5
def ofR (a b : Nd) : Pl × Int :=
  if cls a.k = 0 ∨ cls b.k = 0 then noR 140 else if cls a.k = 4 then plainR 8 else if cls b.k = 4 then swapR (plainR 8)
  else if cls a.k = 3 ∧ cls b.k = 3 ∧ a.lv = b.lv ∧ a.k = b.k then plainR 6
  else if cls a.k = 3 ∧ (cls b.k ≠ 3 ∨ a.lv ≤ b.lv) then passR a b
  else if cls b.k = 3 then swapR (passR b a) else if cls a.k = 1 ∧ cls b.k = 2 then askR a b else if cls a.k = 2 ∧ cls b.k = 1 then swapR (askR b a) else noR 140
theorem class_ok (k : Int) : eP S 97 [.a (.i .i64 k)] = some (.a (.i .i64 (cls k))) := by
  refine x_fn (orcS (by decide)) (fc := F97) rfl rfl ?_
  unfold cls
  by_cases h1 : k = 3
  · simp only [F97, h1, Int.reduceEq, or_true, true_or, or_false, false_or, fxa, fxc, fxE, fxL, fxI, nxE, evO, evR, cellsT, ldCells, mkT, lenA, binPV, Env.init, resV, resT, frT, klT, ownT, intT, O.adds, ownA, rowsA, over, wrOk, keysT, keysA, ne_eq, if_true, if_false, ite_self, Nat.reduceLT, Nat.reduceSub, Nat.reduceBEq, Nat.reduceEqDiff, Nat.reduceAdd, Nat.reduceLeDiff, reduceCtorEq, Nat.reduceMul]
  by_cases h2 : k = 9
  · simp only [F97, h2, Int.reduceEq, or_true, true_or, or_false, false_or, fxa, fxc, fxE, fxL, fxI, nxE, evO, evR, cellsT, ldCells, mkT, lenA, binPV, Env.init, resV, resT, frT, klT, ownT, intT, O.adds, ownA, rowsA, over, wrOk, keysT, keysA, ne_eq, if_true, if_false, ite_self, Nat.reduceLT, Nat.reduceSub, Nat.reduceBEq, Nat.reduceEqDiff, Nat.reduceAdd, Nat.reduceLeDiff, reduceCtorEq, Nat.reduceMul]
  by_cases h3 : k = 11
  · simp only [F97, h3, Int.reduceEq, or_true, true_or, or_false, false_or, fxa, fxc, fxE, fxL, fxI, nxE, evO, evR, cellsT, ldCells, mkT, lenA, binPV, Env.init, resV, resT, frT, klT, ownT, intT, O.adds, ownA, rowsA, over, wrOk, keysT, keysA, ne_eq, if_true, if_false, ite_self, Nat.reduceLT, Nat.reduceSub, Nat.reduceBEq, Nat.reduceEqDiff, Nat.reduceAdd, Nat.reduceLeDiff, reduceCtorEq, Nat.reduceMul]
  by_cases h4 : k = 12
  · simp only [F97, h4, Int.reduceEq, or_true, true_or, or_false, false_or, fxa, fxc, fxE, fxL, fxI, nxE, evO, evR, cellsT, ldCells, mkT, lenA, binPV, Env.init, resV, resT, frT, klT, ownT, intT, O.adds, ownA, rowsA, over, wrOk, keysT, keysA, ne_eq, if_true, if_false, ite_self, Nat.reduceLT, Nat.reduceSub, Nat.reduceBEq, Nat.reduceEqDiff, Nat.reduceAdd, Nat.reduceLeDiff, reduceCtorEq, Nat.reduceMul]
  by_cases h5 : k = 2
  · simp only [F97, h5, Int.reduceEq, or_true, true_or, or_false, false_or, or_self, fxa, fxc, fxE, fxL, fxI, nxE, evO, evR, cellsT, ldCells, mkT, lenA, binPV, Env.init, resV, resT, frT, klT, ownT, intT, O.adds, ownA, rowsA, over, wrOk, keysT, keysA, ne_eq, if_true, if_false, ite_self, Nat.reduceLT, Nat.reduceSub, Nat.reduceBEq, Nat.reduceEqDiff, Nat.reduceAdd, Nat.reduceLeDiff, reduceCtorEq, Nat.reduceMul]
  by_cases h6 : k = 8
  · simp only [F97, h6, Int.reduceEq, or_true, true_or, or_false, false_or, or_self, fxa, fxc, fxE, fxL, fxI, nxE, evO, evR, cellsT, ldCells, mkT, lenA, binPV, Env.init, resV, resT, frT, klT, ownT, intT, O.adds, ownA, rowsA, over, wrOk, keysT, keysA, ne_eq, if_true, if_false, ite_self, Nat.reduceLT, Nat.reduceSub, Nat.reduceBEq, Nat.reduceEqDiff, Nat.reduceAdd, Nat.reduceLeDiff, reduceCtorEq, Nat.reduceMul]
  by_cases h7 : k = 10
  · simp only [F97, h7, Int.reduceEq, or_true, true_or, or_false, false_or, or_self, fxa, fxc, fxE, fxL, fxI, nxE, evO, evR, cellsT, ldCells, mkT, lenA, binPV, Env.init, resV, resT, frT, klT, ownT, intT, O.adds, ownA, rowsA, over, wrOk, keysT, keysA, ne_eq, if_true, if_false, ite_self, Nat.reduceLT, Nat.reduceSub, Nat.reduceBEq, Nat.reduceEqDiff, Nat.reduceAdd, Nat.reduceLeDiff, reduceCtorEq, Nat.reduceMul]
  by_cases h8 : k = 13
  · simp only [F97, h8, Int.reduceEq, or_true, true_or, or_false, false_or, or_self, fxa, fxc, fxE, fxL, fxI, nxE, evO, evR, cellsT, ldCells, mkT, lenA, binPV, Env.init, resV, resT, frT, klT, ownT, intT, O.adds, ownA, rowsA, over, wrOk, keysT, keysA, ne_eq, if_true, if_false, ite_self, Nat.reduceLT, Nat.reduceSub, Nat.reduceBEq, Nat.reduceEqDiff, Nat.reduceAdd, Nat.reduceLeDiff, reduceCtorEq, Nat.reduceMul]
  by_cases h9 : k = 4
  · simp only [F97, h9, Int.reduceEq, or_true, true_or, or_false, false_or, or_self, fxa, fxc, fxE, fxL, fxI, nxE, evO, evR, cellsT, ldCells, mkT, lenA, binPV, Env.init, resV, resT, frT, klT, ownT, intT, O.adds, ownA, rowsA, over, wrOk, keysT, keysA, ne_eq, if_true, if_false, ite_self, Nat.reduceLT, Nat.reduceSub, Nat.reduceBEq, Nat.reduceEqDiff, Nat.reduceAdd, Nat.reduceLeDiff, reduceCtorEq, Nat.reduceMul]
  by_cases h10 : k = 5
  · simp only [F97, h10, Int.reduceEq, or_true, true_or, or_false, false_or, or_self, fxa, fxc, fxE, fxL, fxI, nxE, evO, evR, cellsT, ldCells, mkT, lenA, binPV, Env.init, resV, resT, frT, klT, ownT, intT, O.adds, ownA, rowsA, over, wrOk, keysT, keysA, ne_eq, if_true, if_false, ite_self, Nat.reduceLT, Nat.reduceSub, Nat.reduceBEq, Nat.reduceEqDiff, Nat.reduceAdd, Nat.reduceLeDiff, reduceCtorEq, Nat.reduceMul]
  by_cases h11 : k = 6
  · simp only [F97, h11, Int.reduceEq, or_true, true_or, or_false, false_or, or_self, fxa, fxc, fxE, fxL, fxI, nxE, evO, evR, cellsT, ldCells, mkT, lenA, binPV, Env.init, resV, resT, frT, klT, ownT, intT, O.adds, ownA, rowsA, over, wrOk, keysT, keysA, ne_eq, if_true, if_false, ite_self, Nat.reduceLT, Nat.reduceSub, Nat.reduceBEq, Nat.reduceEqDiff, Nat.reduceAdd, Nat.reduceLeDiff, reduceCtorEq, Nat.reduceMul]
  by_cases h12 : k = 7
  · simp only [F97, h12, Int.reduceEq, or_true, true_or, or_false, false_or, or_self, fxa, fxc, fxE, fxL, fxI, nxE, evO, evR, cellsT, ldCells, mkT, lenA, binPV, Env.init, resV, resT, frT, klT, ownT, intT, O.adds, ownA, rowsA, over, wrOk, keysT, keysA, ne_eq, if_true, if_false, ite_self, Nat.reduceLT, Nat.reduceSub, Nat.reduceBEq, Nat.reduceEqDiff, Nat.reduceAdd, Nat.reduceLeDiff, reduceCtorEq, Nat.reduceMul]
  · simp only [F97, h1, h2, h3, h4, h5, h6, h7, h8, h9, h10, h11, h12, or_self, fxa, fxc, fxE, fxL, fxI, nxE, evO, evR, cellsT, ldCells, mkT, lenA, binPV, Env.init, resV, resT, frT, klT, ownT, intT, O.adds, ownA, rowsA, over, wrOk, keysT, keysA, ne_eq, if_true, if_false, ite_self, Nat.reduceLT, Nat.reduceSub, Nat.reduceBEq, Nat.reduceEqDiff, Nat.reduceAdd, Nat.reduceLeDiff, reduceCtorEq, Nat.reduceMul]
theorem plain_ok (k : Int) : eP S 99 [.a (.i .i64 k)] = some (encLE (plainR k)) := by
  refine x_fn (orcS (by decide)) (fc := F99) rfl rfl ?_
  simp only [F99, encLE, encL, plainR, zN, fxa, fxc, fxE, fxL, fxI, nxE, evO, evR, cellsT, ldCells, mkT, lenA, binPV, Env.init, resV, resT, frT, klT, ownT, intT, O.adds, ownA, rowsA, over, wrOk, keysT, keysA, ne_eq, if_true, if_false, ite_self, Nat.reduceLT, Nat.reduceSub, Nat.reduceBEq, Nat.reduceEqDiff, Nat.reduceAdd, Nat.reduceLeDiff, reduceCtorEq, Nat.reduceMul]
theorem swapped_ok (x : Pl × Int) : eP S 100 [.g (encL x.1), .a (.i .i64 x.2)] = some (encLE (swapR x)) := by
  refine x_fn (orcS (by decide)) (fc := F100) rfl rfl ?_
  unfold swapR
  by_cases h : x.2 = 0
  · simp only [F100, encLE, encL, h, fxa, fxc, fxE, fxL, fxI, nxE, evO, evR, cellsT, ldCells, mkT, lenA, binPV, Env.init, resV, resT, frT, klT, ownT, intT, O.adds, ownA, rowsA, over, wrOk, keysT, keysA, ne_eq, if_true, if_false, ite_self, Nat.reduceLT, Nat.reduceSub, Nat.reduceBEq, Nat.reduceEqDiff, Nat.reduceAdd, Nat.reduceLeDiff, reduceCtorEq, Nat.reduceMul]
  · simp only [F100, encLE, encL, h, fxa, fxc, fxE, fxL, fxI, nxE, evO, evR, cellsT, ldCells, mkT, lenA, binPV, Env.init, resV, resT, frT, klT, ownT, intT, O.adds, ownA, rowsA, over, wrOk, keysT, keysA, ne_eq, if_true, if_false, ite_self, Nat.reduceLT, Nat.reduceSub, Nat.reduceBEq, Nat.reduceEqDiff, Nat.reduceAdd, Nat.reduceLeDiff, reduceCtorEq, Nat.reduceMul]
theorem pass_ok (x y : Nd) : eP S 101 [.g (encN x), .g (encN y)] = some (encLE (passR x y)) := by
  refine x_fn (orcS (by decide)) (fc := F101) rfl rfl ?_
  unfold passR passLv wr
  by_cases h5 : x.k = 5
  · by_cases h1 : x.lv ≥ y.lv
    · simp only [F101, encLE, encL, noR, p0, zN, h5, h1, fxa, fxc, fxE, fxL, fxI, nxE, evO, evR, cellsT, ldCells, mkT, lenA, binPV, Env.init, resV, resT, frT, klT, ownT, intT, O.adds, ownA, rowsA, over, wrOk, keysT, keysA, ne_eq, if_true, if_false, ite_self, Nat.reduceLT, Nat.reduceSub, Nat.reduceBEq, Nat.reduceEqDiff, Nat.reduceAdd, Nat.reduceLeDiff, reduceCtorEq, Nat.reduceMul]
    · by_cases h2 : IntKind.i64.wrap (y.lv - 1) > 60
      · simp only [F101, encLE, encL, noR, p0, zN, h5, h1, h2, fxa, fxc, fxE, fxL, fxI, nxE, evO, evR, cellsT, ldCells, mkT, lenA, binPV, Env.init, resV, resT, frT, klT, ownT, intT, O.adds, ownA, rowsA, over, wrOk, keysT, keysA, ne_eq, if_true, if_false, ite_self, Nat.reduceLT, Nat.reduceSub, Nat.reduceBEq, Nat.reduceEqDiff, Nat.reduceAdd, Nat.reduceLeDiff, reduceCtorEq, Nat.reduceMul]
      · simp only [F101, encLE, encL, noR, p0, zN, h5, h1, h2, fxa, fxc, fxE, fxL, fxI, nxE, evO, evR, cellsT, ldCells, mkT, lenA, binPV, Env.init, resV, resT, frT, klT, ownT, intT, O.adds, ownA, rowsA, over, wrOk, keysT, keysA, ne_eq, if_true, if_false, ite_self, Nat.reduceLT, Nat.reduceSub, Nat.reduceBEq, Nat.reduceEqDiff, Nat.reduceAdd, Nat.reduceLeDiff, reduceCtorEq, Nat.reduceMul]
  by_cases h6 : x.k = 6
  · by_cases h1 : x.lv ≥ y.lv
    · simp only [F101, encLE, encL, noR, p0, zN, h6, h1, Int.reduceEq, fxa, fxc, fxE, fxL, fxI, nxE, evO, evR, cellsT, ldCells, mkT, lenA, binPV, Env.init, resV, resT, frT, klT, ownT, intT, O.adds, ownA, rowsA, over, wrOk, keysT, keysA, ne_eq, if_true, if_false, ite_self, Nat.reduceLT, Nat.reduceSub, Nat.reduceBEq, Nat.reduceEqDiff, Nat.reduceAdd, Nat.reduceLeDiff, reduceCtorEq, Nat.reduceMul]
    · by_cases h2 : IntKind.i64.wrap (y.lv + 1) > 60
      · simp only [F101, encLE, encL, noR, p0, zN, h6, h1, h2, Int.reduceEq, fxa, fxc, fxE, fxL, fxI, nxE, evO, evR, cellsT, ldCells, mkT, lenA, binPV, Env.init, resV, resT, frT, klT, ownT, intT, O.adds, ownA, rowsA, over, wrOk, keysT, keysA, ne_eq, if_true, if_false, ite_self, Nat.reduceLT, Nat.reduceSub, Nat.reduceBEq, Nat.reduceEqDiff, Nat.reduceAdd, Nat.reduceLeDiff, reduceCtorEq, Nat.reduceMul]
      · simp only [F101, encLE, encL, noR, p0, zN, h6, h1, h2, Int.reduceEq, fxa, fxc, fxE, fxL, fxI, nxE, evO, evR, cellsT, ldCells, mkT, lenA, binPV, Env.init, resV, resT, frT, klT, ownT, intT, O.adds, ownA, rowsA, over, wrOk, keysT, keysA, ne_eq, if_true, if_false, ite_self, Nat.reduceLT, Nat.reduceSub, Nat.reduceBEq, Nat.reduceEqDiff, Nat.reduceAdd, Nat.reduceLeDiff, reduceCtorEq, Nat.reduceMul]
  by_cases h1 : x.lv ≥ y.lv
  · simp only [F101, encLE, encL, noR, p0, zN, h5, h6, h1, Int.reduceEq, fxa, fxc, fxE, fxL, fxI, nxE, evO, evR, cellsT, ldCells, mkT, lenA, binPV, Env.init, resV, resT, frT, klT, ownT, intT, O.adds, ownA, rowsA, over, wrOk, keysT, keysA, ne_eq, if_true, if_false, ite_self, Nat.reduceLT, Nat.reduceSub, Nat.reduceBEq, Nat.reduceEqDiff, Nat.reduceAdd, Nat.reduceLeDiff, reduceCtorEq, Nat.reduceMul]
  · by_cases h2 : y.lv > 60
    · simp only [F101, encLE, encL, noR, p0, zN, h5, h6, h1, h2, Int.reduceEq, fxa, fxc, fxE, fxL, fxI, nxE, evO, evR, cellsT, ldCells, mkT, lenA, binPV, Env.init, resV, resT, frT, klT, ownT, intT, O.adds, ownA, rowsA, over, wrOk, keysT, keysA, ne_eq, if_true, if_false, ite_self, Nat.reduceLT, Nat.reduceSub, Nat.reduceBEq, Nat.reduceEqDiff, Nat.reduceAdd, Nat.reduceLeDiff, reduceCtorEq, Nat.reduceMul]
    · simp only [F101, encLE, encL, noR, p0, zN, h5, h6, h1, h2, Int.reduceEq, fxa, fxc, fxE, fxL, fxI, nxE, evO, evR, cellsT, ldCells, mkT, lenA, binPV, Env.init, resV, resT, frT, klT, ownT, intT, O.adds, ownA, rowsA, over, wrOk, keysT, keysA, ne_eq, if_true, if_false, ite_self, Nat.reduceLT, Nat.reduceSub, Nat.reduceBEq, Nat.reduceEqDiff, Nat.reduceAdd, Nat.reduceLeDiff, reduceCtorEq, Nat.reduceMul]
theorem pick1_ok (a : Ar) (y : Nd) (k : Key) (σ : St) (hk : σ.bs k = some (.var ((encN y).map .p))) (hlt : k.2 < σ.clk) :
    eS S (.f 150) [.g ((encA a).map .p), .a (.ptr k 0 0)] σ = some (.a (.p (.b (decide (a.s = y.s) && decide (a.n = wr (y.to.length - 1))))), σ.add 2 (.var ((encA a).map .p))) := by
  have hne : ¬ k = (2, σ.clk) := by rintro rfl; exact Nat.lt_irrefl _ hlt
  simp only [encN, List.map_cons, List.map_nil] at hk
  refine x_fnX (fc := F150) rfl rfl ?_
  unfold wr
  cases h1 : decide (a.s = y.s) with
  | false => simp only [F150, hk, hne, h1, fxa, fxc, fxE, fxL, fxI, nxE, evO, evR, cellsT, ldCells, mkT, lenA, binPV, Env.init, resV, resT, frT, klT, ownT, intT, O.adds, ownA, rowsA, over, wrOk, keysT, keysA, ne_eq, if_true, if_false, ite_self, Nat.reduceLT, Nat.reduceSub, Nat.reduceBEq, Nat.reduceEqDiff, Nat.reduceAdd, Nat.reduceLeDiff, reduceCtorEq, Nat.reduceMul]
  | true => simp only [F150, hk, hne, h1, fxa, fxc, fxE, fxL, fxI, nxE, evO, evR, cellsT, ldCells, mkT, lenA, binPV, Env.init, resV, resT, frT, klT, ownT, intT, O.adds, ownA, rowsA, over, wrOk, keysT, keysA, ne_eq, if_true, if_false, ite_self, Nat.reduceLT, Nat.reduceSub, Nat.reduceBEq, Nat.reduceEqDiff, Nat.reduceAdd, Nat.reduceLeDiff, reduceCtorEq, Nat.reduceMul]
theorem pick_ok {x y : Nd} (hx : x.Ok) : eP S 131 [.g (encN x), .g (encN y)] = some (encLE (pickR x y)) := by
  refine x_fn (orcS (by decide)) (fc := F131) rfl rfl ?_
  have c5 := plain_ok 5
  unfold pickR
  by_cases h1 : x.lv = y.lv
  case neg => simp only [F131, encLE, encL, noR, p0, zN, h1, fxa, fxc, fxE, fxL, fxI, nxE, evO, evR, cellsT, ldCells, mkT, lenA, binPV, Env.init, resV, resT, frT, klT, ownT, intT, O.adds, ownA, rowsA, over, wrOk, keysT, keysA, ne_eq, if_true, if_false, ite_self, Nat.reduceLT, Nat.reduceSub, Nat.reduceBEq, Nat.reduceEqDiff, Nat.reduceAdd, Nat.reduceLeDiff, reduceCtorEq, Nat.reduceMul]
  obtain ⟨σ0, hσ0⟩ : ∃ σ0, σ0 = ((St.empty.add 2 (.var ((encN x).map .p))).add 3 (.var ((encN y).map .p))).add 4 (.var [.p (.i .i64 0), .p (.b false), .p (.i .i64 0), .p (.i .i64 0), .p (.i .i64 0), .p (.i .i64 0), .p (.i .i64 0), .p (.s []), .nil, .nil]) := ⟨_, rfl⟩
  obtain ⟨σ1, hcall, h4, h5⟩ := indexA_ok x.al hx.al 150 [(3, 1)] (by simp) (by decide) (fun a => decide (a.s = y.s) && decide (a.n = wr (y.to.length - 1))) (fun σ => (σ.bs (3, 1) = some (.var ((encN y).map .p)) ∧ 2 ≤ σ.clk) ∧ σ.bs (4, 2) = some (.var [.p (.i .i64 0), .p (.b false), .p (.i .i64 0), .p (.i .i64 0), .p (.i .i64 0), .p (.i .i64 0), .p (.i .i64 0), .p (.s []), .nil, .nil]))
    (fun a σ hσ => ⟨_, pick1_ok a y (3, 1) σ hσ.1.1 (by have := hσ.1.2; simp; omega), by
      refine ⟨⟨?_, ?_⟩, ?_⟩
      · simp only [add_bs]; rw [if_neg (by simp)]; exact hσ.1.1
      · simp only [add_clk]; have := hσ.1.2; omega
      · simp only [add_bs]; rw [if_neg (by simp)]; exact hσ.2⟩) σ0 (by rw [hσ0]; refine ⟨⟨?_, ?_⟩, ?_⟩ <;> simp [add_bs, add_clk, empty_clk])
  rw [hσ0] at hcall
  have hcall : eS S (.f 149) [.a (.p (.l (x.al.map encA))), .a (.fn 150 [(3, 1)])] _ = some (.a (.p (.i .i64 (pickIx x y))), σ1) := hcall
  simp only [encN, List.map_cons, List.map_nil, h1] at hcall h4
  simp only [encLE, encL, plainR, zN, List.map_nil] at c5
  by_cases h2 : pickIx x y < 0
  · simp only [F131, encLE, encL, noR, plainR, p0, zN, h1, capsOf, hcall, h2, h4, h5, c5, not_true_eq_false, fxa, fxc, fxE, fxL, fxI, nxE, evO, evR, cellsT, ldCells, mkT, lenA, binPV, Env.init, resV, resT, frT, klT, ownT, intT, O.adds, ownA, rowsA, over, wrOk, keysT, keysA, ne_eq, if_true, if_false, ite_self, Nat.reduceLT, Nat.reduceSub, Nat.reduceBEq, Nat.reduceEqDiff, Nat.reduceAdd, Nat.reduceLeDiff, reduceCtorEq, Nat.reduceMul]
  · simp only [F131, encLE, encL, noR, plainR, p0, zN, h1, capsOf, hcall, h2, h4, h5, c5, not_true_eq_false, fxa, fxc, fxE, fxL, fxI, nxE, evO, evR, cellsT, ldCells, mkT, lenA, binPV, Env.init, resV, resT, frT, klT, ownT, intT, O.adds, ownA, rowsA, over, wrOk, keysT, keysA, ne_eq, if_true, if_false, ite_self, Nat.reduceLT, Nat.reduceSub, Nat.reduceBEq, Nat.reduceEqDiff, Nat.reduceAdd, Nat.reduceLeDiff, reduceCtorEq, Nat.reduceMul]
theorem truth_ok (b : Bool) : eP S 151 [.a (.b b)] = some (.g (encN (truthN b))) := by
  refine x_fn (orcS (by decide)) (fc := F151) rfl rfl ?_
  unfold truthN
  cases b
  · simp only [F151, zP, Int.reduceLE, Int.reduceMul, Int.reduceToNat, Int.cast_ofNat_Int, fxa, fxc, fxE, fxL, fxI, nxE, evO, evR, cellsT, ldCells, mkT, lenA, binPV, Env.init, resV, resT, frT, klT, ownT, intT, O.adds, ownA, rowsA, over, wrOk, keysT, keysA, ne_eq, if_true, if_false, ite_self, Nat.reduceLT, Nat.reduceSub, Nat.reduceBEq, Nat.reduceEqDiff, Nat.reduceAdd, Nat.reduceLeDiff, reduceCtorEq, Nat.reduceMul]
  · simp only [F151, zP, Int.reduceLE, Int.reduceMul, Int.reduceToNat, Int.cast_ofNat_Int, fxa, fxc, fxE, fxL, fxI, nxE, evO, evR, cellsT, ldCells, mkT, lenA, binPV, Env.init, resV, resT, frT, klT, ownT, intT, O.adds, ownA, rowsA, over, wrOk, keysT, keysA, ne_eq, if_true, if_false, ite_self, Nat.reduceLT, Nat.reduceSub, Nat.reduceBEq, Nat.reduceEqDiff, Nat.reduceAdd, Nat.reduceLeDiff, reduceCtorEq, Nat.reduceMul]
theorem nmU : ((43 : UInt8) = 45) = False ∧ ((43 : UInt8) = 42) = False ∧ ((43 : UInt8) = 47) = False ∧ ((43 : UInt8) = 60) = False ∧ ((43 : UInt8) = 61) = False ∧ ((45 : UInt8) = 43) = False ∧ ((45 : UInt8) = 42) = False ∧ ((45 : UInt8) = 47) = False ∧ ((45 : UInt8) = 60) = False ∧ ((45 : UInt8) = 61) = False ∧ ((42 : UInt8) = 43) = False ∧ ((42 : UInt8) = 45) = False ∧ ((42 : UInt8) = 47) = False ∧ ((42 : UInt8) = 60) = False ∧ ((42 : UInt8) = 61) = False ∧ ((47 : UInt8) = 43) = False ∧ ((47 : UInt8) = 45) = False ∧ ((47 : UInt8) = 42) = False ∧ ((47 : UInt8) = 60) = False ∧ ((47 : UInt8) = 61) = False ∧ ((60 : UInt8) = 43) = False ∧ ((60 : UInt8) = 45) = False ∧ ((60 : UInt8) = 42) = False ∧ ((60 : UInt8) = 47) = False ∧ ((60 : UInt8) = 61) = False ∧ ((61 : UInt8) = 43) = False ∧ ((61 : UInt8) = 45) = False ∧ ((61 : UInt8) = 42) = False ∧ ((61 : UInt8) = 47) = False ∧ ((61 : UInt8) = 60) = False :=
  ⟨eq_false (by decide), eq_false (by decide), eq_false (by decide), eq_false (by decide), eq_false (by decide), eq_false (by decide), eq_false (by decide), eq_false (by decide), eq_false (by decide), eq_false (by decide), eq_false (by decide), eq_false (by decide), eq_false (by decide), eq_false (by decide), eq_false (by decide), eq_false (by decide), eq_false (by decide), eq_false (by decide), eq_false (by decide), eq_false (by decide), eq_false (by decide), eq_false (by decide), eq_false (by decide), eq_false (by decide), eq_false (by decide), eq_false (by decide), eq_false (by decide), eq_false (by decide), eq_false (by decide), eq_false (by decide)⟩
theorem out_ok (x y : Nd) : eP S 132 [.g (encN x), .g (encN y)] = some (encLE (outR x y)) := by
  refine x_fn (orcS (by decide)) (fc := F132) rfl rfl ?_
  have c5 := plain_ok 5
  have t1 := truth_ok (decide (x.n < y.n))
  have t2 := truth_ok (decide (x.n = y.n))
  unfold outR outN
  simp only [encN, truthN, zP, encP, List.map_cons, List.map_nil] at t1 t2
  obtain ⟨n1, hn1⟩ : ∃ b, decide (x.n < y.n) = b := ⟨_, rfl⟩
  obtain ⟨n2, hn2⟩ : ∃ b, decide (x.n = y.n) = b := ⟨_, rfl⟩
  rw [hn1] at t1 ⊢
  rw [hn2] at t2 ⊢
  simp only [encLE, encL, plainR, zN, List.map_nil] at c5
  by_cases h1 : x.s = [43]
  · simp only [F132, encLE, encL, plainR, zN, wr, h1, List.cons.injEq, nmU, List.cons_ne_nil, not_true_eq_false, fxa, fxc, fxE, fxL, fxI, nxE, evO, evR, cellsT, ldCells, mkT, lenA, binPV, Env.init, resV, resT, frT, klT, ownT, intT, O.adds, ownA, rowsA, over, wrOk, keysT, keysA, ne_eq, if_true, if_false, ite_self, Nat.reduceLT, Nat.reduceSub, Nat.reduceBEq, Nat.reduceEqDiff, Nat.reduceAdd, Nat.reduceLeDiff, reduceCtorEq, Nat.reduceMul]
  by_cases h2 : x.s = [45]
  · simp only [F132, encLE, encL, plainR, zN, wr, h2, List.cons.injEq, nmU, List.cons_ne_nil, not_true_eq_false, fxa, fxc, fxE, fxL, fxI, nxE, evO, evR, cellsT, ldCells, mkT, lenA, binPV, Env.init, resV, resT, frT, klT, ownT, intT, O.adds, ownA, rowsA, over, wrOk, keysT, keysA, ne_eq, if_true, if_false, ite_self, Nat.reduceLT, Nat.reduceSub, Nat.reduceBEq, Nat.reduceEqDiff, Nat.reduceAdd, Nat.reduceLeDiff, reduceCtorEq, Nat.reduceMul]
  by_cases h3 : x.s = [42]
  · simp only [F132, encLE, encL, plainR, zN, wr, h3, List.cons.injEq, nmU, List.cons_ne_nil, not_true_eq_false, fxa, fxc, fxE, fxL, fxI, nxE, evO, evR, cellsT, ldCells, mkT, lenA, binPV, Env.init, resV, resT, frT, klT, ownT, intT, O.adds, ownA, rowsA, over, wrOk, keysT, keysA, ne_eq, if_true, if_false, ite_self, Nat.reduceLT, Nat.reduceSub, Nat.reduceBEq, Nat.reduceEqDiff, Nat.reduceAdd, Nat.reduceLeDiff, reduceCtorEq, Nat.reduceMul]
  by_cases h4 : x.s = [47]
  · by_cases h5 : y.n = 0
    · simp only [F132, encLE, encL, plainR, zN, wr, h4, h5, c5, List.cons.injEq, nmU, List.cons_ne_nil, not_true_eq_false, fxa, fxc, fxE, fxL, fxI, nxE, evO, evR, cellsT, ldCells, mkT, lenA, binPV, Env.init, resV, resT, frT, klT, ownT, intT, O.adds, ownA, rowsA, over, wrOk, keysT, keysA, ne_eq, if_true, if_false, ite_self, Nat.reduceLT, Nat.reduceSub, Nat.reduceBEq, Nat.reduceEqDiff, Nat.reduceAdd, Nat.reduceLeDiff, reduceCtorEq, Nat.reduceMul]
    · simp only [F132, encLE, encL, plainR, zN, wr, h4, h5, c5, List.cons.injEq, nmU, List.cons_ne_nil, not_true_eq_false, fxa, fxc, fxE, fxL, fxI, nxE, evO, evR, cellsT, ldCells, mkT, lenA, binPV, Env.init, resV, resT, frT, klT, ownT, intT, O.adds, ownA, rowsA, over, wrOk, keysT, keysA, ne_eq, if_true, if_false, ite_self, Nat.reduceLT, Nat.reduceSub, Nat.reduceBEq, Nat.reduceEqDiff, Nat.reduceAdd, Nat.reduceLeDiff, reduceCtorEq, Nat.reduceMul]
  by_cases h6 : x.s = [60]
  · simp only [F132, encLE, encL, plainR, zN, wr, h6, t1, hn1, truthN, zP, List.cons.injEq, nmU, List.cons_ne_nil, not_true_eq_false, fxa, fxc, fxE, fxL, fxI, nxE, evO, evR, cellsT, ldCells, mkT, lenA, binPV, Env.init, resV, resT, frT, klT, ownT, intT, O.adds, ownA, rowsA, over, wrOk, keysT, keysA, ne_eq, if_true, if_false, ite_self, Nat.reduceLT, Nat.reduceSub, Nat.reduceBEq, Nat.reduceEqDiff, Nat.reduceAdd, Nat.reduceLeDiff, reduceCtorEq, Nat.reduceMul]
  by_cases h7 : x.s = [61, 61]
  · simp only [F132, encLE, encL, plainR, zN, wr, h7, t2, hn2, truthN, zP, List.cons.injEq, nmU, List.cons_ne_nil, not_true_eq_false, fxa, fxc, fxE, fxL, fxI, nxE, evO, evR, cellsT, ldCells, mkT, lenA, binPV, Env.init, resV, resT, frT, klT, ownT, intT, O.adds, ownA, rowsA, over, wrOk, keysT, keysA, ne_eq, if_true, if_false, ite_self, Nat.reduceLT, Nat.reduceSub, Nat.reduceBEq, Nat.reduceEqDiff, Nat.reduceAdd, Nat.reduceLeDiff, reduceCtorEq, Nat.reduceMul]
  · simp only [F132, encLE, encL, plainR, zN, wr, h1, h2, h3, h4, h6, h7, List.cons.injEq, nmU, List.cons_ne_nil, not_true_eq_false, fxa, fxc, fxE, fxL, fxI, nxE, evO, evR, cellsT, ldCells, mkT, lenA, binPV, Env.init, resV, resT, frT, klT, ownT, intT, O.adds, ownA, rowsA, over, wrOk, keysT, keysA, ne_eq, if_true, if_false, ite_self, Nat.reduceLT, Nat.reduceSub, Nat.reduceBEq, Nat.reduceEqDiff, Nat.reduceAdd, Nat.reduceLeDiff, reduceCtorEq, Nat.reduceMul]
theorem ask_ok {x y : Nd} (hx : x.Ok) : eP S 102 [.g (encN x), .g (encN y)] = some (encLE (askR x y)) := by
  refine x_fn (orcS (by decide)) (fc := F102) rfl rfl ?_
  have c1 := plain_ok 1
  have c3 := plain_ok 3
  have c5 := plain_ok 5
  have cp := pick_ok (x := x) (y := y) hx
  have co := out_ok x y
  obtain ⟨⟨⟨pk, ps, pl, pa, ⟨n1, n2, n3, n4, n5, n6⟩⟩, pe⟩, hp⟩ : ∃ z, pickR x y = z := ⟨_, rfl⟩
  obtain ⟨⟨⟨ok, os, ol, oa, ⟨m1, m2, m3, m4, m5, m6⟩⟩, oe⟩, ho⟩ : ∃ z, outR x y = z := ⟨_, rfl⟩
  unfold askR
  rw [hp] at cp ⊢
  rw [ho] at co ⊢
  simp only [encN, encLE, encL] at cp co
  simp only [encLE, encL, plainR, zN, List.map_nil] at c1 c3 c5
  by_cases h1 : x.k = 3 ∧ y.k = 2
  · obtain ⟨h1, h2⟩ := h1
    by_cases h3 : x.lv = y.lv
    · simp only [F102, encLE, encL, plainR, noR, p0, zN, h1, h2, h3, c1, Int.reduceEq, not_true_eq_false, fxa, fxc, fxE, fxL, fxI, nxE, evO, evR, cellsT, ldCells, mkT, lenA, binPV, Env.init, resV, resT, frT, klT, ownT, intT, O.adds, ownA, rowsA, over, wrOk, keysT, keysA, ne_eq, if_true, if_false, ite_self, Nat.reduceLT, Nat.reduceSub, Nat.reduceBEq, Nat.reduceEqDiff, Nat.reduceAdd, Nat.reduceLeDiff, reduceCtorEq, Nat.reduceMul]
    · simp only [F102, encLE, encL, plainR, noR, p0, zN, h1, h2, h3, c1, Int.reduceEq, not_true_eq_false, fxa, fxc, fxE, fxL, fxI, nxE, evO, evR, cellsT, ldCells, mkT, lenA, binPV, Env.init, resV, resT, frT, klT, ownT, intT, O.adds, ownA, rowsA, over, wrOk, keysT, keysA, ne_eq, if_true, if_false, ite_self, Nat.reduceLT, Nat.reduceSub, Nat.reduceBEq, Nat.reduceEqDiff, Nat.reduceAdd, Nat.reduceLeDiff, reduceCtorEq, Nat.reduceMul]
  by_cases h2 : x.k = 9 ∧ y.k = 8
  · obtain ⟨h2, h3⟩ := h2
    rw [h2, h3] at cp
    simp only [F102, encLE, encL, plainR, noR, p0, zN, h2, h3, cp, Int.reduceEq, not_true_eq_false, fxa, fxc, fxE, fxL, fxI, nxE, evO, evR, cellsT, ldCells, mkT, lenA, binPV, Env.init, resV, resT, frT, klT, ownT, intT, O.adds, ownA, rowsA, over, wrOk, keysT, keysA, ne_eq, if_true, if_false, ite_self, Nat.reduceLT, Nat.reduceSub, Nat.reduceBEq, Nat.reduceEqDiff, Nat.reduceAdd, Nat.reduceLeDiff, reduceCtorEq, Nat.reduceMul]
  by_cases h3 : x.k = 11 ∧ y.k = 10
  · obtain ⟨h3, h4⟩ := h3
    simp only [F102, encLE, encL, plainR, noR, p0, zN, h3, h4, c3, Int.reduceEq, not_true_eq_false, fxa, fxc, fxE, fxL, fxI, nxE, evO, evR, cellsT, ldCells, mkT, lenA, binPV, Env.init, resV, resT, frT, klT, ownT, intT, O.adds, ownA, rowsA, over, wrOk, keysT, keysA, ne_eq, if_true, if_false, ite_self, Nat.reduceLT, Nat.reduceSub, Nat.reduceBEq, Nat.reduceEqDiff, Nat.reduceAdd, Nat.reduceLeDiff, reduceCtorEq, Nat.reduceMul]
  by_cases h4 : x.k = 12 ∧ y.k = 10
  · obtain ⟨h4, h5⟩ := h4
    rw [h4, h5] at co
    simp only [F102, encLE, encL, plainR, noR, p0, zN, h4, h5, co, Int.reduceEq, not_true_eq_false, fxa, fxc, fxE, fxL, fxI, nxE, evO, evR, cellsT, ldCells, mkT, lenA, binPV, Env.init, resV, resT, frT, klT, ownT, intT, O.adds, ownA, rowsA, over, wrOk, keysT, keysA, ne_eq, if_true, if_false, ite_self, Nat.reduceLT, Nat.reduceSub, Nat.reduceBEq, Nat.reduceEqDiff, Nat.reduceAdd, Nat.reduceLeDiff, reduceCtorEq, Nat.reduceMul]
  have g1 : (decide (x.k = 3) && decide (y.k = 2)) = false := by simpa using h1
  have g2 : (decide (x.k = 9) && decide (y.k = 8)) = false := by simpa using h2
  have g3 : (decide (x.k = 11) && decide (y.k = 10)) = false := by simpa using h3
  have g4 : (decide (x.k = 12) && decide (y.k = 10)) = false := by simpa using h4
  simp only [F102, encLE, encL, plainR, noR, p0, zN, h1, h2, h3, h4, g1, g2, g3, g4, c5, Int.reduceEq, not_true_eq_false, fxa, fxc, fxE, fxL, fxI, nxE, evO, evR, cellsT, ldCells, mkT, lenA, binPV, Env.init, resV, resT, frT, klT, ownT, intT, O.adds, ownA, rowsA, over, wrOk, keysT, keysA, ne_eq, if_true, if_false, ite_self, Nat.reduceLT, Nat.reduceSub, Nat.reduceBEq, Nat.reduceEqDiff, Nat.reduceAdd, Nat.reduceLeDiff, reduceCtorEq, Nat.reduceMul]
theorem of1_ok (i j : Int) (a b : Nd) (ka kb : Key) (σ : St) (ha : σ.bs ka = some (.var ((encN a).map .p))) (hb : σ.bs kb = some (.var ((encN b).map .p))) :
    eS S (.f 96) [.a (.p (.i .i64 i)), .a (.p (.i .i64 j)), .a (.ptr ka 0 0), .a (.ptr kb 0 0)] σ = some (.a (.p (.b (decide (cls a.k = i) && decide (cls b.k = j)))), σ) := by
  have c1 := class_ok a.k
  have c2 := class_ok b.k
  simp only [encN, List.map_cons, List.map_nil] at ha hb
  refine x_fnX (fc := F96) rfl rfl ?_
  cases h1 : decide (cls a.k = i) with
  | false => simp only [F96, ha, hb, c1, c2, h1, fxa, fxc, fxE, fxL, fxI, nxE, evO, evR, cellsT, ldCells, mkT, lenA, binPV, Env.init, resV, resT, frT, klT, ownT, intT, O.adds, ownA, rowsA, over, wrOk, keysT, keysA, ne_eq, if_true, if_false, ite_self, Nat.reduceLT, Nat.reduceSub, Nat.reduceBEq, Nat.reduceEqDiff, Nat.reduceAdd, Nat.reduceLeDiff, reduceCtorEq, Nat.reduceMul]
  | true => simp only [F96, ha, hb, c1, c2, h1, fxa, fxc, fxE, fxL, fxI, nxE, evO, evR, cellsT, ldCells, mkT, lenA, binPV, Env.init, resV, resT, frT, klT, ownT, intT, O.adds, ownA, rowsA, over, wrOk, keysT, keysA, ne_eq, if_true, if_false, ite_self, Nat.reduceLT, Nat.reduceSub, Nat.reduceBEq, Nat.reduceEqDiff, Nat.reduceAdd, Nat.reduceLeDiff, reduceCtorEq, Nat.reduceMul]
theorem of2_ok (i : Int) (a b : Nd) (ka kb : Key) (σ : St) (ha : σ.bs ka = some (.var ((encN a).map .p))) (hb : σ.bs kb = some (.var ((encN b).map .p))) :
    eS S (.f 98) [.a (.p (.i .i64 i)), .a (.ptr ka 0 0), .a (.ptr kb 0 0)] σ = some (.a (.p (.b (decide (cls a.k = i) || decide (cls b.k = i)))), σ) := by
  have c1 := class_ok a.k
  have c2 := class_ok b.k
  simp only [encN, List.map_cons, List.map_nil] at ha hb
  refine x_fnX (fc := F98) rfl rfl ?_
  cases h1 : decide (cls a.k = i) with
  | false => simp only [F98, ha, hb, c1, c2, h1, fxa, fxc, fxE, fxL, fxI, nxE, evO, evR, cellsT, ldCells, mkT, lenA, binPV, Env.init, resV, resT, frT, klT, ownT, intT, O.adds, ownA, rowsA, over, wrOk, keysT, keysA, ne_eq, if_true, if_false, ite_self, Nat.reduceLT, Nat.reduceSub, Nat.reduceBEq, Nat.reduceEqDiff, Nat.reduceAdd, Nat.reduceLeDiff, reduceCtorEq, Nat.reduceMul]
  | true => simp only [F98, ha, hb, c1, c2, h1, fxa, fxc, fxE, fxL, fxI, nxE, evO, evR, cellsT, ldCells, mkT, lenA, binPV, Env.init, resV, resT, frT, klT, ownT, intT, O.adds, ownA, rowsA, over, wrOk, keysT, keysA, ne_eq, if_true, if_false, ite_self, Nat.reduceLT, Nat.reduceSub, Nat.reduceBEq, Nat.reduceEqDiff, Nat.reduceAdd, Nat.reduceLeDiff, reduceCtorEq, Nat.reduceMul]
theorem Of_ok {a b : Nd} (ha : a.Ok) (hb : b.Ok) : eP S 70 [.g (encN a), .g (encN b)] = some (encLE (ofR a b)) := by
  have ca := class_ok a.k
  have cb := class_ok b.k
  have c8 := plain_ok 8
  have c6 := plain_ok 6
  have cs8 := swapped_ok (plainR 8)
  have pab := pass_ok a b
  have pba := pass_ok b a
  have spba := swapped_ok (passR b a)
  have aab := ask_ok (x := a) (y := b) ha
  have aba := ask_ok (x := b) (y := a) hb
  have saba := swapped_ok (askR b a)
  obtain ⟨⟨⟨q1, q2, q3, q4, ⟨q5, q6, q7, q8, q9, q10⟩⟩, qe⟩, hq⟩ : ∃ z, passR a b = z := ⟨_, rfl⟩
  obtain ⟨⟨⟨r1, r2, r3, r4, ⟨r5, r6, r7, r8, r9, r10⟩⟩, re⟩, hr⟩ : ∃ z, passR b a = z := ⟨_, rfl⟩
  obtain ⟨⟨⟨s1, s2, s3, s4, ⟨s5, s6, s7, s8, s9, s10⟩⟩, se⟩, hs⟩ : ∃ z, askR a b = z := ⟨_, rfl⟩
  obtain ⟨⟨⟨t1, t2, t3, t4, ⟨t5, t6, t7, t8, t9, t10⟩⟩, te⟩, ht⟩ : ∃ z, askR b a = z := ⟨_, rfl⟩
  rw [hq] at pab
  rw [hr] at pba spba
  rw [hs] at aab
  rw [ht] at aba saba
  obtain ⟨⟨⟨u1, u2, u3, u4, ⟨u5, u6, u7, u8, u9, u10⟩⟩, ue⟩, hu⟩ : ∃ z, swapR (⟨r1, r2, r3, r4, ⟨r5, r6, r7, r8, r9, r10⟩⟩, re) = z := ⟨_, rfl⟩
  obtain ⟨⟨⟨w1, w2, w3, w4, ⟨w5, w6, w7, w8, w9, w10⟩⟩, we⟩, hw⟩ : ∃ z, swapR (⟨t1, t2, t3, t4, ⟨t5, t6, t7, t8, t9, t10⟩⟩, te) = z := ⟨_, rfl⟩
  rw [hu] at spba
  rw [hw] at saba
  have e8 : swapR (plainR 8) = (⟨8, true, 0, 0, zN⟩, 0) := rfl
  rw [e8] at cs8
  simp only [encLE, encL, encN, plainR, zN, List.map_nil] at c8 c6 cs8 pab pba spba aab aba saba
  have o1 := fun i j σ (h1 : σ.bs (2, 0) = some (.var ((encN a).map .p))) h2 => of1_ok i j a b (2, 0) (3, 1) σ h1 h2
  have o2 := fun i σ (h1 : σ.bs (2, 0) = some (.var ((encN a).map .p))) h2 => of2_ok i a b (2, 0) (3, 1) σ h1 h2
  obtain ⟨σ1, hσ1⟩ : ∃ σ1, σ1 = ((St.empty.add 2 (.var ((encN a).map .p))).add 3 (.var ((encN b).map .p))).add 4 (.var [.p (.i .i64 0), .p (.b false), .p (.i .i64 0), .p (.i .i64 0), .p (.i .i64 0), .p (.i .i64 0), .p (.i .i64 0), .p (.s []), .nil, .nil]) := ⟨_, rfl⟩
  have b2 : σ1.bs (2, 0) = some (.var ((encN a).map .p)) := by rw [hσ1]; simp [add_bs, add_clk, empty_clk]
  have b3 : σ1.bs (3, 1) = some (.var ((encN b).map .p)) := by rw [hσ1]; simp [add_bs, add_clk, empty_clk]
  have k0 := o2 0 σ1 b2 b3
  have k33 := o1 3 3 σ1 b2 b3
  have k12 := o1 1 2 σ1 b2 b3
  have k21 := o1 2 1 σ1 b2 b3
  rw [hσ1] at k0 k33 k12 k21
  simp only [encN, List.map_cons, List.map_nil] at k0 k33 k12 k21
  unfold ofR
  rw [hq, hr, hs, ht]
  refine x_fn (orcS (by decide)) (fc := F70) rfl rfl ?_
  by_cases h0 : cls a.k = 0 ∨ cls b.k = 0
  · have d0 : (decide (cls a.k = 0) || decide (cls b.k = 0)) = true := by simpa using h0
    rw [d0] at k0
    simp only [F70, capsOf, encLE, encL, noR, p0, zN, h0, k0, fxa, fxc, fxE, fxL, fxI, nxE, evO, evR, cellsT, ldCells, mkT, lenA, binPV, Env.init, resV, resT, frT, klT, ownT, intT, O.adds, ownA, rowsA, over, wrOk, keysT, keysA, ne_eq, if_true, if_false, ite_self, Nat.reduceLT, Nat.reduceSub, Nat.reduceBEq, Nat.reduceEqDiff, Nat.reduceAdd, Nat.reduceLeDiff, reduceCtorEq, Nat.reduceMul]
  have d0 : (decide (cls a.k = 0) || decide (cls b.k = 0)) = false := by simpa using h0
  rw [d0] at k0
  have h0a : ¬ cls a.k = 0 := fun h => h0 (.inl h)
  have h0b : ¬ cls b.k = 0 := fun h => h0 (.inr h)
  by_cases h1 : cls a.k = 4
  · simp only [F70, capsOf, encLE, encL, plainR, zN, h0a, h0b, h1, k0, ca, c8, Int.reduceEq, or_self, false_or, or_false, not_false_eq_true, not_true_eq_false, fxa, fxc, fxE, fxL, fxI, nxE, evO, evR, cellsT, ldCells, mkT, lenA, binPV, Env.init, resV, resT, frT, klT, ownT, intT, O.adds, ownA, rowsA, over, wrOk, keysT, keysA, ne_eq, if_true, if_false, ite_self, Nat.reduceLT, Nat.reduceSub, Nat.reduceBEq, Nat.reduceEqDiff, Nat.reduceAdd, Nat.reduceLeDiff, reduceCtorEq, Nat.reduceMul]
  by_cases h2 : cls b.k = 4
  · simp only [F70, capsOf, encLE, encL, plainR, zN, swapR, h0a, h0b, h1, h2, k0, ca, cb, c8, cs8, Int.reduceEq, or_self, false_or, or_false, not_false_eq_true, not_true_eq_false, fxa, fxc, fxE, fxL, fxI, nxE, evO, evR, cellsT, ldCells, mkT, lenA, binPV, Env.init, resV, resT, frT, klT, ownT, intT, O.adds, ownA, rowsA, over, wrOk, keysT, keysA, ne_eq, if_true, if_false, ite_self, Nat.reduceLT, Nat.reduceSub, Nat.reduceBEq, Nat.reduceEqDiff, Nat.reduceAdd, Nat.reduceLeDiff, reduceCtorEq, Nat.reduceMul]
  by_cases h3 : cls a.k = 3 ∧ cls b.k = 3 ∧ a.lv = b.lv ∧ a.k = b.k
  · obtain ⟨h3, h4, h5, h6⟩ := h3
    have d3 : (decide (cls a.k = 3) && decide (cls b.k = 3)) = true := by simp [h3, h4]
    rw [d3] at k33
    have h43 : ¬ (3 : Int) = 4 := by decide
    have h03 : ¬ ((3 : Int) = 0 ∨ (3 : Int) = 0) := by decide
    rw [h6] at h3 ca k0 k33
    rw [h5] at k0 k33
    simp only [F70, capsOf, encLE, encL, plainR, zN, h3, h4, h5, h6, h43, h03, k0, k33, ca, cb, c6, Int.reduceEq, or_self, false_or, or_false, not_false_eq_true, not_true_eq_false, fxa, fxc, fxE, fxL, fxI, nxE, evO, evR, cellsT, ldCells, mkT, lenA, binPV, Env.init, resV, resT, frT, klT, ownT, intT, O.adds, ownA, rowsA, over, wrOk, keysT, keysA, ne_eq, if_true, if_false, ite_self, Nat.reduceLT, Nat.reduceSub, Nat.reduceBEq, Nat.reduceEqDiff, Nat.reduceAdd, Nat.reduceLeDiff, reduceCtorEq, Nat.reduceMul]
  have d33 : ((decide (cls a.k = 3) && decide (cls b.k = 3)) = true ∧ a.lv = b.lv ∧ a.k = b.k) ↔ False := by simp; intro x y; exact fun z w => h3 ⟨x, y, z, w⟩
  obtain ⟨v33, hv33⟩ : ∃ v, (decide (cls a.k = 3) && decide (cls b.k = 3)) = v := ⟨_, rfl⟩
  rw [hv33] at k33 d33
  have g33 : ∀ {α : Type} (x y : α), (if ((decide (cls a.k = 3) && decide (cls b.k = 3)) && decide (a.lv = b.lv) && decide (a.k = b.k)) = true then x else y) = y := by
    intro α x y; rw [if_neg]; simp; intro x y; exact fun z w => h3 ⟨x, y, z, w⟩
  by_cases h4 : cls a.k = 3
  · by_cases h5 : cls b.k = 3
    · have hv : v33 = true := by rw [← hv33]; simp [h4, h5]
      rw [hv] at k33
      by_cases h6 : a.lv ≤ b.lv
      · by_cases h7 : a.lv = b.lv
        · have h8 : ¬ a.k = b.k := fun h => h3 ⟨h4, h5, h7, h⟩
          rw [h7] at k0 k33 pab
          simp only [F70, capsOf, encLE, encL, h0a, h0b, h1, h2, h4, h5, h7, h8, Int.le_refl, k0, k33, ca, cb, pab, true_or, or_true, Int.reduceEq, or_self, false_or, or_false, not_false_eq_true, not_true_eq_false, fxa, fxc, fxE, fxL, fxI, nxE, evO, evR, cellsT, ldCells, mkT, lenA, binPV, Env.init, resV, resT, frT, klT, ownT, intT, O.adds, ownA, rowsA, over, wrOk, keysT, keysA, ne_eq, if_true, if_false, ite_self, Nat.reduceLT, Nat.reduceSub, Nat.reduceBEq, Nat.reduceEqDiff, Nat.reduceAdd, Nat.reduceLeDiff, reduceCtorEq, Nat.reduceMul]
        · simp only [F70, capsOf, encLE, encL, h0a, h0b, h1, h2, h4, h5, h6, h7, k0, k33, ca, cb, pab, true_or, or_true, Int.reduceEq, or_self, false_or, or_false, not_false_eq_true, not_true_eq_false, fxa, fxc, fxE, fxL, fxI, nxE, evO, evR, cellsT, ldCells, mkT, lenA, binPV, Env.init, resV, resT, frT, klT, ownT, intT, O.adds, ownA, rowsA, over, wrOk, keysT, keysA, ne_eq, if_true, if_false, ite_self, Nat.reduceLT, Nat.reduceSub, Nat.reduceBEq, Nat.reduceEqDiff, Nat.reduceAdd, Nat.reduceLeDiff, reduceCtorEq, Nat.reduceMul]
      · have h7 : ¬ a.lv = b.lv := by omega
        simp only [F70, capsOf, encLE, encL, h0a, h0b, h1, h2, h4, h5, h6, h7, hu, k0, k33, ca, cb, pba, spba, or_self, Int.reduceEq, or_self, false_or, or_false, not_false_eq_true, not_true_eq_false, fxa, fxc, fxE, fxL, fxI, nxE, evO, evR, cellsT, ldCells, mkT, lenA, binPV, Env.init, resV, resT, frT, klT, ownT, intT, O.adds, ownA, rowsA, over, wrOk, keysT, keysA, ne_eq, if_true, if_false, ite_self, Nat.reduceLT, Nat.reduceSub, Nat.reduceBEq, Nat.reduceEqDiff, Nat.reduceAdd, Nat.reduceLeDiff, reduceCtorEq, Nat.reduceMul]
    · have hv : v33 = false := by rw [← hv33]; simp [h5]
      rw [hv] at k33
      simp only [F70, capsOf, encLE, encL, h0a, h0b, h1, h2, h4, h5, k0, k33, ca, cb, pab, true_or, or_true, Int.reduceEq, or_self, false_or, or_false, not_false_eq_true, not_true_eq_false, fxa, fxc, fxE, fxL, fxI, nxE, evO, evR, cellsT, ldCells, mkT, lenA, binPV, Env.init, resV, resT, frT, klT, ownT, intT, O.adds, ownA, rowsA, over, wrOk, keysT, keysA, ne_eq, if_true, if_false, ite_self, Nat.reduceLT, Nat.reduceSub, Nat.reduceBEq, Nat.reduceEqDiff, Nat.reduceAdd, Nat.reduceLeDiff, reduceCtorEq, Nat.reduceMul]
  · have hv : v33 = false := by rw [← hv33]; simp [h4]
    rw [hv] at k33
    by_cases h5 : cls b.k = 3
    · simp only [F70, capsOf, encLE, encL, h0a, h0b, h1, h2, h4, h5, hu, k0, k33, ca, cb, pba, spba, or_self, Int.reduceEq, or_self, false_or, or_false, not_false_eq_true, not_true_eq_false, fxa, fxc, fxE, fxL, fxI, nxE, evO, evR, cellsT, ldCells, mkT, lenA, binPV, Env.init, resV, resT, frT, klT, ownT, intT, O.adds, ownA, rowsA, over, wrOk, keysT, keysA, ne_eq, if_true, if_false, ite_self, Nat.reduceLT, Nat.reduceSub, Nat.reduceBEq, Nat.reduceEqDiff, Nat.reduceAdd, Nat.reduceLeDiff, reduceCtorEq, Nat.reduceMul]
    by_cases h6 : cls a.k = 1 ∧ cls b.k = 2
    · have d6 : (decide (cls a.k = 1) && decide (cls b.k = 2)) = true := by simpa using h6
      rw [d6] at k12
      simp only [F70, capsOf, encLE, encL, h0a, h0b, h1, h2, h4, h5, h6, k0, k33, k12, ca, cb, aab, Int.reduceEq, or_self, false_or, or_false, not_false_eq_true, not_true_eq_false, fxa, fxc, fxE, fxL, fxI, nxE, evO, evR, cellsT, ldCells, mkT, lenA, binPV, Env.init, resV, resT, frT, klT, ownT, intT, O.adds, ownA, rowsA, over, wrOk, keysT, keysA, ne_eq, if_true, if_false, ite_self, Nat.reduceLT, Nat.reduceSub, Nat.reduceBEq, Nat.reduceEqDiff, Nat.reduceAdd, Nat.reduceLeDiff, reduceCtorEq, Nat.reduceMul]
    have d6 : (decide (cls a.k = 1) && decide (cls b.k = 2)) = false := by simpa using h6
    rw [d6] at k12
    by_cases h7 : cls a.k = 2 ∧ cls b.k = 1
    · have d7 : (decide (cls a.k = 2) && decide (cls b.k = 1)) = true := by simpa using h7
      rw [d7] at k21
      simp only [F70, capsOf, encLE, encL, h0a, h0b, h1, h2, h4, h5, h6, h7, hw, k0, k33, k12, k21, ca, cb, aba, saba, Int.reduceEq, or_self, false_or, or_false, not_false_eq_true, not_true_eq_false, fxa, fxc, fxE, fxL, fxI, nxE, evO, evR, cellsT, ldCells, mkT, lenA, binPV, Env.init, resV, resT, frT, klT, ownT, intT, O.adds, ownA, rowsA, over, wrOk, keysT, keysA, ne_eq, if_true, if_false, ite_self, Nat.reduceLT, Nat.reduceSub, Nat.reduceBEq, Nat.reduceEqDiff, Nat.reduceAdd, Nat.reduceLeDiff, reduceCtorEq, Nat.reduceMul]
    · have d7 : (decide (cls a.k = 2) && decide (cls b.k = 1)) = false := by simpa using h7
      rw [d7] at k21
      simp only [F70, capsOf, encLE, encL, noR, p0, zN, h0a, h0b, h1, h2, h4, h5, h6, h7, k0, k33, k12, k21, ca, cb, Int.reduceEq, or_self, false_or, or_false, not_false_eq_true, not_true_eq_false, fxa, fxc, fxE, fxL, fxI, nxE, evO, evR, cellsT, ldCells, mkT, lenA, binPV, Env.init, resV, resT, frT, klT, ownT, intT, O.adds, ownA, rowsA, over, wrOk, keysT, keysA, ne_eq, if_true, if_false, ite_self, Nat.reduceLT, Nat.reduceSub, Nat.reduceBEq, Nat.reduceEqDiff, Nat.reduceAdd, Nat.reduceLeDiff, reduceCtorEq, Nat.reduceMul]
end Go.Proofs.Ytkpfjolcmkikeaa
end
section
set_option linter.unusedSimpArgs false
set_option linter.unusedVariables false
set_option maxHeartbeats 8000000
set_option maxRecDepth 10000
namespace Go.Proofs.Ytkpfjolcmkikeaa
open Go.Fx
def tI (a : Int) : List PV := [.i .i64 7, .i .i64 a, .s [], .l []]
def tOp (s : List UInt8) (a b : Int) : List PV := [.i .i64 8, .i .i64 0, .s s, .l [tI a, tI b]]
def isOp (s : List UInt8) : Prop := s = [43] ∨ s = [45] ∨ s = [42] ∨ s = [47] ∨ s = [60] ∨ s = [61, 61]
def opR (s : List UInt8) (a b : Int) : List PV × Int :=
  if s = [43] then (tI (wr (a + b)), 3) else if s = [45] then (tI (wr (a - b)), 3) else if s = [42] then (tI (wr (a * b)), 3)
  else if s = [47] then (if b = 0 then ([.i .i64 9, .i .i64 0, .s [], .l []], 4) else (tI (wr (a.tdiv b)), 3))
  else if (s = [60] ∧ a < b) ∨ (s = [61, 61] ∧ a = b) then ([.i .i64 4, .i .i64 0, .s [84, 114, 117, 101], .l []], 3) else ([.i .i64 4, .i .i64 0, .s [70, 97, 108, 115, 101], .l []], 3)
def encO (x : List PV × Int) : PT := .t [(true, x.1), (false, [.i .i64 x.2])]
theorem number_ok (a : Int) : eP S 176 [.a (.i .i64 a)] = some (.t [(true, tI a), (false, [.i .i64 3])]) := by
  refine x_fn (orcS (by decide)) (fc := F176) rfl rfl ?_
  simp only [F176, tI, fxa, fxc, fxE, fxL, fxI, nxE, evO, evR, cellsT, ldCells, mkT, lenA, binPV, Env.init, resV, resT, frT, klT, ownT, intT, O.adds, ownA, rowsA, over, wrOk, keysT, keysA, ne_eq, if_true, if_false, ite_self, Nat.reduceLT, Nat.reduceSub, Nat.reduceBEq, Nat.reduceEqDiff, Nat.reduceAdd, Nat.reduceLeDiff, reduceCtorEq, Nat.reduceMul]
theorem fail9_ok : eP S 172 [] = some (.t [(true, [.i .i64 9, .i .i64 0, .s [], .l []]), (false, [.i .i64 4])]) := (eP_some S).2 ⟨3, by kernel_rfl⟩
theorem value_ok (a : Int) : eP S 168 [.g (tI a)] = some (.a (.b true)) := by
  refine x_fn (orcS (by decide)) (fc := F168) rfl rfl ?_
  simp only [F168, tI, Int.reduceEq, fxa, fxc, fxE, fxL, fxI, nxE, evO, evR, cellsT, ldCells, mkT, lenA, binPV, Env.init, resV, resT, frT, klT, ownT, intT, O.adds, ownA, rowsA, over, wrOk, keysT, keysA, ne_eq, if_true, if_false, ite_self, Nat.reduceLT, Nat.reduceSub, Nat.reduceBEq, Nat.reduceEqDiff, Nat.reduceAdd, Nat.reduceLeDiff, reduceCtorEq, Nat.reduceMul]
theorem op_ok {s : List UInt8} {a b : Int} (ha : wf a) (hs : isOp s) : eP S 173 [.a (.s s), .a (.i .i64 a), .a (.i .i64 b)] = some (encO (opR s a b)) := by
  refine x_fn (orcS (by decide)) (fc := F173) rfl rfl ?_
  have n1 := number_ok (wr (a + b))
  have n2 := number_ok (wr (a - b))
  have n3 := number_ok (wr (a * b))
  have n4 := number_ok (wr (a.tdiv b))
  have n5 := fail9_ok
  unfold opR encO
  simp only [tI, wr] at n1 n2 n3 n4
  rcases hs with rfl | rfl | rfl | rfl | rfl | rfl
  · simp only [F173, n1, tI, wr, nmU, List.cons.injEq, and_true, fxa, fxc, fxE, fxL, fxI, nxE, evO, evR, cellsT, ldCells, mkT, lenA, binPV, Env.init, resV, resT, frT, klT, ownT, intT, O.adds, ownA, rowsA, over, wrOk, keysT, keysA, ne_eq, if_true, if_false, ite_self, Nat.reduceLT, Nat.reduceSub, Nat.reduceBEq, Nat.reduceEqDiff, Nat.reduceAdd, Nat.reduceLeDiff, reduceCtorEq, Nat.reduceMul]
  · simp only [F173, n2, tI, wr, nmU, List.cons.injEq, and_true, fxa, fxc, fxE, fxL, fxI, nxE, evO, evR, cellsT, ldCells, mkT, lenA, binPV, Env.init, resV, resT, frT, klT, ownT, intT, O.adds, ownA, rowsA, over, wrOk, keysT, keysA, ne_eq, if_true, if_false, ite_self, Nat.reduceLT, Nat.reduceSub, Nat.reduceBEq, Nat.reduceEqDiff, Nat.reduceAdd, Nat.reduceLeDiff, reduceCtorEq, Nat.reduceMul]
  · simp only [F173, n3, tI, wr, nmU, List.cons.injEq, and_true, fxa, fxc, fxE, fxL, fxI, nxE, evO, evR, cellsT, ldCells, mkT, lenA, binPV, Env.init, resV, resT, frT, klT, ownT, intT, O.adds, ownA, rowsA, over, wrOk, keysT, keysA, ne_eq, if_true, if_false, ite_self, Nat.reduceLT, Nat.reduceSub, Nat.reduceBEq, Nat.reduceEqDiff, Nat.reduceAdd, Nat.reduceLeDiff, reduceCtorEq, Nat.reduceMul]
  · by_cases h0 : b = 0
    · simp only [F173, n5, h0, tI, wr, nmU, List.cons.injEq, and_true, fxa, fxc, fxE, fxL, fxI, nxE, evO, evR, cellsT, ldCells, mkT, lenA, binPV, Env.init, resV, resT, frT, klT, ownT, intT, O.adds, ownA, rowsA, over, wrOk, keysT, keysA, ne_eq, if_true, if_false, ite_self, Nat.reduceLT, Nat.reduceSub, Nat.reduceBEq, Nat.reduceEqDiff, Nat.reduceAdd, Nat.reduceLeDiff, reduceCtorEq, Nat.reduceMul]
    · by_cases h1 : b = -1
      · subst h1
        have e : IntKind.i64.wrap (0 - a) = IntKind.i64.wrap (a.tdiv (-1)) := by rw [Int.tdiv_neg, Int.tdiv_one, Int.zero_sub]
        simp only [F173, n4, e, h0, tI, wr, nmU, Int.reduceNeg, List.cons.injEq, and_true, fxa, fxc, fxE, fxL, fxI, nxE, evO, evR, cellsT, ldCells, mkT, lenA, binPV, Env.init, resV, resT, frT, klT, ownT, intT, O.adds, ownA, rowsA, over, wrOk, keysT, keysA, ne_eq, if_true, if_false, ite_self, Nat.reduceLT, Nat.reduceSub, Nat.reduceBEq, Nat.reduceEqDiff, Nat.reduceAdd, Nat.reduceLeDiff, reduceCtorEq, Nat.reduceMul]
      · simp only [F173, n4, h0, h1, tI, wr, nmU, List.cons.injEq, and_true, fxa, fxc, fxE, fxL, fxI, nxE, evO, evR, cellsT, ldCells, mkT, lenA, binPV, Env.init, resV, resT, frT, klT, ownT, intT, O.adds, ownA, rowsA, over, wrOk, keysT, keysA, ne_eq, if_true, if_false, ite_self, Nat.reduceLT, Nat.reduceSub, Nat.reduceBEq, Nat.reduceEqDiff, Nat.reduceAdd, Nat.reduceLeDiff, reduceCtorEq, Nat.reduceMul]
  · by_cases h : a < b
    · simp only [F173, h, tI, wr, nmU, List.cons.injEq, and_true, or_false, false_or, true_or, or_true, or_self, fxa, fxc, fxE, fxL, fxI, nxE, evO, evR, cellsT, ldCells, mkT, lenA, binPV, Env.init, resV, resT, frT, klT, ownT, intT, O.adds, ownA, rowsA, over, wrOk, keysT, keysA, ne_eq, if_true, if_false, ite_self, Nat.reduceLT, Nat.reduceSub, Nat.reduceBEq, Nat.reduceEqDiff, Nat.reduceAdd, Nat.reduceLeDiff, reduceCtorEq, Nat.reduceMul]
    · simp only [F173, h, tI, wr, nmU, List.cons.injEq, and_true, or_false, false_or, true_or, or_true, or_self, fxa, fxc, fxE, fxL, fxI, nxE, evO, evR, cellsT, ldCells, mkT, lenA, binPV, Env.init, resV, resT, frT, klT, ownT, intT, O.adds, ownA, rowsA, over, wrOk, keysT, keysA, ne_eq, if_true, if_false, ite_self, Nat.reduceLT, Nat.reduceSub, Nat.reduceBEq, Nat.reduceEqDiff, Nat.reduceAdd, Nat.reduceLeDiff, reduceCtorEq, Nat.reduceMul]
  · by_cases h : a = b
    · simp only [F173, h, tI, wr, nmU, List.cons.injEq, and_true, or_false, false_or, true_or, or_true, or_self, fxa, fxc, fxE, fxL, fxI, nxE, evO, evR, cellsT, ldCells, mkT, lenA, binPV, Env.init, resV, resT, frT, klT, ownT, intT, O.adds, ownA, rowsA, over, wrOk, keysT, keysA, ne_eq, if_true, if_false, ite_self, Nat.reduceLT, Nat.reduceSub, Nat.reduceBEq, Nat.reduceEqDiff, Nat.reduceAdd, Nat.reduceLeDiff, reduceCtorEq, Nat.reduceMul]
    · simp only [F173, h, tI, wr, nmU, List.cons.injEq, and_true, or_false, false_or, true_or, or_true, or_self, fxa, fxc, fxE, fxL, fxI, nxE, evO, evR, cellsT, ldCells, mkT, lenA, binPV, Env.init, resV, resT, frT, klT, ownT, intT, O.adds, ownA, rowsA, over, wrOk, keysT, keysA, ne_eq, if_true, if_false, ite_self, Nat.reduceLT, Nat.reduceSub, Nat.reduceBEq, Nat.reduceEqDiff, Nat.reduceAdd, Nat.reduceLeDiff, reduceCtorEq, Nat.reduceMul]
theorem headI_ok (a f : Int) : eP S 81 [.g (tI a), .a (.i .i64 f), .a (.b false)] = some (.a (.b true)) := by
  refine x_fn (orcS (by decide)) (fc := F81) rfl rfl ?_
  simp only [F81, tI, Int.reduceEq, Int.natCast_eq_zero, List.nil_eq, Int.cast_ofNat_Int, Int.reduceLE, Int.reduceLT, Int.reduceToNat, Int.reduceAdd, Int.reduceSub, Int.reduceNeg, fxa, fxc, fxE, fxL, fxI, nxE, evO, evR, cellsT, ldCells, mkT, lenA, binPV, Env.init, resV, resT, frT, klT, ownT, intT, O.adds, ownA, rowsA, over, wrOk, keysT, keysA, ne_eq, if_true, if_false, ite_self, Nat.reduceLT, Nat.reduceSub, Nat.reduceBEq, Nat.reduceEqDiff, Nat.reduceAdd, Nat.reduceLeDiff, reduceCtorEq, Nat.reduceMul]
theorem headO_ok {s : List UInt8} (hs : isOp s) (a b f : Int) : eP S 81 [.g (tOp s a b), .a (.i .i64 f), .a (.b false)] = some (.a (.b true)) := by
  refine x_fn (orcS (by decide)) (fc := F81) rfl rfl ?_
  rcases hs with rfl | rfl | rfl | rfl | rfl | rfl <;> simp only [F81, tOp, Int.reduceEq, nmU, List.cons.injEq, Int.cast_ofNat_Int, Int.reduceLE, Int.reduceLT, Int.reduceToNat, Int.reduceAdd, Int.reduceSub, Int.reduceNeg, fxa, fxc, fxE, fxL, fxI, nxE, evO, evR, cellsT, ldCells, mkT, lenA, binPV, Env.init, resV, resT, frT, klT, ownT, intT, O.adds, ownA, rowsA, over, wrOk, keysT, keysA, ne_eq, if_true, if_false, ite_self, Nat.reduceLT, Nat.reduceSub, Nat.reduceBEq, Nat.reduceEqDiff, Nat.reduceAdd, Nat.reduceLeDiff, reduceCtorEq, Nat.reduceMul]
theorem mayI_ok (a : Int) {f : Int} (hf : 0 ≤ f) : eP S 59 [.g (tI a), .a (.i .i64 f), .a (.b false)] = some (.a (.b true)) := by
  refine x_fn (orcS (by decide)) (fc := F59) rfl rfl ?_
  have h1 := headI_ok a f
  have hf' : ¬ f < 0 := by omega
  simp only [tI] at h1
  simp only [F59, F59b0, x_loop, tI, h1, hf', Int.reduceEq, Int.lt_irrefl, Int.cast_ofNat_Int, Int.reduceLE, Int.reduceLT, Int.reduceToNat, Int.reduceAdd, Int.reduceSub, Int.reduceNeg, fxa, fxc, fxE, fxL, fxI, nxE, evO, evR, cellsT, ldCells, mkT, lenA, binPV, Env.init, resV, resT, frT, klT, ownT, intT, O.adds, ownA, rowsA, over, wrOk, keysT, keysA, ne_eq, if_true, if_false, ite_self, Nat.reduceLT, Nat.reduceSub, Nat.reduceBEq, Nat.reduceEqDiff, Nat.reduceAdd, Nat.reduceLeDiff, reduceCtorEq, Nat.reduceMul]
theorem mayO_ok {s : List UInt8} (hs : isOp s) (a b : Int) {f : Int} (hf : 0 ≤ f) : eP S 59 [.g (tOp s a b), .a (.i .i64 f), .a (.b false)] = some (.a (.b true)) := by
  refine x_fn (orcS (by decide)) (fc := F59) rfl rfl ?_
  have h1 := headO_ok hs a b f
  have h2 := mayI_ok a hf
  have h3 := mayI_ok b hf
  have hf' : ¬ f < 0 := by omega
  simp only [tI, tOp] at h1 h2 h3
  simp only [F59, F59b0, F59b1, x_loop, tI, tOp, h1, h2, h3, hf', wrap_in 1 (by decide), wrap_in 2 (by decide), Int.reduceEq, Int.lt_irrefl, Int.le_refl, Int.cast_ofNat_Int, Int.reduceLE, Int.reduceLT, Int.reduceToNat, Int.reduceAdd, Int.reduceSub, Int.reduceNeg, fxa, fxc, fxE, fxL, fxI, nxE, evO, evR, cellsT, ldCells, mkT, lenA, binPV, Env.init, resV, resT, frT, klT, ownT, intT, O.adds, ownA, rowsA, over, wrOk, keysT, keysA, ne_eq, if_true, if_false, ite_self, Nat.reduceLT, Nat.reduceSub, Nat.reduceBEq, Nat.reduceEqDiff, Nat.reduceAdd, Nat.reduceLeDiff, reduceCtorEq, Nat.reduceMul]
theorem May_ok {s : List UInt8} (hs : isOp s) (a b : Int) {f : Int} (hf : 0 ≤ f) : eP S 31 [.g (tOp s a b), .a (.i .i64 f)] = some (.a (.b true)) := by
  refine x_fn (orcS (by decide)) (fc := F31) rfl rfl ?_
  have h1 := mayO_ok hs a b hf
  simp only [tI, tOp] at h1
  simp only [F31, tI, tOp, h1, fxa, fxc, fxE, fxL, fxI, nxE, evO, evR, cellsT, ldCells, mkT, lenA, binPV, Env.init, resV, resT, frT, klT, ownT, intT, O.adds, ownA, rowsA, over, wrOk, keysT, keysA, ne_eq, if_true, if_false, ite_self, Nat.reduceLT, Nat.reduceSub, Nat.reduceBEq, Nat.reduceEqDiff, Nat.reduceAdd, Nat.reduceLeDiff, reduceCtorEq, Nat.reduceMul]
theorem step9_ok {s : List UInt8} {a b : Int} (ha : wf a) (hs : isOp s) : eP S 165 [.g (tOp s a b)] = some (encO (opR s a b)) := by
  refine x_fn (orcS (by decide)) (fc := F165) rfl rfl ?_
  have h1 := op_ok (b := b) ha hs
  have h2 := value_ok a
  have h3 := value_ok b
  obtain ⟨⟨r, w⟩, hr⟩ : ∃ r, opR s a b = r := ⟨_, rfl⟩
  have hl : ∃ c1 c2 c3 c4, r = [c1, c2, c3, c4] := by
    have : r = (opR s a b).1 := by rw [hr]
    rw [this]; unfold opR tI
    repeat' split
    all_goals exact ⟨_, _, _, _, rfl⟩
  obtain ⟨c1, c2, c3, c4, rfl⟩ := hl
  rw [hr] at h1 ⊢
  simp only [encO] at h1 ⊢
  simp only [tI] at h2 h3
  simp only [F165, tI, tOp, h1, h2, h3, Int.reduceEq, Int.le_refl, Int.cast_ofNat_Int, Int.reduceLE, Int.reduceLT, Int.reduceToNat, Int.reduceAdd, Int.reduceSub, Int.reduceNeg, fxa, fxc, fxE, fxL, fxI, nxE, evO, evR, cellsT, ldCells, mkT, lenA, binPV, Env.init, resV, resT, frT, klT, ownT, intT, O.adds, ownA, rowsA, over, wrOk, keysT, keysA, ne_eq, if_true, if_false, ite_self, Nat.reduceLT, Nat.reduceSub, Nat.reduceBEq, Nat.reduceEqDiff, Nat.reduceAdd, Nat.reduceLeDiff, reduceCtorEq, Nat.reduceMul]
theorem RStep_ok {s : List UInt8} {a b : Int} (ha : wf a) (hs : isOp s) : eP S 163 [.g (tOp s a b)] = some (encO (opR s a b)) := by
  refine x_fn (orcS (by decide)) (fc := F163) rfl rfl ?_
  have h1 := step9_ok (b := b) ha hs
  have h2 := May_ok hs a b (f := 4611686018427387904) (by decide)
  obtain ⟨⟨r, w⟩, hr⟩ : ∃ r, opR s a b = r := ⟨_, rfl⟩
  have hl : ∃ c1 c2 c3 c4, r = [c1, c2, c3, c4] := by
    have : r = (opR s a b).1 := by rw [hr]
    rw [this]; unfold opR tI
    repeat' split
    all_goals exact ⟨_, _, _, _, rfl⟩
  obtain ⟨c1, c2, c3, c4, rfl⟩ := hl
  rw [hr] at h1 ⊢
  simp only [encO, tOp, tI] at h1 h2 ⊢
  simp only [F163, tI, tOp, h1, h2, fxa, fxc, fxE, fxL, fxI, nxE, evO, evR, cellsT, ldCells, mkT, lenA, binPV, Env.init, resV, resT, frT, klT, ownT, intT, O.adds, ownA, rowsA, over, wrOk, keysT, keysA, ne_eq, if_true, if_false, ite_self, Nat.reduceLT, Nat.reduceSub, Nat.reduceBEq, Nat.reduceEqDiff, Nat.reduceAdd, Nat.reduceLeDiff, reduceCtorEq, Nat.reduceMul]
end Go.Proofs.Ytkpfjolcmkikeaa
end
section
set_option linter.unusedSimpArgs false
set_option linter.unusedVariables false
set_option maxHeartbeats 8000000
set_option maxRecDepth 10000
namespace Go.Proofs.Ytkpfjolcmkikeaa
open Go.Fx
theorem RAsks_ok (k : Int) : eP S 126 [.a (.i .i64 k)] = some (.a (.b (decide (cls k = 1)))) := by
  refine x_fn (orcS (by decide)) (fc := F126) rfl rfl ?_
  unfold cls
  by_cases h1 : k = 3
  · simp only [F126, h1, Int.reduceEq, or_true, true_or, fxa, fxc, fxE, fxL, fxI, nxE, evO, evR, cellsT, ldCells, mkT, lenA, binPV, Env.init, resV, resT, frT, klT, ownT, intT, O.adds, ownA, rowsA, over, wrOk, keysT, keysA, ne_eq, if_true, if_false, ite_self, Nat.reduceLT, Nat.reduceSub, Nat.reduceBEq, Nat.reduceEqDiff, Nat.reduceAdd, Nat.reduceLeDiff, reduceCtorEq, Nat.reduceMul]
  by_cases h2 : k = 9
  · simp only [F126, h2, Int.reduceEq, or_true, true_or, false_or, fxa, fxc, fxE, fxL, fxI, nxE, evO, evR, cellsT, ldCells, mkT, lenA, binPV, Env.init, resV, resT, frT, klT, ownT, intT, O.adds, ownA, rowsA, over, wrOk, keysT, keysA, ne_eq, if_true, if_false, ite_self, Nat.reduceLT, Nat.reduceSub, Nat.reduceBEq, Nat.reduceEqDiff, Nat.reduceAdd, Nat.reduceLeDiff, reduceCtorEq, Nat.reduceMul]
  by_cases h3 : k = 11
  · simp only [F126, h3, Int.reduceEq, or_true, true_or, false_or, fxa, fxc, fxE, fxL, fxI, nxE, evO, evR, cellsT, ldCells, mkT, lenA, binPV, Env.init, resV, resT, frT, klT, ownT, intT, O.adds, ownA, rowsA, over, wrOk, keysT, keysA, ne_eq, if_true, if_false, ite_self, Nat.reduceLT, Nat.reduceSub, Nat.reduceBEq, Nat.reduceEqDiff, Nat.reduceAdd, Nat.reduceLeDiff, reduceCtorEq, Nat.reduceMul]
  by_cases h4 : k = 12
  · simp only [F126, h4, Int.reduceEq, or_true, true_or, false_or, fxa, fxc, fxE, fxL, fxI, nxE, evO, evR, cellsT, ldCells, mkT, lenA, binPV, Env.init, resV, resT, frT, klT, ownT, intT, O.adds, ownA, rowsA, over, wrOk, keysT, keysA, ne_eq, if_true, if_false, ite_self, Nat.reduceLT, Nat.reduceSub, Nat.reduceBEq, Nat.reduceEqDiff, Nat.reduceAdd, Nat.reduceLeDiff, reduceCtorEq, Nat.reduceMul]
  have : (if k = 2 ∨ k = 8 ∨ k = 10 ∨ k = 13 then (2 : Int) else if k = 4 ∨ k = 5 ∨ k = 6 then 3 else if k = 7 then 4 else 0) ≠ 1 := by
    repeat' split
    all_goals omega
  simp only [F126, h1, h2, h3, h4, this, or_self, fxa, fxc, fxE, fxL, fxI, nxE, evO, evR, cellsT, ldCells, mkT, lenA, binPV, Env.init, resV, resT, frT, klT, ownT, intT, O.adds, ownA, rowsA, over, wrOk, keysT, keysA, ne_eq, if_true, if_false, ite_self, Nat.reduceLT, Nat.reduceSub, Nat.reduceBEq, Nat.reduceEqDiff, Nat.reduceAdd, Nat.reduceLeDiff, reduceCtorEq, Nat.reduceMul]
theorem RTold_ok (k : Int) : eP S 127 [.a (.i .i64 k)] = some (.a (.b (decide (cls k = 2)))) := by
  refine x_fn (orcS (by decide)) (fc := F127) rfl rfl ?_
  have e : (cls k = 2) = (k = 2 ∨ k = 8 ∨ k = 10 ∨ k = 13) := by
    unfold cls; refine propext ?_
    repeat' split
    all_goals omega
  rw [show decide (cls k = 2) = decide (k = 2 ∨ k = 8 ∨ k = 10 ∨ k = 13) from decide_eq_decide.2 (by rw [e])]
  by_cases h1 : k = 2
  · simp only [F127, h1, Int.reduceEq, or_true, true_or, fxa, fxc, fxE, fxL, fxI, nxE, evO, evR, cellsT, ldCells, mkT, lenA, binPV, Env.init, resV, resT, frT, klT, ownT, intT, O.adds, ownA, rowsA, over, wrOk, keysT, keysA, ne_eq, if_true, if_false, ite_self, Nat.reduceLT, Nat.reduceSub, Nat.reduceBEq, Nat.reduceEqDiff, Nat.reduceAdd, Nat.reduceLeDiff, reduceCtorEq, Nat.reduceMul]
  by_cases h2 : k = 8
  · simp only [F127, h2, Int.reduceEq, or_true, true_or, false_or, fxa, fxc, fxE, fxL, fxI, nxE, evO, evR, cellsT, ldCells, mkT, lenA, binPV, Env.init, resV, resT, frT, klT, ownT, intT, O.adds, ownA, rowsA, over, wrOk, keysT, keysA, ne_eq, if_true, if_false, ite_self, Nat.reduceLT, Nat.reduceSub, Nat.reduceBEq, Nat.reduceEqDiff, Nat.reduceAdd, Nat.reduceLeDiff, reduceCtorEq, Nat.reduceMul]
  by_cases h3 : k = 10
  · simp only [F127, h3, Int.reduceEq, or_true, true_or, false_or, fxa, fxc, fxE, fxL, fxI, nxE, evO, evR, cellsT, ldCells, mkT, lenA, binPV, Env.init, resV, resT, frT, klT, ownT, intT, O.adds, ownA, rowsA, over, wrOk, keysT, keysA, ne_eq, if_true, if_false, ite_self, Nat.reduceLT, Nat.reduceSub, Nat.reduceBEq, Nat.reduceEqDiff, Nat.reduceAdd, Nat.reduceLeDiff, reduceCtorEq, Nat.reduceMul]
  by_cases h4 : k = 13
  · simp only [F127, h4, Int.reduceEq, or_true, true_or, false_or, fxa, fxc, fxE, fxL, fxI, nxE, evO, evR, cellsT, ldCells, mkT, lenA, binPV, Env.init, resV, resT, frT, klT, ownT, intT, O.adds, ownA, rowsA, over, wrOk, keysT, keysA, ne_eq, if_true, if_false, ite_self, Nat.reduceLT, Nat.reduceSub, Nat.reduceBEq, Nat.reduceEqDiff, Nat.reduceAdd, Nat.reduceLeDiff, reduceCtorEq, Nat.reduceMul]
  simp only [F127, h1, h2, h3, h4, or_self, fxa, fxc, fxE, fxL, fxI, nxE, evO, evR, cellsT, ldCells, mkT, lenA, binPV, Env.init, resV, resT, frT, klT, ownT, intT, O.adds, ownA, rowsA, over, wrOk, keysT, keysA, ne_eq, if_true, if_false, ite_self, Nat.reduceLT, Nat.reduceSub, Nat.reduceBEq, Nat.reduceEqDiff, Nat.reduceAdd, Nat.reduceLeDiff, reduceCtorEq, Nat.reduceMul]
theorem RControl_ok (k : Int) : eP S 128 [.a (.i .i64 k)] = some (.a (.b (decide (cls k = 3)))) := by
  refine x_fn (orcS (by decide)) (fc := F128) rfl rfl ?_
  have e : (cls k = 3) = (k = 4 ∨ k = 5 ∨ k = 6) := by
    unfold cls; refine propext ?_
    repeat' split
    all_goals omega
  rw [show decide (cls k = 3) = decide (k = 4 ∨ k = 5 ∨ k = 6) from decide_eq_decide.2 (by rw [e])]
  by_cases h1 : k = 4
  · simp only [F128, h1, Int.reduceEq, or_true, true_or, fxa, fxc, fxE, fxL, fxI, nxE, evO, evR, cellsT, ldCells, mkT, lenA, binPV, Env.init, resV, resT, frT, klT, ownT, intT, O.adds, ownA, rowsA, over, wrOk, keysT, keysA, ne_eq, if_true, if_false, ite_self, Nat.reduceLT, Nat.reduceSub, Nat.reduceBEq, Nat.reduceEqDiff, Nat.reduceAdd, Nat.reduceLeDiff, reduceCtorEq, Nat.reduceMul]
  by_cases h2 : k = 5
  · simp only [F128, h2, Int.reduceEq, or_true, true_or, false_or, fxa, fxc, fxE, fxL, fxI, nxE, evO, evR, cellsT, ldCells, mkT, lenA, binPV, Env.init, resV, resT, frT, klT, ownT, intT, O.adds, ownA, rowsA, over, wrOk, keysT, keysA, ne_eq, if_true, if_false, ite_self, Nat.reduceLT, Nat.reduceSub, Nat.reduceBEq, Nat.reduceEqDiff, Nat.reduceAdd, Nat.reduceLeDiff, reduceCtorEq, Nat.reduceMul]
  by_cases h3 : k = 6
  · simp only [F128, h3, Int.reduceEq, or_true, true_or, false_or, fxa, fxc, fxE, fxL, fxI, nxE, evO, evR, cellsT, ldCells, mkT, lenA, binPV, Env.init, resV, resT, frT, klT, ownT, intT, O.adds, ownA, rowsA, over, wrOk, keysT, keysA, ne_eq, if_true, if_false, ite_self, Nat.reduceLT, Nat.reduceSub, Nat.reduceBEq, Nat.reduceEqDiff, Nat.reduceAdd, Nat.reduceLeDiff, reduceCtorEq, Nat.reduceMul]
  simp only [F128, h1, h2, h3, or_self, fxa, fxc, fxE, fxL, fxI, nxE, evO, evR, cellsT, ldCells, mkT, lenA, binPV, Env.init, resV, resT, frT, klT, ownT, intT, O.adds, ownA, rowsA, over, wrOk, keysT, keysA, ne_eq, if_true, if_false, ite_self, Nat.reduceLT, Nat.reduceSub, Nat.reduceBEq, Nat.reduceEqDiff, Nat.reduceAdd, Nat.reduceLeDiff, reduceCtorEq, Nat.reduceMul]
theorem cls4_ (k : Int) : cls k = 4 ↔ k = 7 := by
  unfold cls
  repeat' split
  all_goals omega
theorem cls_r (k : Int) : 0 ≤ cls k ∧ cls k ≤ 4 := by
  unfold cls
  repeat' split
  all_goals omega
theorem Rknown_ok (k : Int) : eP S 93 [.a (.i .i64 k)] = some (.a (.b (decide (cls k ≠ 0)))) := by
  refine x_fn (orcS (by decide)) (fc := F93) rfl rfl ?_
  have a1 := RAsks_ok k
  have a2 := RTold_ok k
  have a3 := RControl_ok k
  have c4 := cls4_ k
  have cr := cls_r k
  by_cases h1 : cls k = 1
  · simp only [F93, a1, a2, a3, h1, Int.reduceEq, ne_eq, not_false_eq_true, fxa, fxc, fxE, fxL, fxI, nxE, evO, evR, cellsT, ldCells, mkT, lenA, binPV, Env.init, resV, resT, frT, klT, ownT, intT, O.adds, ownA, rowsA, over, wrOk, keysT, keysA, ne_eq, if_true, if_false, ite_self, Nat.reduceLT, Nat.reduceSub, Nat.reduceBEq, Nat.reduceEqDiff, Nat.reduceAdd, Nat.reduceLeDiff, reduceCtorEq, Nat.reduceMul]
  by_cases h2 : cls k = 2
  · simp only [F93, a1, a2, a3, h2, Int.reduceEq, ne_eq, not_false_eq_true, fxa, fxc, fxE, fxL, fxI, nxE, evO, evR, cellsT, ldCells, mkT, lenA, binPV, Env.init, resV, resT, frT, klT, ownT, intT, O.adds, ownA, rowsA, over, wrOk, keysT, keysA, ne_eq, if_true, if_false, ite_self, Nat.reduceLT, Nat.reduceSub, Nat.reduceBEq, Nat.reduceEqDiff, Nat.reduceAdd, Nat.reduceLeDiff, reduceCtorEq, Nat.reduceMul]
  by_cases h3 : cls k = 3
  · simp only [F93, a1, a2, a3, h3, Int.reduceEq, ne_eq, not_false_eq_true, fxa, fxc, fxE, fxL, fxI, nxE, evO, evR, cellsT, ldCells, mkT, lenA, binPV, Env.init, resV, resT, frT, klT, ownT, intT, O.adds, ownA, rowsA, over, wrOk, keysT, keysA, ne_eq, if_true, if_false, ite_self, Nat.reduceLT, Nat.reduceSub, Nat.reduceBEq, Nat.reduceEqDiff, Nat.reduceAdd, Nat.reduceLeDiff, reduceCtorEq, Nat.reduceMul]
  by_cases h4 : k = 7
  · have h4' := c4.2 h4
    simp only [F93, a1, a2, a3, h1, h2, h3, h4', h4, Int.reduceEq, ne_eq, not_false_eq_true, fxa, fxc, fxE, fxL, fxI, nxE, evO, evR, cellsT, ldCells, mkT, lenA, binPV, Env.init, resV, resT, frT, klT, ownT, intT, O.adds, ownA, rowsA, over, wrOk, keysT, keysA, ne_eq, if_true, if_false, ite_self, Nat.reduceLT, Nat.reduceSub, Nat.reduceBEq, Nat.reduceEqDiff, Nat.reduceAdd, Nat.reduceLeDiff, reduceCtorEq, Nat.reduceMul]
    all_goals simp only [h4] at h4' a1 a2 a3
    all_goals simp only [a1, a2, a3, h4', Int.reduceEq, not_false_eq_true, fxa, fxc, fxE, fxL, fxI, nxE, evO, evR, cellsT, ldCells, mkT, lenA, binPV, Env.init, resV, resT, frT, klT, ownT, intT, O.adds, ownA, rowsA, over, wrOk, keysT, keysA, ne_eq, if_true, if_false, ite_self, Nat.reduceLT, Nat.reduceSub, Nat.reduceBEq, Nat.reduceEqDiff, Nat.reduceAdd, Nat.reduceLeDiff, reduceCtorEq, Nat.reduceMul]
  · have h0 : cls k = 0 := by
      have : cls k ≠ 4 := fun e => h4 (c4.1 e)
      omega
    simp only [F93, a1, a2, a3, h0, h4, Int.reduceEq, ne_eq, not_true_eq_false, fxa, fxc, fxE, fxL, fxI, nxE, evO, evR, cellsT, ldCells, mkT, lenA, binPV, Env.init, resV, resT, frT, klT, ownT, intT, O.adds, ownA, rowsA, over, wrOk, keysT, keysA, ne_eq, if_true, if_false, ite_self, Nat.reduceLT, Nat.reduceSub, Nat.reduceBEq, Nat.reduceEqDiff, Nat.reduceAdd, Nat.reduceLeDiff, reduceCtorEq, Nat.reduceMul]
theorem Rpassed_ok (x y : Nd) : eP S 129 [.g (encN x), .g (encN y)] = some (encLE (passR x y)) := by
  refine x_fn (orcS (by decide)) (fc := F129) rfl rfl ?_
  unfold passR passLv wr
  by_cases h1 : x.lv ≥ y.lv
  · simp only [F129, encLE, encL, noR, p0, zN, h1, fxa, fxc, fxE, fxL, fxI, nxE, evO, evR, cellsT, ldCells, mkT, lenA, binPV, Env.init, resV, resT, frT, klT, ownT, intT, O.adds, ownA, rowsA, over, wrOk, keysT, keysA, ne_eq, if_true, if_false, ite_self, Nat.reduceLT, Nat.reduceSub, Nat.reduceBEq, Nat.reduceEqDiff, Nat.reduceAdd, Nat.reduceLeDiff, reduceCtorEq, Nat.reduceMul]
  by_cases h5 : x.k = 5
  · by_cases h2 : IntKind.i64.wrap (y.lv - 1) > 60
    · simp only [F129, encLE, encL, noR, p0, zN, h5, h1, h2, Int.reduceEq, fxa, fxc, fxE, fxL, fxI, nxE, evO, evR, cellsT, ldCells, mkT, lenA, binPV, Env.init, resV, resT, frT, klT, ownT, intT, O.adds, ownA, rowsA, over, wrOk, keysT, keysA, ne_eq, if_true, if_false, ite_self, Nat.reduceLT, Nat.reduceSub, Nat.reduceBEq, Nat.reduceEqDiff, Nat.reduceAdd, Nat.reduceLeDiff, reduceCtorEq, Nat.reduceMul]
    · simp only [F129, encLE, encL, noR, p0, zN, h5, h1, h2, Int.reduceEq, fxa, fxc, fxE, fxL, fxI, nxE, evO, evR, cellsT, ldCells, mkT, lenA, binPV, Env.init, resV, resT, frT, klT, ownT, intT, O.adds, ownA, rowsA, over, wrOk, keysT, keysA, ne_eq, if_true, if_false, ite_self, Nat.reduceLT, Nat.reduceSub, Nat.reduceBEq, Nat.reduceEqDiff, Nat.reduceAdd, Nat.reduceLeDiff, reduceCtorEq, Nat.reduceMul]
  by_cases h6 : x.k = 6
  · by_cases h2 : IntKind.i64.wrap (y.lv + 1) > 60
    · simp only [F129, encLE, encL, noR, p0, zN, h6, h1, h2, Int.reduceEq, fxa, fxc, fxE, fxL, fxI, nxE, evO, evR, cellsT, ldCells, mkT, lenA, binPV, Env.init, resV, resT, frT, klT, ownT, intT, O.adds, ownA, rowsA, over, wrOk, keysT, keysA, ne_eq, if_true, if_false, ite_self, Nat.reduceLT, Nat.reduceSub, Nat.reduceBEq, Nat.reduceEqDiff, Nat.reduceAdd, Nat.reduceLeDiff, reduceCtorEq, Nat.reduceMul]
    · simp only [F129, encLE, encL, noR, p0, zN, h6, h1, h2, Int.reduceEq, fxa, fxc, fxE, fxL, fxI, nxE, evO, evR, cellsT, ldCells, mkT, lenA, binPV, Env.init, resV, resT, frT, klT, ownT, intT, O.adds, ownA, rowsA, over, wrOk, keysT, keysA, ne_eq, if_true, if_false, ite_self, Nat.reduceLT, Nat.reduceSub, Nat.reduceBEq, Nat.reduceEqDiff, Nat.reduceAdd, Nat.reduceLeDiff, reduceCtorEq, Nat.reduceMul]
  · by_cases h2 : y.lv > 60
    · simp only [F129, encLE, encL, noR, p0, zN, h5, h6, h1, h2, Int.reduceEq, fxa, fxc, fxE, fxL, fxI, nxE, evO, evR, cellsT, ldCells, mkT, lenA, binPV, Env.init, resV, resT, frT, klT, ownT, intT, O.adds, ownA, rowsA, over, wrOk, keysT, keysA, ne_eq, if_true, if_false, ite_self, Nat.reduceLT, Nat.reduceSub, Nat.reduceBEq, Nat.reduceEqDiff, Nat.reduceAdd, Nat.reduceLeDiff, reduceCtorEq, Nat.reduceMul]
    · simp only [F129, encLE, encL, noR, p0, zN, h5, h6, h1, h2, Int.reduceEq, fxa, fxc, fxE, fxL, fxI, nxE, evO, evR, cellsT, ldCells, mkT, lenA, binPV, Env.init, resV, resT, frT, klT, ownT, intT, O.adds, ownA, rowsA, over, wrOk, keysT, keysA, ne_eq, if_true, if_false, ite_self, Nat.reduceLT, Nat.reduceSub, Nat.reduceBEq, Nat.reduceEqDiff, Nat.reduceAdd, Nat.reduceLeDiff, reduceCtorEq, Nat.reduceMul]
end Go.Proofs.Ytkpfjolcmkikeaa
end
section
set_option linter.unusedSimpArgs false
set_option linter.unusedVariables false
set_option maxHeartbeats 8000000
set_option maxRecDepth 10000
namespace Go.Proofs.Ytkpfjolcmkikeaa
open Go.Fx
theorem Rhalf_ok {x y : Nd} (hx : x.Ok) : eP S 148 [.g (encN x), .g (encN y)] = some (encLE (outR x y)) := by
  refine x_fn (orcS (by decide)) (fc := F148) rfl rfl ?_
  have c3 : isOp x.s → eP S 163 [.g (tOp x.s x.n y.n)] = some (encO (opR x.s x.n y.n)) := fun h => RStep_ok (b := y.n) hx.n h
  unfold outR outN
  by_cases h1 : x.s = [43]
  · have c3 := c3 (.inl h1)
    unfold opR at c3
    simp only [h1, tOp, tI, encO, wr, List.cons.injEq, nmU, if_true] at c3
    simp only [F148, PT.flat, PV.flat, List.all_cons, List.all_nil, Bool.and_true, Bool.and_false, Bool.true_and, Bool.false_and, encLE, encL, plainR, zN, wr, h1, c3, Int.reduceEq, List.cons.injEq, nmU, List.cons_ne_nil, not_true_eq_false, fxa, fxc, fxE, fxL, fxI, nxE, evO, evR, cellsT, ldCells, mkT, lenA, binPV, Env.init, resV, resT, frT, klT, ownT, intT, O.adds, ownA, rowsA, over, wrOk, keysT, keysA, ne_eq, if_true, if_false, ite_self, Nat.reduceLT, Nat.reduceSub, Nat.reduceBEq, Nat.reduceEqDiff, Nat.reduceAdd, Nat.reduceLeDiff, reduceCtorEq, Nat.reduceMul]
  by_cases h2 : x.s = [45]
  · have c3 := c3 (.inr (.inl h2))
    unfold opR at c3
    simp only [h2, tOp, tI, encO, wr, List.cons.injEq, nmU, if_true, false_and, if_false] at c3
    simp only [F148, PT.flat, PV.flat, List.all_cons, List.all_nil, Bool.and_true, Bool.and_false, Bool.true_and, Bool.false_and, encLE, encL, plainR, zN, wr, h2, c3, Int.reduceEq, List.cons.injEq, nmU, List.cons_ne_nil, not_true_eq_false, fxa, fxc, fxE, fxL, fxI, nxE, evO, evR, cellsT, ldCells, mkT, lenA, binPV, Env.init, resV, resT, frT, klT, ownT, intT, O.adds, ownA, rowsA, over, wrOk, keysT, keysA, ne_eq, if_true, if_false, ite_self, Nat.reduceLT, Nat.reduceSub, Nat.reduceBEq, Nat.reduceEqDiff, Nat.reduceAdd, Nat.reduceLeDiff, reduceCtorEq, Nat.reduceMul]
  by_cases h3 : x.s = [42]
  · have c3 := c3 (.inr (.inr (.inl h3)))
    unfold opR at c3
    simp only [h3, tOp, tI, encO, wr, List.cons.injEq, nmU, if_true, false_and, if_false] at c3
    simp only [F148, PT.flat, PV.flat, List.all_cons, List.all_nil, Bool.and_true, Bool.and_false, Bool.true_and, Bool.false_and, encLE, encL, plainR, zN, wr, h3, c3, Int.reduceEq, List.cons.injEq, nmU, List.cons_ne_nil, not_true_eq_false, fxa, fxc, fxE, fxL, fxI, nxE, evO, evR, cellsT, ldCells, mkT, lenA, binPV, Env.init, resV, resT, frT, klT, ownT, intT, O.adds, ownA, rowsA, over, wrOk, keysT, keysA, ne_eq, if_true, if_false, ite_self, Nat.reduceLT, Nat.reduceSub, Nat.reduceBEq, Nat.reduceEqDiff, Nat.reduceAdd, Nat.reduceLeDiff, reduceCtorEq, Nat.reduceMul]
  by_cases h4 : x.s = [47]
  · have c3 := c3 (.inr (.inr (.inr (.inl h4))))
    unfold opR at c3
    by_cases h0 : y.n = 0
    · simp only [h4, h0, tOp, tI, encO, wr, List.cons.injEq, nmU, if_true, false_and, if_false] at c3
      simp only [F148, PT.flat, PV.flat, List.all_cons, List.all_nil, Bool.and_true, Bool.and_false, Bool.true_and, Bool.false_and, encLE, encL, plainR, zN, wr, h4, h0, c3, Int.reduceEq, List.cons.injEq, nmU, List.cons_ne_nil, not_true_eq_false, fxa, fxc, fxE, fxL, fxI, nxE, evO, evR, cellsT, ldCells, mkT, lenA, binPV, Env.init, resV, resT, frT, klT, ownT, intT, O.adds, ownA, rowsA, over, wrOk, keysT, keysA, ne_eq, if_true, if_false, ite_self, Nat.reduceLT, Nat.reduceSub, Nat.reduceBEq, Nat.reduceEqDiff, Nat.reduceAdd, Nat.reduceLeDiff, reduceCtorEq, Nat.reduceMul]
    · simp only [h4, h0, tOp, tI, encO, wr, List.cons.injEq, nmU, if_true, false_and, if_false] at c3
      simp only [F148, PT.flat, PV.flat, List.all_cons, List.all_nil, Bool.and_true, Bool.and_false, Bool.true_and, Bool.false_and, encLE, encL, plainR, zN, wr, h4, h0, c3, Int.reduceEq, List.cons.injEq, nmU, List.cons_ne_nil, not_true_eq_false, fxa, fxc, fxE, fxL, fxI, nxE, evO, evR, cellsT, ldCells, mkT, lenA, binPV, Env.init, resV, resT, frT, klT, ownT, intT, O.adds, ownA, rowsA, over, wrOk, keysT, keysA, ne_eq, if_true, if_false, ite_self, Nat.reduceLT, Nat.reduceSub, Nat.reduceBEq, Nat.reduceEqDiff, Nat.reduceAdd, Nat.reduceLeDiff, reduceCtorEq, Nat.reduceMul]
  by_cases h5 : x.s = [60]
  · have c3 := c3 (.inr (.inr (.inr (.inr (.inl h5)))))
    unfold opR at c3
    by_cases h0 : x.n < y.n
    · simp only [h5, h0, tOp, tI, encO, wr, List.cons.injEq, nmU, if_true, false_and, if_false, true_and, true_or] at c3
      simp only [F148, PT.flat, PV.flat, List.all_cons, List.all_nil, Bool.and_true, Bool.and_false, Bool.true_and, Bool.false_and, encLE, encL, plainR, zN, wr, h5, h0, c3, truthN, zP, decide_true, Int.reduceEq, List.cons.injEq, nmU, List.cons_ne_nil, not_true_eq_false, fxa, fxc, fxE, fxL, fxI, nxE, evO, evR, cellsT, ldCells, mkT, lenA, binPV, Env.init, resV, resT, frT, klT, ownT, intT, O.adds, ownA, rowsA, over, wrOk, keysT, keysA, ne_eq, if_true, if_false, ite_self, Nat.reduceLT, Nat.reduceSub, Nat.reduceBEq, Nat.reduceEqDiff, Nat.reduceAdd, Nat.reduceLeDiff, reduceCtorEq, Nat.reduceMul]
    · simp only [h5, h0, tOp, tI, encO, wr, List.cons.injEq, nmU, if_true, false_and, if_false, true_and, or_self] at c3
      simp only [F148, PT.flat, PV.flat, List.all_cons, List.all_nil, Bool.and_true, Bool.and_false, Bool.true_and, Bool.false_and, encLE, encL, plainR, zN, wr, h5, h0, c3, truthN, zP, decide_false, Bool.false_eq_true, Int.reduceEq, List.cons.injEq, nmU, List.cons_ne_nil, not_true_eq_false, fxa, fxc, fxE, fxL, fxI, nxE, evO, evR, cellsT, ldCells, mkT, lenA, binPV, Env.init, resV, resT, frT, klT, ownT, intT, O.adds, ownA, rowsA, over, wrOk, keysT, keysA, ne_eq, if_true, if_false, ite_self, Nat.reduceLT, Nat.reduceSub, Nat.reduceBEq, Nat.reduceEqDiff, Nat.reduceAdd, Nat.reduceLeDiff, reduceCtorEq, Nat.reduceMul]
  by_cases h6 : x.s = [61, 61]
  · have c3 := c3 (.inr (.inr (.inr (.inr (.inr h6)))))
    unfold opR at c3
    by_cases h0 : x.n = y.n
    · simp only [h6, h0, tOp, tI, encO, wr, List.cons.injEq, nmU, if_true, false_and, if_false, true_and, or_true, and_true, and_self] at c3
      simp only [F148, PT.flat, PV.flat, List.all_cons, List.all_nil, Bool.and_true, Bool.and_false, Bool.true_and, Bool.false_and, encLE, encL, plainR, zN, wr, h6, h0, c3, truthN, zP, decide_true, Int.reduceEq, List.cons.injEq, nmU, List.cons_ne_nil, not_true_eq_false, fxa, fxc, fxE, fxL, fxI, nxE, evO, evR, cellsT, ldCells, mkT, lenA, binPV, Env.init, resV, resT, frT, klT, ownT, intT, O.adds, ownA, rowsA, over, wrOk, keysT, keysA, ne_eq, if_true, if_false, ite_self, Nat.reduceLT, Nat.reduceSub, Nat.reduceBEq, Nat.reduceEqDiff, Nat.reduceAdd, Nat.reduceLeDiff, reduceCtorEq, Nat.reduceMul]
    · simp only [h6, h0, tOp, tI, encO, wr, List.cons.injEq, nmU, if_true, false_and, if_false, true_and, or_self, and_false] at c3
      simp only [F148, PT.flat, PV.flat, List.all_cons, List.all_nil, Bool.and_true, Bool.and_false, Bool.true_and, Bool.false_and, encLE, encL, plainR, zN, wr, h6, h0, c3, truthN, zP, decide_false, Bool.false_eq_true, Int.reduceEq, List.cons.injEq, nmU, List.cons_ne_nil, not_true_eq_false, fxa, fxc, fxE, fxL, fxI, nxE, evO, evR, cellsT, ldCells, mkT, lenA, binPV, Env.init, resV, resT, frT, klT, ownT, intT, O.adds, ownA, rowsA, over, wrOk, keysT, keysA, ne_eq, if_true, if_false, ite_self, Nat.reduceLT, Nat.reduceSub, Nat.reduceBEq, Nat.reduceEqDiff, Nat.reduceAdd, Nat.reduceLeDiff, reduceCtorEq, Nat.reduceMul]
  · simp only [F148, PT.flat, PV.flat, List.all_cons, List.all_nil, Bool.and_true, Bool.and_false, Bool.true_and, Bool.false_and, encLE, encL, plainR, zN, wr, h1, h2, h3, h4, h5, h6, Int.reduceEq, List.cons.injEq, nmU, List.cons_ne_nil, false_and, not_true_eq_false, fxa, fxc, fxE, fxL, fxI, nxE, evO, evR, cellsT, ldCells, mkT, lenA, binPV, Env.init, resV, resT, frT, klT, ownT, intT, O.adds, ownA, rowsA, over, wrOk, keysT, keysA, ne_eq, if_true, if_false, ite_self, Nat.reduceLT, Nat.reduceSub, Nat.reduceBEq, Nat.reduceEqDiff, Nat.reduceAdd, Nat.reduceLeDiff, reduceCtorEq, Nat.reduceMul]
end Go.Proofs.Ytkpfjolcmkikeaa
end
section
set_option linter.unusedSimpArgs false
set_option linter.unusedVariables false
set_option maxHeartbeats 8000000
set_option maxRecDepth 10000
namespace Go.Proofs.Ytkpfjolcmkikeaa
open Go.Fx
def pk (y : Nd) (a : Ar) : Bool := decide (a.s = y.s) && decide (a.n = wr (y.to.length - 1))
theorem idx_some {f : Ar → Bool} {l : List Ar} {j : Nat} {a : Ar} (ha : l[j]? = some a) (hf : f a = true) (hb : ∀ i b, i < j → l[i]? = some b → f b = false) : idx f l = (j : Int) := by
  have hj := (List.getElem?_eq_some_iff.1 ha)
  have hjl := hj.1
  have : l.findIdx? f = some j := by
    rw [List.findIdx?_eq_some_iff_getElem]
    refine ⟨hj.1, by rw [hj.2]; exact hf, fun i hi => ?_⟩
    rw [hb i _ hi (List.getElem?_eq_getElem (by omega))]; simp
  unfold idx; rw [this]
theorem idx_none {f : Ar → Bool} {l : List Ar} (hb : ∀ (i : Nat) b, l[i]? = some b → f b = false) : idx f l = -1 := by
  have : l.findIdx? f = none := by
    rw [List.findIdx?_eq_none_iff]
    intro b hb'
    obtain ⟨i, hi, e⟩ := List.mem_iff_getElem.1 hb'
    exact hb i b (by rw [← e]; exact List.getElem?_eq_getElem hi)
  unfold idx; rw [this]
theorem askLoop {x y : Nd} {σ : St} (hx : x.Ok) (h9 : x.k = 9) (h8 : y.k = 8) (s2 : σ.bs (2, 0) = some (.var ((encN x).map .p))) (s3 : σ.bs (3, 1) = some (.var ((encN y).map .p)))
    (s4 : σ.bs (4, 2) = some (.var [.p (.i .i64 0), .p (.b false), .p (.i .i64 0), .p (.i .i64 0), .p (.i .i64 0), .p (.i .i64 0), .p (.i .i64 0), .p (.s []), .nil, .nil])) (e : Env)
    (e2 : e 2 = .a (.ptr (2, 0) 0 0)) (e3 : e 3 = .a (.ptr (3, 1) 0 0)) (e4 : e 4 = .a (.ptr (4, 2) 0 0)) (e6 : e 6 = .a (.p (.i .i64 0))) :
    wp S false (.loop F130b0) e σ (fun z e' σ' => (z = .exit 0 ∧ pickIx x y < 0 ∧ σ' = σ ∧ e' 2 = .a (.ptr (2, 0) 0 0) ∧ e' 3 = .a (.ptr (3, 1) 0 0) ∧ e' 4 = .a (.ptr (4, 2) 0 0))
      ∨ (z = .ret ∧ 0 ≤ pickIx x y ∧ e' 4 = .a (.ptr (4, 2) 0 0) ∧ e' 5 = .a (.p (.i .i64 0)) ∧ σ'.bs (4, 2) = some (.var [.p (.i .i64 2), .p (.b false), .p (.i .i64 0), .p (.i .i64 (pickIx x y)), .p (.i .i64 0), .p (.i .i64 0), .p (.i .i64 0), .p (.s []), .nil, .nil]))) := by
  have hb := hx.al
  refine loop_nat x.al.length (fun j e τ => τ = σ ∧ (∀ (i : Nat) b, i < j → x.al[i]? = some b → pk y b = false) ∧ e 2 = .a (.ptr (2, 0) 0 0) ∧ e 3 = .a (.ptr (3, 1) 0 0) ∧ e 4 = .a (.ptr (4, 2) 0 0) ∧ e 6 = .a (.p (.i .i64 (j : Nat)))) (i0 := 0) (Nat.zero_le _) ⟨rfl, fun i b h => absurd h (Nat.not_lt_zero _), e2, e3, e4, e6⟩ ?_ ?_
  · rintro j e τ hj ⟨rfl, hbef, e2, e3, e4, e6⟩
    obtain ⟨a, ha⟩ : ∃ a, x.al[j]? = some a := ⟨_, List.getElem?_eq_getElem hj⟩
    have ga := mapGet encA ha
    have hjlt : ((j : Nat) : Int) < (x.al.length : Int) := by omega
    have hjge : (0 : Int) ≤ ((j : Nat) : Int) := by omega
    have hw : IntKind.i64.wrap ((j : Int) + 1) = ((j + 1 : Nat) : Int) := wrap_succ j (by omega)
    simp only [encN, List.map_cons, List.map_nil, h9, h8] at s2 s3
    simp only [encA] at ga
    have hpk : pk y a = (decide (a.s = y.s) && decide (a.n = IntKind.i64.wrap ((y.to.length : Int) - 1))) := rfl
    by_cases h1 : a.s = y.s
    · by_cases h2 : a.n = IntKind.i64.wrap ((y.to.length : Int) - 1)
      · have hp : pk y a = true := by rw [hpk]; simp [h1, h2]
        have hix : pickIx x y = (j : Int) := idx_some ha hp hbef
        have h0 : (0 : Int) ≤ (j : Int) := hjge
        simp only [F130b0, e2, e3, e4, e6, s2, s3, s4, ga, h1, h2, hix, hjlt, hjge, hw, allA, Int.reduceEq, Int.toNat_natCast, List.length_map, reduceCtorEq, false_and, true_and, and_true, or_false, false_or, fxa, fxc, fxE, fxL, fxI, nxE, evO, evR, cellsT, ldCells, mkT, lenA, binPV, Env.init, resV, resT, frT, klT, ownT, intT, O.adds, ownA, rowsA, over, wrOk, keysT, keysA, ne_eq, if_true, if_false, ite_self, Nat.reduceLT, Nat.reduceSub, Nat.reduceBEq, Nat.reduceEqDiff, Nat.reduceAdd, Nat.reduceLeDiff, reduceCtorEq, Nat.reduceMul]
      · have hp : pk y a = false := by rw [hpk]; simp [h2]
        have hstep : ∀ (i : Nat) b, i < j + 1 → x.al[i]? = some b → pk y b = false := fun i b hi hb => by
          rcases Nat.lt_succ_iff_lt_or_eq.1 hi with h | h
          · exact hbef i b h hb
          · subst h; rw [ha] at hb; cases hb; exact hp
        simp only [F130b0, e2, e3, e4, e6, s2, s3, s4, ga, h1, h2, hjlt, hjge, hw, hstep, allA, Int.reduceEq, Int.toNat_natCast, List.length_map, fxa, fxc, fxE, fxL, fxI, nxE, evO, evR, cellsT, ldCells, mkT, lenA, binPV, Env.init, resV, resT, frT, klT, ownT, intT, O.adds, ownA, rowsA, over, wrOk, keysT, keysA, ne_eq, if_true, if_false, ite_self, Nat.reduceLT, Nat.reduceSub, Nat.reduceBEq, Nat.reduceEqDiff, Nat.reduceAdd, Nat.reduceLeDiff, reduceCtorEq, Nat.reduceMul]
        try exact hstep
    · have hp : pk y a = false := by rw [hpk]; simp [h1]
      have hstep : ∀ (i : Nat) b, i < j + 1 → x.al[i]? = some b → pk y b = false := fun i b hi hb => by
        rcases Nat.lt_succ_iff_lt_or_eq.1 hi with h | h
        · exact hbef i b h hb
        · subst h; rw [ha] at hb; cases hb; exact hp
      simp only [F130b0, e2, e3, e4, e6, s2, s3, s4, ga, h1, hjlt, hjge, hw, hstep, allA, Int.reduceEq, Int.toNat_natCast, List.length_map, fxa, fxc, fxE, fxL, fxI, nxE, evO, evR, cellsT, ldCells, mkT, lenA, binPV, Env.init, resV, resT, frT, klT, ownT, intT, O.adds, ownA, rowsA, over, wrOk, keysT, keysA, ne_eq, if_true, if_false, ite_self, Nat.reduceLT, Nat.reduceSub, Nat.reduceBEq, Nat.reduceEqDiff, Nat.reduceAdd, Nat.reduceLeDiff, reduceCtorEq, Nat.reduceMul]
      try exact hstep
  · rintro e τ ⟨rfl, hbef, e2, e3, e4, e6⟩
    have hlt : ¬ ((x.al.length : Nat) : Int) < (x.al.length : Int) := by omega
    have hix : pickIx x y = -1 := idx_none fun i b hb => hbef i b (List.getElem?_eq_some_iff.1 hb).1 hb
    simp only [encN, List.map_cons, List.map_nil, h9, h8] at s2 s3
    simp only [F130b0, e2, e3, e4, e6, s2, s3, s4, hlt, hix, allA, Int.reduceEq, Int.reduceNeg, Int.reduceLT, Int.reduceLE, List.length_map, reduceCtorEq, false_and, true_and, and_true, or_false, false_or, fxa, fxc, fxE, fxL, fxI, nxE, evO, evR, cellsT, ldCells, mkT, lenA, binPV, Env.init, resV, resT, frT, klT, ownT, intT, O.adds, ownA, rowsA, over, wrOk, keysT, keysA, ne_eq, if_true, if_false, ite_self, Nat.reduceLT, Nat.reduceSub, Nat.reduceBEq, Nat.reduceEqDiff, Nat.reduceAdd, Nat.reduceLeDiff, reduceCtorEq, Nat.reduceMul]
theorem askLoop0 {x y : Nd} {σ : St} (h98 : ¬ (x.k = 9 ∧ y.k = 8)) (s2 : σ.bs (2, 0) = some (.var ((encN x).map .p))) (s3 : σ.bs (3, 1) = some (.var ((encN y).map .p))) (e : Env)
    (e2 : e 2 = .a (.ptr (2, 0) 0 0)) (e3 : e 3 = .a (.ptr (3, 1) 0 0)) (e4 : e 4 = .a (.ptr (4, 2) 0 0)) (e6 : e 6 = .a (.p (.i .i64 0))) :
    wp S false (.loop F130b0) e σ (fun z e' σ' => z = .exit 0 ∧ σ' = σ ∧ e' 2 = .a (.ptr (2, 0) 0 0) ∧ e' 3 = .a (.ptr (3, 1) 0 0) ∧ e' 4 = .a (.ptr (4, 2) 0 0)) := by
  simp only [encN, List.map_cons, List.map_nil] at s2 s3
  rw [x_loop]
  by_cases h0 : (0 : Int) < (x.al.length : Int)
  · by_cases h9 : x.k = 9
    · have h8 : ¬ y.k = 8 := fun h => h98 ⟨h9, h⟩
      simp only [F130b0, e2, e3, e4, e6, s2, s3, h0, h9, h8, Int.reduceEq, allA, List.length_map, fxa, fxc, fxE, fxL, fxI, nxE, evO, evR, cellsT, ldCells, mkT, lenA, binPV, Env.init, resV, resT, frT, klT, ownT, intT, O.adds, ownA, rowsA, over, wrOk, keysT, keysA, ne_eq, if_true, if_false, ite_self, Nat.reduceLT, Nat.reduceSub, Nat.reduceBEq, Nat.reduceEqDiff, Nat.reduceAdd, Nat.reduceLeDiff, reduceCtorEq, Nat.reduceMul]
    · simp only [F130b0, e2, e3, e4, e6, s2, s3, h0, h9, Int.reduceEq, allA, List.length_map, fxa, fxc, fxE, fxL, fxI, nxE, evO, evR, cellsT, ldCells, mkT, lenA, binPV, Env.init, resV, resT, frT, klT, ownT, intT, O.adds, ownA, rowsA, over, wrOk, keysT, keysA, ne_eq, if_true, if_false, ite_self, Nat.reduceLT, Nat.reduceSub, Nat.reduceBEq, Nat.reduceEqDiff, Nat.reduceAdd, Nat.reduceLeDiff, reduceCtorEq, Nat.reduceMul]
  · simp only [F130b0, e2, e3, e4, e6, s2, s3, h0, Int.reduceEq, allA, List.length_map, fxa, fxc, fxE, fxL, fxI, nxE, evO, evR, cellsT, ldCells, mkT, lenA, binPV, Env.init, resV, resT, frT, klT, ownT, intT, O.adds, ownA, rowsA, over, wrOk, keysT, keysA, ne_eq, if_true, if_false, ite_self, Nat.reduceLT, Nat.reduceSub, Nat.reduceBEq, Nat.reduceEqDiff, Nat.reduceAdd, Nat.reduceLeDiff, reduceCtorEq, Nat.reduceMul]
theorem Rasked_ok {x y : Nd} (hx : x.Ok) : eP S 130 [.g (encN x), .g (encN y)] = some (encLE (askR x y)) := by
  refine x_fn (orcS (by decide)) (fc := F130) rfl rfl ?_
  have co := Rhalf_ok (y := y) hx
  obtain ⟨⟨⟨ok, os, ol, oa, ⟨m1, m2, m3, m4, m5, m6⟩⟩, oe⟩, ho⟩ : ∃ z, outR x y = z := ⟨_, rfl⟩
  unfold askR
  rw [ho] at co ⊢
  simp only [encN, encLE, encL] at co
  by_cases h1 : x.k = 3 ∧ y.k = 2
  · obtain ⟨h1, h2⟩ := h1
    by_cases h3 : x.lv = y.lv
    · simp only [F130, encLE, encL, plainR, noR, p0, zN, h1, h2, h3, Int.reduceEq, not_true_eq_false, fxa, fxc, fxE, fxL, fxI, nxE, evO, evR, cellsT, ldCells, mkT, lenA, binPV, Env.init, resV, resT, frT, klT, ownT, intT, O.adds, ownA, rowsA, over, wrOk, keysT, keysA, ne_eq, if_true, if_false, ite_self, Nat.reduceLT, Nat.reduceSub, Nat.reduceBEq, Nat.reduceEqDiff, Nat.reduceAdd, Nat.reduceLeDiff, reduceCtorEq, Nat.reduceMul]
    · simp only [F130, encLE, encL, plainR, noR, p0, zN, h1, h2, h3, Int.reduceEq, not_true_eq_false, fxa, fxc, fxE, fxL, fxI, nxE, evO, evR, cellsT, ldCells, mkT, lenA, binPV, Env.init, resV, resT, frT, klT, ownT, intT, O.adds, ownA, rowsA, over, wrOk, keysT, keysA, ne_eq, if_true, if_false, ite_self, Nat.reduceLT, Nat.reduceSub, Nat.reduceBEq, Nat.reduceEqDiff, Nat.reduceAdd, Nat.reduceLeDiff, reduceCtorEq, Nat.reduceMul]
  by_cases h2 : x.k = 9 ∧ y.k = 8
  · have h2' := h2
    obtain ⟨h2, h3⟩ := h2
    unfold pickR
    by_cases h4 : x.lv = y.lv
    case neg => simp only [F130, encLE, encL, plainR, noR, p0, zN, h2, h3, h4, Int.reduceEq, not_true_eq_false, fxa, fxc, fxE, fxL, fxI, nxE, evO, evR, cellsT, ldCells, mkT, lenA, binPV, Env.init, resV, resT, frT, klT, ownT, intT, O.adds, ownA, rowsA, over, wrOk, keysT, keysA, ne_eq, if_true, if_false, ite_self, Nat.reduceLT, Nat.reduceSub, Nat.reduceBEq, Nat.reduceEqDiff, Nat.reduceAdd, Nat.reduceLeDiff, reduceCtorEq, Nat.reduceMul]
    simp only [F130, encLE, encL, plainR, noR, p0, zN, h2, h3, h4, Int.reduceEq, not_true_eq_false, fxa, fxc, fxE, fxL, fxI, nxE, evO, evR, cellsT, ldCells, mkT, lenA, binPV, Env.init, resV, resT, frT, klT, ownT, intT, O.adds, ownA, rowsA, over, wrOk, keysT, keysA, ne_eq, if_true, if_false, ite_self, Nat.reduceLT, Nat.reduceSub, Nat.reduceBEq, Nat.reduceEqDiff, Nat.reduceAdd, Nat.reduceLeDiff, reduceCtorEq, Nat.reduceMul]
    refine Go.Fx.wp_mono (askLoop (x := x) (y := y) hx h2 h3 ?_ ?_ ?_ _ ?_ ?_ ?_ ?_) ?_
    all_goals first
      | (simp only [encN, h2, h3, h4, List.map_cons, List.map_nil, fxa, fxc, fxE, fxL, fxI, nxE, evO, evR, cellsT, ldCells, mkT, lenA, binPV, Env.init, resV, resT, frT, klT, ownT, intT, O.adds, ownA, rowsA, over, wrOk, keysT, keysA, ne_eq, if_true, if_false, ite_self, Nat.reduceLT, Nat.reduceSub, Nat.reduceBEq, Nat.reduceEqDiff, Nat.reduceAdd, Nat.reduceLeDiff, reduceCtorEq, Nat.reduceMul]; done)
      | skip
    rintro z e' σ' (⟨rfl, hi, rfl, g2, g3, g4⟩ | ⟨rfl, hi, g4, g5, g6⟩)
    · simp only [g2, g3, g4, hi, h2, h3, h4, Int.reduceEq, fxa, fxc, fxE, fxL, fxI, nxE, evO, evR, cellsT, ldCells, mkT, lenA, binPV, Env.init, resV, resT, frT, klT, ownT, intT, O.adds, ownA, rowsA, over, wrOk, keysT, keysA, ne_eq, if_true, if_false, ite_self, Nat.reduceLT, Nat.reduceSub, Nat.reduceBEq, Nat.reduceEqDiff, Nat.reduceAdd, Nat.reduceLeDiff, reduceCtorEq, Nat.reduceMul]
    · have hi' : ¬ pickIx x y < 0 := by omega
      simp only [g4, g5, g6, hi', fxa, fxc, fxE, fxL, fxI, nxE, evO, evR, cellsT, ldCells, mkT, lenA, binPV, Env.init, resV, resT, frT, klT, ownT, intT, O.adds, ownA, rowsA, over, wrOk, keysT, keysA, ne_eq, if_true, if_false, ite_self, Nat.reduceLT, Nat.reduceSub, Nat.reduceBEq, Nat.reduceEqDiff, Nat.reduceAdd, Nat.reduceLeDiff, reduceCtorEq, Nat.reduceMul]
  by_cases h3 : x.k = 11 ∧ y.k = 10
  · have h3' := h3
    obtain ⟨h3, h4⟩ := h3
    simp only [F130, encLE, encL, plainR, noR, p0, zN, h3, h4, Int.reduceEq, not_true_eq_false, fxa, fxc, fxE, fxL, fxI, nxE, evO, evR, cellsT, ldCells, mkT, lenA, binPV, Env.init, resV, resT, frT, klT, ownT, intT, O.adds, ownA, rowsA, over, wrOk, keysT, keysA, ne_eq, if_true, if_false, ite_self, Nat.reduceLT, Nat.reduceSub, Nat.reduceBEq, Nat.reduceEqDiff, Nat.reduceAdd, Nat.reduceLeDiff, reduceCtorEq, Nat.reduceMul]
    refine Go.Fx.wp_mono (askLoop0 (x := x) (y := y) h2 ?_ ?_ _ ?_ ?_ ?_ ?_) ?_
    all_goals first
      | (simp only [encN, h3, h4, List.map_cons, List.map_nil, fxa, fxc, fxE, fxL, fxI, nxE, evO, evR, cellsT, ldCells, mkT, lenA, binPV, Env.init, resV, resT, frT, klT, ownT, intT, O.adds, ownA, rowsA, over, wrOk, keysT, keysA, ne_eq, if_true, if_false, ite_self, Nat.reduceLT, Nat.reduceSub, Nat.reduceBEq, Nat.reduceEqDiff, Nat.reduceAdd, Nat.reduceLeDiff, reduceCtorEq, Nat.reduceMul]; done)
      | skip
    rintro z e' σ' ⟨rfl, rfl, g2, g3, g4⟩
    simp only [g2, g3, g4, h3, h4, Int.reduceEq, fxa, fxc, fxE, fxL, fxI, nxE, evO, evR, cellsT, ldCells, mkT, lenA, binPV, Env.init, resV, resT, frT, klT, ownT, intT, O.adds, ownA, rowsA, over, wrOk, keysT, keysA, ne_eq, if_true, if_false, ite_self, Nat.reduceLT, Nat.reduceSub, Nat.reduceBEq, Nat.reduceEqDiff, Nat.reduceAdd, Nat.reduceLeDiff, reduceCtorEq, Nat.reduceMul]
  by_cases h4 : x.k = 12 ∧ y.k = 10
  · obtain ⟨h4, h5⟩ := h4
    simp only [F130, encLE, encL, plainR, noR, p0, zN, h4, h5, Int.reduceEq, not_true_eq_false, fxa, fxc, fxE, fxL, fxI, nxE, evO, evR, cellsT, ldCells, mkT, lenA, binPV, Env.init, resV, resT, frT, klT, ownT, intT, O.adds, ownA, rowsA, over, wrOk, keysT, keysA, ne_eq, if_true, if_false, ite_self, Nat.reduceLT, Nat.reduceSub, Nat.reduceBEq, Nat.reduceEqDiff, Nat.reduceAdd, Nat.reduceLeDiff, reduceCtorEq, Nat.reduceMul]
    refine Go.Fx.wp_mono (askLoop0 (x := x) (y := y) h2 ?_ ?_ _ ?_ ?_ ?_ ?_) ?_
    all_goals first
      | (simp only [encN, h4, h5, List.map_cons, List.map_nil, fxa, fxc, fxE, fxL, fxI, nxE, evO, evR, cellsT, ldCells, mkT, lenA, binPV, Env.init, resV, resT, frT, klT, ownT, intT, O.adds, ownA, rowsA, over, wrOk, keysT, keysA, ne_eq, if_true, if_false, ite_self, Nat.reduceLT, Nat.reduceSub, Nat.reduceBEq, Nat.reduceEqDiff, Nat.reduceAdd, Nat.reduceLeDiff, reduceCtorEq, Nat.reduceMul]; done)
      | skip
    rintro z e' σ' ⟨rfl, rfl, g2, g3, g4⟩
    rw [h4, h5] at co
    simp only [g2, g3, g4, h4, h5, co, Int.reduceEq, fxa, fxc, fxE, fxL, fxI, nxE, evO, evR, cellsT, ldCells, mkT, lenA, binPV, Env.init, resV, resT, frT, klT, ownT, intT, O.adds, ownA, rowsA, over, wrOk, keysT, keysA, ne_eq, if_true, if_false, ite_self, Nat.reduceLT, Nat.reduceSub, Nat.reduceBEq, Nat.reduceEqDiff, Nat.reduceAdd, Nat.reduceLeDiff, reduceCtorEq, Nat.reduceMul]
  by_cases n3 : x.k = 3
  · have hy : ¬ y.k = 2 := fun h => h1 ⟨n3, h⟩
    simp only [F130, encLE, encL, plainR, noR, p0, zN, n3, hy, Int.reduceEq, not_true_eq_false, fxa, fxc, fxE, fxL, fxI, nxE, evO, evR, cellsT, ldCells, mkT, lenA, binPV, Env.init, resV, resT, frT, klT, ownT, intT, O.adds, ownA, rowsA, over, wrOk, keysT, keysA, ne_eq, if_true, if_false, ite_self, Nat.reduceLT, Nat.reduceSub, Nat.reduceBEq, Nat.reduceEqDiff, Nat.reduceAdd, Nat.reduceLeDiff, reduceCtorEq, Nat.reduceMul]
    refine Go.Fx.wp_mono (askLoop0 (x := x) (y := y) h2 ?_ ?_ _ ?_ ?_ ?_ ?_) ?_
    all_goals first
      | (simp only [encN, n3, hy, List.map_cons, List.map_nil, fxa, fxc, fxE, fxL, fxI, nxE, evO, evR, cellsT, ldCells, mkT, lenA, binPV, Env.init, resV, resT, frT, klT, ownT, intT, O.adds, ownA, rowsA, over, wrOk, keysT, keysA, ne_eq, if_true, if_false, ite_self, Nat.reduceLT, Nat.reduceSub, Nat.reduceBEq, Nat.reduceEqDiff, Nat.reduceAdd, Nat.reduceLeDiff, reduceCtorEq, Nat.reduceMul]; done)
      | skip
    rintro z e' σ' ⟨rfl, rfl, g2, g3, g4⟩
    simp only [g2, g3, g4, n3, hy, Int.reduceEq, fxa, fxc, fxE, fxL, fxI, nxE, evO, evR, cellsT, ldCells, mkT, lenA, binPV, Env.init, resV, resT, frT, klT, ownT, intT, O.adds, ownA, rowsA, over, wrOk, keysT, keysA, ne_eq, if_true, if_false, ite_self, Nat.reduceLT, Nat.reduceSub, Nat.reduceBEq, Nat.reduceEqDiff, Nat.reduceAdd, Nat.reduceLeDiff, reduceCtorEq, Nat.reduceMul]
  by_cases n9 : x.k = 9
  · have hy : ¬ y.k = 8 := fun h => h2 ⟨n9, h⟩
    simp only [F130, encLE, encL, plainR, noR, p0, zN, n9, hy, Int.reduceEq, not_true_eq_false, fxa, fxc, fxE, fxL, fxI, nxE, evO, evR, cellsT, ldCells, mkT, lenA, binPV, Env.init, resV, resT, frT, klT, ownT, intT, O.adds, ownA, rowsA, over, wrOk, keysT, keysA, ne_eq, if_true, if_false, ite_self, Nat.reduceLT, Nat.reduceSub, Nat.reduceBEq, Nat.reduceEqDiff, Nat.reduceAdd, Nat.reduceLeDiff, reduceCtorEq, Nat.reduceMul]
    refine Go.Fx.wp_mono (askLoop0 (x := x) (y := y) h2 ?_ ?_ _ ?_ ?_ ?_ ?_) ?_
    all_goals first
      | (simp only [encN, n9, hy, List.map_cons, List.map_nil, fxa, fxc, fxE, fxL, fxI, nxE, evO, evR, cellsT, ldCells, mkT, lenA, binPV, Env.init, resV, resT, frT, klT, ownT, intT, O.adds, ownA, rowsA, over, wrOk, keysT, keysA, ne_eq, if_true, if_false, ite_self, Nat.reduceLT, Nat.reduceSub, Nat.reduceBEq, Nat.reduceEqDiff, Nat.reduceAdd, Nat.reduceLeDiff, reduceCtorEq, Nat.reduceMul]; done)
      | skip
    rintro z e' σ' ⟨rfl, rfl, g2, g3, g4⟩
    simp only [g2, g3, g4, n9, hy, Int.reduceEq, fxa, fxc, fxE, fxL, fxI, nxE, evO, evR, cellsT, ldCells, mkT, lenA, binPV, Env.init, resV, resT, frT, klT, ownT, intT, O.adds, ownA, rowsA, over, wrOk, keysT, keysA, ne_eq, if_true, if_false, ite_self, Nat.reduceLT, Nat.reduceSub, Nat.reduceBEq, Nat.reduceEqDiff, Nat.reduceAdd, Nat.reduceLeDiff, reduceCtorEq, Nat.reduceMul]
  by_cases n11 : x.k = 11
  · have hy : ¬ y.k = 10 := fun h => h3 ⟨n11, h⟩
    simp only [F130, encLE, encL, plainR, noR, p0, zN, n11, hy, Int.reduceEq, not_true_eq_false, fxa, fxc, fxE, fxL, fxI, nxE, evO, evR, cellsT, ldCells, mkT, lenA, binPV, Env.init, resV, resT, frT, klT, ownT, intT, O.adds, ownA, rowsA, over, wrOk, keysT, keysA, ne_eq, if_true, if_false, ite_self, Nat.reduceLT, Nat.reduceSub, Nat.reduceBEq, Nat.reduceEqDiff, Nat.reduceAdd, Nat.reduceLeDiff, reduceCtorEq, Nat.reduceMul]
    refine Go.Fx.wp_mono (askLoop0 (x := x) (y := y) h2 ?_ ?_ _ ?_ ?_ ?_ ?_) ?_
    all_goals first
      | (simp only [encN, n11, hy, List.map_cons, List.map_nil, fxa, fxc, fxE, fxL, fxI, nxE, evO, evR, cellsT, ldCells, mkT, lenA, binPV, Env.init, resV, resT, frT, klT, ownT, intT, O.adds, ownA, rowsA, over, wrOk, keysT, keysA, ne_eq, if_true, if_false, ite_self, Nat.reduceLT, Nat.reduceSub, Nat.reduceBEq, Nat.reduceEqDiff, Nat.reduceAdd, Nat.reduceLeDiff, reduceCtorEq, Nat.reduceMul]; done)
      | skip
    rintro z e' σ' ⟨rfl, rfl, g2, g3, g4⟩
    simp only [g2, g3, g4, n11, hy, Int.reduceEq, fxa, fxc, fxE, fxL, fxI, nxE, evO, evR, cellsT, ldCells, mkT, lenA, binPV, Env.init, resV, resT, frT, klT, ownT, intT, O.adds, ownA, rowsA, over, wrOk, keysT, keysA, ne_eq, if_true, if_false, ite_self, Nat.reduceLT, Nat.reduceSub, Nat.reduceBEq, Nat.reduceEqDiff, Nat.reduceAdd, Nat.reduceLeDiff, reduceCtorEq, Nat.reduceMul]
  by_cases n12 : x.k = 12
  · have hy : ¬ y.k = 10 := fun h => h4 ⟨n12, h⟩
    simp only [F130, encLE, encL, plainR, noR, p0, zN, n12, hy, Int.reduceEq, not_true_eq_false, fxa, fxc, fxE, fxL, fxI, nxE, evO, evR, cellsT, ldCells, mkT, lenA, binPV, Env.init, resV, resT, frT, klT, ownT, intT, O.adds, ownA, rowsA, over, wrOk, keysT, keysA, ne_eq, if_true, if_false, ite_self, Nat.reduceLT, Nat.reduceSub, Nat.reduceBEq, Nat.reduceEqDiff, Nat.reduceAdd, Nat.reduceLeDiff, reduceCtorEq, Nat.reduceMul]
    refine Go.Fx.wp_mono (askLoop0 (x := x) (y := y) h2 ?_ ?_ _ ?_ ?_ ?_ ?_) ?_
    all_goals first
      | (simp only [encN, n12, hy, List.map_cons, List.map_nil, fxa, fxc, fxE, fxL, fxI, nxE, evO, evR, cellsT, ldCells, mkT, lenA, binPV, Env.init, resV, resT, frT, klT, ownT, intT, O.adds, ownA, rowsA, over, wrOk, keysT, keysA, ne_eq, if_true, if_false, ite_self, Nat.reduceLT, Nat.reduceSub, Nat.reduceBEq, Nat.reduceEqDiff, Nat.reduceAdd, Nat.reduceLeDiff, reduceCtorEq, Nat.reduceMul]; done)
      | skip
    rintro z e' σ' ⟨rfl, rfl, g2, g3, g4⟩
    simp only [g2, g3, g4, n12, hy, Int.reduceEq, fxa, fxc, fxE, fxL, fxI, nxE, evO, evR, cellsT, ldCells, mkT, lenA, binPV, Env.init, resV, resT, frT, klT, ownT, intT, O.adds, ownA, rowsA, over, wrOk, keysT, keysA, ne_eq, if_true, if_false, ite_self, Nat.reduceLT, Nat.reduceSub, Nat.reduceBEq, Nat.reduceEqDiff, Nat.reduceAdd, Nat.reduceLeDiff, reduceCtorEq, Nat.reduceMul]
  simp only [F130, encLE, encL, plainR, noR, p0, zN, n3, n9, n11, n12, false_and, Int.reduceEq, not_true_eq_false, fxa, fxc, fxE, fxL, fxI, nxE, evO, evR, cellsT, ldCells, mkT, lenA, binPV, Env.init, resV, resT, frT, klT, ownT, intT, O.adds, ownA, rowsA, over, wrOk, keysT, keysA, ne_eq, if_true, if_false, ite_self, Nat.reduceLT, Nat.reduceSub, Nat.reduceBEq, Nat.reduceEqDiff, Nat.reduceAdd, Nat.reduceLeDiff, reduceCtorEq, Nat.reduceMul]
  refine Go.Fx.wp_mono (askLoop0 (x := x) (y := y) h2 ?_ ?_ _ ?_ ?_ ?_ ?_) ?_
  all_goals first
    | (simp only [encN, n3, n9, n11, n12, List.map_cons, List.map_nil, fxa, fxc, fxE, fxL, fxI, nxE, evO, evR, cellsT, ldCells, mkT, lenA, binPV, Env.init, resV, resT, frT, klT, ownT, intT, O.adds, ownA, rowsA, over, wrOk, keysT, keysA, ne_eq, if_true, if_false, ite_self, Nat.reduceLT, Nat.reduceSub, Nat.reduceBEq, Nat.reduceEqDiff, Nat.reduceAdd, Nat.reduceLeDiff, reduceCtorEq, Nat.reduceMul]; done)
    | skip
  rintro z e' σ' ⟨rfl, rfl, g2, g3, g4⟩
  simp only [g2, g3, g4, n3, n9, n11, n12, Int.reduceEq, fxa, fxc, fxE, fxL, fxI, nxE, evO, evR, cellsT, ldCells, mkT, lenA, binPV, Env.init, resV, resT, frT, klT, ownT, intT, O.adds, ownA, rowsA, over, wrOk, keysT, keysA, ne_eq, if_true, if_false, ite_self, Nat.reduceLT, Nat.reduceSub, Nat.reduceBEq, Nat.reduceEqDiff, Nat.reduceAdd, Nat.reduceLeDiff, reduceCtorEq, Nat.reduceMul]
def firstR (x y : Nd) : (Pl × Int) × Bool :=
  if x.k = 7 then (plainR 8, true) else if y.k = 7 then (noR 0, false)
  else if cls x.k = 3 ∧ cls y.k = 3 ∧ x.lv = y.lv then (if x.k = y.k then plainR 6 else noR 140, true)
  else if cls x.k = 3 ∧ (¬ cls y.k = 3 ∨ x.lv < y.lv) then (passR x y, true)
  else if cls y.k = 3 ∨ ¬ cls x.k = 1 ∨ ¬ cls y.k = 2 then (noR 140, false) else (askR x y, true)
def encF (z : (Pl × Int) × Bool) : PT := .t [(true, encL z.1.1), (false, [.i .i64 z.1.2]), (false, [.b z.2])]
theorem Rfirst_ok {x y : Nd} (hx : x.Ok) : eP S 94 [.g (encN x), .g (encN y)] = some (encF (firstR x y)) := by
  refine x_fn (orcS (by decide)) (fc := F94) rfl rfl ?_
  have ca := Rasked_ok (y := y) hx
  have cp := Rpassed_ok x y
  have x3 := RControl_ok x.k
  have y3 := RControl_ok y.k
  have x1 := RAsks_ok x.k
  have y2 := RTold_ok y.k
  obtain ⟨⟨⟨ak, ka0, al, aa, ⟨m1, m2, m3, m4, m5, m6⟩⟩, ae⟩, ha⟩ : ∃ z, askR x y = z := ⟨_, rfl⟩
  obtain ⟨⟨⟨pk, ps, pl, pa, ⟨n1, n2, n3, n4, n5, n6⟩⟩, pe⟩, hp⟩ : ∃ z, passR x y = z := ⟨_, rfl⟩
  unfold firstR
  rw [ha] at ca ⊢
  rw [hp] at cp ⊢
  simp only [encN, encLE, encL] at ca cp
  by_cases h1 : x.k = 7
  · simp only [F94, encF, encL, plainR, noR, p0, zN, h1, Int.reduceEq, fxa, fxc, fxE, fxL, fxI, nxE, evO, evR, cellsT, ldCells, mkT, lenA, binPV, Env.init, resV, resT, frT, klT, ownT, intT, O.adds, ownA, rowsA, over, wrOk, keysT, keysA, ne_eq, if_true, if_false, ite_self, Nat.reduceLT, Nat.reduceSub, Nat.reduceBEq, Nat.reduceEqDiff, Nat.reduceAdd, Nat.reduceLeDiff, reduceCtorEq, Nat.reduceMul]
  by_cases h2 : y.k = 7
  · simp only [F94, encF, encL, plainR, noR, p0, zN, h1, h2, Int.reduceEq, fxa, fxc, fxE, fxL, fxI, nxE, evO, evR, cellsT, ldCells, mkT, lenA, binPV, Env.init, resV, resT, frT, klT, ownT, intT, O.adds, ownA, rowsA, over, wrOk, keysT, keysA, ne_eq, if_true, if_false, ite_self, Nat.reduceLT, Nat.reduceSub, Nat.reduceBEq, Nat.reduceEqDiff, Nat.reduceAdd, Nat.reduceLeDiff, reduceCtorEq, Nat.reduceMul]
  by_cases h3 : cls x.k = 3
  · by_cases h4 : cls y.k = 3
    · by_cases h5 : x.lv = y.lv
      · by_cases h6 : x.k = y.k
        · simp only [F94, encF, encL, plainR, noR, p0, zN, h1, h2, x3, y3, h3, h4, h5, h6, Int.reduceEq, Int.lt_irrefl, fxa, fxc, fxE, fxL, fxI, nxE, evO, evR, cellsT, ldCells, mkT, lenA, binPV, Env.init, resV, resT, frT, klT, ownT, intT, O.adds, ownA, rowsA, over, wrOk, keysT, keysA, ne_eq, if_true, if_false, ite_self, Nat.reduceLT, Nat.reduceSub, Nat.reduceBEq, Nat.reduceEqDiff, Nat.reduceAdd, Nat.reduceLeDiff, reduceCtorEq, Nat.reduceMul]
          all_goals simp only [h6] at h1 h3 x3
          all_goals simp only [encF, encL, plainR, noR, p0, zN, h1, h2, x3, y3, h3, h4, h5, h6, Int.reduceEq, Int.lt_irrefl, fxa, fxc, fxE, fxL, fxI, nxE, evO, evR, cellsT, ldCells, mkT, lenA, binPV, Env.init, resV, resT, frT, klT, ownT, intT, O.adds, ownA, rowsA, over, wrOk, keysT, keysA, ne_eq, if_true, if_false, ite_self, Nat.reduceLT, Nat.reduceSub, Nat.reduceBEq, Nat.reduceEqDiff, Nat.reduceAdd, Nat.reduceLeDiff, reduceCtorEq, Nat.reduceMul]
        · simp only [F94, encF, encL, plainR, noR, p0, zN, h1, h2, x3, y3, h3, h4, h5, h6, Int.reduceEq, Int.lt_irrefl, fxa, fxc, fxE, fxL, fxI, nxE, evO, evR, cellsT, ldCells, mkT, lenA, binPV, Env.init, resV, resT, frT, klT, ownT, intT, O.adds, ownA, rowsA, over, wrOk, keysT, keysA, ne_eq, if_true, if_false, ite_self, Nat.reduceLT, Nat.reduceSub, Nat.reduceBEq, Nat.reduceEqDiff, Nat.reduceAdd, Nat.reduceLeDiff, reduceCtorEq, Nat.reduceMul]
      · by_cases h6 : x.lv < y.lv
        · simp only [F94, encF, encL, plainR, noR, p0, zN, h1, h2, x3, y3, x1, y2, h3, h4, h5, h6, cp, or_true, not_true_eq_false, Int.reduceEq, fxa, fxc, fxE, fxL, fxI, nxE, evO, evR, cellsT, ldCells, mkT, lenA, binPV, Env.init, resV, resT, frT, klT, ownT, intT, O.adds, ownA, rowsA, over, wrOk, keysT, keysA, ne_eq, if_true, if_false, ite_self, Nat.reduceLT, Nat.reduceSub, Nat.reduceBEq, Nat.reduceEqDiff, Nat.reduceAdd, Nat.reduceLeDiff, reduceCtorEq, Nat.reduceMul]
        · simp only [F94, encF, encL, plainR, noR, p0, zN, h1, h2, x3, y3, x1, y2, h3, h4, h5, h6, or_false, true_or, not_true_eq_false, Int.reduceEq, fxa, fxc, fxE, fxL, fxI, nxE, evO, evR, cellsT, ldCells, mkT, lenA, binPV, Env.init, resV, resT, frT, klT, ownT, intT, O.adds, ownA, rowsA, over, wrOk, keysT, keysA, ne_eq, if_true, if_false, ite_self, Nat.reduceLT, Nat.reduceSub, Nat.reduceBEq, Nat.reduceEqDiff, Nat.reduceAdd, Nat.reduceLeDiff, reduceCtorEq, Nat.reduceMul]
    · simp only [F94, encF, encL, plainR, noR, p0, zN, h1, h2, x3, y3, x1, y2, h3, h4, cp, true_or, not_false_eq_true, Int.reduceEq, fxa, fxc, fxE, fxL, fxI, nxE, evO, evR, cellsT, ldCells, mkT, lenA, binPV, Env.init, resV, resT, frT, klT, ownT, intT, O.adds, ownA, rowsA, over, wrOk, keysT, keysA, ne_eq, if_true, if_false, ite_self, Nat.reduceLT, Nat.reduceSub, Nat.reduceBEq, Nat.reduceEqDiff, Nat.reduceAdd, Nat.reduceLeDiff, reduceCtorEq, Nat.reduceMul]
  by_cases h4 : cls y.k = 3
  · simp only [F94, encF, encL, plainR, noR, p0, zN, h1, h2, x3, y3, x1, y2, h3, h4, true_or, Int.reduceEq, fxa, fxc, fxE, fxL, fxI, nxE, evO, evR, cellsT, ldCells, mkT, lenA, binPV, Env.init, resV, resT, frT, klT, ownT, intT, O.adds, ownA, rowsA, over, wrOk, keysT, keysA, ne_eq, if_true, if_false, ite_self, Nat.reduceLT, Nat.reduceSub, Nat.reduceBEq, Nat.reduceEqDiff, Nat.reduceAdd, Nat.reduceLeDiff, reduceCtorEq, Nat.reduceMul]
  by_cases h5 : cls x.k = 1
  · by_cases h6 : cls y.k = 2
    · simp only [F94, encF, encL, plainR, noR, p0, zN, h1, h2, x3, y3, x1, y2, h3, h4, h5, h6, ca, not_true_eq_false, or_self, Int.reduceEq, fxa, fxc, fxE, fxL, fxI, nxE, evO, evR, cellsT, ldCells, mkT, lenA, binPV, Env.init, resV, resT, frT, klT, ownT, intT, O.adds, ownA, rowsA, over, wrOk, keysT, keysA, ne_eq, if_true, if_false, ite_self, Nat.reduceLT, Nat.reduceSub, Nat.reduceBEq, Nat.reduceEqDiff, Nat.reduceAdd, Nat.reduceLeDiff, reduceCtorEq, Nat.reduceMul]
    · simp only [F94, encF, encL, plainR, noR, p0, zN, h1, h2, x3, y3, x1, y2, h3, h4, h5, h6, not_true_eq_false, not_false_eq_true, or_self, or_true, Int.reduceEq, fxa, fxc, fxE, fxL, fxI, nxE, evO, evR, cellsT, ldCells, mkT, lenA, binPV, Env.init, resV, resT, frT, klT, ownT, intT, O.adds, ownA, rowsA, over, wrOk, keysT, keysA, ne_eq, if_true, if_false, ite_self, Nat.reduceLT, Nat.reduceSub, Nat.reduceBEq, Nat.reduceEqDiff, Nat.reduceAdd, Nat.reduceLeDiff, reduceCtorEq, Nat.reduceMul]
  · simp only [F94, encF, encL, plainR, noR, p0, zN, h1, h2, x3, y3, x1, y2, h3, h4, h5, not_true_eq_false, not_false_eq_true, or_self, true_or, or_true, Int.reduceEq, fxa, fxc, fxE, fxL, fxI, nxE, evO, evR, cellsT, ldCells, mkT, lenA, binPV, Env.init, resV, resT, frT, klT, ownT, intT, O.adds, ownA, rowsA, over, wrOk, keysT, keysA, ne_eq, if_true, if_false, ite_self, Nat.reduceLT, Nat.reduceSub, Nat.reduceBEq, Nat.reduceEqDiff, Nat.reduceAdd, Nat.reduceLeDiff, reduceCtorEq, Nat.reduceMul]
theorem first_7 {a b : Nd} (h : a.k = 7) : firstR a b = (plainR 8, true) := by unfold firstR; rw [if_pos h]
theorem first_y {a b : Nd} (h : ¬ a.k = 7) (h2 : b.k = 7) : firstR a b = (noR 0, false) := by unfold firstR; rw [if_neg h, if_pos h2]
theorem ofR_first (a b : Nd) : ofR a b = if cls a.k = 0 ∨ cls b.k = 0 then noR 140 else if (firstR a b).2 = true then (firstR a b).1 else if (firstR b a).2 = true then swapR (firstR b a).1 else noR 140 := by
  unfold ofR
  by_cases h0 : cls a.k = 0 ∨ cls b.k = 0
  · rw [if_pos h0, if_pos h0]
  rw [if_neg h0, if_neg h0]
  have ra := cls_r a.k
  have rb := cls_r b.k
  have a4 := cls4_ a.k
  have b4 := cls4_ b.k
  by_cases h1 : a.k = 7
  · rw [if_pos (a4.2 h1), first_7 h1]; rfl
  rw [if_neg (fun e => h1 (a4.1 e))]
  by_cases h2 : b.k = 7
  · rw [if_pos (b4.2 h2), first_y h1 h2, first_7 h2]; rfl
  rw [if_neg (fun e => h2 (b4.1 e))]
  have na : cls a.k ≠ 4 := fun e => h1 (a4.1 e)
  have nb : cls b.k ≠ 4 := fun e => h2 (b4.1 e)
  clear a4 b4
  unfold firstR
  rw [if_neg h1, if_neg h2, if_neg h2, if_neg h1]
  obtain ⟨u, hu⟩ : ∃ u, cls a.k = u := ⟨_, rfl⟩
  obtain ⟨v, hv⟩ : ∃ v, cls b.k = v := ⟨_, rfl⟩
  rw [hu] at ra na h0 ⊢
  rw [hv] at rb nb h0 ⊢
  by_cases h3 : u = 3
  · by_cases h4 : v = 3
    · subst h3; subst h4
      by_cases h5 : a.lv = b.lv
      · by_cases h6 : a.k = b.k
        · simp [h5, h6]
        · simp [h5, h6, passR]
      · by_cases h6 : a.lv < b.lv
        · have g1 : a.lv ≤ b.lv := by omega
          simp [h5, h6, g1]
        · have g1 : ¬ a.lv ≤ b.lv := by omega
          have g2 : b.lv < a.lv := by omega
          have g3 : ¬ b.lv = a.lv := by omega
          simp [h5, h6, g1, g2, g3]
    · subst h3
      simp [h4]
  · by_cases h4 : v = 3
    · subst h4
      simp [h3]
    · by_cases h5 : u = 1
      · by_cases h6 : v = 2
        · subst h5; subst h6; simp
        · subst h5
          simp [h4, h6]
      · by_cases h6 : v = 1
        · have : u = 2 := by omega
          subst this; subst h6; simp
        · simp [h3, h4, h5, h6]
theorem swap_first {b a : Nd} : (firstR b a).1.1.sw = false := by
  unfold firstR
  repeat' split
  all_goals first
    | rfl
    | (unfold passR; repeat' split
       all_goals rfl)
    | (unfold askR; repeat' split
       all_goals first
         | rfl
         | (unfold pickR; repeat' split
            all_goals rfl)
         | (unfold outR; repeat' split
            all_goals rfl))
theorem ROf_ok {a b : Nd} (ha : a.Ok) (hb : b.Ok) : eP S 68 [.g (encN a), .g (encN b)] = some (encLE (ofR a b)) := by
  refine x_fn (orcS (by decide)) (fc := F68) rfl rfl ?_
  have ka := Rknown_ok a.k
  have kb := Rknown_ok b.k
  have c1 := Rfirst_ok (y := b) ha
  have c2 := Rfirst_ok (y := a) hb
  rw [ofR_first]
  obtain ⟨⟨⟨⟨ak, ka0, al, aa, ⟨m1, m2, m3, m4, m5, m6⟩⟩, ae⟩, is⟩, h1⟩ : ∃ z, firstR a b = z := ⟨_, rfl⟩
  obtain ⟨⟨⟨⟨pk, ps, pl, pa, ⟨n1, n2, n3, n4, n5, n6⟩⟩, pe⟩, was⟩, h2⟩ : ∃ z, firstR b a = z := ⟨_, rfl⟩
  rw [h1] at c1 ⊢
  rw [h2] at c2 ⊢
  simp only [encN, encF, encL] at c1 c2
  by_cases k1 : cls a.k = 0
  · simp only [F68, encLE, encL, noR, p0, zN, ka, k1, true_or, ne_eq, not_true_eq_false, fxa, fxc, fxE, fxL, fxI, nxE, evO, evR, cellsT, ldCells, mkT, lenA, binPV, Env.init, resV, resT, frT, klT, ownT, intT, O.adds, ownA, rowsA, over, wrOk, keysT, keysA, ne_eq, if_true, if_false, ite_self, Nat.reduceLT, Nat.reduceSub, Nat.reduceBEq, Nat.reduceEqDiff, Nat.reduceAdd, Nat.reduceLeDiff, reduceCtorEq, Nat.reduceMul]
  by_cases k2 : cls b.k = 0
  · simp only [F68, encLE, encL, noR, p0, zN, ka, kb, k1, k2, or_true, ne_eq, not_true_eq_false, not_false_eq_true, fxa, fxc, fxE, fxL, fxI, nxE, evO, evR, cellsT, ldCells, mkT, lenA, binPV, Env.init, resV, resT, frT, klT, ownT, intT, O.adds, ownA, rowsA, over, wrOk, keysT, keysA, ne_eq, if_true, if_false, ite_self, Nat.reduceLT, Nat.reduceSub, Nat.reduceBEq, Nat.reduceEqDiff, Nat.reduceAdd, Nat.reduceLeDiff, reduceCtorEq, Nat.reduceMul]
  cases is with
  | true => simp only [F68, encLE, encL, noR, p0, zN, ka, kb, k1, k2, c1, or_self, ne_eq, not_true_eq_false, not_false_eq_true, fxa, fxc, fxE, fxL, fxI, nxE, evO, evR, cellsT, ldCells, mkT, lenA, binPV, Env.init, resV, resT, frT, klT, ownT, intT, O.adds, ownA, rowsA, over, wrOk, keysT, keysA, ne_eq, if_true, if_false, ite_self, Nat.reduceLT, Nat.reduceSub, Nat.reduceBEq, Nat.reduceEqDiff, Nat.reduceAdd, Nat.reduceLeDiff, reduceCtorEq, Nat.reduceMul]
  | false =>
    cases was with
    | true =>
      unfold swapR
      by_cases h : pe = 0
      · simp only [F68, encLE, encL, noR, p0, zN, ka, kb, k1, k2, c1, c2, h, or_self, Bool.false_eq_true, ne_eq, not_true_eq_false, not_false_eq_true, fxa, fxc, fxE, fxL, fxI, nxE, evO, evR, cellsT, ldCells, mkT, lenA, binPV, Env.init, resV, resT, frT, klT, ownT, intT, O.adds, ownA, rowsA, over, wrOk, keysT, keysA, ne_eq, if_true, if_false, ite_self, Nat.reduceLT, Nat.reduceSub, Nat.reduceBEq, Nat.reduceEqDiff, Nat.reduceAdd, Nat.reduceLeDiff, reduceCtorEq, Nat.reduceMul]
      · have hs : ps = false := by
          have := swap_first (a := a) (b := b)
          rw [h2] at this; exact this
        simp only [F68, encLE, encL, noR, p0, zN, ka, kb, k1, k2, c1, c2, h, hs, or_self, Bool.false_eq_true, ne_eq, not_true_eq_false, not_false_eq_true, fxa, fxc, fxE, fxL, fxI, nxE, evO, evR, cellsT, ldCells, mkT, lenA, binPV, Env.init, resV, resT, frT, klT, ownT, intT, O.adds, ownA, rowsA, over, wrOk, keysT, keysA, ne_eq, if_true, if_false, ite_self, Nat.reduceLT, Nat.reduceSub, Nat.reduceBEq, Nat.reduceEqDiff, Nat.reduceAdd, Nat.reduceLeDiff, reduceCtorEq, Nat.reduceMul]
    | false => simp only [F68, encLE, encL, noR, p0, zN, ka, kb, k1, k2, c1, c2, or_self, Bool.false_eq_true, ne_eq, not_true_eq_false, not_false_eq_true, fxa, fxc, fxE, fxL, fxI, nxE, evO, evR, cellsT, ldCells, mkT, lenA, binPV, Env.init, resV, resT, frT, klT, ownT, intT, O.adds, ownA, rowsA, over, wrOk, keysT, keysA, ne_eq, if_true, if_false, ite_self, Nat.reduceLT, Nat.reduceSub, Nat.reduceBEq, Nat.reduceEqDiff, Nat.reduceAdd, Nat.reduceLeDiff, reduceCtorEq, Nat.reduceMul]
end Go.Proofs.Ytkpfjolcmkikeaa
end
section
set_option linter.unusedSimpArgs false
set_option linter.unusedVariables false
set_option maxHeartbeats 4000000
set_option maxRecDepth 10000
namespace Go.Proofs.Ytkpfjolcmkikeaa
open Go.Fx
theorem may_iff (x : Nd) : x.may ↔ ((0 ≤ x.k ∧ x.k ≤ 13) ∧ altsP x) ∧ (0 ≤ x.lv ∧ x.lv ≤ (if x.k = 0 ∨ x.k = 1 then 0 else 60)) ∧ (x.s ≠ [] ↔ (x.k = 8 ∨ x.k = 11 ∨ x.k = 12)) ∧ (x.n = 0 ∨ (x.k = 10 ∨ x.k = 12)) ∧ (x.k ≠ 8 ∨ (1 ≤ (x.to.length : Int) ∧ (x.to.length : Int) ≤ 9)) := by
  constructor
  · intro h
    refine ⟨⟨⟨h.k0, h.k1⟩, fun h9 => by have := h.aln h9; omega, fun h9 => ⟨h.alt, h.al9 h9, h.al8⟩⟩, ⟨h.lv0, ?_⟩, h.nm, ?_, ?_⟩
    · have := h.lv2; have := h.lv1; split <;> omega
    · have := h.nn; omega
    · have := h.to8; omega
  · rintro ⟨⟨⟨h1, h2⟩, h3, h4⟩, ⟨h5, h6⟩, h7, h8, h9⟩
    refine ⟨h1, h2, h5, by split at h6 <;> omega, fun h => by rw [if_pos (by omega)] at h6; exact h6, h7, fun h => by omega, fun h => by omega, fun h => (h4 h).2.1, fun h => by have := h3 h; omega, ?_, ?_⟩
    · by_cases h : x.k = 9
      · exact (h4 h).2.2
      · have := h3 h; omega
    · by_cases h : x.k = 9
      · exact (h4 h).1
      · have := h3 h
        have : x.al = [] := List.eq_nil_of_length_eq_zero this
        rw [this]; intro i a hi; simp at hi
theorem sNode_ok {x : Nd} (hx : x.Ok) : eP S 75 [.g (encN x)] = some (.a (.b (bool x.may))) := by
  rw [bool_congr (may_iff x)]
  refine x_fnB (orcS (by decide)) (fc := F75) rfl rfl ?_
  have hal := hx.al
  have c0 := alts_ok hx
  simp only [encN] at c0
  unfold F75
  simp only [encN, List.map_cons, List.map_nil, ofPT_g]
  refine x_cutR (NdM x) ?_ fun e σ hM => ?_
  · simp only [fxa, fxc, fxE, fxL, fxI, nxE, evO, evR, cellsT, ldCells, mkT, lenA, binPV, Env.init, resV, resT, frT, klT, ownT, intT, O.adds, ownA, rowsA, over, wrOk, keysT, keysA, ne_eq, if_true, if_false, ite_self, Nat.reduceLT, Nat.reduceSub, Nat.reduceBEq, Nat.reduceEqDiff, Nat.reduceAdd, Nat.reduceLeDiff, reduceCtorEq, Nat.reduceMul]
    exact ⟨by simp only [fxa, fxc, fxE, fxL, fxI, nxE, evO, evR, cellsT, ldCells, mkT, lenA, binPV, Env.init, resV, resT, frT, klT, ownT, intT, O.adds, ownA, rowsA, over, wrOk, keysT, keysA, ne_eq, if_true, if_false, ite_self, Nat.reduceLT, Nat.reduceSub, Nat.reduceBEq, Nat.reduceEqDiff, Nat.reduceAdd, Nat.reduceLeDiff, reduceCtorEq, Nat.reduceMul], by simp only [fxa, fxc, fxE, fxL, fxI, nxE, evO, evR, cellsT, ldCells, mkT, lenA, binPV, Env.init, resV, resT, frT, klT, ownT, intT, O.adds, ownA, rowsA, over, wrOk, keysT, keysA, ne_eq, if_true, if_false, ite_self, Nat.reduceLT, Nat.reduceSub, Nat.reduceBEq, Nat.reduceEqDiff, Nat.reduceAdd, Nat.reduceLeDiff, reduceCtorEq, Nat.reduceMul]⟩
  obtain ⟨e1, s1⟩ := hM
  by_cases hk : 0 ≤ x.k ∧ x.k ≤ 13
  case neg =>
    have c1 := in_no (a := x.k) (b := 0) (c := 13) hk
    simp only [e1, s1, c1, fxa, fxc, fxE, fxL, fxI, nxE, evO, evR, cellsT, ldCells, mkT, lenA, binPV, Env.init, resV, resT, frT, klT, ownT, intT, O.adds, ownA, rowsA, over, wrOk, keysT, keysA, ne_eq, if_true, if_false, ite_self, Nat.reduceLT, Nat.reduceSub, Nat.reduceBEq, Nat.reduceEqDiff, Nat.reduceAdd, Nat.reduceLeDiff, reduceCtorEq, Nat.reduceMul]
    exact fun h => hk h.1.1
  have c1 := in_is (a := x.k) (b := 0) (c := 13) hk
  by_cases ha : altsP x
  case neg =>
    rw [bool_f ha] at c0
    simp only [e1, s1, c1, c0, fxa, fxc, fxE, fxL, fxI, nxE, evO, evR, cellsT, ldCells, mkT, lenA, binPV, Env.init, resV, resT, frT, klT, ownT, intT, O.adds, ownA, rowsA, over, wrOk, keysT, keysA, ne_eq, if_true, if_false, ite_self, Nat.reduceLT, Nat.reduceSub, Nat.reduceBEq, Nat.reduceEqDiff, Nat.reduceAdd, Nat.reduceLeDiff, reduceCtorEq, Nat.reduceMul]
    exact fun h => ha h.1.2
  rw [bool_t ha] at c0
  refine x_cutR (NdM x) ?_ fun e' σ' hM => ?_
  · simp only [e1, s1, c1, c0, fxa, fxc, fxE, fxL, fxI, nxE, evO, evR, cellsT, ldCells, mkT, lenA, binPV, Env.init, resV, resT, frT, klT, ownT, intT, O.adds, ownA, rowsA, over, wrOk, keysT, keysA, ne_eq, if_true, if_false, ite_self, Nat.reduceLT, Nat.reduceSub, Nat.reduceBEq, Nat.reduceEqDiff, Nat.reduceAdd, Nat.reduceLeDiff, reduceCtorEq, Nat.reduceMul]
    exact ⟨by simp only [e1, fxa, fxc, fxE, fxL, fxI, nxE, evO, evR, cellsT, ldCells, mkT, lenA, binPV, Env.init, resV, resT, frT, klT, ownT, intT, O.adds, ownA, rowsA, over, wrOk, keysT, keysA, ne_eq, if_true, if_false, ite_self, Nat.reduceLT, Nat.reduceSub, Nat.reduceBEq, Nat.reduceEqDiff, Nat.reduceAdd, Nat.reduceLeDiff, reduceCtorEq, Nat.reduceMul], by simp only [s1, fxa, fxc, fxE, fxL, fxI, nxE, evO, evR, cellsT, ldCells, mkT, lenA, binPV, Env.init, resV, resT, frT, klT, ownT, intT, O.adds, ownA, rowsA, over, wrOk, keysT, keysA, ne_eq, if_true, if_false, ite_self, Nat.reduceLT, Nat.reduceSub, Nat.reduceBEq, Nat.reduceEqDiff, Nat.reduceAdd, Nat.reduceLeDiff, reduceCtorEq, Nat.reduceMul]⟩
  clear e1 s1
  obtain ⟨e1, s1⟩ := hM
  refine x_cutR (fun e σ => NdM x e σ ∧ e 3 = .a (.p (.b (decide (x.k = 8 ∨ x.k = 11 ∨ x.k = 12))))) ?_ fun e' σ' hM => ?_
  · by_cases k8 : x.k = 8
    · simp only [e1, s1, k8, fxa, fxc, fxE, fxL, fxI, nxE, evO, evR, cellsT, ldCells, mkT, lenA, binPV, Env.init, resV, resT, frT, klT, ownT, intT, O.adds, ownA, rowsA, over, wrOk, keysT, keysA, ne_eq, if_true, if_false, ite_self, Nat.reduceLT, Nat.reduceSub, Nat.reduceBEq, Nat.reduceEqDiff, Nat.reduceAdd, Nat.reduceLeDiff, reduceCtorEq, Nat.reduceMul]
      exact ⟨⟨by simp only [e1, fxa, fxc, fxE, fxL, fxI, nxE, evO, evR, cellsT, ldCells, mkT, lenA, binPV, Env.init, resV, resT, frT, klT, ownT, intT, O.adds, ownA, rowsA, over, wrOk, keysT, keysA, ne_eq, if_true, if_false, ite_self, Nat.reduceLT, Nat.reduceSub, Nat.reduceBEq, Nat.reduceEqDiff, Nat.reduceAdd, Nat.reduceLeDiff, reduceCtorEq, Nat.reduceMul], by simp only [s1, k8, fxa, fxc, fxE, fxL, fxI, nxE, evO, evR, cellsT, ldCells, mkT, lenA, binPV, Env.init, resV, resT, frT, klT, ownT, intT, O.adds, ownA, rowsA, over, wrOk, keysT, keysA, ne_eq, if_true, if_false, ite_self, Nat.reduceLT, Nat.reduceSub, Nat.reduceBEq, Nat.reduceEqDiff, Nat.reduceAdd, Nat.reduceLeDiff, reduceCtorEq, Nat.reduceMul]⟩, by simp [k8]⟩
    by_cases k11 : x.k = 11
    · simp only [e1, s1, k8, k11, Int.reduceEq, fxa, fxc, fxE, fxL, fxI, nxE, evO, evR, cellsT, ldCells, mkT, lenA, binPV, Env.init, resV, resT, frT, klT, ownT, intT, O.adds, ownA, rowsA, over, wrOk, keysT, keysA, ne_eq, if_true, if_false, ite_self, Nat.reduceLT, Nat.reduceSub, Nat.reduceBEq, Nat.reduceEqDiff, Nat.reduceAdd, Nat.reduceLeDiff, reduceCtorEq, Nat.reduceMul]
      exact ⟨⟨by simp only [e1, fxa, fxc, fxE, fxL, fxI, nxE, evO, evR, cellsT, ldCells, mkT, lenA, binPV, Env.init, resV, resT, frT, klT, ownT, intT, O.adds, ownA, rowsA, over, wrOk, keysT, keysA, ne_eq, if_true, if_false, ite_self, Nat.reduceLT, Nat.reduceSub, Nat.reduceBEq, Nat.reduceEqDiff, Nat.reduceAdd, Nat.reduceLeDiff, reduceCtorEq, Nat.reduceMul], by simp only [s1, k11, fxa, fxc, fxE, fxL, fxI, nxE, evO, evR, cellsT, ldCells, mkT, lenA, binPV, Env.init, resV, resT, frT, klT, ownT, intT, O.adds, ownA, rowsA, over, wrOk, keysT, keysA, ne_eq, if_true, if_false, ite_self, Nat.reduceLT, Nat.reduceSub, Nat.reduceBEq, Nat.reduceEqDiff, Nat.reduceAdd, Nat.reduceLeDiff, reduceCtorEq, Nat.reduceMul]⟩, by simp [k11]⟩
    simp only [e1, s1, k8, k11, fxa, fxc, fxE, fxL, fxI, nxE, evO, evR, cellsT, ldCells, mkT, lenA, binPV, Env.init, resV, resT, frT, klT, ownT, intT, O.adds, ownA, rowsA, over, wrOk, keysT, keysA, ne_eq, if_true, if_false, ite_self, Nat.reduceLT, Nat.reduceSub, Nat.reduceBEq, Nat.reduceEqDiff, Nat.reduceAdd, Nat.reduceLeDiff, reduceCtorEq, Nat.reduceMul]
    refine ⟨⟨by simp only [e1, fxa, fxc, fxE, fxL, fxI, nxE, evO, evR, cellsT, ldCells, mkT, lenA, binPV, Env.init, resV, resT, frT, klT, ownT, intT, O.adds, ownA, rowsA, over, wrOk, keysT, keysA, ne_eq, if_true, if_false, ite_self, Nat.reduceLT, Nat.reduceSub, Nat.reduceBEq, Nat.reduceEqDiff, Nat.reduceAdd, Nat.reduceLeDiff, reduceCtorEq, Nat.reduceMul], by simp only [s1, fxa, fxc, fxE, fxL, fxI, nxE, evO, evR, cellsT, ldCells, mkT, lenA, binPV, Env.init, resV, resT, frT, klT, ownT, intT, O.adds, ownA, rowsA, over, wrOk, keysT, keysA, ne_eq, if_true, if_false, ite_self, Nat.reduceLT, Nat.reduceSub, Nat.reduceBEq, Nat.reduceEqDiff, Nat.reduceAdd, Nat.reduceLeDiff, reduceCtorEq, Nat.reduceMul]⟩, ?_⟩
    simp [k8, k11]
  clear e1 s1
  obtain ⟨⟨e1, s1⟩, e3⟩ := hM
  refine x_cutR (fun e σ => NdM x e σ ∧ e 3 = .a (.p (.b (decide (x.k = 8 ∨ x.k = 11 ∨ x.k = 12)))) ∧ e 4 = .a (.p (.b (decide (x.k = 10 ∨ x.k = 12))))) ?_ fun e' σ' hM => ?_
  · by_cases k10 : x.k = 10
    · simp only [e1, s1, e3, k10, fxa, fxc, fxE, fxL, fxI, nxE, evO, evR, cellsT, ldCells, mkT, lenA, binPV, Env.init, resV, resT, frT, klT, ownT, intT, O.adds, ownA, rowsA, over, wrOk, keysT, keysA, ne_eq, if_true, if_false, ite_self, Nat.reduceLT, Nat.reduceSub, Nat.reduceBEq, Nat.reduceEqDiff, Nat.reduceAdd, Nat.reduceLeDiff, reduceCtorEq, Nat.reduceMul]
      unfold NdM
      repeat' apply And.intro
      all_goals first | (simp only [e1, s1, e3, k10, fxa, fxc, fxE, fxL, fxI, nxE, evO, evR, cellsT, ldCells, mkT, lenA, binPV, Env.init, resV, resT, frT, klT, ownT, intT, O.adds, ownA, rowsA, over, wrOk, keysT, keysA, ne_eq, if_true, if_false, ite_self, Nat.reduceLT, Nat.reduceSub, Nat.reduceBEq, Nat.reduceEqDiff, Nat.reduceAdd, Nat.reduceLeDiff, reduceCtorEq, Nat.reduceMul]; done) | (simp [put_at, e1, s1, e3, k10]; done)
    simp only [e1, s1, e3, k10, fxa, fxc, fxE, fxL, fxI, nxE, evO, evR, cellsT, ldCells, mkT, lenA, binPV, Env.init, resV, resT, frT, klT, ownT, intT, O.adds, ownA, rowsA, over, wrOk, keysT, keysA, ne_eq, if_true, if_false, ite_self, Nat.reduceLT, Nat.reduceSub, Nat.reduceBEq, Nat.reduceEqDiff, Nat.reduceAdd, Nat.reduceLeDiff, reduceCtorEq, Nat.reduceMul]
    unfold NdM
    repeat' apply And.intro
    all_goals first | (simp only [e1, s1, e3, k10, fxa, fxc, fxE, fxL, fxI, nxE, evO, evR, cellsT, ldCells, mkT, lenA, binPV, Env.init, resV, resT, frT, klT, ownT, intT, O.adds, ownA, rowsA, over, wrOk, keysT, keysA, ne_eq, if_true, if_false, ite_self, Nat.reduceLT, Nat.reduceSub, Nat.reduceBEq, Nat.reduceEqDiff, Nat.reduceAdd, Nat.reduceLeDiff, reduceCtorEq, Nat.reduceMul]; done) | (simp [put_at, e1, s1, e3, k10]; done)
  clear e1 s1 e3
  obtain ⟨⟨e1, s1⟩, e3, e4⟩ := hM
  refine x_cutR (fun e σ => NdM x e σ ∧ e 3 = .a (.p (.b (decide (x.k = 8 ∨ x.k = 11 ∨ x.k = 12)))) ∧ e 4 = .a (.p (.b (decide (x.k = 10 ∨ x.k = 12)))) ∧ e 5 = .a (.p (.i .i64 60))) ?_ fun e' σ' hM => ?_
  · simp only [e1, s1, e3, e4, fxa, fxc, fxE, fxL, fxI, nxE, evO, evR, cellsT, ldCells, mkT, lenA, binPV, Env.init, resV, resT, frT, klT, ownT, intT, O.adds, ownA, rowsA, over, wrOk, keysT, keysA, ne_eq, if_true, if_false, ite_self, Nat.reduceLT, Nat.reduceSub, Nat.reduceBEq, Nat.reduceEqDiff, Nat.reduceAdd, Nat.reduceLeDiff, reduceCtorEq, Nat.reduceMul]
    unfold NdM
    repeat' apply And.intro
    all_goals first | (simp only [e1, s1, e3, e4, fxa, fxc, fxE, fxL, fxI, nxE, evO, evR, cellsT, ldCells, mkT, lenA, binPV, Env.init, resV, resT, frT, klT, ownT, intT, O.adds, ownA, rowsA, over, wrOk, keysT, keysA, ne_eq, if_true, if_false, ite_self, Nat.reduceLT, Nat.reduceSub, Nat.reduceBEq, Nat.reduceEqDiff, Nat.reduceAdd, Nat.reduceLeDiff, reduceCtorEq, Nat.reduceMul]; done) | (simp [put_at, e1, s1, e3, e4]; done)
  clear e1 s1 e3 e4
  obtain ⟨⟨e1, s1⟩, e3, e4, e5⟩ := hM
  refine x_cutR (fun e σ => NdM x e σ ∧ e 3 = .a (.p (.b (decide (x.k = 8 ∨ x.k = 11 ∨ x.k = 12)))) ∧ e 4 = .a (.p (.b (decide (x.k = 10 ∨ x.k = 12)))) ∧ e 5 = .a (.p (.i .i64 (if x.k = 0 ∨ x.k = 1 then 0 else 60)))) ?_ fun e' σ' hM => ?_
  · by_cases k0 : x.k = 0
    · simp only [e1, s1, e3, e4, e5, k0, fxa, fxc, fxE, fxL, fxI, nxE, evO, evR, cellsT, ldCells, mkT, lenA, binPV, Env.init, resV, resT, frT, klT, ownT, intT, O.adds, ownA, rowsA, over, wrOk, keysT, keysA, ne_eq, if_true, if_false, ite_self, Nat.reduceLT, Nat.reduceSub, Nat.reduceBEq, Nat.reduceEqDiff, Nat.reduceAdd, Nat.reduceLeDiff, reduceCtorEq, Nat.reduceMul]
      unfold NdM
      repeat' apply And.intro
      all_goals first | (simp only [e1, s1, e3, e4, e5, k0, fxa, fxc, fxE, fxL, fxI, nxE, evO, evR, cellsT, ldCells, mkT, lenA, binPV, Env.init, resV, resT, frT, klT, ownT, intT, O.adds, ownA, rowsA, over, wrOk, keysT, keysA, ne_eq, if_true, if_false, ite_self, Nat.reduceLT, Nat.reduceSub, Nat.reduceBEq, Nat.reduceEqDiff, Nat.reduceAdd, Nat.reduceLeDiff, reduceCtorEq, Nat.reduceMul]; done) | (simp [put_at, e1, s1, e3, e4, e5, k0]; done)
    by_cases k1 : x.k = 1
    · simp only [e1, s1, e3, e4, e5, k0, k1, Int.reduceEq, fxa, fxc, fxE, fxL, fxI, nxE, evO, evR, cellsT, ldCells, mkT, lenA, binPV, Env.init, resV, resT, frT, klT, ownT, intT, O.adds, ownA, rowsA, over, wrOk, keysT, keysA, ne_eq, if_true, if_false, ite_self, Nat.reduceLT, Nat.reduceSub, Nat.reduceBEq, Nat.reduceEqDiff, Nat.reduceAdd, Nat.reduceLeDiff, reduceCtorEq, Nat.reduceMul]
      unfold NdM
      repeat' apply And.intro
      all_goals first | (simp only [e1, s1, e3, e4, e5, k0, k1, fxa, fxc, fxE, fxL, fxI, nxE, evO, evR, cellsT, ldCells, mkT, lenA, binPV, Env.init, resV, resT, frT, klT, ownT, intT, O.adds, ownA, rowsA, over, wrOk, keysT, keysA, ne_eq, if_true, if_false, ite_self, Nat.reduceLT, Nat.reduceSub, Nat.reduceBEq, Nat.reduceEqDiff, Nat.reduceAdd, Nat.reduceLeDiff, reduceCtorEq, Nat.reduceMul]; done) | (simp [put_at, e1, s1, e3, e4, e5, k0, k1]; done)
    simp only [e1, s1, e3, e4, e5, k0, k1, fxa, fxc, fxE, fxL, fxI, nxE, evO, evR, cellsT, ldCells, mkT, lenA, binPV, Env.init, resV, resT, frT, klT, ownT, intT, O.adds, ownA, rowsA, over, wrOk, keysT, keysA, ne_eq, if_true, if_false, ite_self, Nat.reduceLT, Nat.reduceSub, Nat.reduceBEq, Nat.reduceEqDiff, Nat.reduceAdd, Nat.reduceLeDiff, reduceCtorEq, Nat.reduceMul]
    unfold NdM
    repeat' apply And.intro
    all_goals first | (simp only [e1, s1, e3, e4, e5, k0, k1, fxa, fxc, fxE, fxL, fxI, nxE, evO, evR, cellsT, ldCells, mkT, lenA, binPV, Env.init, resV, resT, frT, klT, ownT, intT, O.adds, ownA, rowsA, over, wrOk, keysT, keysA, ne_eq, if_true, if_false, ite_self, Nat.reduceLT, Nat.reduceSub, Nat.reduceBEq, Nat.reduceEqDiff, Nat.reduceAdd, Nat.reduceLeDiff, reduceCtorEq, Nat.reduceMul]; done) | (simp [put_at, e1, s1, e3, e4, e5, k0, k1]; done)
  clear e1 s1 e3 e4 e5
  obtain ⟨⟨e1, s1⟩, e3, e4, e5⟩ := hM
  obtain ⟨most, hmost⟩ : ∃ z : Int, (if x.k = 0 ∨ x.k = 1 then 0 else 60) = z := ⟨_, rfl⟩
  rw [hmost] at e5 ⊢
  obtain ⟨b3, hb3⟩ : ∃ b : Bool, decide (x.k = 8 ∨ x.k = 11 ∨ x.k = 12) = b := ⟨_, rfl⟩
  obtain ⟨b4, hb4⟩ : ∃ b : Bool, decide (x.k = 10 ∨ x.k = 12) = b := ⟨_, rfl⟩
  rw [hb3] at e3
  rw [hb4] at e4
  obtain ⟨p, hp⟩ : ∃ p : Prop, (((0 ≤ x.k ∧ x.k ≤ 13) ∧ altsP x) ∧ (0 ≤ x.lv ∧ x.lv ≤ most) ∧ (x.s ≠ [] ↔ (x.k = 8 ∨ x.k = 11 ∨ x.k = 12)) ∧ (x.n = 0 ∨ (x.k = 10 ∨ x.k = 12)) ∧ (x.k ≠ 8 ∨ (1 ≤ (x.to.length : Int) ∧ (x.to.length : Int) ≤ 9))) = p := ⟨_, rfl⟩
  have hp1 := hp
  rw [hp]
  by_cases hA : 0 ≤ x.lv ∧ x.lv ≤ most
  case neg =>
    have c2 := in_no hA
    simp only [e1, s1, e3, e4, e5, c2, fxa, fxc, fxE, fxL, fxI, nxE, evO, evR, cellsT, ldCells, mkT, lenA, binPV, Env.init, resV, resT, frT, klT, ownT, intT, O.adds, ownA, rowsA, over, wrOk, keysT, keysA, ne_eq, if_true, if_false, ite_self, Nat.reduceLT, Nat.reduceSub, Nat.reduceBEq, Nat.reduceEqDiff, Nat.reduceAdd, Nat.reduceLeDiff, reduceCtorEq, Nat.reduceMul]
    rw [← hp1]
    exact fun h => hA h.2.1
  have c2 := in_is hA
  by_cases hB : x.s ≠ [] ↔ (x.k = 8 ∨ x.k = 11 ∨ x.k = 12)
  case neg =>
    have hd : ((!decide (x.s = [])) = b3) = False := by
      rw [← hb3]
      refine propext ⟨fun h => hB ?_, fun h => h.elim⟩
      rw [Bool.eq_iff_iff] at h; simpa using h
    simp only [e1, s1, e3, e4, e5, c2, hd, fxa, fxc, fxE, fxL, fxI, nxE, evO, evR, cellsT, ldCells, mkT, lenA, binPV, Env.init, resV, resT, frT, klT, ownT, intT, O.adds, ownA, rowsA, over, wrOk, keysT, keysA, ne_eq, if_true, if_false, ite_self, Nat.reduceLT, Nat.reduceSub, Nat.reduceBEq, Nat.reduceEqDiff, Nat.reduceAdd, Nat.reduceLeDiff, reduceCtorEq, Nat.reduceMul]
    rw [← hp1]
    exact fun h => hB h.2.2.1
  have hd : ((!decide (x.s = [])) = b3) = True := by
    rw [← hb3]
    refine propext ⟨fun _ => trivial, fun _ => ?_⟩
    rw [Bool.eq_iff_iff]; simpa using hB
  by_cases hn : x.n = 0
  · by_cases h8 : x.k = 8
    · have c3 := in_ok (x.to.length : Int) 1 9
      simp only [e1, s1, e3, e4, e5, c2, hd, hn, h8, c3, fxa, fxc, fxE, fxL, fxI, nxE, evO, evR, cellsT, ldCells, mkT, lenA, binPV, Env.init, resV, resT, frT, klT, ownT, intT, O.adds, ownA, rowsA, over, wrOk, keysT, keysA, ne_eq, if_true, if_false, ite_self, Nat.reduceLT, Nat.reduceSub, Nat.reduceBEq, Nat.reduceEqDiff, Nat.reduceAdd, Nat.reduceLeDiff, reduceCtorEq, Nat.reduceMul]
      rw [← hp1, Bool.and_eq_true, decide_eq_true_eq, decide_eq_true_eq]
      exact ⟨fun h => ⟨⟨hk, ha⟩, hA, hB, .inl hn, .inr h⟩, fun h => by have := h.2.2.2.2; omega⟩
    · simp only [e1, s1, e3, e4, e5, c2, hd, hn, h8, fxa, fxc, fxE, fxL, fxI, nxE, evO, evR, cellsT, ldCells, mkT, lenA, binPV, Env.init, resV, resT, frT, klT, ownT, intT, O.adds, ownA, rowsA, over, wrOk, keysT, keysA, ne_eq, if_true, if_false, ite_self, Nat.reduceLT, Nat.reduceSub, Nat.reduceBEq, Nat.reduceEqDiff, Nat.reduceAdd, Nat.reduceLeDiff, reduceCtorEq, Nat.reduceMul]
      rw [← hp1]
      exact ⟨⟨hk, ha⟩, hA, hB, .inl hn, .inl h8⟩
  · by_cases hN : x.k = 10 ∨ x.k = 12
    · have h8 : ¬ x.k = 8 := by omega
      rw [decide_eq_true hN] at hb4; subst hb4
      simp only [e1, s1, e3, e4, e5, c2, hd, hn, h8, fxa, fxc, fxE, fxL, fxI, nxE, evO, evR, cellsT, ldCells, mkT, lenA, binPV, Env.init, resV, resT, frT, klT, ownT, intT, O.adds, ownA, rowsA, over, wrOk, keysT, keysA, ne_eq, if_true, if_false, ite_self, Nat.reduceLT, Nat.reduceSub, Nat.reduceBEq, Nat.reduceEqDiff, Nat.reduceAdd, Nat.reduceLeDiff, reduceCtorEq, Nat.reduceMul]
      rw [← hp1]
      exact ⟨⟨hk, ha⟩, hA, hB, .inr hN, .inl h8⟩
    · rw [decide_eq_false hN] at hb4; subst hb4
      simp only [e1, s1, e3, e4, e5, c2, hd, hn, fxa, fxc, fxE, fxL, fxI, nxE, evO, evR, cellsT, ldCells, mkT, lenA, binPV, Env.init, resV, resT, frT, klT, ownT, intT, O.adds, ownA, rowsA, over, wrOk, keysT, keysA, ne_eq, if_true, if_false, ite_self, Nat.reduceLT, Nat.reduceSub, Nat.reduceBEq, Nat.reduceEqDiff, Nat.reduceAdd, Nat.reduceLeDiff, reduceCtorEq, Nat.reduceMul]
      rw [← hp1]
      rintro ⟨_, _, _, h, _⟩
      rcases h with h | h
      · exact hn h
      · exact hN h
end Go.Proofs.Ytkpfjolcmkikeaa
end
section
set_option linter.unusedSimpArgs false
set_option linter.unusedVariables false
set_option maxHeartbeats 4000000
set_option maxRecDepth 10000
namespace Go.Proofs.Ytkpfjolcmkikeaa
open Go.Fx
def isFree (x : Nd) : Bool := decide (x.k = 0)
def Nt.at (n : Nt) : Nat := match n.ns.findIdx? isFree with | some i => i | none => n.ns.length
end Go.Proofs.Ytkpfjolcmkikeaa
end
section
set_option linter.unusedSimpArgs false
set_option linter.unusedVariables false
set_option maxHeartbeats 4000000
set_option maxRecDepth 10000
namespace Go.Proofs.Ytkpfjolcmkikeaa
open Go.Fx
def tl (l : List Nd) : Nat → Nat
  | 0 => 0
  | k + 1 => if isFree (l.getD k zN) then tl l k else k + 1
def trim (l : List Nd) : List Nd := l.take (tl l l.length)
def Nt.free (n : Nt) (i : Int) : Nt := { n with ns := trim (n.ns.set i.toNat zN) }
end Go.Proofs.Ytkpfjolcmkikeaa
end
section
set_option linter.unusedSimpArgs false
set_option linter.unusedVariables false
set_option maxHeartbeats 4000000
set_option maxRecDepth 10000
namespace Go.Proofs.Ytkpfjolcmkikeaa
open Go.Fx
theorem linked_ok {n : Nt} (hn : n.Ok) {i j : Nat} {x : Nd} (hx : n.ns[i]? = some x) {q : Pt} (hq : x.to[j]? = some q) :
    eP S 77 [.g (encT n), .g [.i .i64 (i : Nat), .i .i64 (j : Nat)]] = some (.a (.b (bool (q ≠ ⟨i, j⟩ ∧ n.has q = true ∧ n.lk q = ⟨i, j⟩)))) := by
  obtain ⟨p, hp⟩ : ∃ p : Prop, (q ≠ ⟨i, j⟩ ∧ n.has q = true ∧ n.lk q = ⟨i, j⟩) = p := ⟨_, rfl⟩
  rw [hp]
  refine x_fnB (orcS (by decide)) (fc := F77) rfl rfl ?_
  have hns := hn.ns
  have hx' := mapGet encN hx
  have hq' := mapGet encP hq
  have hi := (List.getElem?_eq_some_iff.1 hx).1
  have hj := (List.getElem?_eq_some_iff.1 hq).1
  have hlt1 : ((i : Nat) : Int) < (n.ns.length : Int) := by omega
  have hge1 : (0 : Int) ≤ ((i : Nat) : Int) := by omega
  have hlt2 : ((j : Nat) : Int) < (x.to.length : Int) := by omega
  have hge2 : (0 : Int) ≤ ((j : Nat) : Int) := by omega
  have hw0 : IntKind.i64.wrap ((n.ns.length : Int) - 1) = (n.ns.length : Int) - 1 := wrap_in _ (by omega)
  by_cases m1 : q = ⟨i, j⟩
  · have hd : (decide (q.n = (i : Int)) && decide (q.s = (j : Int))) = true := by rw [m1]; simp
    simp only [F77, hlt1, hge1, hx', hlt2, hge2, hq', hd, fxa, fxc, fxE, fxL, fxI, nxE, evO, evR, cellsT, ldCells, mkT, lenA, binPV, Env.init, resV, resT, frT, klT, ownT, intT, O.adds, ownA, rowsA, over, wrOk, keysT, keysA, ne_eq, if_true, if_false, ite_self, Nat.reduceLT, Nat.reduceSub, Nat.reduceBEq, Nat.reduceEqDiff, Nat.reduceAdd, Nat.reduceLeDiff, reduceCtorEq, Nat.reduceMul]
    rw [← hp]; exact fun h => h.1 m1
  have hd : (decide (q.n = (i : Int)) && decide (q.s = (j : Int))) = false := by
    have := ptEq q ⟨i, j⟩; rw [this]; simpa using m1
  by_cases m2 : 0 ≤ q.n ∧ q.n ≤ (n.ns.length : Int) - 1
  case neg =>
    have c1 := in_no m2
    simp only [F77, hlt1, hge1, hx', hlt2, hge2, hq', hd, hw0, c1, fxa, fxc, fxE, fxL, fxI, nxE, evO, evR, cellsT, ldCells, mkT, lenA, binPV, Env.init, resV, resT, frT, klT, ownT, intT, O.adds, ownA, rowsA, over, wrOk, keysT, keysA, ne_eq, if_true, if_false, ite_self, Nat.reduceLT, Nat.reduceSub, Nat.reduceBEq, Nat.reduceEqDiff, Nat.reduceAdd, Nat.reduceLeDiff, reduceCtorEq, Nat.reduceMul]
    rw [← hp]; intro h; have := has_iff.1 h.2.1; omega
  have c1 := in_is m2
  have g1 := getN (l := n.ns) m2.1 (by omega)
  have hlt3 : q.n < (n.ns.length : Int) := by omega
  have hge3 := m2.1
  have hzo := hn.nd _ (nd_mem m2.1 hlt3)
  obtain ⟨z, hz⟩ : ∃ z, n.nd q.n = z := ⟨_, rfl⟩
  rw [hz] at hzo
  have hz2 : n.ns.getD q.n.toNat zN = z := hz
  rw [hz2] at g1
  have hzt := hzo.to
  have hw1 : IntKind.i64.wrap ((z.to.length : Int) - 1) = (z.to.length : Int) - 1 := wrap_in _ (by omega)
  by_cases m3 : 0 ≤ q.s ∧ q.s ≤ (z.to.length : Int) - 1
  case neg =>
    have c2 := in_no m3
    simp only [F77, hlt1, hge1, hx', hlt2, hge2, hq', hd, hw0, c1, hlt3, hge3, g1, hw1, c2, fxa, fxc, fxE, fxL, fxI, nxE, evO, evR, cellsT, ldCells, mkT, lenA, binPV, Env.init, resV, resT, frT, klT, ownT, intT, O.adds, ownA, rowsA, over, wrOk, keysT, keysA, ne_eq, if_true, if_false, ite_self, Nat.reduceLT, Nat.reduceSub, Nat.reduceBEq, Nat.reduceEqDiff, Nat.reduceAdd, Nat.reduceLeDiff, reduceCtorEq, Nat.reduceMul]
    rw [← hp]; intro h; have := has_iff.1 h.2.1; rw [hz] at this; omega
  have c2 := in_is m3
  have g2 := getP (l := z.to) m3.1 (by omega)
  have hlt4 : q.s < (z.to.length : Int) := by omega
  have hge4 := m3.1
  obtain ⟨y, hy⟩ : ∃ y, z.to.getD q.s.toNat zP = y := ⟨_, rfl⟩
  rw [hy] at g2
  have hlk : n.lk q = y := by unfold Nt.lk Nd.tt; rw [hz]; exact hy
  have hhas : n.has q = true := has_iff.2 ⟨hge3, hlt3, hge4, by rw [hz]; exact hlt4⟩
  have hP : (decide (y.n = (i : Int)) && decide (y.s = (j : Int))) = true ↔ p := by
    have := ptEq y ⟨i, j⟩
    rw [this, decide_eq_true_eq, ← hp, hlk]
    simp only [hhas, m1, ne_eq, not_false_eq_true, true_and]
  simp only [F77, hlt1, hge1, hx', hlt2, hge2, hq', hd, hw0, c1, hlt3, hge3, g1, hw1, c2, hlt4, hge4, g2, fxa, fxc, fxE, fxL, fxI, nxE, evO, evR, cellsT, ldCells, mkT, lenA, binPV, Env.init, resV, resT, frT, klT, ownT, intT, O.adds, ownA, rowsA, over, wrOk, keysT, keysA, ne_eq, if_true, if_false, ite_self, Nat.reduceLT, Nat.reduceSub, Nat.reduceBEq, Nat.reduceEqDiff, Nat.reduceAdd, Nat.reduceLeDiff, reduceCtorEq, Nat.reduceMul]
  exact hP
theorem sCheck_ok {n : Nt} (hn : n.Ok) : eP S 52 [.g (encT n)] = some (.a (.i .i64 (if bool n.Good = true then 0 else 120))) := by
  obtain ⟨r, h1, h2⟩ := x_fnE (S := S) (g := 52) (orcS (by decide)) (fc := F52) rfl (ps := [.g (encT n)]) rfl (K := RE n.Good) (by
    have hns := hn.ns
    have hw : IntKind.i64.wrap ((n.ns.length : Int) - 1) = n.ns.length - 1 := wrap_in _ (by omega)
    have hw1 : IntKind.i64.wrap ((n.ns.length : Int) - 1 + 1) = n.ns.length := by rw [wrap_in _ (by omega)]; omega
    by_cases h1 : 1 ≤ n.cap ∧ n.cap ≤ 4000
    case neg =>
      have c1 := in_no h1
      simp only [F52, hw, hw1, c1, RE_120, fxa, fxc, fxE, fxL, fxI, nxE, evO, evR, cellsT, ldCells, mkT, lenA, binPV, Env.init, resV, resT, frT, klT, ownT, intT, O.adds, ownA, rowsA, over, wrOk, keysT, keysA, ne_eq, if_true, if_false, ite_self, Nat.reduceLT, Nat.reduceSub, Nat.reduceBEq, Nat.reduceEqDiff, Nat.reduceAdd, Nat.reduceLeDiff, reduceCtorEq, Nat.reduceMul]; intro hG; exact h1 ⟨hG.cap1, hG.cap2⟩
    have c1 := in_is h1
    by_cases h3 : 1 ≤ (n.ns.length : Int) ∧ (n.ns.length : Int) ≤ n.cap
    case neg =>
      have c2 := in_no h3
      simp only [F52, hw, hw1, c1, c2, RE_120, fxa, fxc, fxE, fxL, fxI, nxE, evO, evR, cellsT, ldCells, mkT, lenA, binPV, Env.init, resV, resT, frT, klT, ownT, intT, O.adds, ownA, rowsA, over, wrOk, keysT, keysA, ne_eq, if_true, if_false, ite_self, Nat.reduceLT, Nat.reduceSub, Nat.reduceBEq, Nat.reduceEqDiff, Nat.reduceAdd, Nat.reduceLeDiff, reduceCtorEq, Nat.reduceMul]; intro hG; exact h3 ⟨hG.ln1, hG.ln2⟩
    have c2 := in_is h3
    have g := getN (l := n.ns) (i := (n.ns.length : Int) - 1) (by omega) (by omega)
    have hge0 : 0 ≤ (n.ns.length : Int) - 1 := by omega
    have hlt0 : (n.ns.length : Int) - 1 < n.ns.length := by omega
    by_cases h5 : (n.nd (n.ns.length - 1)).k = 0
    · unfold Nt.nd at h5
      simp only [F52, hw, hw1, c1, c2, h5, g, hge0, hlt0, RE_120, fxa, fxc, fxE, fxL, fxI, nxE, evO, evR, cellsT, ldCells, mkT, lenA, binPV, Env.init, resV, resT, frT, klT, ownT, intT, O.adds, ownA, rowsA, over, wrOk, keysT, keysA, ne_eq, if_true, if_false, ite_self, Nat.reduceLT, Nat.reduceSub, Nat.reduceBEq, Nat.reduceEqDiff, Nat.reduceAdd, Nat.reduceLeDiff, reduceCtorEq, Nat.reduceMul]; intro hG; exact hG.last h5
    have h5' := h5
    unfold Nt.nd at h5'
    simp only [F52, hw, hw1, c1, c2, h5', g, hge0, hlt0, fxa, fxc, fxE, fxL, fxI, nxE, evO, evR, cellsT, ldCells, mkT, lenA, binPV, Env.init, resV, resT, frT, klT, ownT, intT, O.adds, ownA, rowsA, over, wrOk, keysT, keysA, ne_eq, if_true, if_false, ite_self, Nat.reduceLT, Nat.reduceSub, Nat.reduceBEq, Nat.reduceEqDiff, Nat.reduceAdd, Nat.reduceLeDiff, reduceCtorEq, Nat.reduceMul]
    refine loop_nat n.ns.length (fun i e σ => e 1 = .a (.ptr (1, 0) 0 0) ∧ e 33 = .a (.p (.l (n.ns.map encN))) ∧ e 34 = .a (.p (.i .i64 n.ns.length)) ∧ e 35 = .a (.p (.i .i64 (i : Nat))) ∧ σ.bs (1, 0) = some (.var ((encT n).map .p)) ∧ 0 < σ.clk ∧
      ∀ (m : Nat) (x : Nd), m < i → n.ns[m]? = some x → x.may ∧ (x.to.length : Int) = x.ports ∧ ((m : Int) = 0 ↔ x.k = 1) ∧ ∀ (j : Nat) (q : Pt), x.to[j]? = some q → q ≠ ⟨m, j⟩ ∧ n.has q = true ∧ n.lk q = ⟨m, j⟩) (i0 := 0) (Nat.zero_le _) ?_ ?_ ?_
    · refine ⟨?_, ?_, ?_, ?_, ?_, ?_, fun m x hm => by omega⟩ <;> simp only [fxa, fxc, fxE, fxL, fxI, nxE, evO, evR, cellsT, ldCells, mkT, lenA, binPV, Env.init, resV, resT, frT, klT, ownT, intT, O.adds, ownA, rowsA, over, wrOk, keysT, keysA, ne_eq, if_true, if_false, ite_self, Nat.reduceLT, Nat.reduceSub, Nat.reduceBEq, Nat.reduceEqDiff, Nat.reduceAdd, Nat.reduceLeDiff, reduceCtorEq, Nat.reduceMul]
      all_goals first | rfl | omega
    · rintro i e σ hi ⟨e1, e33, e34, e35, s1, hc, hall⟩
      obtain ⟨x, hx⟩ : ∃ x, n.ns[i]? = some x := ⟨_, List.getElem?_eq_getElem hi⟩
      have hx' := mapGet encN hx
      have hlt : ((i : Nat) : Int) < (n.ns.length : Int) := by omega
      have hge : (0 : Int) ≤ ((i : Nat) : Int) := by omega
      have hxo := hn.nd x (List.mem_of_getElem? hx)
      have hto := hxo.to
      have c1 := sNode_ok hxo
      have c2 := sPorts_ok hxo
      have hne : ¬ ((1, 0) : Key) = (5, σ.clk) := by simp
      simp only [encN] at c1 c2
      simp only [encT, List.map_cons, List.map_nil] at s1
      by_cases k1 : x.may
      case neg =>
        rw [bool_f k1] at c1
        simp only [F52b0, e1, e33, e34, e35, s1, hlt, hge, hx', c1, RE_120, fxa, fxc, fxE, fxL, fxI, nxE, evO, evR, cellsT, ldCells, mkT, lenA, binPV, Env.init, resV, resT, frT, klT, ownT, intT, O.adds, ownA, rowsA, over, wrOk, keysT, keysA, ne_eq, if_true, if_false, ite_self, Nat.reduceLT, Nat.reduceSub, Nat.reduceBEq, Nat.reduceEqDiff, Nat.reduceAdd, Nat.reduceLeDiff, reduceCtorEq, Nat.reduceMul]
        intro hG; exact k1 (hG.nds i x hx).1
      rw [bool_t k1] at c1
      by_cases k2 : (x.to.length : Int) = x.ports
      case neg =>
        simp only [F52b0, e1, e33, e34, e35, s1, hlt, hge, hx', c1, c2, k2, RE_120, fxa, fxc, fxE, fxL, fxI, nxE, evO, evR, cellsT, ldCells, mkT, lenA, binPV, Env.init, resV, resT, frT, klT, ownT, intT, O.adds, ownA, rowsA, over, wrOk, keysT, keysA, ne_eq, if_true, if_false, ite_self, Nat.reduceLT, Nat.reduceSub, Nat.reduceBEq, Nat.reduceEqDiff, Nat.reduceAdd, Nat.reduceLeDiff, reduceCtorEq, Nat.reduceMul]
        intro hG; exact k2 (hG.nds i x hx).2.1
      by_cases k3 : (((i : Nat) : Int) = 0 ↔ x.k = 1)
      case neg =>
        have hd : (decide (x.k = 1) = decide (((i : Nat) : Int) = 0)) = False := by simp only [decide_eq_decide, eq_iff_iff, iff_false]; exact fun h => k3 h.symm
        simp only [F52b0, e1, e33, e34, e35, s1, hlt, hge, hx', c1, c2, k2, hd, RE_120, fxa, fxc, fxE, fxL, fxI, nxE, evO, evR, cellsT, ldCells, mkT, lenA, binPV, Env.init, resV, resT, frT, klT, ownT, intT, O.adds, ownA, rowsA, over, wrOk, keysT, keysA, ne_eq, if_true, if_false, ite_self, Nat.reduceLT, Nat.reduceSub, Nat.reduceBEq, Nat.reduceEqDiff, Nat.reduceAdd, Nat.reduceLeDiff, reduceCtorEq, Nat.reduceMul]
        intro hG; exact k3 (hG.nds i x hx).2.2.1
      have hd : (decide (x.k = 1) = decide (((i : Nat) : Int) = 0)) = True := by simp only [decide_eq_decide, eq_iff_iff, iff_true]; exact k3.symm
      simp only [F52b0, e1, e33, e34, e35, s1, hlt, hge, hx', c1, c2, k2, hd, fxa, fxc, fxE, fxL, fxI, nxE, evO, evR, cellsT, ldCells, mkT, lenA, binPV, Env.init, resV, resT, frT, klT, ownT, intT, O.adds, ownA, rowsA, over, wrOk, keysT, keysA, ne_eq, if_true, if_false, ite_self, Nat.reduceLT, Nat.reduceSub, Nat.reduceBEq, Nat.reduceEqDiff, Nat.reduceAdd, Nat.reduceLeDiff, reduceCtorEq, Nat.reduceMul]
      refine loop_nat x.to.length (fun j e σ' => e 1 = .a (.ptr (1, 0) 0 0) ∧ e 33 = .a (.p (.l (n.ns.map encN))) ∧ e 34 = .a (.p (.i .i64 n.ns.length)) ∧ e 35 = .a (.p (.i .i64 (i : Nat))) ∧ e 4 = .a (.p (.i .i64 (i : Nat))) ∧ e 61 = .a (.p (.i .i64 x.to.length)) ∧ e 62 = .a (.p (.i .i64 (j : Nat))) ∧ σ'.bs (1, 0) = some (.var ((encT n).map .p)) ∧ 0 < σ'.clk ∧
        ∀ (m : Nat) (q : Pt), m < j → x.to[m]? = some q → q ≠ ⟨i, m⟩ ∧ n.has q = true ∧ n.lk q = ⟨i, m⟩) (i0 := 0) (Nat.zero_le _) ?_ ?_ ?_
      · refine ⟨?_, ?_, ?_, ?_, ?_, ?_, ?_, ?_, ?_, fun m x hm => by omega⟩ <;> simp only [e1, e33, e34, e35, s1, k2, fxa, fxc, fxE, fxL, fxI, nxE, evO, evR, cellsT, ldCells, mkT, lenA, binPV, Env.init, resV, resT, frT, klT, ownT, intT, O.adds, ownA, rowsA, over, wrOk, keysT, keysA, ne_eq, if_true, if_false, ite_self, Nat.reduceLT, Nat.reduceSub, Nat.reduceBEq, Nat.reduceEqDiff, Nat.reduceAdd, Nat.reduceLeDiff, reduceCtorEq, Nat.reduceMul]
        all_goals first | rfl | omega
      · rintro j e σ' hj ⟨e1, e33, e34, e35, e4, e61, e62, s1, hc, hall2⟩
        obtain ⟨q, hq⟩ : ∃ q, x.to[j]? = some q := ⟨_, List.getElem?_eq_getElem hj⟩
        have hlt2 : ((j : Nat) : Int) < (x.to.length : Int) := by omega
        have hge2 : (0 : Int) ≤ ((j : Nat) : Int) := by omega
        have c3 := linked_ok hn hx hq
        simp only [encT, encN, encP, List.map_cons, List.map_nil] at s1 c3
        by_cases m1 : q ≠ ⟨i, j⟩ ∧ n.has q = true ∧ n.lk q = ⟨i, j⟩
        case neg =>
          rw [bool_f m1] at c3
          simp only [F52b1, e1, e33, e34, e35, e4, e61, e62, s1, hlt2, hge2, c3, RE_120, fxa, fxc, fxE, fxL, fxI, nxE, evO, evR, cellsT, ldCells, mkT, lenA, binPV, Env.init, resV, resT, frT, klT, ownT, intT, O.adds, ownA, rowsA, over, wrOk, keysT, keysA, ne_eq, if_true, if_false, ite_self, Nat.reduceLT, Nat.reduceSub, Nat.reduceBEq, Nat.reduceEqDiff, Nat.reduceAdd, Nat.reduceLeDiff, reduceCtorEq, Nat.reduceMul]
          intro hG; exact m1 ((hG.nds i x hx).2.2.2 j q hq)
        rw [bool_t m1] at c3
        simp only [F52b1, e1, e33, e34, e35, e4, e61, e62, s1, hlt2, hge2, c3, fxa, fxc, fxE, fxL, fxI, nxE, evO, evR, cellsT, ldCells, mkT, lenA, binPV, Env.init, resV, resT, frT, klT, ownT, intT, O.adds, ownA, rowsA, over, wrOk, keysT, keysA, ne_eq, if_true, if_false, ite_self, Nat.reduceLT, Nat.reduceSub, Nat.reduceBEq, Nat.reduceEqDiff, Nat.reduceAdd, Nat.reduceLeDiff, reduceCtorEq, Nat.reduceMul]
        refine ⟨by rw [wrap_succ j (by omega)], hc, fun m c hm hc => ?_⟩
        by_cases e : m = j
        · subst e; rw [hq] at hc; rw [← Option.some.inj hc]; exact m1
        · exact hall2 m c (by omega) hc
      · rintro e σ' ⟨e1, e33, e34, e35, e4, e61, e62, s1, hc, hall2⟩
        have hlt2 : ¬ ((x.to.length : Nat) : Int) < (x.to.length : Int) := by omega
        simp only [encT, encN, encP, List.map_cons, List.map_nil] at s1
        simp only [F52b1, e1, e33, e34, e35, e4, e61, e62, s1, hlt2, fxa, fxc, fxE, fxL, fxI, nxE, evO, evR, cellsT, ldCells, mkT, lenA, binPV, Env.init, resV, resT, frT, klT, ownT, intT, O.adds, ownA, rowsA, over, wrOk, keysT, keysA, ne_eq, if_true, if_false, ite_self, Nat.reduceLT, Nat.reduceSub, Nat.reduceBEq, Nat.reduceEqDiff, Nat.reduceAdd, Nat.reduceLeDiff, reduceCtorEq, Nat.reduceMul]
        refine ⟨by rw [wrap_succ i (by omega)], hc, fun m y hm hy => ?_⟩
        by_cases e : m = i
        · subst e; rw [hx] at hy; rw [← Option.some.inj hy]
          exact ⟨k1, k2, k3, fun j q hq => hall2 j q (List.getElem?_eq_some_iff.1 hq).1 hq⟩
        · exact hall m y (by omega) hy
    · rintro e σ ⟨e1, e33, e34, e35, s1, hc, hall⟩
      have hlt : ¬ ((n.ns.length : Nat) : Int) < (n.ns.length : Int) := by omega
      simp only [encT, List.map_cons, List.map_nil] at s1
      simp only [F52b0, e1, e33, e34, e35, s1, hlt, RE_0, fxa, fxc, fxE, fxL, fxI, nxE, evO, evR, cellsT, ldCells, mkT, lenA, binPV, Env.init, resV, resT, frT, klT, ownT, intT, O.adds, ownA, rowsA, over, wrOk, keysT, keysA, ne_eq, if_true, if_false, ite_self, Nat.reduceLT, Nat.reduceSub, Nat.reduceBEq, Nat.reduceEqDiff, Nat.reduceAdd, Nat.reduceLeDiff, reduceCtorEq, Nat.reduceMul]
      exact ⟨h1.1, h1.2, h3.1, h3.2, h5, fun i x hi => hall i x (List.getElem?_eq_some_iff.1 hi).1 hi⟩)
  rw [h1, h2]
end Go.Proofs.Ytkpfjolcmkikeaa
end
section
set_option linter.unusedSimpArgs false
set_option linter.unusedVariables false
set_option maxHeartbeats 4000000
set_option maxRecDepth 10000
namespace Go.Proofs.Ytkpfjolcmkikeaa
open Go.Fx
instance (i : Int) : Decidable (wf i) := by unfold wf; infer_instance
end Go.Proofs.Ytkpfjolcmkikeaa
end
section
set_option linter.unusedSimpArgs false
set_option linter.unusedVariables false
namespace Go.Proofs.Ytkpfjolcmkikeaa
open Go.Fx
def Shp (n m : Nt) : Prop := n.ns.length = m.ns.length ∧ n.cap = m.cap ∧ ∀ i : Int, 0 ≤ i → (m.nd i).k = (n.nd i).k ∧ (m.nd i).lv = (n.nd i).lv ∧ (m.nd i).n = (n.nd i).n ∧ (m.nd i).s = (n.nd i).s ∧ (m.nd i).al = (n.nd i).al ∧ (m.nd i).to.length = (n.nd i).to.length
theorem Shp.refl (n : Nt) : Shp n n := ⟨rfl, rfl, fun _ _ => ⟨rfl, rfl, rfl, rfl, rfl, rfl⟩⟩
theorem Shp.trans {a b c : Nt} (h : Shp a b) (k : Shp b c) : Shp a c :=
  ⟨h.1.trans k.1, h.2.1.trans k.2.1, fun i hi => by
    obtain ⟨a1, a2, a3, a4, a5, a6⟩ := h.2.2 i hi
    obtain ⟨b1, b2, b3, b4, b5, b6⟩ := k.2.2 i hi
    exact ⟨b1.trans a1, b2.trans a2, b3.trans a3, b4.trans a4, b5.trans a5, b6.trans a6⟩⟩
theorem Shp.has {n m : Nt} (h : Shp n m) (p : Pt) : m.has p = n.has p := by
  rw [Bool.eq_iff_iff, has_iff, has_iff, ← h.1]
  constructor
  · rintro ⟨h1, h2, h3, h4⟩; rw [(h.2.2 p.n h1).2.2.2.2.2] at h4; exact ⟨h1, h2, h3, h4⟩
  · rintro ⟨h1, h2, h3, h4⟩; rw [← (h.2.2 p.n h1).2.2.2.2.2] at h4; exact ⟨h1, h2, h3, h4⟩
theorem Shp.set {n : Nt} {p : Pt} (q : Pt) (hp : n.has p = true) : Shp n (n.set p q) := by
  refine ⟨(len_set n p q).symm, rfl, fun i hi => ?_⟩
  rw [nd_set n p q hp i hi]
  split
  · rename_i e; subst e; exact ⟨rfl, rfl, rfl, rfl, rfl, by simp⟩
  · exact ⟨rfl, rfl, rfl, rfl, rfl, rfl⟩
theorem get_nd {n : Nt} {i : Int} (h0 : 0 ≤ i) (h1 : i < n.ns.length) : n.ns[i.toNat]? = some (n.nd i) := by
  unfold Nt.nd; rw [List.getD_eq_getElem?_getD, List.getElem?_eq_getElem (by omega)]; rfl
theorem get_tt {x : Nd} {j : Int} (h0 : 0 ≤ j) (h1 : j < x.to.length) : x.to[j.toNat]? = some (x.tt j) := by
  unfold Nd.tt; rw [List.getD_eq_getElem?_getD, List.getElem?_eq_getElem (by omega)]; rfl
theorem good_link {n : Nt} (hg : n.Good) {p : Pt} (hp : n.has p = true) : n.lk p ≠ p ∧ n.has (n.lk p) = true ∧ n.lk (n.lk p) = p := by
  have h := has_iff.1 hp
  have hx := get_nd (n := n) h.1 h.2.1
  have hq := get_tt (x := n.nd p.n) h.2.2.1 h.2.2.2
  obtain ⟨_, _, _, h4⟩ := hg.nds _ _ hx
  have h5 := h4 _ _ hq
  have e : (⟨(p.n.toNat : Int), (p.s.toNat : Int)⟩ : Pt) = p := by
    obtain ⟨a, b⟩ := p
    simp only at h
    simp only [Pt.mk.injEq]; omega
  rw [e] at h5
  exact h5
def Nt.ln (n : Nt) (p q : Pt) : Nt := (n.set p q).set q p
end Go.Proofs.Ytkpfjolcmkikeaa
end
section
set_option linter.unusedSimpArgs false
set_option linter.unusedVariables false
set_option maxHeartbeats 4000000
namespace Go.Proofs.Ytkpfjolcmkikeaa
open Go.Fx
inductive Op where
  | mv (p q : Pt)
  | jn (p q : Pt)
  | ln (p q : Pt)
def Op.run (n : Nt) : Op → Nt
  | .mv p q => (moveR n p q).1
  | .jn p q => (joinR n p q).1
  | .ln p q => (linkR n p q).1
def wfP (p : Pt) : Prop := wf p.n ∧ wf p.s
def Op.wf : Op → Prop
  | .mv p q => wfP p ∧ wfP q
  | .jn p q => wfP p ∧ wfP q
  | .ln p q => wfP p ∧ wfP q
end Go.Proofs.Ytkpfjolcmkikeaa
end
section
set_option linter.unusedSimpArgs false
set_option linter.unusedVariables false
set_option maxHeartbeats 4000000
namespace Go.Proofs.Ytkpfjolcmkikeaa
open Go.Fx
def meetR (n : Nt) (i : Int) : Int := if n.has ⟨i, 0⟩ = true ∧ (n.lk ⟨i, 0⟩).s = 0 then (n.lk ⟨i, 0⟩).n else -1
end Go.Proofs.Ytkpfjolcmkikeaa
end
section
set_option linter.unusedSimpArgs false
set_option linter.unusedVariables false
set_option maxHeartbeats 4000000
set_option maxRecDepth 10000
namespace Go.Proofs.Ytkpfjolcmkikeaa
open Go.Fx
theorem Rto_ok {n : Nt} {p : Pt} (h : n.has p = true) : eP S 125 [.g (encT n), .g (encP p)] = some (.g (encP (n.lk p))) := by
  have hp := has_iff.1 h
  have g := getN (l := n.ns) hp.1 hp.2.1
  have g2 := getP (l := (n.nd p.n).to) hp.2.2.1 hp.2.2.2
  have h4 := hp.2.2.2
  simp only [Nt.nd] at h4 g2
  refine x_fn (orcS (by decide)) (fc := F125) rfl rfl ?_
  simp only [F125, Nt.lk, Nt.nd, Nd.tt, hp.1, hp.2.1, hp.2.2.1, h4, g, g2, fxa, fxc, fxE, fxL, fxI, nxE, evO, evR, cellsT, ldCells, mkT, lenA, binPV, Env.init, resV, resT, frT, klT, ownT, intT, O.adds, ownA, rowsA, over, wrOk, keysT, keysA, ne_eq, if_true, if_false, ite_self, Nat.reduceLT, Nat.reduceSub, Nat.reduceBEq, Nat.reduceEqDiff, Nat.reduceAdd, Nat.reduceLeDiff, reduceCtorEq, Nat.reduceMul]
theorem RPeer_ok (n : Nt) (p : Pt) : eP S 91 [.g (encT n), .g (encP p)] = some (.t [(true, encP (if n.has p then n.lk p else zP)), (false, [.i .i64 (if n.has p then 0 else 130)])]) := by
  have a1 := Has_ok n p
  refine x_fn (orcS (by decide)) (fc := F91) rfl rfl ?_
  simp only [encT, encP] at a1
  cases h1 : n.has p with
  | false =>
    rw [h1] at a1
    simp only [F91, a1, zP, Bool.false_eq_true, fxa, fxc, fxE, fxL, fxI, nxE, evO, evR, cellsT, ldCells, mkT, lenA, binPV, Env.init, resV, resT, frT, klT, ownT, intT, O.adds, ownA, rowsA, over, wrOk, keysT, keysA, ne_eq, if_true, if_false, ite_self, Nat.reduceLT, Nat.reduceSub, Nat.reduceBEq, Nat.reduceEqDiff, Nat.reduceAdd, Nat.reduceLeDiff, reduceCtorEq, Nat.reduceMul]
  | true =>
    have a2 := Rto_ok h1
    rw [h1] at a1
    simp only [encT, encP] at a2
    simp only [F91, a1, a2, fxa, fxc, fxE, fxL, fxI, nxE, evO, evR, cellsT, ldCells, mkT, lenA, binPV, Env.init, resV, resT, frT, klT, ownT, intT, O.adds, ownA, rowsA, over, wrOk, keysT, keysA, ne_eq, if_true, if_false, ite_self, Nat.reduceLT, Nat.reduceSub, Nat.reduceBEq, Nat.reduceEqDiff, Nat.reduceAdd, Nat.reduceLeDiff, reduceCtorEq, Nat.reduceMul]
end Go.Proofs.Ytkpfjolcmkikeaa
end
section
set_option linter.unusedSimpArgs false
set_option linter.unusedVariables false
set_option maxHeartbeats 4000000
set_option maxRecDepth 10000
namespace Go.Proofs.Ytkpfjolcmkikeaa
open Go.Fx
theorem rat_ok (i j : Int) : eP S 92 [.a (.i .i64 i), .a (.i .i64 j)] = some (.g [.i .i64 i, .i .i64 j]) := by
  refine x_fn (orcS (by decide)) (fc := F92) rfl rfl ?_
  simp only [F92, fxa, fxc, fxE, fxL, fxI, nxE, evO, evR, cellsT, ldCells, mkT, lenA, binPV, Env.init, resV, resT, frT, klT, ownT, intT, O.adds, ownA, rowsA, over, wrOk, keysT, keysA, ne_eq, if_true, if_false, ite_self, Nat.reduceLT, Nat.reduceSub, Nat.reduceBEq, Nat.reduceEqDiff, Nat.reduceAdd, Nat.reduceLeDiff, reduceCtorEq, Nat.reduceMul]
theorem RMeets_ok (n : Nt) (i : Int) : eP S 66 [.g (encT n), .a (.i .i64 i)] = some (.a (.i .i64 (meetR n i))) := by
  refine x_fn (orcS (by decide)) (fc := F66) rfl rfl ?_
  have c1 := RPeer_ok n ⟨i, 0⟩
  have p1 := rat_ok i 0
  unfold meetR
  obtain ⟨q, hq⟩ : ∃ q, n.lk ⟨i, 0⟩ = q := ⟨_, rfl⟩
  rw [hq] at c1 ⊢
  simp only [encT, encP] at c1
  by_cases h1 : n.has ⟨i, 0⟩ = true
  · by_cases h2 : q.s = 0
    · simp only [h1, if_true, encP] at c1
      simp only [F66, encT, c1, p1, h1, h2, fxa, fxc, fxE, fxL, fxI, nxE, evO, evR, cellsT, ldCells, mkT, lenA, binPV, Env.init, resV, resT, frT, klT, ownT, intT, O.adds, ownA, rowsA, over, wrOk, keysT, keysA, ne_eq, if_true, if_false, ite_self, Nat.reduceLT, Nat.reduceSub, Nat.reduceBEq, Nat.reduceEqDiff, Nat.reduceAdd, Nat.reduceLeDiff, reduceCtorEq, Nat.reduceMul]
    · simp only [h1, if_true, encP] at c1
      simp only [F66, encT, c1, p1, h1, h2, fxa, fxc, fxE, fxL, fxI, nxE, evO, evR, cellsT, ldCells, mkT, lenA, binPV, Env.init, resV, resT, frT, klT, ownT, intT, O.adds, ownA, rowsA, over, wrOk, keysT, keysA, ne_eq, if_true, if_false, ite_self, Nat.reduceLT, Nat.reduceSub, Nat.reduceBEq, Nat.reduceEqDiff, Nat.reduceAdd, Nat.reduceLeDiff, reduceCtorEq, Nat.reduceMul]
  · simp only [h1, Bool.false_eq_true, if_false, zP, encP] at c1
    simp only [F66, encT, c1, p1, h1, Int.reduceEq, fxa, fxc, fxE, fxL, fxI, nxE, evO, evR, cellsT, ldCells, mkT, lenA, binPV, Env.init, resV, resT, frT, klT, ownT, intT, O.adds, ownA, rowsA, over, wrOk, keysT, keysA, ne_eq, if_true, if_false, ite_self, Nat.reduceLT, Nat.reduceSub, Nat.reduceBEq, Nat.reduceEqDiff, Nat.reduceAdd, Nat.reduceLeDiff, reduceCtorEq, Nat.reduceMul]
end Go.Proofs.Ytkpfjolcmkikeaa
end
section
set_option linter.unusedSimpArgs false
set_option linter.unusedVariables false
set_option maxHeartbeats 4000000
set_option maxRecDepth 10000
namespace Go.Proofs.Ytkpfjolcmkikeaa
open Go.Fx
def Nt.step (n : Nt) (i j : Nat) : Prop := ∃ x q, n.ns[i]? = some x ∧ q ∈ x.to ∧ q.n = (j : Int)
end Go.Proofs.Ytkpfjolcmkikeaa
end
section
set_option linter.unusedSimpArgs false
set_option linter.unusedVariables false
namespace Go.Fx
variable {S : Seat}
theorem evY_up {cp : FuncId → List PT → Option PT} {cs : Cal → List TV → St → Option (TV × St)} {sp : FuncId → Bool} {j k : Nat} (h : j ≤ k) (l : Nat) (args : List TV) (σ : St) : Le (evY cp cs sp j l args σ) (evY cp cs sp k l args σ) := by
  induction h with
  | refl => exact Le.refl _
  | step _ ih => exact ih.trans (evY_le (fun _ _ => Le.refl _) (fun _ _ _ => Le.refl _) _ l args σ)
theorem eS_y_of {n l : Nat} {args : List TV} {σ : St} {x : TV × St} (h : evY (eP S) (eS S) S.sp n l args σ = some x) : eS S (.y l) args σ = some x := by
  have hl := evY_lim (cp := eP S) (cs := eS S) (sp := S.sp) (fun f ps => eP_lim S f ps) (fun f vs σ => eS_lim S f vs σ) n l args σ
  obtain ⟨k, hk⟩ := hl.ex _ h
  refine (eS_some S).2 ⟨max k n + 1, ?_⟩
  rw [evS]
  exact evY_up (Nat.le_max_right k n) l args σ _ (hl.mono (Nat.le_max_left k n) _ hk)
theorem y_round {l : Nat} {args : List TV} {σ : St} {r : LRec} (hr : σ.ls[l]? = some r) (hn : args.length = r.params.length) {K : TV → St → Prop}
    (h : wp S true r.assign (putAll r.env r.params args) σ fun x e1 σ1 => x = .norm ∧ ∃ r1, σ1.ls[l]? = some r1 ∧ r1.st = .ready ∧ wp S true r.body e1 (setL σ1 l { r1 with st := .busy }) fun y e2 σ2 =>
      ∃ r2, σ2.ls[l]? = some r2 ∧ (if y = .norm then K (.a (.p (.b true))) (setL σ2 l { r2 with st := .ready, pend := none }) else K (.a (.p (.b false))) (setL σ2 l { r2 with st := .done, pend := some y }))) :
    ∃ v σ', eS S (.y l) args σ = some (v, σ') ∧ K v σ' := by
  obtain ⟨n1, ⟨x, e1, σ1⟩, h1, hx, r1, hr1, hst, n2, ⟨y, e2, σ2⟩, h2, r2, hr2, hK⟩ := h
  simp only at hx hr1 hst h2 hr2 hK
  subst hx
  have a := evW_le (Nat.le_max_left n1 n2) true r.assign _ _ _ h1
  have b := evW_le (Nat.le_max_right n1 n2) true r.body _ _ _ h2
  simp only [evW] at a b
  by_cases hy : y = .norm
  · subst hy
    rw [if_pos rfl] at hK
    refine ⟨_, _, eS_y_of (n := max n1 n2) ?_, hK⟩
    simp only [evY, hr, hn, if_true, a, Option.bind_some, hr1, hst, b, hr2]
  · rw [if_neg hy] at hK
    refine ⟨_, _, eS_y_of (n := max n1 n2) ?_, hK⟩
    simp only [evY, hr, hn, if_true, a, Option.bind_some, hr1, hst, b, hr2, if_neg hy]
theorem wp_rng {f : X} {ps : List Nat} {assign body : C} {e : Env} {σ : St} {Q : Ex → Env → St → Prop} {g : FuncId} {caps : List Key} (hf : ev e f = .a (.fn g caps))
    (h : ∃ v σ1, eS S (.f g) (.a (.yl σ.ls.length) :: caps.map fun s => .a (.ptr s 0 0)) { σ with ls := σ.ls ++ [{ env := e, params := ps, assign := assign, body := body, st := .ready, pend := none }] } = some (v, σ1) ∧
      ∃ r, σ1.ls[σ.ls.length]? = some r ∧ r.st ≠ .busy ∧ Q (r.pend.getD .norm) e (setL σ1 σ.ls.length { r with st := .gone })) : wp S false (.rng f ps assign body) e σ Q := by
  obtain ⟨v, σ1, h1, r, hr, hs, hQ⟩ := h
  refine ⟨1, (r.pend.getD .norm, e, setL σ1 σ.ls.length { r with st := .gone }), ?_, hQ⟩
  simp only [evW, evC, Bool.false_eq_true, if_false, hf, h1, Option.bind_some, hr, if_neg hs]
theorem setL_bs (σ : St) (l : Nat) (r : LRec) : (setL σ l r).bs = σ.bs := rfl
theorem setL_clk (σ : St) (l : Nat) (r : LRec) : (setL σ l r).clk = σ.clk := rfl
theorem setL_ls (σ : St) (l : Nat) (r : LRec) : (setL σ l r).ls = σ.ls.set l r := rfl
end Go.Fx
end
section
set_option linter.unusedSimpArgs false
set_option linter.unusedVariables false
set_option maxHeartbeats 4000000
set_option maxRecDepth 10000
namespace Go.Proofs.Ytkpfjolcmkikeaa
open Go.Fx
def Nt.pr (n : Nt) (i : Nat) : Option Pt := if n.has ⟨i, 0⟩ = true ∧ (n.lk ⟨i, 0⟩).s = 0 ∧ (i : Int) < (n.lk ⟨i, 0⟩).n then some ⟨i, (n.lk ⟨i, 0⟩).n⟩ else none
def prsTo (n : Nt) (k : Nat) : List Pt := (List.range k).filterMap n.pr
def Nt.prs (n : Nt) : List Pt := prsTo n n.ns.length
theorem prsTo_succ (n : Nt) (k : Nat) : prsTo n (k + 1) = prsTo n k ++ (n.pr k).toList := by
  unfold prsTo
  rw [List.range_succ, List.filterMap_append]
  cases h : n.pr k <;> simp [h]
theorem meetings_ok (n : Nt) (σ : St) : eS S (.f 65) [.g ((encT n).map .p)] σ = some (.a (.fn 90 [(1, σ.clk)]), σ.add 1 (.var ((encT n).map .p))) := by
  refine x_fnX (fc := F65) rfl rfl ?_
  simp only [F65, capsOf, fxa, fxc, fxE, fxL, fxI, nxE, evO, evR, cellsT, ldCells, mkT, lenA, binPV, Env.init, resV, resT, frT, klT, ownT, intT, O.adds, ownA, rowsA, over, wrOk, keysT, keysA, ne_eq, if_true, if_false, ite_self, Nat.reduceLT, Nat.reduceSub, Nat.reduceBEq, Nat.reduceEqDiff, Nat.reduceAdd, Nat.reduceLeDiff, reduceCtorEq, Nat.reduceMul]
theorem each_ok {n : Nt} (hn : n.Ok) (l : Nat) (kn : Key) (I : Nat → St → Prop) (hI : ∀ k σ, I k σ → σ.bs kn = some (.var ((encT n).map .p)) ∧ kn.2 < σ.clk)
    (hadd : ∀ k σ c b, I k σ → c = σ.clk → I k ((σ.add 4 (.var [.p (.i .i64 0), .p (.i .i64 0)])).put (4, c) b))
    (hy : n.Good → ∀ k σ p, I k σ → n.prs[k]? = some p → ∃ σ', eS S (.y l) [.g [.p (.i .i64 p.n), .p (.i .i64 p.s)]] σ = some (.a (.p (.b true)), σ') ∧ I (k + 1) σ') (σ : St) (h0 : I 0 σ) :
    ∃ σ', eS S (.f 90) [.a (.yl l), .a (.ptr kn 0 0)] σ = some (.u, σ') ∧ I (if bool n.Good then n.prs.length else 0) σ' := by
  refine x_fnR (fc := F90) rfl rfl ?_
  have c1 := sCheck_ok hn
  have hns := hn.ns
  obtain ⟨s1, hc⟩ := hI 0 σ h0
  by_cases hG : n.Good
  case neg =>
    rw [bool_f hG] at c1 ⊢
    simp only [Bool.false_eq_true, if_false, encT, List.map_cons, List.map_nil] at c1 s1
    simp only [F90, s1, c1, Int.reduceEq, fxa, fxc, fxE, fxL, fxI, nxE, evO, evR, cellsT, ldCells, mkT, lenA, binPV, Env.init, resV, resT, frT, klT, ownT, intT, O.adds, ownA, rowsA, over, wrOk, keysT, keysA, ne_eq, if_true, if_false, ite_self, Nat.reduceLT, Nat.reduceSub, Nat.reduceBEq, Nat.reduceEqDiff, Nat.reduceAdd, Nat.reduceLeDiff, reduceCtorEq, Nat.reduceMul]
    exact h0
  rw [bool_t hG] at c1 ⊢
  simp only [if_true, encT, List.map_cons, List.map_nil] at c1 s1
  simp only [F90, s1, c1, fxa, fxc, fxE, fxL, fxI, nxE, evO, evR, cellsT, ldCells, mkT, lenA, binPV, Env.init, resV, resT, frT, klT, ownT, intT, O.adds, ownA, rowsA, over, wrOk, keysT, keysA, ne_eq, if_true, if_false, ite_self, Nat.reduceLT, Nat.reduceSub, Nat.reduceBEq, Nat.reduceEqDiff, Nat.reduceAdd, Nat.reduceLeDiff, reduceCtorEq, Nat.reduceMul]
  refine loop_nat n.ns.length (fun i e σ => e 0 = .a (.yl l) ∧ e 1 = .a (.ptr kn 0 0) ∧ e 11 = .a (.p (.i .i64 n.ns.length)) ∧ e 12 = .a (.p (.i .i64 (i : Nat))) ∧ I (prsTo n i).length σ) (i0 := 0) (Nat.zero_le _) ?_ ?_ ?_
  · refine ⟨?_, ?_, ?_, ?_, h0⟩ <;> simp only [fxa, fxc, fxE, fxL, fxI, nxE, evO, evR, cellsT, ldCells, mkT, lenA, binPV, Env.init, resV, resT, frT, klT, ownT, intT, O.adds, ownA, rowsA, over, wrOk, keysT, keysA, ne_eq, if_true, if_false, ite_self, Nat.reduceLT, Nat.reduceSub, Nat.reduceBEq, Nat.reduceEqDiff, Nat.reduceAdd, Nat.reduceLeDiff, reduceCtorEq, Nat.reduceMul]
    rfl
  · rintro i e σ hi ⟨e0, e1, e11, e12, hIi⟩
    obtain ⟨s1, hc⟩ := hI _ σ hIi
    have hlt : ((i : Nat) : Int) < (n.ns.length : Int) := by omega
    have c2 := Peer_ok n ⟨i, 0⟩
    have hsuc := prsTo_succ n i
    have hkn : ¬ kn = (4, σ.clk) := by rintro rfl; simp at hc
    rw [hsuc]
    simp only [encT, encP, List.map_cons, List.map_nil] at s1 c2
    cases hh : n.has ⟨i, 0⟩ with
    | false =>
      have hp : n.pr i = none := by unfold Nt.pr; rw [hh]; simp
      rw [hh] at c2
      simp only [Bool.false_eq_true, if_false, zP] at c2
      simp only [F90b0, e0, e1, e11, e12, s1, hlt, c2, hp, Option.toList_none, Int.reduceEq, fxa, fxc, fxE, fxL, fxI, nxE, evO, evR, cellsT, ldCells, mkT, lenA, binPV, Env.init, resV, resT, frT, klT, ownT, intT, O.adds, ownA, rowsA, over, wrOk, keysT, keysA, ne_eq, if_true, if_false, ite_self, Nat.reduceLT, Nat.reduceSub, Nat.reduceBEq, Nat.reduceEqDiff, Nat.reduceAdd, Nat.reduceLeDiff, reduceCtorEq, Nat.reduceMul]
      exact ⟨by rw [wrap_succ i (by omega)], hadd _ σ _ _ hIi rfl⟩
    | true =>
      rw [hh] at c2
      simp only [if_true] at c2
      obtain ⟨q, hq⟩ : ∃ q, n.lk ⟨i, 0⟩ = q := ⟨_, rfl⟩
      rw [hq] at c2
      by_cases h1 : q.s = 0
      case neg =>
        have hp : n.pr i = none := by unfold Nt.pr; rw [hq, if_neg (fun h => h1 h.2.1)]
        simp only [F90b0, e0, e1, e11, e12, s1, hlt, c2, h1, hp, Option.toList_none, Int.reduceEq, fxa, fxc, fxE, fxL, fxI, nxE, evO, evR, cellsT, ldCells, mkT, lenA, binPV, Env.init, resV, resT, frT, klT, ownT, intT, O.adds, ownA, rowsA, over, wrOk, keysT, keysA, ne_eq, if_true, if_false, ite_self, Nat.reduceLT, Nat.reduceSub, Nat.reduceBEq, Nat.reduceEqDiff, Nat.reduceAdd, Nat.reduceLeDiff, reduceCtorEq, Nat.reduceMul]
        exact ⟨by rw [wrap_succ i (by omega)], hadd _ σ _ _ hIi rfl⟩
      by_cases h2 : q.n ≤ (i : Int)
      · have hp : n.pr i = none := by unfold Nt.pr; rw [hq, if_neg (fun h => by have := h.2.2; omega)]
        rw [h1] at c2
        simp only [F90b0, e0, e1, e11, e12, s1, hlt, c2, h1, h2, hp, Option.toList_none, Int.reduceEq, fxa, fxc, fxE, fxL, fxI, nxE, evO, evR, cellsT, ldCells, mkT, lenA, binPV, Env.init, resV, resT, frT, klT, ownT, intT, O.adds, ownA, rowsA, over, wrOk, keysT, keysA, ne_eq, if_true, if_false, ite_self, Nat.reduceLT, Nat.reduceSub, Nat.reduceBEq, Nat.reduceEqDiff, Nat.reduceAdd, Nat.reduceLeDiff, reduceCtorEq, Nat.reduceMul]
        exact ⟨by rw [wrap_succ i (by omega)], hadd _ σ _ _ hIi rfl⟩
      · have hp : n.pr i = some ⟨i, q.n⟩ := by unfold Nt.pr; rw [hq, if_pos ⟨hh, h1, by omega⟩]
        have hget : n.prs[(prsTo n i).length]? = some ⟨i, q.n⟩ := by
          have : ∀ k, i + 1 ≤ k → (prsTo n k)[(prsTo n i).length]? = some ⟨i, q.n⟩ := by
            intro k hk
            induction hk with
            | refl => rw [hsuc, hp]; simp
            | step hk ih =>
              rw [prsTo_succ, List.getElem?_append_left]
              · exact ih
              · exact (List.getElem?_eq_some_iff.1 ih).1
          exact this n.ns.length (by omega)
        obtain ⟨σ', hcall, hI'⟩ := hy hG _ _ _ (hadd _ σ σ.clk (.var [.p (.i .i64 q.n), .p (.i .i64 q.s)]) hIi rfl) hget
        rw [h1] at c2 hcall
        simp only [F90b0, e0, e1, e11, e12, s1, hlt, c2, h1, h2, hp, hcall, Option.toList_some, List.length_append, Int.reduceEq, fxa, fxc, fxE, fxL, fxI, nxE, evO, evR, cellsT, ldCells, mkT, lenA, binPV, Env.init, resV, resT, frT, klT, ownT, intT, O.adds, ownA, rowsA, over, wrOk, keysT, keysA, ne_eq, if_true, if_false, ite_self, Nat.reduceLT, Nat.reduceSub, Nat.reduceBEq, Nat.reduceEqDiff, Nat.reduceAdd, Nat.reduceLeDiff, reduceCtorEq, Nat.reduceMul]
        exact ⟨by rw [wrap_succ i (by omega)], hI'⟩
  · rintro e σ ⟨e0, e1, e11, e12, hIi⟩
    have hlt : ¬ ((n.ns.length : Nat) : Int) < (n.ns.length : Int) := by omega
    simp only [F90b0, e0, e1, e11, e12, hlt, fxa, fxc, fxE, fxL, fxI, nxE, evO, evR, cellsT, ldCells, mkT, lenA, binPV, Env.init, resV, resT, frT, klT, ownT, intT, O.adds, ownA, rowsA, over, wrOk, keysT, keysA, ne_eq, if_true, if_false, ite_self, Nat.reduceLT, Nat.reduceSub, Nat.reduceBEq, Nat.reduceEqDiff, Nat.reduceAdd, Nat.reduceLeDiff, reduceCtorEq, Nat.reduceMul]
    exact hIi
end Go.Proofs.Ytkpfjolcmkikeaa
end
section
set_option linter.unusedSimpArgs false
set_option linter.unusedVariables false
set_option maxHeartbeats 4000000
set_option maxRecDepth 10000
namespace Go.Proofs.Ytkpfjolcmkikeaa
open Go.Fx
theorem prsTo_len (n : Nt) (k : Nat) : (prsTo n k).length ≤ k := by
  unfold prsTo
  have := List.length_filterMap_le n.pr (List.range k)
  simpa using this
def rdy (n : Nt) (p : Pt) : Bool := decide ((ofR (n.nd p.n) (n.nd p.s)).2 = 0)
theorem pr_spec {n : Nt} {i : Nat} {p : Pt} (h : n.pr i = some p) : p.n = i ∧ n.has ⟨i, 0⟩ = true ∧ n.lk ⟨i, 0⟩ = ⟨p.s, 0⟩ ∧ (i : Int) < p.s := by
  unfold Nt.pr at h
  split at h
  · rename_i h1
    rw [← Option.some.inj h]
    refine ⟨rfl, h1.1, ?_, h1.2.2⟩
    obtain ⟨q, hq⟩ : ∃ q, n.lk ⟨i, 0⟩ = q := ⟨_, rfl⟩
    rw [hq] at h1 ⊢
    obtain ⟨a, b⟩ := q
    have h2 : b = 0 := h1.2.1
    rw [h2]
  · cases h
theorem prs_mem {n : Nt} {p : Pt} : p ∈ n.prs ↔ ∃ i, i < n.ns.length ∧ n.pr i = some p := by
  unfold Nt.prs prsTo
  rw [List.mem_filterMap]
  constructor
  · rintro ⟨i, h1, h2⟩; exact ⟨i, List.mem_range.1 h1, h2⟩
  · rintro ⟨i, h1, h2⟩; exact ⟨i, List.mem_range.2 h1, h2⟩
theorem prs_in {n : Nt} (hG : n.Good) {p : Pt} (h : p ∈ n.prs) : 0 ≤ p.n ∧ p.n < n.ns.length ∧ 0 ≤ p.s ∧ p.s < n.ns.length ∧ p.n < p.s := by
  obtain ⟨i, h1, h2⟩ := prs_mem.1 h
  obtain ⟨e1, e2, e3, e4⟩ := pr_spec h2
  have h3 := has_iff.1 (good_link hG e2).2.1
  rw [e3] at h3
  simp only at h3
  omega
theorem ready_ok {n : Nt} (hn : n.Ok) {p : Pt} (hp : 0 ≤ p.n ∧ p.n < n.ns.length ∧ 0 ≤ p.s ∧ p.s < n.ns.length) : eP S 67 [.g (encT n), .g (encP p)] = some (.a (.b (rdy n p))) := by
  refine x_fn (orcS (by decide)) (fc := F67) rfl rfl ?_
  have g1 := getN (l := n.ns) hp.1 hp.2.1
  have g2 := getN (l := n.ns) hp.2.2.1 hp.2.2.2
  have c1 := Of_ok (hn.nd _ (nd_mem hp.1 hp.2.1)) (hn.nd _ (nd_mem hp.2.2.1 hp.2.2.2))
  obtain ⟨a, ha⟩ : ∃ a, n.nd p.n = a := ⟨_, rfl⟩
  obtain ⟨b, hb⟩ : ∃ b, n.nd p.s = b := ⟨_, rfl⟩
  have ha2 : n.ns.getD p.n.toNat zN = a := ha
  have hb2 : n.ns.getD p.s.toNat zN = b := hb
  unfold rdy
  rw [ha, hb] at c1 ⊢
  rw [ha2] at g1
  rw [hb2] at g2
  obtain ⟨⟨r, e⟩, hr⟩ : ∃ r, ofR a b = r := ⟨_, rfl⟩
  rw [hr] at c1 ⊢
  simp only [encLE, encL, encN] at c1
  simp only [F67, g1, g2, hp.1, hp.2.1, hp.2.2.1, hp.2.2.2, c1, fxa, fxc, fxE, fxL, fxI, nxE, evO, evR, cellsT, ldCells, mkT, lenA, binPV, Env.init, resV, resT, frT, klT, ownT, intT, O.adds, ownA, rowsA, over, wrOk, keysT, keysA, ne_eq, if_true, if_false, ite_self, Nat.reduceLT, Nat.reduceSub, Nat.reduceBEq, Nat.reduceEqDiff, Nat.reduceAdd, Nat.reduceLeDiff, reduceCtorEq, Nat.reduceMul]
noncomputable def Nt.rds (n : Nt) : List Pt := if bool n.Good then n.prs.filter (rdy n) else []
theorem Ready_ok {n : Nt} (hn : n.Ok) : eP S 45 [.g (encT n)] = some (.a (.l (n.rds.map encP))) := by
  refine x_fn (orcS (by decide)) (fc := F45) rfl rfl ?_
  have hns := hn.ns
  have hpl2 : n.prs.length ≤ n.ns.length := prsTo_len n n.ns.length
  have hm := meetings_ok n ((St.empty.add 1 (.var ((encT n).map .p))).add 3 (.var [.nil]))
  simp only [encT, List.map_cons, List.map_nil, add_clk, empty_clk, Nat.zero_add, Nat.reduceAdd] at hm
  simp only [F45, hm, fxa, fxc, fxE, fxL, fxI, nxE, evO, evR, cellsT, ldCells, mkT, lenA, binPV, Env.init, resV, resT, frT, klT, ownT, intT, O.adds, ownA, rowsA, over, wrOk, keysT, keysA, ne_eq, if_true, if_false, ite_self, Nat.reduceLT, Nat.reduceSub, Nat.reduceBEq, Nat.reduceEqDiff, Nat.reduceAdd, Nat.reduceLeDiff, reduceCtorEq, Nat.reduceMul]
  obtain ⟨E, hE⟩ : ∃ E : Env, E = ((((((Env.init [TV.g [.p (.l (n.ns.map encN)), .p (.i .i64 n.cap)]]).put 1 (.a (.ptr (1, 0) 0 0))).put 2 (.a .nil)).put 3 (.a (.ptr (3, 1) 0 0))).put 5 (.g [.p (.l (n.ns.map encN)), .p (.i .i64 n.cap)])).put 6 (.a (.fn 90 [(1, 2)]))) := ⟨_, rfl⟩
  have E1 : E 1 = .a (.ptr (1, 0) 0 0) := by rw [hE]; rfl
  have E3 : E 3 = .a (.ptr (3, 1) 0 0) := by rw [hE]; rfl
  refine wp_rng (g := 90) (caps := [(1, 2)]) (by simp only [fxa, fxc, fxE, fxL, fxI, nxE, evO, evR, cellsT, ldCells, mkT, lenA, binPV, Env.init, resV, resT, frT, klT, ownT, intT, O.adds, ownA, rowsA, over, wrOk, keysT, keysA, ne_eq, if_true, if_false, ite_self, Nat.reduceLT, Nat.reduceSub, Nat.reduceBEq, Nat.reduceEqDiff, Nat.reduceAdd, Nat.reduceLeDiff, reduceCtorEq, Nat.reduceMul]) ?_
  rw [← hE]
  obtain ⟨r0, hr0⟩ : ∃ r0 : LRec, r0 = { env := E, params := [7], assign := (.reg [ia 4 (.new [(.p (.i .i64 0)), (.p (.i .i64 0))]), io (.st 2 (.t 4) (.t 7))]), body := (.block 1 (.seq (.reg [ia 8 (.ld 2 true (.t 1)), ia 9 (.ld 2 true (.t 4)), ia 10 (.call (.f 67) [(.t 8), (.t 9)])]) (.cond (.t 10) (.reg [ia 11 (.ld 1 false (.t 3)), ia 12 (.ld 2 true (.t 4)), ia 13 (.bsl 2 60 [(.p (.i .i64 0)), (.p (.i .i64 0))] 1 [(0, (.t 12))]), ia 14 (.app 2 60 16 (.t 11) (.t 13)), io (.st 1 (.t 3) (.t 14))]) .skip))), st := .ready, pend := none } := ⟨_, rfl⟩
  have hls0 : (((St.empty.add 1 (.var [.p (.l (n.ns.map encN)), .p (.i .i64 n.cap)])).add 3 (.var [.nil])).add 1 (.var [.p (.l (n.ns.map encN)), .p (.i .i64 n.cap)])).ls = [] := rfl
  rw [hls0]
  simp only [List.length_nil, List.nil_append, List.map_cons, List.map_nil]
  rw [← hr0]
  have hcall := each_ok hn 0 (1, 2) (fun k σ' => (σ'.bs (1, 2) = some (.var ((encT n).map .p)) ∧ (1, 2).2 < σ'.clk) ∧ σ'.bs (1, 0) = some (.var ((encT n).map .p)) ∧ σ'.ls = [r0] ∧ ∃ x, σ'.bs (3, 1) = some (.var [x]) ∧ (((n.prs.take k).filter (rdy n)) = [] ∧ x = .nil ∨ ∃ q : Nat, x = .own (14, q) 0 ((n.prs.take k).filter (rdy n)).length ∧ σ'.bs (14, q) = some (.row 2 60 (((n.prs.take k).filter (rdy n)).map encP)) ∧ q < σ'.clk))
    (fun k σ' h => h.1) (by
      rintro k σ' c b ⟨⟨h1, h2⟩, h3, h4, x, h5, h6⟩ rfl
      refine ⟨⟨by simp only [put_bs, add_bs, Prod.mk.injEq, Nat.reduceEqDiff, false_and, if_false]; exact h1, by simp only [put_clk, add_clk]; omega⟩, by simp only [put_bs, add_bs, Prod.mk.injEq, Nat.reduceEqDiff, false_and, if_false]; exact h3, h4, x, by simp only [put_bs, add_bs, Prod.mk.injEq, Nat.reduceEqDiff, false_and, if_false]; exact h5, ?_⟩
      rcases h6 with h6 | ⟨q, e1, e2, e3⟩
      · exact .inl h6
      · exact .inr ⟨q, e1, by simp only [put_bs, add_bs, Prod.mk.injEq, Nat.reduceEqDiff, false_and, if_false]; exact e2, by simp only [put_clk, add_clk]; omega⟩)
  specialize hcall (by
      rintro hG k σ' p ⟨⟨h1, h2⟩, h3, h4, x, h5, h6⟩ hp
      have hpm := prs_in hG (List.mem_of_getElem? hp)
      have c1 := ready_ok hn (p := p) ⟨hpm.1, hpm.2.1, hpm.2.2.1, hpm.2.2.2.1⟩
      obtain ⟨v, σ2, g1, g2⟩ := y_round (S := S) (l := 0) (args := [.g [.p (.i .i64 p.n), .p (.i .i64 p.s)]]) (σ := σ') (r := r0) (by rw [h4]; rfl) (by rw [hr0]; rfl) (K := fun v σ2 => v = .a (.p (.b true)) ∧ (σ2.bs (1, 2) = some (.var ((encT n).map .p)) ∧ 2 < σ2.clk) ∧ σ2.bs (1, 0) = some (.var ((encT n).map .p)) ∧ σ2.ls = [r0] ∧ ∃ x, σ2.bs (3, 1) = some (.var [x]) ∧ (((n.prs.take (k + 1)).filter (rdy n)) = [] ∧ x = .nil ∨ ∃ q : Nat, x = .own (14, q) 0 ((n.prs.take (k + 1)).filter (rdy n)).length ∧ σ2.bs (14, q) = some (.row 2 60 (((n.prs.take (k + 1)).filter (rdy n)).map encP)) ∧ q < σ2.clk)) (by
        have hset : [r0].set 0 { r0 with st := .busy } = [{ r0 with st := .busy }] := rfl
        have hback : [{ r0 with st := LSt.busy }].set 0 { ({ r0 with st := LSt.busy } : LRec) with st := .ready, pend := none } = [r0] := by rw [hr0]; rfl
        have ra : r0.assign = (.reg [ia 4 (.new [(.p (.i .i64 0)), (.p (.i .i64 0))]), io (.st 2 (.t 4) (.t 7))]) := by rw [hr0]
        have rb : r0.body = (.block 1 (.seq (.reg [ia 8 (.ld 2 true (.t 1)), ia 9 (.ld 2 true (.t 4)), ia 10 (.call (.f 67) [(.t 8), (.t 9)])]) (.cond (.t 10) (.reg [ia 11 (.ld 1 false (.t 3)), ia 12 (.ld 2 true (.t 4)), ia 13 (.bsl 2 60 [(.p (.i .i64 0)), (.p (.i .i64 0))] 1 [(0, (.t 12))]), ia 14 (.app 2 60 16 (.t 11) (.t 13)), io (.st 1 (.t 3) (.t 14))]) .skip))) := by rw [hr0]
        have re : r0.env = E := by rw [hr0]
        have rp : r0.params = [7] := by rw [hr0]
        have rs : r0.st = .ready := by rw [hr0]
        obtain ⟨L, hL⟩ : ∃ L, (n.prs.take k).filter (rdy n) = L := ⟨_, rfl⟩
        have hLl : L.length ≤ n.ns.length := by
          have h8 := List.length_filter_le (rdy n) (n.prs.take k)
          rw [hL] at h8
          have h9 := List.length_take_le k n.prs
          rw [List.length_take] at h8; omega
        have hL2 : (n.prs.take (k + 1)).filter (rdy n) = L ++ (if rdy n p then [p] else []) := by
          rw [List.take_add_one, hp, List.filter_append, hL]
          cases h : rdy n p <;> simp [h]
        rw [hL] at h6
        rw [hL2]
        have hbb : (L.length + 1) * 16 ≤ 140737488355328 := by omega
        have htk2 : List.take L.length (L.map encP) = L.map encP := List.take_of_length_le (by simp)
        simp only [encT, encP, List.map_cons, List.map_nil] at c1
        have h1' := h1
        have h3' := h3
        simp only [encT, List.map_cons, List.map_nil] at h1' h3'
        have nc : ¬ 0 = σ'.clk ∧ ¬ 0 = σ'.clk + 1 ∧ ¬ 1 = σ'.clk := by omega
        simp only [ra, rb, re, rp, putAll, fxa, fxc, fxE, fxL, fxI, nxE, evO, evR, cellsT, ldCells, mkT, lenA, binPV, Env.init, resV, resT, frT, klT, ownT, intT, O.adds, ownA, rowsA, over, wrOk, keysT, keysA, ne_eq, if_true, if_false, ite_self, Nat.reduceLT, Nat.reduceSub, Nat.reduceBEq, Nat.reduceEqDiff, Nat.reduceAdd, Nat.reduceLeDiff, reduceCtorEq, Nat.reduceMul]
        refine ⟨r0, by rw [h4]; rfl, rs, ?_⟩
        cases hrd : rdy n p with
        | false =>
          rw [hrd] at c1
          simp only [setL_bs, setL_clk, setL_ls, E1, E3, h1', h3', h4, h5, c1, hset, List.getElem?_cons_zero, List.append_nil, Bool.false_eq_true, fxa, fxc, fxE, fxL, fxI, nxE, evO, evR, cellsT, ldCells, mkT, lenA, binPV, Env.init, resV, resT, frT, klT, ownT, intT, O.adds, ownA, rowsA, over, wrOk, keysT, keysA, ne_eq, if_true, if_false, ite_self, Nat.reduceLT, Nat.reduceSub, Nat.reduceBEq, Nat.reduceEqDiff, Nat.reduceAdd, Nat.reduceLeDiff, reduceCtorEq, Nat.reduceMul]
          refine ⟨_, rfl, by omega, hback, ?_⟩
          rcases h6 with ⟨rfl, rfl⟩ | ⟨q, rfl, e2, e3⟩
          · exact ⟨_, rfl, .inl ⟨rfl, rfl⟩⟩
          · exact ⟨_, rfl, .inr ⟨q, rfl, e2, by omega⟩⟩
        | true =>
          rw [hrd] at c1
          rcases h6 with ⟨rfl, rfl⟩ | ⟨q, rfl, e2, e3⟩
          · simp only [setL_bs, setL_clk, setL_ls, E1, E3, h1', h3', h4, h5, c1, hset, List.getElem?_cons_zero, Nat.zero_add, Nat.one_mul, Nat.reduceLeDiff, Nat.zero_lt_one, fxa, fxc, fxE, fxL, fxI, nxE, evO, evR, cellsT, ldCells, mkT, lenA, binPV, Env.init, resV, resT, frT, klT, ownT, intT, O.adds, ownA, rowsA, over, wrOk, keysT, keysA, ne_eq, if_true, if_false, ite_self, Nat.reduceLT, Nat.reduceSub, Nat.reduceBEq, Nat.reduceEqDiff, Nat.reduceAdd, Nat.reduceLeDiff, reduceCtorEq, Nat.reduceMul]
            refine ⟨_, rfl, by omega, hback, _, rfl, .inr ⟨σ'.clk + 1 + 1, rfl, ?_, by omega⟩⟩
            simp [encP]
          · have nq : ¬ q = σ'.clk ∧ ¬ q = σ'.clk + 1 ∧ ¬ q = σ'.clk + 1 + 1 := by omega
            simp only [setL_bs, setL_clk, setL_ls, E1, E3, h1', h3', h4, h5, e2, c1, nq, hset, htk2, hbb, List.length_map, Nat.le_refl, List.getElem?_cons_zero, Nat.zero_add, Nat.one_mul, Nat.reduceLeDiff, Nat.zero_lt_one, fxa, fxc, fxE, fxL, fxI, nxE, evO, evR, cellsT, ldCells, mkT, lenA, binPV, Env.init, resV, resT, frT, klT, ownT, intT, O.adds, ownA, rowsA, over, wrOk, keysT, keysA, ne_eq, if_true, if_false, ite_self, Nat.reduceLT, Nat.reduceSub, Nat.reduceBEq, Nat.reduceEqDiff, Nat.reduceAdd, Nat.reduceLeDiff, reduceCtorEq, Nat.reduceMul]
            refine ⟨_, rfl, by omega, hback, _, rfl, .inr ⟨σ'.clk + 1 + 1, by simp, ?_, by omega⟩⟩
            simp [encP])
      obtain ⟨rfl, g2, g3, g4, g5⟩ := g2
      exact ⟨σ2, g1, g2, g3, g4, g5⟩)
  obtain ⟨σ1, hc, hI⟩ := hcall { (((St.empty.add 1 (.var [.p (.l (n.ns.map encN)), .p (.i .i64 n.cap)])).add 3 (.var [.nil])).add 1 (.var [.p (.l (n.ns.map encN)), .p (.i .i64 n.cap)])) with ls := [r0] } ⟨⟨rfl, by show 2 < 3; omega⟩, rfl, rfl, .nil, rfl, .inl ⟨by simp, rfl⟩⟩
  obtain ⟨_, _, h4, x, h5, h6⟩ := hI
  refine ⟨_, σ1, hc, r0, by rw [h4]; rfl, by rw [hr0]; simp, ?_⟩
  have hp0 : r0.pend = none := by rw [hr0]
  rw [hp0]
  have hfin : ∃ L, n.rds = L ∧ (L = [] ∧ x = .nil ∨ ∃ q : Nat, x = .own (14, q) 0 L.length ∧ σ1.bs (14, q) = some (.row 2 60 (L.map encP))) := by
    unfold Nt.rds
    by_cases hG : n.Good
    · rw [bool_t hG] at h6 ⊢
      simp only [if_true, List.take_length] at h6 ⊢
      refine ⟨_, rfl, ?_⟩
      rcases h6 with h6 | ⟨q, e1, e2, e3⟩
      · exact .inl h6
      · exact .inr ⟨q, e1, e2⟩
    · rw [bool_f hG] at h6 ⊢
      simp only [Bool.false_eq_true, if_false, List.take_zero, List.filter_nil] at h6 ⊢
      refine ⟨_, rfl, ?_⟩
      rcases h6 with h6 | ⟨q, e1, e2, e3⟩
      · exact .inl ⟨rfl, h6.2⟩
      · exact .inr ⟨q, e1, e2⟩
  obtain ⟨L, hL, hx⟩ := hfin
  rw [hL]
  rcases hx with ⟨rfl, rfl⟩ | ⟨q, rfl, e2⟩
  · simp only [Option.getD_none, setL_bs, setL_clk, setL_ls, E3, h5, fxa, fxc, fxE, fxL, fxI, nxE, evO, evR, cellsT, ldCells, mkT, lenA, binPV, Env.init, resV, resT, frT, klT, ownT, intT, O.adds, ownA, rowsA, over, wrOk, keysT, keysA, ne_eq, if_true, if_false, ite_self, Nat.reduceLT, Nat.reduceSub, Nat.reduceBEq, Nat.reduceEqDiff, Nat.reduceAdd, Nat.reduceLeDiff, reduceCtorEq, Nat.reduceMul]
  · have htk2 : List.take L.length (L.map encP) = L.map encP := List.take_of_length_le (by simp)
    simp only [Option.getD_none, setL_bs, setL_clk, setL_ls, E3, h5, e2, htk2, List.length_map, Nat.zero_add, Nat.le_refl, fxa, fxc, fxE, fxL, fxI, nxE, evO, evR, cellsT, ldCells, mkT, lenA, binPV, Env.init, resV, resT, frT, klT, ownT, intT, O.adds, ownA, rowsA, over, wrOk, keysT, keysA, ne_eq, if_true, if_false, ite_self, Nat.reduceLT, Nat.reduceSub, Nat.reduceBEq, Nat.reduceEqDiff, Nat.reduceAdd, Nat.reduceLeDiff, reduceCtorEq, Nat.reduceMul]
def pickI (i : Int) (m : Nat) : Nat := ((i.tmod m + m).tmod m).toNat
theorem Pick_ok {n : Nt} (hn : n.Ok) {i : Int} (hi : wf i) : eP S 40 [.g (encT n), .a (.i .i64 i)] =
    some (.t [(true, encP (if n.rds.length = 0 then zP else n.rds.getD (pickI i n.rds.length) zP)), (false, [.b (decide (n.rds.length ≠ 0))])]) := by
  refine x_fn (orcS (by decide)) (fc := F40) rfl rfl ?_
  have hns := hn.ns
  have c1 := Ready_ok hn
  obtain ⟨L, hL⟩ : ∃ L, n.rds = L := ⟨_, rfl⟩
  have hLl : L.length ≤ n.ns.length := by
    rw [← hL]; unfold Nt.rds
    split
    · have h8 := List.length_filter_le (rdy n) n.prs
      have h9 : n.prs.length ≤ n.ns.length := prsTo_len n n.ns.length
      omega
    · simp
  rw [hL] at c1 ⊢
  simp only [encT] at c1
  by_cases h0 : L.length = 0
  · have : L = [] := List.eq_nil_of_length_eq_zero h0
    subst this
    simp only [List.map_nil] at c1
    simp only [F40, c1, zP, Int.cast_ofNat_Int, Int.reduceEq, not_true_eq_false, fxa, fxc, fxE, fxL, fxI, nxE, evO, evR, cellsT, ldCells, mkT, lenA, binPV, Env.init, resV, resT, frT, klT, ownT, intT, O.adds, ownA, rowsA, over, wrOk, keysT, keysA, ne_eq, if_true, if_false, ite_self, Nat.reduceLT, Nat.reduceSub, Nat.reduceBEq, Nat.reduceEqDiff, Nat.reduceAdd, Nat.reduceLeDiff, reduceCtorEq, Nat.reduceMul]
  · have hm0 : ¬ (L.length : Int) = 0 := by omega
    obtain ⟨M, hM⟩ : ∃ M : Int, (L.length : Int) = M := ⟨_, rfl⟩
    have hMp : 0 < M := by omega
    have b1 := Int.tmod_lt_of_pos i hMp
    have b0 := Int.lt_tmod_of_pos i hMp
    have hw : IntKind.i64.wrap (i.tmod M + M) = i.tmod M + M := wrap_in _ (by omega)
    have b2 := Int.tmod_lt_of_pos (i.tmod M + M) hMp
    have b3 : 0 ≤ (i.tmod M + M).tmod M := Int.tmod_nonneg _ (by omega)
    have g := getP (l := L) (i := (i.tmod M + M).tmod M) b3 (by omega)
    have hpk : pickI i L.length = ((i.tmod M + M).tmod M).toNat := by unfold pickI; rw [hM]
    rw [hM] at hm0
    have hM2 : ¬ M = 0 := by omega
    simp only [F40, c1, hm0, hM, hM2, hw, b2, b3, g, h0, hpk, ne_eq, not_false_eq_true, fxa, fxc, fxE, fxL, fxI, nxE, evO, evR, cellsT, ldCells, mkT, lenA, binPV, Env.init, resV, resT, frT, klT, ownT, intT, O.adds, ownA, rowsA, over, wrOk, keysT, keysA, ne_eq, if_true, if_false, ite_self, Nat.reduceLT, Nat.reduceSub, Nat.reduceBEq, Nat.reduceEqDiff, Nat.reduceAdd, Nat.reduceLeDiff, reduceCtorEq, Nat.reduceMul]
end Go.Proofs.Ytkpfjolcmkikeaa
end
section
set_option linter.unusedSimpArgs false
set_option linter.unusedVariables false
set_option maxHeartbeats 4000000
set_option maxRecDepth 10000
namespace Go.Proofs.Ytkpfjolcmkikeaa
open Go.Fx
theorem All_ok {n : Nt} (hn : n.Ok) : eP S 43 [.g (encT n)] = some (.a (.l ((if bool n.Good then n.prs else []).map encP))) := by
  refine x_fn (orcS (by decide)) (fc := F43) rfl rfl ?_
  have hns := hn.ns
  have hpl := prsTo_len n n.ns.length
  have hpl2 : n.prs.length ≤ n.ns.length := hpl
  have app : ∀ (σ : St) (kn : Key), σ.ls = [] → σ.bs kn = some (.var ((encT n).map .p)) → kn.2 < σ.clk →
      ∃ v σ', eS S (.f 89) [.a .nil, .a (.fn 90 [kn])] σ = some (v, σ') ∧ ∃ x, v = .a x ∧ frA σ' x = some (.l ((if bool n.Good then n.prs else []).map encP)) := by
    intro σ kn hls hkn hkl
    refine x_fnS (fc := F89) rfl rfl ?_
    obtain ⟨c0, hc0⟩ : ∃ c, σ.clk = c := ⟨_, rfl⟩
    have hknc : ¬ kn = (2, c0) := by rintro rfl; simp at hkl; omega
    simp only [F89, hc0, fxa, fxc, fxE, fxL, fxI, nxE, evO, evR, cellsT, ldCells, mkT, lenA, binPV, Env.init, resV, resT, frT, klT, ownT, intT, O.adds, ownA, rowsA, over, wrOk, keysT, keysA, ne_eq, if_true, if_false, ite_self, Nat.reduceLT, Nat.reduceSub, Nat.reduceBEq, Nat.reduceEqDiff, Nat.reduceAdd, Nat.reduceLeDiff, reduceCtorEq, Nat.reduceMul]
    obtain ⟨E, hE⟩ : ∃ E : Env, E = (((Env.init [TV.a .nil, .a (.fn 90 [kn])]).put 2 (.a (.ptr (2, c0) 0 0))).put 4 (.a .nil)).put 6 (.a (.fn 90 [kn])) := ⟨_, rfl⟩
    have E2 : E 2 = .a (.ptr (2, c0) 0 0) := by rw [hE]; rfl
    obtain ⟨r0, hr0⟩ : ∃ r0 : LRec, r0 = { env := E, params := [7], assign := (.reg [ia 5 (.new [(.p (.i .i64 0)), (.p (.i .i64 0))]), io (.st 2 (.t 5) (.t 7))]), body := (.block 1 (.reg [ia 8 (.ld 1 false (.t 2)), ia 9 (.ld 2 true (.t 5)), ia 10 (.bsl 2 60 [(.p (.i .i64 0)), (.p (.i .i64 0))] 1 [(0, (.t 9))]), ia 11 (.app 2 60 16 (.t 8) (.t 10)), io (.st 1 (.t 2) (.t 11))])), st := .ready, pend := none } := ⟨_, rfl⟩
    have hcall := each_ok hn 0 kn (fun k σ' => (σ'.bs kn = some (.var ((encT n).map .p)) ∧ kn.2 < σ'.clk) ∧ c0 < σ'.clk ∧ σ'.ls = [r0] ∧ ∃ x, σ'.bs (2, c0) = some (.var [x]) ∧ (k = 0 ∧ x = .nil ∨ ∃ q : Nat, x = .own (11, q) 0 k ∧ σ'.bs (11, q) = some (.row 2 60 ((n.prs.take k).map encP)) ∧ q < σ'.clk ∧ k ≤ n.prs.length))
      (fun k σ' h => h.1) (by
        rintro k σ' c b ⟨⟨h1, h2⟩, h3, h4, x, h5, h6⟩ rfl
        have n1 : ¬ kn = (4, σ'.clk) := by rintro rfl; simp at h2
        refine ⟨⟨by simp only [put_bs, add_bs, n1, if_false]; exact h1, by simp only [put_clk, add_clk]; omega⟩, by simp only [put_clk, add_clk]; omega, h4, x, by simp only [put_bs, add_bs, Prod.mk.injEq, Nat.reduceEqDiff, false_and, if_false]; exact h5, ?_⟩
        rcases h6 with h6 | ⟨q, e1, e2, e3, e4⟩
        · exact .inl h6
        · exact .inr ⟨q, e1, by simp only [put_bs, add_bs, Prod.mk.injEq, Nat.reduceEqDiff, false_and, if_false]; exact e2, by simp only [put_clk, add_clk]; omega, e4⟩) (by
        rintro _ k σ' p ⟨⟨h1, h2⟩, h3, h4, x, h5, h6⟩ hp
        obtain ⟨v, σ2, g1, g2⟩ := y_round (S := S) (l := 0) (args := [.g [.p (.i .i64 p.n), .p (.i .i64 p.s)]]) (σ := σ') (r := r0) (by rw [h4]; rfl) (by rw [hr0]; rfl) (K := fun v σ2 => v = .a (.p (.b true)) ∧ (σ2.bs kn = some (.var ((encT n).map .p)) ∧ kn.2 < σ2.clk) ∧ c0 < σ2.clk ∧ σ2.ls = [r0] ∧ ∃ x, σ2.bs (2, c0) = some (.var [x]) ∧ (k + 1 = 0 ∧ x = .nil ∨ ∃ q : Nat, x = .own (11, q) 0 (k + 1) ∧ σ2.bs (11, q) = some (.row 2 60 ((n.prs.take (k + 1)).map encP)) ∧ q < σ2.clk ∧ k + 1 ≤ n.prs.length)) (by
          have hkl := (List.getElem?_eq_some_iff.1 hp).1
          have ne1 : ∀ d j, ¬ kn = (d, σ'.clk + j) := by rintro d j rfl; simp at h2; omega
          have ne0 : ∀ d, ¬ kn = (d, σ'.clk) := by rintro d rfl; simp at h2
          have ne1s : ∀ d, ¬ kn = (d, σ'.clk + 1) := fun d => ne1 d 1
          have ne2 : ∀ d, ¬ kn = (d, σ'.clk + 1 + 1) := fun d => ne1 d 2
          have nc : ¬ c0 = σ'.clk ∧ ¬ c0 = σ'.clk + 1 ∧ ¬ c0 = σ'.clk + 1 + 1 := by omega
          have hset : [r0].set 0 { r0 with st := .busy } = [{ r0 with st := .busy }] := rfl
          have hback : [{ r0 with st := LSt.busy }].set 0 { ({ r0 with st := LSt.busy } : LRec) with st := .ready, pend := none } = [r0] := by rw [hr0]; rfl
          have htk : (n.prs.take (k + 1)).map encP = (n.prs.take k).map encP ++ [encP p] := by rw [List.take_add_one, hp]; simp
          have hbb : (k + 1) * 16 ≤ 140737488355328 := by omega
          have hlen : (n.prs.take k).length = k := by rw [List.length_take]; omega
          have htk2 : List.take k ((n.prs.take k).map encP) = (n.prs.take k).map encP := List.take_of_length_le (by simp; omega)
          have ra : r0.assign = (.reg [ia 5 (.new [(.p (.i .i64 0)), (.p (.i .i64 0))]), io (.st 2 (.t 5) (.t 7))]) := by rw [hr0]
          have rb : r0.body = (.block 1 (.reg [ia 8 (.ld 1 false (.t 2)), ia 9 (.ld 2 true (.t 5)), ia 10 (.bsl 2 60 [(.p (.i .i64 0)), (.p (.i .i64 0))] 1 [(0, (.t 9))]), ia 11 (.app 2 60 16 (.t 8) (.t 10)), io (.st 1 (.t 2) (.t 11))])) := by rw [hr0]
          have re : r0.env = E := by rw [hr0]
          have rp : r0.params = [7] := by rw [hr0]
          have rs : r0.st = .ready := by rw [hr0]
          have h1' := h1
          simp only [encT, List.map_cons, List.map_nil] at h1'
          simp only [ra, rb, re, rp, putAll, fxa, fxc, fxE, fxL, fxI, nxE, evO, evR, cellsT, ldCells, mkT, lenA, binPV, Env.init, resV, resT, frT, klT, ownT, intT, O.adds, ownA, rowsA, over, wrOk, keysT, keysA, ne_eq, if_true, if_false, ite_self, Nat.reduceLT, Nat.reduceSub, Nat.reduceBEq, Nat.reduceEqDiff, Nat.reduceAdd, Nat.reduceLeDiff, reduceCtorEq, Nat.reduceMul]
          refine ⟨r0, by rw [h4]; rfl, rs, ?_⟩
          rcases h6 with ⟨rfl, rfl⟩ | ⟨q, rfl, e2, e3, e4⟩
          · simp only [setL_bs, setL_clk, setL_ls, E2, h4, h5, hset, nc, Nat.zero_add, Nat.one_mul, Nat.reduceLeDiff, Nat.zero_lt_one, List.getElem?_cons_zero, fxa, fxc, fxE, fxL, fxI, nxE, evO, evR, cellsT, ldCells, mkT, lenA, binPV, Env.init, resV, resT, frT, klT, ownT, intT, O.adds, ownA, rowsA, over, wrOk, keysT, keysA, ne_eq, if_true, if_false, ite_self, Nat.reduceLT, Nat.reduceSub, Nat.reduceBEq, Nat.reduceEqDiff, Nat.reduceAdd, Nat.reduceLeDiff, reduceCtorEq, Nat.reduceMul]
            refine ⟨_, rfl, ⟨by simp only [hknc, ne0, ne1s, ne2, if_false]; exact h1', by omega⟩, by omega, hback, _, rfl, .inr ⟨σ'.clk + 1 + 1, rfl, ?_, by omega, by omega⟩⟩
            rw [htk]; simp [encP]
          · have hknq : ¬ kn = (11, q) := by rintro rfl; rw [h1] at e2; cases e2
            have nq : ¬ q = σ'.clk ∧ ¬ q = σ'.clk + 1 ∧ ¬ q = σ'.clk + 1 + 1 := by omega
            simp only [setL_bs, setL_clk, setL_ls, E2, h4, h5, e2, hset, nc, nq, hlen, htk2, hbb, List.length_map, Nat.le_refl, Nat.zero_add, Nat.one_mul, Nat.reduceLeDiff, Nat.zero_lt_one, List.getElem?_cons_zero, fxa, fxc, fxE, fxL, fxI, nxE, evO, evR, cellsT, ldCells, mkT, lenA, binPV, Env.init, resV, resT, frT, klT, ownT, intT, O.adds, ownA, rowsA, over, wrOk, keysT, keysA, ne_eq, if_true, if_false, ite_self, Nat.reduceLT, Nat.reduceSub, Nat.reduceBEq, Nat.reduceEqDiff, Nat.reduceAdd, Nat.reduceLeDiff, reduceCtorEq, Nat.reduceMul]
            refine ⟨_, rfl, ⟨by simp only [hknc, hknq, ne0, ne1s, ne2, if_false]; exact h1', by omega⟩, by omega, hback, _, rfl, .inr ⟨σ'.clk + 1 + 1, rfl, ?_, by omega, by omega⟩⟩
            rw [htk]; simp [encP])
        obtain ⟨rfl, g2⟩ := g2
        exact ⟨σ2, g1, g2⟩)
    refine wp_rng (g := 90) (caps := [kn]) (by simp only [fxa, fxc, fxE, fxL, fxI, nxE, evO, evR, cellsT, ldCells, mkT, lenA, binPV, Env.init, resV, resT, frT, klT, ownT, intT, O.adds, ownA, rowsA, over, wrOk, keysT, keysA, ne_eq, if_true, if_false, ite_self, Nat.reduceLT, Nat.reduceSub, Nat.reduceBEq, Nat.reduceEqDiff, Nat.reduceAdd, Nat.reduceLeDiff, reduceCtorEq, Nat.reduceMul]) ?_
    have hls0 : (σ.add 2 (.var [.nil])).ls = [] := hls
    rw [hls0]
    simp only [List.length_nil, List.nil_append, List.map_cons, List.map_nil]
    rw [← hE, ← hr0]
    obtain ⟨σ1, hc, hI⟩ := hcall { (σ.add 2 (.var [.nil])) with ls := [r0] } ⟨⟨by
      show (if kn = (2, σ.clk) then _ else σ.bs kn) = _
      rw [hc0, if_neg hknc]; exact hkn, by show kn.2 < σ.clk + 1; omega⟩, by show c0 < σ.clk + 1; omega, rfl, .nil, by
      show (if (2, c0) = (2, σ.clk) then _ else _) = _
      rw [hc0, if_pos rfl], .inl ⟨rfl, rfl⟩⟩
    obtain ⟨_, h3, h4, x, h5, h6⟩ := hI
    refine ⟨_, σ1, hc, r0, by rw [h4]; rfl, by rw [hr0]; simp, ?_⟩
    have hp0 : r0.pend = none := by rw [hr0]
    rw [hp0]
    simp only [Option.getD_none, setL_bs, setL_clk, setL_ls, E2, h5, fxa, fxc, fxE, fxL, fxI, nxE, evO, evR, cellsT, ldCells, mkT, lenA, binPV, Env.init, resV, resT, frT, klT, ownT, intT, O.adds, ownA, rowsA, over, wrOk, keysT, keysA, ne_eq, if_true, if_false, ite_self, Nat.reduceLT, Nat.reduceSub, Nat.reduceBEq, Nat.reduceEqDiff, Nat.reduceAdd, Nat.reduceLeDiff, reduceCtorEq, Nat.reduceMul]
    by_cases hG : n.Good
    · rw [bool_t hG] at h6 ⊢
      simp only [if_true] at h6 ⊢
      rcases h6 with ⟨h0, rfl⟩ | ⟨q, rfl, e2, e3, e4⟩
      · have : n.prs = [] := List.eq_nil_of_length_eq_zero h0
        rw [this]; exact ⟨_, rfl, rfl⟩
      · rw [List.take_length] at e2
        have htk2 : List.take n.prs.length (n.prs.map encP) = n.prs.map encP := List.take_of_length_le (by simp)
        refine ⟨_, rfl, ?_⟩
        simp only [frA, setL_bs, e2, List.length_map, Nat.zero_add, Nat.le_refl, if_true, List.drop_zero, htk2]
    · rw [bool_f hG] at h6 ⊢
      simp only [Bool.false_eq_true, if_false] at h6 ⊢
      rcases h6 with ⟨_, rfl⟩ | ⟨q, rfl, e2, e3, e4⟩
      · exact ⟨_, rfl, rfl⟩
      · refine ⟨_, rfl, ?_⟩
        simp only [frA, setL_bs, e2, List.take_zero, List.map_nil, List.length_nil, Nat.zero_add, Nat.le_refl, if_true, List.drop_zero]
  have col : ∀ (σ : St) (kn : Key), σ.ls = [] → σ.bs kn = some (.var ((encT n).map .p)) → kn.2 < σ.clk →
      ∃ v σ', eS S (.f 64) [.a (.fn 90 [kn])] σ = some (v, σ') ∧ ∃ x, v = .a x ∧ frA σ' x = some (.l ((if bool n.Good then n.prs else []).map encP)) := by
    intro σ kn h1 h2 h3
    obtain ⟨v, σ', hc, x, rfl, hx⟩ := app σ kn h1 h2 h3
    refine x_fnS (fc := F64) rfl rfl ?_
    simp only [F64, hc, fxa, fxc, fxE, fxL, fxI, nxE, evO, evR, cellsT, ldCells, mkT, lenA, binPV, Env.init, resV, resT, frT, klT, ownT, intT, O.adds, ownA, rowsA, over, wrOk, keysT, keysA, ne_eq, if_true, if_false, ite_self, Nat.reduceLT, Nat.reduceSub, Nat.reduceBEq, Nat.reduceEqDiff, Nat.reduceAdd, Nat.reduceLeDiff, reduceCtorEq, Nat.reduceMul]
    exact ⟨x, rfl, hx⟩
  obtain ⟨σ0, hσ0⟩ : ∃ σ0, σ0 = (St.empty.add 1 (.var ((encT n).map .p))).add 1 (.var ((encT n).map .p)) := ⟨_, rfl⟩
  obtain ⟨v, σ1, hc, x, rfl, hx⟩ := col σ0 (1, 1) (by rw [hσ0]; rfl) (by rw [hσ0]; simp [add_bs, add_clk, empty_clk]) (by rw [hσ0]; simp [add_clk, empty_clk])
  have hm := meetings_ok n (St.empty.add 1 (.var ((encT n).map .p)))
  rw [hσ0] at hc
  simp only [encT, List.map_cons, List.map_nil, add_clk, empty_clk, Nat.zero_add] at hm hc
  simp only [F43, hm, hc, hx, fxa, fxc, fxE, fxL, fxI, nxE, evO, evR, cellsT, ldCells, mkT, lenA, binPV, Env.init, resV, resT, frT, klT, ownT, intT, O.adds, ownA, rowsA, over, wrOk, keysT, keysA, ne_eq, if_true, if_false, ite_self, Nat.reduceLT, Nat.reduceSub, Nat.reduceBEq, Nat.reduceEqDiff, Nat.reduceAdd, Nat.reduceLeDiff, reduceCtorEq, Nat.reduceMul]
end Go.Proofs.Ytkpfjolcmkikeaa
end
section
set_option linter.unusedSimpArgs false
set_option linter.unusedVariables false
set_option maxHeartbeats 4000000
set_option maxRecDepth 10000
namespace Go.Proofs.Ytkpfjolcmkikeaa
open Go.Fx
theorem fixed17_ok : eP S 39 [] = some (.a (.b true)) := (eP_some S).2 ⟨60, by kernel_rfl⟩
def eqP (p x : Pt) : Bool := decide (x.n = p.n) && decide (x.s = p.s)
theorem eqP_iff {p x : Pt} : eqP p x = true ↔ x = p := by
  obtain ⟨a, b⟩ := p
  obtain ⟨c, d⟩ := x
  simp [eqP]
theorem Same17_ok {a b : List Pt} (ha : a.length * 16 ≤ 140737488355328) : eP S 42 [.a (.l (a.map encP)), .a (.l (b.map encP))] = some (.a (.b (Fx.bool (a = b)))) := by
  refine x_fnB (orcS (by decide)) (fc := F42) rfl rfl ?_
  by_cases h : a.length = b.length
  case neg =>
    have h' : ¬ (a.length : Int) = b.length := by omega
    simp only [F42, h', fxa, fxc, fxE, fxL, fxI, nxE, evO, evR, cellsT, ldCells, mkT, lenA, binPV, Env.init, resV, resT, frT, klT, ownT, intT, O.adds, ownA, rowsA, over, wrOk, keysT, keysA, ne_eq, if_true, if_false, ite_self, Nat.reduceLT, Nat.reduceSub, Nat.reduceBEq, Nat.reduceEqDiff, Nat.reduceAdd, Nat.reduceLeDiff, reduceCtorEq, Nat.reduceMul]; intro e; exact h (by rw [e])
  simp only [F42, h, fxa, fxc, fxE, fxL, fxI, nxE, evO, evR, cellsT, ldCells, mkT, lenA, binPV, Env.init, resV, resT, frT, klT, ownT, intT, O.adds, ownA, rowsA, over, wrOk, keysT, keysA, ne_eq, if_true, if_false, ite_self, Nat.reduceLT, Nat.reduceSub, Nat.reduceBEq, Nat.reduceEqDiff, Nat.reduceAdd, Nat.reduceLeDiff, reduceCtorEq, Nat.reduceMul]
  refine loop_nat b.length (fun i e σ => e 0 = .a (.p (.l (a.map encP))) ∧ e 1 = .a (.p (.l (b.map encP))) ∧ e 5 = .a (.p (.i .i64 (i : Nat))) ∧ ∀ j, j < i → a[j]? = b[j]?) (i0 := 0) (Nat.zero_le _) ?_ ?_ ?_
  · refine ⟨?_, ?_, ?_, fun j hj => by omega⟩ <;> simp only [fxa, fxc, fxE, fxL, fxI, nxE, evO, evR, cellsT, ldCells, mkT, lenA, binPV, Env.init, resV, resT, frT, klT, ownT, intT, O.adds, ownA, rowsA, over, wrOk, keysT, keysA, ne_eq, if_true, if_false, ite_self, Nat.reduceLT, Nat.reduceSub, Nat.reduceBEq, Nat.reduceEqDiff, Nat.reduceAdd, Nat.reduceLeDiff, reduceCtorEq, Nat.reduceMul]
    rfl
  · rintro i e σ hi ⟨e0, e1, e5, hall⟩
    obtain ⟨x, hx⟩ : ∃ x, a[i]? = some x := ⟨_, List.getElem?_eq_getElem (by omega)⟩
    obtain ⟨y, hy⟩ : ∃ y, b[i]? = some y := ⟨_, List.getElem?_eq_getElem hi⟩
    have hx' := mapGet encP hx
    have hy' := mapGet encP hy
    have hlt : ((i : Nat) : Int) < (a.length : Int) := by omega
    have hlt' : ((i : Nat) : Int) < (b.length : Int) := by omega
    have hge : (0 : Int) ≤ ((i : Nat) : Int) := by omega
    have hra : ∀ l : List Pt, ((l.map encP).all fun r => decide (r.length = 2)) = true := fun l => by simp [encP]
    simp only [encP] at hx' hy' hra
    cases e : eqP y x with
    | true =>
      have e' : (decide (x.n = y.n) && decide (x.s = y.s)) = true := e
      simp only [F42b0, e0, e1, e5, hlt, hlt', hge, hx', hy', hra, e', encP, Bool.not_true, fxa, fxc, fxE, fxL, fxI, nxE, evO, evR, cellsT, ldCells, mkT, lenA, binPV, Env.init, resV, resT, frT, klT, ownT, intT, O.adds, ownA, rowsA, over, wrOk, keysT, keysA, ne_eq, if_true, if_false, ite_self, Nat.reduceLT, Nat.reduceSub, Nat.reduceBEq, Nat.reduceEqDiff, Nat.reduceAdd, Nat.reduceLeDiff, reduceCtorEq, Nat.reduceMul]
      refine ⟨by rw [wrap_succ i (by omega)], fun j hj => ?_⟩
      by_cases e2 : j = i
      · rw [e2, hx, hy, eqP_iff.1 e]
      · exact hall j (by omega)
    | false =>
      have e' : (decide (x.n = y.n) && decide (x.s = y.s)) = false := e
      simp only [F42b0, e0, e1, e5, hlt, hlt', hge, hx', hy', hra, e', encP, Bool.not_false, fxa, fxc, fxE, fxL, fxI, nxE, evO, evR, cellsT, ldCells, mkT, lenA, binPV, Env.init, resV, resT, frT, klT, ownT, intT, O.adds, ownA, rowsA, over, wrOk, keysT, keysA, ne_eq, if_true, if_false, ite_self, Nat.reduceLT, Nat.reduceSub, Nat.reduceBEq, Nat.reduceEqDiff, Nat.reduceAdd, Nat.reduceLeDiff, reduceCtorEq, Nat.reduceMul]
      intro h2; rw [h2, hy] at hx; rw [eqP_iff.2 (Option.some.inj hx).symm] at e; cases e
  · rintro e σ ⟨e0, e1, e5, hall⟩
    have hlt : ¬ ((b.length : Nat) : Int) < (a.length : Int) := by omega
    simp only [F42b0, e0, e1, e5, hlt, List.length_map, fxa, fxc, fxE, fxL, fxI, nxE, evO, evR, cellsT, ldCells, mkT, lenA, binPV, Env.init, resV, resT, frT, klT, ownT, intT, O.adds, ownA, rowsA, over, wrOk, keysT, keysA, ne_eq, if_true, if_false, ite_self, Nat.reduceLT, Nat.reduceSub, Nat.reduceBEq, Nat.reduceEqDiff, Nat.reduceAdd, Nat.reduceLeDiff, reduceCtorEq, Nat.reduceMul]
    exact list_ext h fun j hj => hall j (by omega)
theorem rds_len (n : Nt) : n.rds.length ≤ n.ns.length := by
  unfold Nt.rds
  split
  · have h8 := List.length_filter_le (rdy n) n.prs
    have h9 : n.prs.length ≤ n.ns.length := prsTo_len n n.ns.length
    omega
  · simp
end Go.Proofs.Ytkpfjolcmkikeaa
end
section
set_option linter.unusedSimpArgs false
set_option linter.unusedVariables false
set_option maxHeartbeats 8000000
set_option maxRecDepth 10000
namespace Go.Proofs.Ytkpfjolcmkikeaa
open Go.Fx
theorem pr_meet (n : Nt) (i : Nat) : n.pr i = if meetR n i > i then some ⟨i, meetR n i⟩ else none := by
  unfold Nt.pr meetR
  by_cases h : n.has ⟨i, 0⟩ = true ∧ (n.lk ⟨i, 0⟩).s = 0
  · rw [if_pos h]
    by_cases h2 : (i : Int) < (n.lk ⟨i, 0⟩).n
    · rw [if_pos ⟨h.1, h.2, h2⟩, if_pos h2]
    · rw [if_neg (fun k => h2 k.2.2), if_neg h2]
  · rw [if_neg h, if_neg (fun k => h ⟨k.1, k.2.1⟩), if_neg (by omega)]
def Mk (σ : St) (K : Key) (L : List Pt) : Prop := σ.bs K = some (.row 2 60 (L.map encP)) ∧ K.2 < σ.clk
theorem RAll_ok {n : Nt} (hn : n.Ok) : eP S 44 [.g (encT n)] = some (.a (.l ((if bool n.Good then n.prs else []).map encP))) := by
  have hb := hn.ns
  have a2 := RCheck_ok hn
  refine x_fn (orcS (by decide)) (fc := F44) rfl rfl ?_
  by_cases h2 : n.Good
  case neg =>
    rw [bool_f h2] at a2 ⊢
    simp only [Bool.false_eq_true, if_false, encT] at a2
    simp only [F44, a2, Bool.false_eq_true, List.map_nil, Int.reduceEq, encT, fxa, fxc, fxE, fxL, fxI, nxE, evO, evR, cellsT, ldCells, mkT, lenA, binPV, Env.init, resV, resT, frT, klT, ownT, intT, O.adds, ownA, rowsA, over, wrOk, keysT, keysA, ne_eq, if_true, if_false, ite_self, Nat.reduceLT, Nat.reduceSub, Nat.reduceBEq, Nat.reduceEqDiff, Nat.reduceAdd, Nat.reduceLeDiff, reduceCtorEq, Nat.reduceMul]
  rw [bool_t h2] at a2 ⊢
  simp only [if_true, encT] at a2
  simp only [F44, a2, encT, if_true, Int.reduceEq, fxa, fxc, fxE, fxL, fxI, nxE, evO, evR, cellsT, ldCells, mkT, lenA, binPV, Env.init, resV, resT, frT, klT, ownT, intT, O.adds, ownA, rowsA, over, wrOk, keysT, keysA, ne_eq, if_true, if_false, ite_self, Nat.reduceLT, Nat.reduceSub, Nat.reduceBEq, Nat.reduceEqDiff, Nat.reduceAdd, Nat.reduceLeDiff, reduceCtorEq, Nat.reduceMul]
  refine loop_nat n.ns.length (fun i e σ => e 1 = .a (.ptr (1, 0) 0 0) ∧ e 4 = .a (.p (.i .i64 (i : Nat))) ∧ σ.bs (1, 0) = some (.var ((encT n).map .p)) ∧ 1 ≤ σ.clk ∧ ∃ t q, ¬ 1 = t ∧ e 3 = .a (.own (t, q) 0 (prsTo n i).length) ∧ Mk σ (t, q) (prsTo n i)) (i0 := 0) (Nat.zero_le _) ?_ ?_ ?_
  · refine ⟨?_, ?_, ?_, ?_, 6, 1, by omega, ?_, ?_, ?_⟩
    all_goals first
      | (simp only [encT, List.map_cons, List.map_nil, prsTo, List.range_zero, List.filterMap_nil, List.length_nil, fxa, fxc, fxE, fxL, fxI, nxE, evO, evR, cellsT, ldCells, mkT, lenA, binPV, Env.init, resV, resT, frT, klT, ownT, intT, O.adds, ownA, rowsA, over, wrOk, keysT, keysA, ne_eq, if_true, if_false, ite_self, Nat.reduceLT, Nat.reduceSub, Nat.reduceBEq, Nat.reduceEqDiff, Nat.reduceAdd, Nat.reduceLeDiff, reduceCtorEq, Nat.reduceMul]; done)
      | (simp [encT, fxa, fxc, fxE, fxL, fxI, nxE, evO, evR, cellsT, ldCells, mkT, lenA, binPV, Env.init, resV, resT, frT, klT, ownT, intT, O.adds, ownA, rowsA, over, wrOk, keysT, keysA, ne_eq, if_true, if_false, ite_self, Nat.reduceLT, Nat.reduceSub, Nat.reduceBEq, Nat.reduceEqDiff, Nat.reduceAdd, Nat.reduceLeDiff, reduceCtorEq, Nat.reduceMul]; done)
      | rfl
  · rintro i e σ hi ⟨e1, e4, s1, hc, t, q, ht, e3, hK, hq⟩
    have hlt : ((i : Nat) : Int) < (n.ns.length : Int) := by omega
    have c1 := RMeets_ok n i
    have hsuc := prsTo_succ n i
    have hpr := pr_meet n i
    have hl := prsTo_len n i
    obtain ⟨k, hk⟩ : ∃ k, meetR n i = k := ⟨_, rfl⟩
    obtain ⟨L, hL⟩ : ∃ L, prsTo n i = L := ⟨_, rfl⟩
    rw [hk] at c1 hpr
    rw [hL] at e3 hK hsuc hl
    rw [hsuc]
    have hw := wrap_succ i (by omega)
    have hbb : (L.length + 1) * 16 ≤ 140737488355328 := by omega
    have htk2 : List.take L.length (L.map encP) = L.map encP := List.take_of_length_le (by simp)
    have nq : ¬ q = σ.clk ∧ ¬ q = σ.clk + 1 := by simp only at hq; omega
    have nc : ¬ 0 = σ.clk ∧ ¬ 0 = σ.clk + 1 := by omega
    simp only [encT, List.map_cons, List.map_nil] at s1 c1
    by_cases h : k > (i : Int)
    · rw [if_pos h] at hpr
      rw [hpr]
      simp only [F44b0, e1, e3, e4, s1, hK, hlt, c1, h, nq, nc, ht, hw, hbb, htk2, List.length_map, Nat.le_refl, Nat.one_mul, Nat.zero_lt_one, Option.toList_some, encT, fxa, fxc, fxE, fxL, fxI, nxE, evO, evR, cellsT, ldCells, mkT, lenA, binPV, Env.init, resV, resT, frT, klT, ownT, intT, O.adds, ownA, rowsA, over, wrOk, keysT, keysA, ne_eq, if_true, if_false, ite_self, Nat.reduceLT, Nat.reduceSub, Nat.reduceBEq, Nat.reduceEqDiff, Nat.reduceAdd, Nat.reduceLeDiff, reduceCtorEq, Nat.reduceMul]
      refine ⟨29, σ.clk + 1, by omega, ?_, ?_, ?_⟩
      · rw [List.length_append]; rfl
      · simp only [List.map_append, encP, List.map_cons, List.map_nil, fxa, fxc, fxE, fxL, fxI, nxE, evO, evR, cellsT, ldCells, mkT, lenA, binPV, Env.init, resV, resT, frT, klT, ownT, intT, O.adds, ownA, rowsA, over, wrOk, keysT, keysA, ne_eq, if_true, if_false, ite_self, Nat.reduceLT, Nat.reduceSub, Nat.reduceBEq, Nat.reduceEqDiff, Nat.reduceAdd, Nat.reduceLeDiff, reduceCtorEq, Nat.reduceMul]
      · simp only [fxa, fxc, fxE, fxL, fxI, nxE, evO, evR, cellsT, ldCells, mkT, lenA, binPV, Env.init, resV, resT, frT, klT, ownT, intT, O.adds, ownA, rowsA, over, wrOk, keysT, keysA, ne_eq, if_true, if_false, ite_self, Nat.reduceLT, Nat.reduceSub, Nat.reduceBEq, Nat.reduceEqDiff, Nat.reduceAdd, Nat.reduceLeDiff, reduceCtorEq, Nat.reduceMul]
    · rw [if_neg h] at hpr
      rw [hpr]
      simp only [F44b0, e1, e3, e4, s1, hK, hlt, c1, h, nq, nc, ht, hw, hbb, htk2, List.length_map, Nat.le_refl, Nat.one_mul, Nat.zero_lt_one, Option.toList_none, List.append_nil, encT, fxa, fxc, fxE, fxL, fxI, nxE, evO, evR, cellsT, ldCells, mkT, lenA, binPV, Env.init, resV, resT, frT, klT, ownT, intT, O.adds, ownA, rowsA, over, wrOk, keysT, keysA, ne_eq, if_true, if_false, ite_self, Nat.reduceLT, Nat.reduceSub, Nat.reduceBEq, Nat.reduceEqDiff, Nat.reduceAdd, Nat.reduceLeDiff, reduceCtorEq, Nat.reduceMul]
      exact ⟨hc, t, q, ht, rfl, hK, hq⟩
  · rintro e σ ⟨e1, e4, s1, hc, t, q, ht, e3, hK, hq⟩
    have hlt : ¬ ((n.ns.length : Nat) : Int) < (n.ns.length : Int) := by omega
    have htk2 : List.take n.prs.length (n.prs.map encP) = n.prs.map encP := List.take_of_length_le (by simp)
    have hP : prsTo n n.ns.length = n.prs := rfl
    rw [hP] at e3 hK
    simp only [encT, List.map_cons, List.map_nil] at s1
    simp only [F44b0, e1, e3, e4, s1, hK, hlt, htk2, List.length_map, Nat.le_refl, Nat.zero_add, fxa, fxc, fxE, fxL, fxI, nxE, evO, evR, cellsT, ldCells, mkT, lenA, binPV, Env.init, resV, resT, frT, klT, ownT, intT, O.adds, ownA, rowsA, over, wrOk, keysT, keysA, ne_eq, if_true, if_false, ite_self, Nat.reduceLT, Nat.reduceSub, Nat.reduceBEq, Nat.reduceEqDiff, Nat.reduceAdd, Nat.reduceLeDiff, reduceCtorEq, Nat.reduceMul]
theorem RReady_ok {n : Nt} (hn : n.Ok) : eP S 46 [.g (encT n)] = some (.a (.l (n.rds.map encP))) := by
  have hb := hn.ns
  have a2 := RAll_ok hn
  refine x_fn (orcS (by decide)) (fc := F46) rfl rfl ?_
  obtain ⟨l, hl⟩ : ∃ l, (if bool n.Good then n.prs else []) = l := ⟨_, rfl⟩
  have hr : n.rds = l.filter (rdy n) := by
    rw [← hl]; unfold Nt.rds
    split <;> simp
  have hin : ∀ p ∈ l, 0 ≤ p.n ∧ p.n < n.ns.length ∧ 0 ≤ p.s ∧ p.s < n.ns.length := by
    rw [← hl]
    by_cases hG : n.Good
    · rw [bool_t hG]; intro p hp; have := prs_in hG hp; exact ⟨this.1, this.2.1, this.2.2.1, this.2.2.2.1⟩
    · rw [bool_f hG]; simp
  have hll : l.length ≤ n.ns.length := by
    rw [← hl]; have := prsTo_len n n.ns.length
    split
    · exact this
    · simp
  rw [hl] at a2
  rw [hr]
  clear hr hl
  simp only [encT] at a2
  simp only [F46, a2, encT, fxa, fxc, fxE, fxL, fxI, nxE, evO, evR, cellsT, ldCells, mkT, lenA, binPV, Env.init, resV, resT, frT, klT, ownT, intT, O.adds, ownA, rowsA, over, wrOk, keysT, keysA, ne_eq, if_true, if_false, ite_self, Nat.reduceLT, Nat.reduceSub, Nat.reduceBEq, Nat.reduceEqDiff, Nat.reduceAdd, Nat.reduceLeDiff, reduceCtorEq, Nat.reduceMul]
  refine loop_nat l.length (fun j e σ => e 1 = .a (.ptr (1, 0) 0 0) ∧ e 4 = .a (.p (.l (l.map encP))) ∧ e 5 = .a (.p (.i .i64 (j : Nat))) ∧ σ.bs (1, 0) = some (.var ((encT n).map .p)) ∧ 1 ≤ σ.clk ∧ ∃ t q, ¬ 1 = t ∧ ¬ 6 = t ∧ e 3 = .a (.own (t, q) 0 ((l.take j).filter (rdy n)).length) ∧ Mk σ (t, q) ((l.take j).filter (rdy n))) (i0 := 0) (Nat.zero_le _) ?_ ?_ ?_
  · refine ⟨?_, ?_, ?_, ?_, ?_, 8, 1, by omega, by omega, ?_, ?_, ?_⟩
    all_goals first
      | (simp only [encT, List.map_cons, List.map_nil, List.take_zero, List.filter_nil, List.length_nil, fxa, fxc, fxE, fxL, fxI, nxE, evO, evR, cellsT, ldCells, mkT, lenA, binPV, Env.init, resV, resT, frT, klT, ownT, intT, O.adds, ownA, rowsA, over, wrOk, keysT, keysA, ne_eq, if_true, if_false, ite_self, Nat.reduceLT, Nat.reduceSub, Nat.reduceBEq, Nat.reduceEqDiff, Nat.reduceAdd, Nat.reduceLeDiff, reduceCtorEq, Nat.reduceMul]; done)
      | (simp [encT, fxa, fxc, fxE, fxL, fxI, nxE, evO, evR, cellsT, ldCells, mkT, lenA, binPV, Env.init, resV, resT, frT, klT, ownT, intT, O.adds, ownA, rowsA, over, wrOk, keysT, keysA, ne_eq, if_true, if_false, ite_self, Nat.reduceLT, Nat.reduceSub, Nat.reduceBEq, Nat.reduceEqDiff, Nat.reduceAdd, Nat.reduceLeDiff, reduceCtorEq, Nat.reduceMul]; done)
      | rfl
  · rintro j e σ hj ⟨e1, e4, e5, s1, hc, t, q, ht, ht6, e3, hK, hq⟩
    obtain ⟨p, hp⟩ : ∃ p, l[j]? = some p := ⟨_, List.getElem?_eq_getElem hj⟩
    have gp := mapGet encP hp
    have hpi := hin p (List.mem_of_getElem? hp)
    have ga := getN (l := n.ns) hpi.1 hpi.2.1
    have gb := getN (l := n.ns) hpi.2.2.1 hpi.2.2.2
    have p0' := hpi.1
    have p1 := hpi.2.1
    have p2 := hpi.2.2.1
    have p3 := hpi.2.2.2
    have hna : n.ns.getD p.n.toNat zN = n.nd p.n := rfl
    have hnb : n.ns.getD p.s.toNat zN = n.nd p.s := rfl
    rw [hna] at ga
    rw [hnb] at gb
    have c1 := ROf_ok (a := n.nd p.n) (b := n.nd p.s) (hn.nd _ (nd_mem p0' p1)) (hn.nd _ (nd_mem p2 p3))
    have hrd : rdy n p = decide ((ofR (n.nd p.n) (n.nd p.s)).2 = 0) := rfl
    obtain ⟨⟨⟨k1, k2, k3, k4, ⟨n1, n2, n3, n4, n5, n6⟩⟩, er⟩, ho⟩ : ∃ z, ofR (n.nd p.n) (n.nd p.s) = z := ⟨_, rfl⟩
    rw [ho] at c1 hrd
    have hjlt : ((j : Nat) : Int) < (l.length : Int) := by omega
    have hjge : (0 : Int) ≤ ((j : Nat) : Int) := by omega
    have hw := wrap_succ j (by omega)
    obtain ⟨L, hL⟩ : ∃ L, (l.take j).filter (rdy n) = L := ⟨_, rfl⟩
    have hLl : L.length ≤ n.ns.length := by
      have h8 := List.length_filter_le (rdy n) (l.take j)
      rw [hL] at h8
      rw [List.length_take] at h8; omega
    have hL2 : (l.take (j + 1)).filter (rdy n) = L ++ (if rdy n p then [p] else []) := by
      rw [List.take_add_one, hp, List.filter_append, hL]
      cases h : rdy n p <;> simp [h]
    rw [hL] at e3 hK
    rw [hL2]
    have hbb : (L.length + 1) * 16 ≤ 140737488355328 := by omega
    have htk2 : List.take L.length (L.map encP) = L.map encP := List.take_of_length_le (by simp)
    have nq : ¬ q = σ.clk ∧ ¬ q = σ.clk + 1 ∧ ¬ q = σ.clk + 1 + 1 := by simp only at hq; omega
    have nc : ¬ 0 = σ.clk ∧ ¬ 0 = σ.clk + 1 ∧ ¬ 0 = σ.clk + 1 + 1 := by omega
    have hra : ((l.map encP).all fun r => decide (r.length = 2)) = true := by simp [encP]
    simp only [encT, List.map_cons, List.map_nil] at s1
    simp only [encP] at gp hra
    simp only [encN] at ga gb
    simp only [encN, encLE, encL] at c1
    by_cases h : er = 0
    · have h' : rdy n p = true := by rw [hrd]; simp [h]
      rw [h']
      simp only [F46b0, e1, e3, e4, e5, s1, hK, hjlt, hjge, gp, ga, gb, p0', p1, p2, p3, c1, h, nq, nc, ht, ht6, hw, hbb, htk2, hra, allN, Int.toNat_natCast, List.length_map, Nat.le_refl, Nat.one_mul, Nat.zero_lt_one, if_true, encT, fxa, fxc, fxE, fxL, fxI, nxE, evO, evR, cellsT, ldCells, mkT, lenA, binPV, Env.init, resV, resT, frT, klT, ownT, intT, O.adds, ownA, rowsA, over, wrOk, keysT, keysA, ne_eq, if_true, if_false, ite_self, Nat.reduceLT, Nat.reduceSub, Nat.reduceBEq, Nat.reduceEqDiff, Nat.reduceAdd, Nat.reduceLeDiff, reduceCtorEq, Nat.reduceMul]
      refine ⟨47, σ.clk + 1 + 1, by omega, by omega, ?_, ?_, ?_⟩
      · rw [List.length_append]; rfl
      · simp only [List.map_append, encP, List.map_cons, List.map_nil, fxa, fxc, fxE, fxL, fxI, nxE, evO, evR, cellsT, ldCells, mkT, lenA, binPV, Env.init, resV, resT, frT, klT, ownT, intT, O.adds, ownA, rowsA, over, wrOk, keysT, keysA, ne_eq, if_true, if_false, ite_self, Nat.reduceLT, Nat.reduceSub, Nat.reduceBEq, Nat.reduceEqDiff, Nat.reduceAdd, Nat.reduceLeDiff, reduceCtorEq, Nat.reduceMul]
      · simp only [fxa, fxc, fxE, fxL, fxI, nxE, evO, evR, cellsT, ldCells, mkT, lenA, binPV, Env.init, resV, resT, frT, klT, ownT, intT, O.adds, ownA, rowsA, over, wrOk, keysT, keysA, ne_eq, if_true, if_false, ite_self, Nat.reduceLT, Nat.reduceSub, Nat.reduceBEq, Nat.reduceEqDiff, Nat.reduceAdd, Nat.reduceLeDiff, reduceCtorEq, Nat.reduceMul]
    · have h' : rdy n p = false := by rw [hrd]; simp [h]
      rw [h']
      simp only [F46b0, e1, e3, e4, e5, s1, hK, hjlt, hjge, gp, ga, gb, p0', p1, p2, p3, c1, h, nq, nc, ht, ht6, hw, hbb, htk2, hra, allN, Int.toNat_natCast, List.length_map, Nat.le_refl, Nat.one_mul, Nat.zero_lt_one, Bool.false_eq_true, if_false, List.append_nil, encT, fxa, fxc, fxE, fxL, fxI, nxE, evO, evR, cellsT, ldCells, mkT, lenA, binPV, Env.init, resV, resT, frT, klT, ownT, intT, O.adds, ownA, rowsA, over, wrOk, keysT, keysA, ne_eq, if_true, if_false, ite_self, Nat.reduceLT, Nat.reduceSub, Nat.reduceBEq, Nat.reduceEqDiff, Nat.reduceAdd, Nat.reduceLeDiff, reduceCtorEq, Nat.reduceMul]
      refine ⟨t, q, ht, ht6, rfl, ?_, ?_⟩
      · simp only [hK, nq, ht6, fxa, fxc, fxE, fxL, fxI, nxE, evO, evR, cellsT, ldCells, mkT, lenA, binPV, Env.init, resV, resT, frT, klT, ownT, intT, O.adds, ownA, rowsA, over, wrOk, keysT, keysA, ne_eq, if_true, if_false, ite_self, Nat.reduceLT, Nat.reduceSub, Nat.reduceBEq, Nat.reduceEqDiff, Nat.reduceAdd, Nat.reduceLeDiff, reduceCtorEq, Nat.reduceMul]
      · simp only [fxa, fxc, fxE, fxL, fxI, nxE, evO, evR, cellsT, ldCells, mkT, lenA, binPV, Env.init, resV, resT, frT, klT, ownT, intT, O.adds, ownA, rowsA, over, wrOk, keysT, keysA, ne_eq, if_true, if_false, ite_self, Nat.reduceLT, Nat.reduceSub, Nat.reduceBEq, Nat.reduceEqDiff, Nat.reduceAdd, Nat.reduceLeDiff, reduceCtorEq, Nat.reduceMul]
        simp only at hq; omega
  · rintro e σ ⟨e1, e4, e5, s1, hc, t, q, ht, ht6, e3, hK, hq⟩
    have hlt : ¬ ((l.length : Nat) : Int) < (l.length : Int) := by omega
    rw [List.take_length] at e3 hK
    obtain ⟨L, hL⟩ : ∃ L, l.filter (rdy n) = L := ⟨_, rfl⟩
    rw [hL] at e3 hK ⊢
    have htk2 : List.take L.length (L.map encP) = L.map encP := List.take_of_length_le (by simp)
    simp only [F46b0, e1, e3, e4, e5, s1, hK, hlt, htk2, List.length_map, Nat.le_refl, Nat.zero_add, fxa, fxc, fxE, fxL, fxI, nxE, evO, evR, cellsT, ldCells, mkT, lenA, binPV, Env.init, resV, resT, frT, klT, ownT, intT, O.adds, ownA, rowsA, over, wrOk, keysT, keysA, ne_eq, if_true, if_false, ite_self, Nat.reduceLT, Nat.reduceSub, Nat.reduceBEq, Nat.reduceEqDiff, Nat.reduceAdd, Nat.reduceLeDiff, reduceCtorEq, Nat.reduceMul]
theorem RPick_ok {n : Nt} (hn : n.Ok) {i : Int} (hi : wf i) : eP S 41 [.g (encT n), .a (.i .i64 i)] =
    some (.t [(true, encP (if n.rds.length = 0 then zP else n.rds.getD (pickI i n.rds.length) zP)), (false, [.b (decide (n.rds.length ≠ 0))])]) := by
  refine x_fn (orcS (by decide)) (fc := F41) rfl rfl ?_
  have hns := hn.ns
  have c1 := RReady_ok hn
  have hLl := rds_len n
  obtain ⟨L, hL⟩ : ∃ L, n.rds = L := ⟨_, rfl⟩
  rw [hL] at c1 hLl ⊢
  simp only [encT] at c1
  by_cases h0 : L.length = 0
  · have : L = [] := List.eq_nil_of_length_eq_zero h0
    subst this
    simp only [List.map_nil] at c1
    simp only [F41, c1, zP, Int.cast_ofNat_Int, Int.reduceEq, not_true_eq_false, fxa, fxc, fxE, fxL, fxI, nxE, evO, evR, cellsT, ldCells, mkT, lenA, binPV, Env.init, resV, resT, frT, klT, ownT, intT, O.adds, ownA, rowsA, over, wrOk, keysT, keysA, ne_eq, if_true, if_false, ite_self, Nat.reduceLT, Nat.reduceSub, Nat.reduceBEq, Nat.reduceEqDiff, Nat.reduceAdd, Nat.reduceLeDiff, reduceCtorEq, Nat.reduceMul]
  · have hm0 : ¬ (L.length : Int) = 0 := by omega
    obtain ⟨M, hM⟩ : ∃ M : Int, (L.length : Int) = M := ⟨_, rfl⟩
    have hMp : 0 < M := by omega
    have b1 := Int.tmod_lt_of_pos i hMp
    have b0 := Int.lt_tmod_of_pos i hMp
    have hw : IntKind.i64.wrap (i.tmod M + M) = i.tmod M + M := wrap_in _ (by omega)
    have hpk : pickI i L.length = ((i.tmod M + M).tmod M).toNat := by unfold pickI; rw [hM]
    rw [hM] at hm0
    have hM2 : ¬ M = 0 := by omega
    by_cases hneg : i.tmod M < 0
    · have e : (i.tmod M + M).tmod M = i.tmod M + M := Int.tmod_eq_of_lt (by omega) (by omega)
      rw [e] at hpk
      have b2 : i.tmod M + M < M := by omega
      have b3 : 0 ≤ i.tmod M + M := by omega
      have g := getP (l := L) (i := i.tmod M + M) b3 (by omega)
      simp only [F41, c1, hm0, hM, hM2, hw, hneg, b2, b3, g, h0, hpk, ne_eq, not_false_eq_true, fxa, fxc, fxE, fxL, fxI, nxE, evO, evR, cellsT, ldCells, mkT, lenA, binPV, Env.init, resV, resT, frT, klT, ownT, intT, O.adds, ownA, rowsA, over, wrOk, keysT, keysA, ne_eq, if_true, if_false, ite_self, Nat.reduceLT, Nat.reduceSub, Nat.reduceBEq, Nat.reduceEqDiff, Nat.reduceAdd, Nat.reduceLeDiff, reduceCtorEq, Nat.reduceMul]
    · have e : (i.tmod M + M).tmod M = i.tmod M := by
        rw [Int.tmod_eq_emod_of_nonneg (by omega), Int.add_emod_right, Int.emod_eq_of_lt (by omega) b1]
      rw [e] at hpk
      have b3 : 0 ≤ i.tmod M := by omega
      have g := getP (l := L) (i := i.tmod M) b3 (by omega)
      simp only [F41, c1, hm0, hM, hM2, hw, hneg, b1, b3, g, h0, hpk, ne_eq, not_false_eq_true, fxa, fxc, fxE, fxL, fxI, nxE, evO, evR, cellsT, ldCells, mkT, lenA, binPV, Env.init, resV, resT, frT, klT, ownT, intT, O.adds, ownA, rowsA, over, wrOk, keysT, keysA, ne_eq, if_true, if_false, ite_self, Nat.reduceLT, Nat.reduceSub, Nat.reduceBEq, Nat.reduceEqDiff, Nat.reduceAdd, Nat.reduceLeDiff, reduceCtorEq, Nat.reduceMul]
theorem pairsTell_law {n : Nt} {i : Int} (hn : n.Ok) (hi : wf i) : eP S 10 [.g (encT n), .a (.i .i64 i)] = some (.a (.b true)) := by
  have f0 := fixed17_ok
  have a1 := Small_ok hn 150
  have hns := hn.ns
  have hl := rds_len n
  refine x_fn (orcS (by decide)) (fc := F10) rfl rfl ?_
  by_cases h1 : n.small 150
  case neg =>
    rw [bool_f h1] at a1
    simp only [encT] at a1
    simp only [F10, f0, a1, encT, fxa, fxc, fxE, fxL, fxI, nxE, evO, evR, cellsT, ldCells, mkT, lenA, binPV, Env.init, resV, resT, frT, klT, ownT, intT, O.adds, ownA, rowsA, over, wrOk, keysT, keysA, ne_eq, if_true, if_false, ite_self, Nat.reduceLT, Nat.reduceSub, Nat.reduceBEq, Nat.reduceEqDiff, Nat.reduceAdd, Nat.reduceLeDiff, reduceCtorEq, Nat.reduceMul]
  rw [bool_t h1] at a1
  have c1 := Pick_ok hn hi
  have c2 := RPick_ok hn hi
  have c3 := All_ok hn
  have c4 := RAll_ok hn
  have c5 := Ready_ok hn
  have c6 := RReady_ok hn
  obtain ⟨l, hl0⟩ : ∃ l, (if bool n.Good then n.prs else []) = l := ⟨_, rfl⟩
  have hll : l.length ≤ n.ns.length := by
    rw [← hl0]; have := prsTo_len n n.ns.length
    split
    · exact this
    · simp
  rw [hl0] at c3 c4
  have c7 := Same17_ok (a := l) (b := l) (by omega)
  have c8 := Same17_ok (a := n.rds) (b := n.rds) (by omega)
  rw [bool_t rfl] at c7 c8
  obtain ⟨p, hp⟩ : ∃ p, (if n.rds.length = 0 then zP else n.rds.getD (pickI i n.rds.length) zP) = p := ⟨_, rfl⟩
  rw [hp] at c1 c2
  simp only [if_true, encT, encP] at a1 c1 c2 c3 c4 c5 c6
  simp only [F10, f0, a1, c1, c2, c3, c4, c5, c6, c7, c8, encT, fxa, fxc, fxE, fxL, fxI, nxE, evO, evR, cellsT, ldCells, mkT, lenA, binPV, Env.init, resV, resT, frT, klT, ownT, intT, O.adds, ownA, rowsA, over, wrOk, keysT, keysA, ne_eq, if_true, if_false, ite_self, Nat.reduceLT, Nat.reduceSub, Nat.reduceBEq, Nat.reduceEqDiff, Nat.reduceAdd, Nat.reduceLeDiff, reduceCtorEq, Nat.reduceMul]
end Go.Proofs.Ytkpfjolcmkikeaa
end
section
set_option linter.unusedSimpArgs false
set_option linter.unusedVariables false
namespace Go.Proofs.Ytkpfjolcmkikeaa
open Go.Fx
theorem cellsI : Try.prog.cellsOf 3 = 1 := by kernel_rfl
theorem cellsSt : Try.prog.cellsOf 9 = 1 := by kernel_rfl
theorem cellsPt : Try.prog.cellsOf 43 = 2 := by kernel_rfl
theorem cellsAr : Try.prog.cellsOf 79 = 2 := by kernel_rfl
theorem cellsNd : Try.prog.cellsOf 41 = 6 := by kernel_rfl
theorem cellsNt : Try.prog.cellsOf 24 = 2 := by kernel_rfl
theorem cellsLN : Try.prog.cellsOf 22 = 1 := by kernel_rfl
theorem cellsLA : Try.prog.cellsOf 38 = 1 := by kernel_rfl
theorem cellsLP : Try.prog.cellsOf 39 = 1 := by kernel_rfl
theorem bytesPt : Try.prog.bytesOf 43 = 16 := by kernel_rfl
theorem bytesAr : Try.prog.bytesOf 79 = 24 := by kernel_rfl
theorem bytesNd : Try.prog.bytesOf 41 = 88 := by kernel_rfl
theorem len2 {α : Type} {l : List α} (h : l.length = 2) : ∃ a b, l = [a, b] := by
  match l, h with
  | [a, b], _ => exact ⟨a, b, rfl⟩
theorem len6 {α : Type} {l : List α} (h : l.length = 6) : ∃ a b c d e f, l = [a, b, c, d, e, f] := by
  match l, h with
  | [a, b, c, d, e, f], _ => exact ⟨a, b, c, d, e, f, rfl⟩
theorem wf_int {i : Int} (h : (Lit.int .i64 i).wf = true) : wf i := by
  simp only [Lit.wf, IntKind.min, IntKind.max, IntKind.bits, IntKind.signed, Bool.and_eq_true, decide_eq_true_eq] at h
  rw [if_pos trivial, if_pos trivial] at h
  unfold wf; omega
theorem ct_int {n : Nat} {qs : List PV} (h : CT Try.prog n 3 qs) : ∃ i, qs = [.i .i64 i] ∧ wf i := by
  cases n with
  | zero => exact h.elim
  | succ n => simp only [CT, Try.underlying3] at h; obtain ⟨i, h1, h2⟩ := h; exact ⟨i, h1, wf_int h2⟩
theorem ct_str {n : Nat} {qs : List PV} (h : CT Try.prog n 9 qs) : ∃ s, qs = [.s s] ∧ s.length ≤ 140737488355328 := by
  cases n with
  | zero => exact h.elim
  | succ n => simp only [CT, Try.underlying9] at h; obtain ⟨s, h1, h2⟩ := h; exact ⟨s, h1, by simp only [reachBytes] at h2; omega⟩
theorem ct_port {n : Nat} {qs : List PV} (h : CT Try.prog n 43 qs) : ∃ p : Pt, (wf p.n ∧ wf p.s) ∧ qs = encP p := by
  cases n with
  | zero => exact h.elim
  | succ n =>
    simp only [CT, Try.underlying43, cellsPt] at h
    obtain ⟨hl, hf⟩ := h
    obtain ⟨q0, q1, rfl⟩ := len2 hl
    have f0 : CT Try.prog n 3 (List.take (Try.prog.cellsOf 3) [q0, q1]) := hf _ (Array.mem_of_getElem? (i := 0) rfl)
    have f1 : CT Try.prog n 3 (List.take (Try.prog.cellsOf 3) [q1]) := hf _ (Array.mem_of_getElem? (i := 1) rfl)
    rw [cellsI] at f0 f1
    have f0 : CT Try.prog n 3 [q0] := f0
    have f1 : CT Try.prog n 3 [q1] := f1
    obtain ⟨i, e0, h0⟩ := ct_int f0
    obtain ⟨j, e1, h1⟩ := ct_int f1
    simp only [List.cons.injEq, and_true] at e0 e1
    subst e0 e1
    exact ⟨⟨i, j⟩, ⟨h0, h1⟩, rfl⟩
theorem ct_arity {n : Nat} {qs : List PV} (h : CT Try.prog n 79 qs) : ∃ a : Ar, wf a.n ∧ qs = encA a := by
  cases n with
  | zero => exact h.elim
  | succ n =>
    simp only [CT, Try.underlying79, cellsAr] at h
    obtain ⟨hl, hf⟩ := h
    obtain ⟨q0, q1, rfl⟩ := len2 hl
    have f0 : CT Try.prog n 9 (List.take (Try.prog.cellsOf 9) [q0, q1]) := hf _ (Array.mem_of_getElem? (i := 0) rfl)
    have f1 : CT Try.prog n 3 (List.take (Try.prog.cellsOf 3) [q1]) := hf _ (Array.mem_of_getElem? (i := 1) rfl)
    rw [cellsSt] at f0
    rw [cellsI] at f1
    have f0 : CT Try.prog n 9 [q0] := f0
    have f1 : CT Try.prog n 3 [q1] := f1
    obtain ⟨s, e0, h0⟩ := ct_str f0
    obtain ⟨j, e1, h1⟩ := ct_int f1
    simp only [List.cons.injEq, and_true] at e0 e1
    subst e0 e1
    exact ⟨⟨s, j⟩, h1, rfl⟩
theorem ct_rows {α : Type} {t k : Nat} {n : Nat} {f : α → List PV} {R : α → Prop} (h : ∀ qs, CT Try.prog n t qs → ∃ x, R x ∧ qs = f x) : ∀ (rows : List (List PV)), (∀ r, r ∈ rows → r.length = k ∧ CT Try.prog n t r) → ∃ l : List α, rows = l.map f ∧ ∀ x, x ∈ l → R x := by
  intro rows
  induction rows with
  | nil => intro _; exact ⟨[], rfl, fun t ht => by simp at ht⟩
  | cons r rows ihr =>
    intro h2
    obtain ⟨x, hx, rfl⟩ := h r (h2 r (by simp)).2
    obtain ⟨l, rfl, hl⟩ := ihr fun r hr => h2 r (by simp [hr])
    exact ⟨x :: l, rfl, fun u hu => by rcases List.mem_cons.1 hu with rfl | hu; exact hx; exact hl u hu⟩
theorem ct_ports {n : Nat} {qs : List PV} (h : CT Try.prog n 39 qs) : ∃ l : List Pt, (l.length * 16 ≤ 140737488355328 ∧ ∀ p, p ∈ l → wf p.n ∧ wf p.s) ∧ qs = [.l (l.map encP)] := by
  cases n with
  | zero => exact h.elim
  | succ n =>
    simp only [CT, Try.underlying39, bytesPt] at h
    obtain ⟨rows, e, hr, hrow⟩ := h
    obtain ⟨l, rfl, hl⟩ := ct_rows (fun qs => ct_port) rows hrow
    exact ⟨l, ⟨by simp only [reachBytes, List.length_map] at hr; omega, hl⟩, e⟩
theorem ct_arities {n : Nat} {qs : List PV} (h : CT Try.prog n 38 qs) : ∃ l : List Ar, (l.length * 24 ≤ 140737488355328 ∧ ∀ a, a ∈ l → wf a.n) ∧ qs = [.l (l.map encA)] := by
  cases n with
  | zero => exact h.elim
  | succ n =>
    simp only [CT, Try.underlying38, bytesAr] at h
    obtain ⟨rows, e, hr, hrow⟩ := h
    obtain ⟨l, rfl, hl⟩ := ct_rows (fun qs => ct_arity) rows hrow
    exact ⟨l, ⟨by simp only [reachBytes, List.length_map] at hr; omega, hl⟩, e⟩
theorem ct_node {n : Nat} {qs : List PV} (h : CT Try.prog n 41 qs) : ∃ x : Nd, x.Ok ∧ qs = encN x := by
  cases n with
  | zero => exact h.elim
  | succ n =>
    simp only [CT, Try.underlying41, cellsNd] at h
    obtain ⟨hl, hf⟩ := h
    obtain ⟨q0, q1, q2, q3, q4, q5, rfl⟩ := len6 hl
    have f0 : CT Try.prog n 3 (List.take (Try.prog.cellsOf 3) [q0, q1, q2, q3, q4, q5]) := hf _ (Array.mem_of_getElem? (i := 0) rfl)
    have f1 : CT Try.prog n 3 (List.take (Try.prog.cellsOf 3) [q1, q2, q3, q4, q5]) := hf _ (Array.mem_of_getElem? (i := 1) rfl)
    have f2 : CT Try.prog n 3 (List.take (Try.prog.cellsOf 3) [q2, q3, q4, q5]) := hf _ (Array.mem_of_getElem? (i := 2) rfl)
    have f3 : CT Try.prog n 9 (List.take (Try.prog.cellsOf 9) [q3, q4, q5]) := hf _ (Array.mem_of_getElem? (i := 3) rfl)
    have f4 : CT Try.prog n 38 (List.take (Try.prog.cellsOf 38) [q4, q5]) := hf _ (Array.mem_of_getElem? (i := 4) rfl)
    have f5 : CT Try.prog n 39 (List.take (Try.prog.cellsOf 39) [q5]) := hf _ (Array.mem_of_getElem? (i := 5) rfl)
    rw [cellsI] at f0 f1 f2
    rw [cellsSt] at f3
    rw [cellsLA] at f4
    rw [cellsLP] at f5
    have f0 : CT Try.prog n 3 [q0] := f0
    have f1 : CT Try.prog n 3 [q1] := f1
    have f2 : CT Try.prog n 3 [q2] := f2
    have f3 : CT Try.prog n 9 [q3] := f3
    have f4 : CT Try.prog n 38 [q4] := f4
    have f5 : CT Try.prog n 39 [q5] := f5
    obtain ⟨k, e0, h0⟩ := ct_int f0
    obtain ⟨lv, e1, h1⟩ := ct_int f1
    obtain ⟨m, e2, h2⟩ := ct_int f2
    obtain ⟨s, e3, h3⟩ := ct_str f3
    obtain ⟨al, h4, e4⟩ := ct_arities f4
    obtain ⟨to, h5, e5⟩ := ct_ports f5
    simp only [List.cons.injEq, and_true] at e0 e1 e2 e3 e4 e5
    subst e0 e1 e2 e3 e4 e5
    exact ⟨⟨k, lv, m, s, al, to⟩, ⟨h0, h1, h2, h3, h4.1, h5.1, h4.2, h5.2⟩, rfl⟩
theorem ct_net {n : Nat} {qs : List PV} (h : CT Try.prog n 24 qs) : ∃ x : Nt, x.Ok ∧ qs = encT x := by
  cases n with
  | zero => exact h.elim
  | succ n =>
    simp only [CT, Try.underlying24, cellsNt] at h
    obtain ⟨hl, hf⟩ := h
    obtain ⟨q0, q1, rfl⟩ := len2 hl
    have f0 : CT Try.prog n 22 (List.take (Try.prog.cellsOf 22) [q0, q1]) := hf _ (Array.mem_of_getElem? (i := 0) rfl)
    have f1 : CT Try.prog n 3 (List.take (Try.prog.cellsOf 3) [q1]) := hf _ (Array.mem_of_getElem? (i := 1) rfl)
    rw [cellsLN] at f0
    rw [cellsI] at f1
    have f0 : CT Try.prog n 22 [q0] := f0
    have f1 : CT Try.prog n 3 [q1] := f1
    obtain ⟨j, e1, h1⟩ := ct_int f1
    cases n with
    | zero => exact f0.elim
    | succ n =>
      simp only [CT, Try.underlying22, bytesNd] at f0
      obtain ⟨rows, e, hr, hrow⟩ := f0
      obtain ⟨l, rfl, hl2⟩ := ct_rows (fun qs => ct_node) rows hrow
      simp only [List.cons.injEq, and_true] at e e1
      subst e e1
      exact ⟨⟨l, j⟩, ⟨by simp only [reachBytes, List.length_map] at hr; simp only; omega, h1, hl2⟩, rfl⟩
theorem aggI : aggT Try.prog 3 = false := by simp only [aggT, Try.underlying3, aggD]
theorem aggNt : aggT Try.prog 24 = true := by simp only [aggT, Try.underlying24, aggD]
theorem at_int {p : PT} (h : AT Try.prog 3 p ∧ p.isG = aggT Try.prog 3) : ∃ i, wf i ∧ p = .a (.i .i64 i) := by
  obtain ⟨h1, h2⟩ := h
  rw [aggI] at h2
  cases p with
  | a q => obtain ⟨n, hn⟩ := h1; obtain ⟨i, e, hi⟩ := ct_int hn; simp only [List.cons.injEq, and_true] at e; subst e; exact ⟨i, hi, rfl⟩
  | g qs => simp [PT.isG] at h2
  | _ => exact h1.elim
theorem at_net {p : PT} (h : AT Try.prog 24 p ∧ p.isG = aggT Try.prog 24) : ∃ x : Nt, x.Ok ∧ p = .g (encT x) := by
  obtain ⟨h1, h2⟩ := h
  rw [aggNt] at h2
  cases p with
  | g qs => obtain ⟨n, hn⟩ := h1; obtain ⟨x, hx, rfl⟩ := ct_net hn; exact ⟨x, hx, rfl⟩
  | _ => simp [PT.isG] at h2
theorem own : ownKnob Try.prog.godebug = none := by kernel_rfl
theorem laidOut : laidOutB Try.prog = true := by kernel_rfl
def lawTs : List TypeId := [3, 9, 43, 79, 39, 38, 41, 22, 24]
theorem lawTsOk : closedTs Try.prog lawTs = true := by kernel_rfl
end Go.Proofs.Ytkpfjolcmkikeaa
end
namespace Go.Proofs.Ytkpfjolcmkikeaa.pairsTell
open Go.Fx Go.ChangeShapes Go.WideShapes Go.ChangeAt Go.RowKit
theorem law (ps : List PT) (h : F2 (fun t p => AT Try.checked.prog t p ∧ p.isG = aggT Try.checked.prog t) Try.f10.params.toList ps) : eP S 10 ps = some (.a (.b true)) := by
  have h' : F2 (fun t p => AT Try.prog t p ∧ p.isG = aggT Try.prog t) [24, 3] ps := by rw [Try.params10] at h; exact h
  obtain _ | ⟨h1, r1⟩ := h'
  obtain _ | ⟨h2, r2⟩ := r1
  obtain _ | _ := r2
  obtain ⟨a1, k1, rfl⟩ := at_net h1
  obtain ⟨a2, k2, rfl⟩ := at_int h2
  exact pairsTell_law k1 k2
set_option maxRecDepth 100000 in
theorem lifted (os : Os) (started : os.Started) (H : Type) (enc : TypeId × Value → H) :
    ReturnsInHanded {} Try.checked os 10 .any (Rows.pairsTellSpec.pre6 enc Try.prog Try.f10 Rows.pairsTellRow.domain false) (Rows.pairsTellSpec.post enc Try.prog Try.f10 false true false false) := by
  refine row_ok (C := Try.checked) (eqs := [(43, [0, 0]), (79, [1, 0]), (60, [0, 0]), (140, [0, 0]), (43, [9]), (134, [8]), (136, [8]), (108, [8]), (135, [8]), (112, [8])]) (S := S) (ts := lawTs) (tb := 4) own started (by kernel_rfl) Try.func10 laidOut
    (ChangeSpec.witness6 (enc := enc) (C := Try.checked) false ⟨#[], #[.agg #[.slice none 0 0, .int .i64 0], .int .i64 0], []⟩ 8 (by kernel_rfl) (by kernel_rfl) (by kernel_rfl) (by kernel_rfl))
    lawTsOk (by kernel_rfl) rfl Try.underlying4 rfl ?_ seatOk law
  intro ds hd
  match ds, hd with
  | [d1, d2], _ => rfl
theorem over : Rows.pairsTellRow.holds Try.pinned (OpenSpec.ofChange Rows.pairsTellSpec) :=
  OpenClaim.holds_of_wide 10 Try.f10 rfl rfl rfl rfl rfl rfl rfl ⟨rfl, rfl, rfl, rfl, rfl⟩ rfl rfl rfl rfl rfl (by kernel_rfl) Try.func10 (by kernel_rfl)
    (of_decide_eq_true (by kernel_rfl)) (by unfold Func.isWrapper; first | (rw [if_pos (by decide +kernel)]; kernel_rfl) | (rw [if_neg (by decide +kernel)]; exact ⟨rfl, rfl⟩))
    (fun os started H enc _ => lifted os started H enc)
theorem proved : Rows.PairsTellSaid := over
#print axioms proved
end Go.Proofs.Ytkpfjolcmkikeaa.pairsTell
