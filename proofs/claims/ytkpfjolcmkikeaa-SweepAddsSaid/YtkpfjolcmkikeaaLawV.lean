/- The laws SweepTells and SweepCloses, as the evaluator has them. -/
import Derived.Test.YtkpfjolcmkikeaaSweep1
set_option linter.unusedSimpArgs false
set_option linter.unusedVariables false
set_option maxHeartbeats 4000000
set_option maxRecDepth 10000
namespace Go.Proofs.Ytkpfjolcmkikeaa
open Go.Fx

theorem fixed18_ok : eP S 18 [] = some (.a (.b true)) := (eP_some S).2 ⟨60, by kernel_rfl⟩

theorem swept_Ok {n : Nt} (hn : n.Ok) : n.swept.Ok := clr_Ok hn 0
theorem live_small {n : Nt} (hn : n.Ok) : n.live.length * 8 ≤ 140737488355328 := by
  have := liveTo_len n n.ns.length
  have h : n.live.length ≤ n.ns.length := this
  have := hn.ns; omega

theorem sweepTells_law {n : Nt} (hn : n.Ok) : eP S 3 [.g (encT n)] = some (.a (.b true)) := by
  have f0 := fixed18_ok
  have a1 := Small_ok hn 150
  refine x_fn (orcS (by decide)) (fc := F3) rfl rfl ?_
  by_cases h1 : n.small 150
  case neg =>
    rw [bool_f h1] at a1
    simp only [encT] at a1
    simp only [F3, f0, a1, fxa, fxc, fxE, fxL, fxI, nxE, evO, evR, cellsT, ldCells, mkT, lenA, binPV, Env.init, resV, resT, frT, klT, ownT, intT, O.adds, ownA, rowsA, over, wrOk, keysT, keysA, ne_eq, if_true, if_false, ite_self, Nat.reduceLT, Nat.reduceSub, Nat.reduceBEq, Nat.reduceEqDiff, Nat.reduceAdd, Nat.reduceLeDiff, reduceCtorEq, Nat.reduceMul]
  rw [bool_t h1] at a1
  have b1 := sLive_ok hn
  have b2 := rLive_ok hn
  have b3 := sSweep_ok hn
  have b4 := rSweep_ok hn
  obtain ⟨l, hl⟩ : ∃ l, (if Fx.bool n.Good then n.live else []) = l := ⟨_, rfl⟩
  obtain ⟨m, hm⟩ : ∃ m, (if Fx.bool n.Good then n.swept else n) = m := ⟨_, rfl⟩
  have hll : l.length * 8 ≤ 140737488355328 := by
    rw [← hl]; split
    · exact live_small hn
    · simp
  have hmO : m.Ok := by
    rw [← hm]; split
    · exact swept_Ok hn
    · exact hn
  rw [hl] at b1 b2
  rw [hm] at b3 b4
  have c1 := Ints_ok (b := l) hll
  rw [bool_t rfl] at c1
  have c2 := Same_ok hmO (b := m)
  rw [bool_t rfl] at c2
  simp only [encT] at a1 b1 b2 b3 b4 c2
  simp only [F3, f0, a1, b1, b2, b3, b4, c1, c2, fxa, fxc, fxE, fxL, fxI, nxE, evO, evR, cellsT, ldCells, mkT, lenA, binPV, Env.init, resV, resT, frT, klT, ownT, intT, O.adds, ownA, rowsA, over, wrOk, keysT, keysA, ne_eq, if_true, if_false, ite_self, Nat.reduceLT, Nat.reduceSub, Nat.reduceBEq, Nat.reduceEqDiff, Nat.reduceAdd, Nat.reduceLeDiff, reduceCtorEq, Nat.reduceMul]
end Go.Proofs.Ytkpfjolcmkikeaa
