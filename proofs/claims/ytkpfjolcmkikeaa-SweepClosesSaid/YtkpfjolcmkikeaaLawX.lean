/- The law SweepCloses, as the evaluator has it. -/
import Derived.Test.YtkpfjolcmkikeaaSweepP
import Derived.Test.YtkpfjolcmkikeaaLawV
set_option linter.unusedSimpArgs false
set_option linter.unusedVariables false
set_option maxHeartbeats 4000000
set_option maxRecDepth 10000
namespace Go.Proofs.Ytkpfjolcmkikeaa
open Go.Fx

theorem sweepCloses_law {n : Nt} (hn : n.Ok) : eP S 4 [.g (encT n)] = some (.a (.b true)) := by
  have f0 := fixed18_ok
  have a1 := Small_ok hn 150
  have a2 := RCheck_ok hn
  refine x_fn (orcS (by decide)) (fc := F4) rfl rfl ?_
  by_cases h1 : n.small 150
  case neg =>
    rw [bool_f h1] at a1
    simp only [encT] at a1
    simp only [F4, f0, a1, fxa, fxc, fxE, fxL, fxI, nxE, evO, evR, cellsT, ldCells, mkT, lenA, binPV, Env.init, resV, resT, frT, klT, ownT, intT, O.adds, ownA, rowsA, over, wrOk, keysT, keysA, ne_eq, if_true, if_false, ite_self, Nat.reduceLT, Nat.reduceSub, Nat.reduceBEq, Nat.reduceEqDiff, Nat.reduceAdd, Nat.reduceLeDiff, reduceCtorEq, Nat.reduceMul]
  rw [bool_t h1] at a1
  by_cases hG : n.Good
  case neg =>
    rw [bool_f hG] at a2
    simp only [Bool.false_eq_true, if_false, encT] at a1 a2
    simp only [F4, f0, a1, a2, Int.reduceEq, fxa, fxc, fxE, fxL, fxI, nxE, evO, evR, cellsT, ldCells, mkT, lenA, binPV, Env.init, resV, resT, frT, klT, ownT, intT, O.adds, ownA, rowsA, over, wrOk, keysT, keysA, ne_eq, if_true, if_false, ite_self, Nat.reduceLT, Nat.reduceSub, Nat.reduceBEq, Nat.reduceEqDiff, Nat.reduceAdd, Nat.reduceLeDiff, reduceCtorEq, Nat.reduceMul]
  rw [bool_t hG] at a2
  have hb := good_big hG
  have hmO := swept_Ok hn
  have hmG := swept_good hG
  have b1 := sLive_ok hn
  have b2 := sSweep_ok hn
  have b3 := RCheck_ok hmO
  have b4 := RUsed_ok hmO
  have b5 := sSweep_ok hmO
  have b6 := Same_ok hmO (b := n.swept)
  have b7 := sLive_ok hmO
  rw [bool_t hG] at b1 b2
  rw [bool_t hmG] at b3 b5 b7
  rw [swept_used hG] at b4
  rw [swept_swept hG] at b5
  rw [bool_t rfl] at b6
  rw [swept_live hG] at b7
  have hll := liveTo_len n n.ns.length
  have hls : n.live.length * 8 ≤ 140737488355328 := live_small hn
  have b8 := Ints_ok (b := n.live) hls
  rw [bool_t rfl] at b8
  have hl1 := hG.ln1
  obtain ⟨L, hL⟩ := live_head (n := n) n.ns.length (by omega)
  have hL : n.live = 0 :: L := hL
  have hnl : ¬ (n.live.length : Int) < 1 := by rw [hL]; simp; omega
  have hlg : (0 : Int) < (n.live.length : Int) := by omega
  have hg0 : (n.live.map encI)[0]? = some [.i .i64 0] := by rw [hL]; rfl
  have hra : ((n.live.map encI).all fun r => decide (r.length = 1)) = true := by simp [encI]
  have hIn := fun i : Int => In_ok (l := n.live) hls i
  have hcap : n.swept.cap = n.cap := rfl
  obtain ⟨m, hm⟩ : ∃ m, n.swept = m := ⟨_, rfl⟩
  have hin : ∀ {i : Nat} {x : Nd}, Rch n i → n.ns[i]? = some x → m.ns[i]? = some x := by intro i x h1 h2; rw [← hm]; exact swept_in hG h1 h2
  rw [hm] at b2 b3 b4 b5 b6 b7 hcap
  simp only [if_true, encT] at a1 a2 b1 b2 b3 b4 b5 b6 b7
  simp only [F4, f0, a1, a2, b1, b2, b3, b4, b5, b6, b7, b8, hnl, hlg, hg0, hra, List.length_map, Int.le_refl, Int.toNat_zero, Int.reduceEq, fxa, fxc, fxE, fxL, fxI, nxE, evO, evR, cellsT, ldCells, mkT, lenA, binPV, Env.init, resV, resT, frT, klT, ownT, intT, O.adds, ownA, rowsA, over, wrOk, keysT, keysA, ne_eq, if_true, if_false, ite_self, Nat.reduceLT, Nat.reduceSub, Nat.reduceBEq, Nat.reduceEqDiff, Nat.reduceAdd, Nat.reduceLeDiff, reduceCtorEq, Nat.reduceMul]
  refine loop_nat n.ns.length (fun i e σ => e 1 = .a (.ptr (1, 0) 0 0) ∧ e 3 = .a (.p (.l (n.live.map encI))) ∧ e 4 = .a (.ptr (4, 1) 0 0) ∧ e 5 = .a (.p (.i .i64 (i : Nat))) ∧ σ.bs (1, 0) = some (.var [.p (.l (n.ns.map encN)), .p (.i .i64 n.cap)]) ∧ σ.bs (4, 1) = some (.var [.p (.l (m.ns.map encN)), .p (.i .i64 m.cap)])) (i0 := 0) (Nat.zero_le _) ?_ ?_ ?_
  · refine ⟨?_, ?_, ?_, ?_, ?_, ?_⟩ <;> simp only [fxa, fxc, fxE, fxL, fxI, nxE, evO, evR, cellsT, ldCells, mkT, lenA, binPV, Env.init, resV, resT, frT, klT, ownT, intT, O.adds, ownA, rowsA, over, wrOk, keysT, keysA, ne_eq, if_true, if_false, ite_self, Nat.reduceLT, Nat.reduceSub, Nat.reduceBEq, Nat.reduceEqDiff, Nat.reduceAdd, Nat.reduceLeDiff, reduceCtorEq, Nat.reduceMul]
    rfl
  · rintro i e σ hi ⟨e1, e3, e4, e5, s1, s4⟩
    obtain ⟨x, hx⟩ : ∃ x, n.ns[i]? = some x := ⟨_, List.getElem?_eq_getElem hi⟩
    have hx' := mapGet encN hx
    have hlt : ((i : Nat) : Int) < (n.ns.length : Int) := by omega
    have hge : (0 : Int) ≤ ((i : Nat) : Int) := by omega
    have c1 := hIn (i : Int)
    rw [in_live hi] at c1
    have hto := (hn.nd x (List.mem_of_getElem? hx)).to
    have inner : ∀ b : Bool, Fx.bool (Rch n i) = b → ∀ (e : Env) (σ : St) (Q : Ex → Env → St → Prop), e 1 = .a (.ptr (1, 0) 0 0) → e 3 = .a (.p (.l (n.live.map encI))) → e 4 = .a (.ptr (4, 1) 0 0) → e 5 = .a (.p (.i .i64 (i : Nat))) → e 6 = .a (.p (.b b)) → e 7 = .a (.p (.i .i64 0)) →
        σ.bs (1, 0) = some (.var [.p (.l (n.ns.map encN)), .p (.i .i64 n.cap)]) → σ.bs (4, 1) = some (.var [.p (.l (m.ns.map encN)), .p (.i .i64 m.cap)]) →
        (∀ e σ, e 1 = .a (.ptr (1, 0) 0 0) → e 3 = .a (.p (.l (n.live.map encI))) → e 4 = .a (.ptr (4, 1) 0 0) → e 5 = .a (.p (.i .i64 (i : Nat))) → σ.bs (1, 0) = some (.var [.p (.l (n.ns.map encN)), .p (.i .i64 n.cap)]) → σ.bs (4, 1) = some (.var [.p (.l (m.ns.map encN)), .p (.i .i64 m.cap)]) → Q (.exit 2) e σ) →
        wp S false (.loop F4b1) e σ Q := by
      intro b hb e σ Q e1 e3 e4 e5 e6 e7 s1 s4 hQ
      refine loop_nat x.to.length (fun p e σ => e 1 = .a (.ptr (1, 0) 0 0) ∧ e 3 = .a (.p (.l (n.live.map encI))) ∧ e 4 = .a (.ptr (4, 1) 0 0) ∧ e 5 = .a (.p (.i .i64 (i : Nat))) ∧ e 6 = .a (.p (.b b)) ∧ e 7 = .a (.p (.i .i64 (p : Nat))) ∧ σ.bs (1, 0) = some (.var [.p (.l (n.ns.map encN)), .p (.i .i64 n.cap)]) ∧ σ.bs (4, 1) = some (.var [.p (.l (m.ns.map encN)), .p (.i .i64 m.cap)])) (i0 := 0) (Nat.zero_le _) ⟨e1, e3, e4, e5, e6, e7, s1, s4⟩ ?_ ?_
      · rintro p e σ hp ⟨e1, e3, e4, e5, e6, e7, s1, s4⟩
        obtain ⟨q, hq⟩ : ∃ q, x.to[p]? = some q := ⟨_, List.getElem?_eq_getElem hp⟩
        have hq' := mapGet encP hq
        obtain ⟨j, hj, hjl⟩ := good_q hG hx hq
        have hlt2 : ((p : Nat) : Int) < (x.to.length : Int) := by omega
        have hge2 : (0 : Int) ≤ ((p : Nat) : Int) := by omega
        have c2 := hIn q.n
        rw [hj, in_live hjl, bool_congr (rch_link hG hx hq hj), hb] at c2
        rw [← hj] at c2
        cases b with
        | true =>
          simp only [F4b1, e1, e3, e4, e5, e6, e7, s1, s4, hlt, hge, hx', hlt2, hge2, hq', c2, fxa, fxc, fxE, fxL, fxI, nxE, evO, evR, cellsT, ldCells, mkT, lenA, binPV, Env.init, resV, resT, frT, klT, ownT, intT, O.adds, ownA, rowsA, over, wrOk, keysT, keysA, ne_eq, if_true, if_false, ite_self, Nat.reduceLT, Nat.reduceSub, Nat.reduceBEq, Nat.reduceEqDiff, Nat.reduceAdd, Nat.reduceLeDiff, reduceCtorEq, Nat.reduceMul]
          rw [wrap_succ p (by omega)]
        | false =>
          simp only [F4b1, e1, e3, e4, e5, e6, e7, s1, s4, hlt, hge, hx', hlt2, hge2, hq', c2, fxa, fxc, fxE, fxL, fxI, nxE, evO, evR, cellsT, ldCells, mkT, lenA, binPV, Env.init, resV, resT, frT, klT, ownT, intT, O.adds, ownA, rowsA, over, wrOk, keysT, keysA, ne_eq, if_true, if_false, ite_self, Nat.reduceLT, Nat.reduceSub, Nat.reduceBEq, Nat.reduceEqDiff, Nat.reduceAdd, Nat.reduceLeDiff, reduceCtorEq, Nat.reduceMul]
          rw [wrap_succ p (by omega)]
      · rintro e σ ⟨e1, e3, e4, e5, e6, e7, s1, s4⟩
        have hlt2 : ¬ ((x.to.length : Nat) : Int) < (x.to.length : Int) := by omega
        simp only [F4b1, e1, e3, e4, e5, e6, e7, s1, s4, hlt, hge, hx', hlt2, fxa, fxc, fxE, fxL, fxI, nxE, evO, evR, cellsT, ldCells, mkT, lenA, binPV, Env.init, resV, resT, frT, klT, ownT, intT, O.adds, ownA, rowsA, over, wrOk, keysT, keysA, ne_eq, if_true, if_false, ite_self, Nat.reduceLT, Nat.reduceSub, Nat.reduceBEq, Nat.reduceEqDiff, Nat.reduceAdd, Nat.reduceLeDiff, reduceCtorEq, Nat.reduceMul]
        exact hQ _ _ (by simp only [e1, fxa, fxc, fxE, fxL, fxI, nxE, evO, evR, cellsT, ldCells, mkT, lenA, binPV, Env.init, resV, resT, frT, klT, ownT, intT, O.adds, ownA, rowsA, over, wrOk, keysT, keysA, ne_eq, if_true, if_false, ite_self, Nat.reduceLT, Nat.reduceSub, Nat.reduceBEq, Nat.reduceEqDiff, Nat.reduceAdd, Nat.reduceLeDiff, reduceCtorEq, Nat.reduceMul]) (by simp only [e3, fxa, fxc, fxE, fxL, fxI, nxE, evO, evR, cellsT, ldCells, mkT, lenA, binPV, Env.init, resV, resT, frT, klT, ownT, intT, O.adds, ownA, rowsA, over, wrOk, keysT, keysA, ne_eq, if_true, if_false, ite_self, Nat.reduceLT, Nat.reduceSub, Nat.reduceBEq, Nat.reduceEqDiff, Nat.reduceAdd, Nat.reduceLeDiff, reduceCtorEq, Nat.reduceMul]) (by simp only [e4, fxa, fxc, fxE, fxL, fxI, nxE, evO, evR, cellsT, ldCells, mkT, lenA, binPV, Env.init, resV, resT, frT, klT, ownT, intT, O.adds, ownA, rowsA, over, wrOk, keysT, keysA, ne_eq, if_true, if_false, ite_self, Nat.reduceLT, Nat.reduceSub, Nat.reduceBEq, Nat.reduceEqDiff, Nat.reduceAdd, Nat.reduceLeDiff, reduceCtorEq, Nat.reduceMul]) (by simp only [e5, fxa, fxc, fxE, fxL, fxI, nxE, evO, evR, cellsT, ldCells, mkT, lenA, binPV, Env.init, resV, resT, frT, klT, ownT, intT, O.adds, ownA, rowsA, over, wrOk, keysT, keysA, ne_eq, if_true, if_false, ite_self, Nat.reduceLT, Nat.reduceSub, Nat.reduceBEq, Nat.reduceEqDiff, Nat.reduceAdd, Nat.reduceLeDiff, reduceCtorEq, Nat.reduceMul]) s1 s4
    by_cases hR : Rch n i
    · rw [bool_t hR] at c1
      have hmx := hin hR hx
      have hmx' := mapGet encN hmx
      have hil := (List.getElem?_eq_some_iff.1 hmx).1
      have hlt3 : ((i : Nat) : Int) < (m.ns.length : Int) := by omega
      have hnge : ¬ ((i : Nat) : Int) ≥ (m.ns.length : Int) := by omega
      have c3 := One_ok (b := x) (hn.nd x (List.mem_of_getElem? hx))
      rw [bool_t rfl] at c3
      simp only [encN] at c3
      simp only [F4b0, e1, e3, e4, e5, s1, s4, hlt, hge, hx', hmx', hlt3, hnge, c1, c3, fxa, fxc, fxE, fxL, fxI, nxE, evO, evR, cellsT, ldCells, mkT, lenA, binPV, Env.init, resV, resT, frT, klT, ownT, intT, O.adds, ownA, rowsA, over, wrOk, keysT, keysA, ne_eq, if_true, if_false, ite_self, Nat.reduceLT, Nat.reduceSub, Nat.reduceBEq, Nat.reduceEqDiff, Nat.reduceAdd, Nat.reduceLeDiff, reduceCtorEq, Nat.reduceMul]
      refine inner true (bool_t hR) _ _ _ ?_ ?_ ?_ ?_ ?_ ?_ s1 s4 fun e σ e1 e3 e4 e5 s1 s4 => ?_
      all_goals simp only [e1, e3, e4, e5, s1, s4, fxa, fxc, fxE, fxL, fxI, nxE, evO, evR, cellsT, ldCells, mkT, lenA, binPV, Env.init, resV, resT, frT, klT, ownT, intT, O.adds, ownA, rowsA, over, wrOk, keysT, keysA, ne_eq, if_true, if_false, ite_self, Nat.reduceLT, Nat.reduceSub, Nat.reduceBEq, Nat.reduceEqDiff, Nat.reduceAdd, Nat.reduceLeDiff, reduceCtorEq, Nat.reduceMul]
      rw [wrap_succ i (by omega)]
    · rw [bool_f hR] at c1
      simp only [F4b0, e1, e3, e4, e5, s1, s4, hlt, c1, fxa, fxc, fxE, fxL, fxI, nxE, evO, evR, cellsT, ldCells, mkT, lenA, binPV, Env.init, resV, resT, frT, klT, ownT, intT, O.adds, ownA, rowsA, over, wrOk, keysT, keysA, ne_eq, if_true, if_false, ite_self, Nat.reduceLT, Nat.reduceSub, Nat.reduceBEq, Nat.reduceEqDiff, Nat.reduceAdd, Nat.reduceLeDiff, reduceCtorEq, Nat.reduceMul]
      refine inner false (bool_f hR) _ _ _ ?_ ?_ ?_ ?_ ?_ ?_ s1 s4 fun e σ e1 e3 e4 e5 s1 s4 => ?_
      all_goals simp only [e1, e3, e4, e5, s1, s4, fxa, fxc, fxE, fxL, fxI, nxE, evO, evR, cellsT, ldCells, mkT, lenA, binPV, Env.init, resV, resT, frT, klT, ownT, intT, O.adds, ownA, rowsA, over, wrOk, keysT, keysA, ne_eq, if_true, if_false, ite_self, Nat.reduceLT, Nat.reduceSub, Nat.reduceBEq, Nat.reduceEqDiff, Nat.reduceAdd, Nat.reduceLeDiff, reduceCtorEq, Nat.reduceMul]
      rw [wrap_succ i (by omega)]
  · rintro e σ ⟨e1, e3, e4, e5, s1, s4⟩
    have hlt : ¬ ((n.ns.length : Nat) : Int) < (n.ns.length : Int) := by omega
    simp only [F4b0, e1, e3, e4, e5, s1, s4, hlt, hcap, fxa, fxc, fxE, fxL, fxI, nxE, evO, evR, cellsT, ldCells, mkT, lenA, binPV, Env.init, resV, resT, frT, klT, ownT, intT, O.adds, ownA, rowsA, over, wrOk, keysT, keysA, ne_eq, if_true, if_false, ite_self, Nat.reduceLT, Nat.reduceSub, Nat.reduceBEq, Nat.reduceEqDiff, Nat.reduceAdd, Nat.reduceLeDiff, reduceCtorEq, Nat.reduceMul]
end Go.Proofs.Ytkpfjolcmkikeaa
