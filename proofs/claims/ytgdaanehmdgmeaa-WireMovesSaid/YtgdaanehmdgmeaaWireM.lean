/- The law WireMoves, as the evaluator has it. -/
import Derived.Test.YtgdaanehmdgmeaaWireL
set_option linter.unusedSimpArgs false
set_option linter.unusedVariables false
set_option maxHeartbeats 4000000
set_option maxRecDepth 10000
namespace Go.Proofs.Ytgdaanehmdgmeaa
open Go.Fx

theorem wireMoves_law {n : Nt} {x y : Pt} (hn : n.Ok) (hx : wf x.n ∧ wf x.s) (hy : wf y.n ∧ wf y.s) : eP S 4 [.g (encT n), .g (encP x ++ encP y)] = some (.a (.b true)) := by
  have f0 := fixed13_ok
  have a1 := Small_ok hn 150
  have a2 := RCheck_ok hn
  have c2 := Has_ok n x
  have c3 := Has_ok n y
  have c6 := same_is hn
  refine x_fn (orcS (by decide)) (fc := F4) rfl rfl ?_
  by_cases h1 : n.small 150
  case neg =>
    rw [bool_f h1] at a1
    simp only [encT, encP] at a1
    simp only [F4, f0, a1, false_iff, true_iff, RB_t, RB_f, RB_b, List.getElem?_cons_zero, List.getElem?_cons_succ, List.set_cons_succ, frV, klV, Nat.reduceLT, Nat.reduceSub, eqCells, encT, encN, encP, encA, allP, allA, allN, spN, Nat.reduceBEq, Int.toNat_natCast, evI_wr, wrOk, keysT, keysA, ne_eq, not_false_eq_true, fxa, fxc, if_true, if_false, ite_self, spS, LQ_norm, LQ_exit, LQ_ret, evO, evR, cellsT, ldCells, mkT, lenA, binPV, Env.init, resVs, resV, resT, Nat.reduceEqDiff, Nat.reduceAdd, Nat.reduceLeDiff, reduceCtorEq, frTs, frT, klTs, klT, frL, ownT, intT, O.adds, ownA, evO.bslRows, rowsA, over, fillA, Nat.reduceMul, klL]
  rw [bool_t h1] at a1
  by_cases hg : n.Good
  case neg =>
    rw [bool_f hg] at a2
    simp only [encT, encP, Bool.false_eq_true, if_false] at a1 a2
    simp only [F4, f0, a1, a2, Int.reduceEq, false_iff, true_iff, RB_t, RB_f, RB_b, List.getElem?_cons_zero, List.getElem?_cons_succ, List.set_cons_succ, frV, klV, Nat.reduceLT, Nat.reduceSub, eqCells, encT, encN, encP, encA, allP, allA, allN, spN, Nat.reduceBEq, Int.toNat_natCast, evI_wr, wrOk, keysT, keysA, ne_eq, not_false_eq_true, fxa, fxc, if_true, if_false, ite_self, spS, LQ_norm, LQ_exit, LQ_ret, evO, evR, cellsT, ldCells, mkT, lenA, binPV, Env.init, resVs, resV, resT, Nat.reduceEqDiff, Nat.reduceAdd, Nat.reduceLeDiff, reduceCtorEq, frTs, frT, klTs, klT, frL, ownT, intT, O.adds, ownA, evO.bslRows, rowsA, over, fillA, Nat.reduceMul, klL]
  rw [bool_t hg, if_pos rfl] at a2
  cases hp : n.has x with
  | false =>
    rw [hp] at c2
    simp only [encT, encP] at a1 a2 c2
    simp only [F4, f0, a1, a2, c2, Int.reduceEq, false_iff, true_iff, RB_t, RB_f, RB_b, List.getElem?_cons_zero, List.getElem?_cons_succ, List.set_cons_succ, frV, klV, Nat.reduceLT, Nat.reduceSub, eqCells, encT, encN, encP, encA, allP, allA, allN, spN, Nat.reduceBEq, Int.toNat_natCast, evI_wr, wrOk, keysT, keysA, ne_eq, not_false_eq_true, fxa, fxc, if_true, if_false, ite_self, spS, LQ_norm, LQ_exit, LQ_ret, evO, evR, cellsT, ldCells, mkT, lenA, binPV, Env.init, resVs, resV, resT, Nat.reduceEqDiff, Nat.reduceAdd, Nat.reduceLeDiff, reduceCtorEq, frTs, frT, klTs, klT, frL, ownT, intT, O.adds, ownA, evO.bslRows, rowsA, over, fillA, Nat.reduceMul, klL]
  | true =>
  cases hq : n.has y with
  | false =>
    rw [hp] at c2
    rw [hq] at c3
    simp only [encT, encP] at a1 a2 c2 c3
    simp only [F4, f0, a1, a2, c2, c3, Int.reduceEq, false_iff, true_iff, RB_t, RB_f, RB_b, List.getElem?_cons_zero, List.getElem?_cons_succ, List.set_cons_succ, frV, klV, Nat.reduceLT, Nat.reduceSub, eqCells, encT, encN, encP, encA, allP, allA, allN, spN, Nat.reduceBEq, Int.toNat_natCast, evI_wr, wrOk, keysT, keysA, ne_eq, not_false_eq_true, fxa, fxc, if_true, if_false, ite_self, spS, LQ_norm, LQ_exit, LQ_ret, evO, evR, cellsT, ldCells, mkT, lenA, binPV, Env.init, resVs, resV, resT, Nat.reduceEqDiff, Nat.reduceAdd, Nat.reduceLeDiff, reduceCtorEq, frTs, frT, klTs, klT, frL, ownT, intT, O.adds, ownA, evO.bslRows, rowsA, over, fillA, Nat.reduceMul, klL]
  | true =>
  rw [hp] at c2
  rw [hq] at c3
  by_cases hne : x = y
  · subst hne
    simp only [encT, encP] at a1 a2 c2 c3
    simp only [F4, f0, a1, a2, c2, c3, Int.reduceEq, false_iff, true_iff, RB_t, RB_f, RB_b, List.getElem?_cons_zero, List.getElem?_cons_succ, List.set_cons_succ, frV, klV, Nat.reduceLT, Nat.reduceSub, eqCells, encT, encN, encP, encA, allP, allA, allN, spN, Nat.reduceBEq, Int.toNat_natCast, evI_wr, wrOk, keysT, keysA, ne_eq, not_false_eq_true, fxa, fxc, if_true, if_false, ite_self, spS, LQ_norm, LQ_exit, LQ_ret, evO, evR, cellsT, ldCells, mkT, lenA, binPV, Env.init, resVs, resV, resT, Nat.reduceEqDiff, Nat.reduceAdd, Nat.reduceLeDiff, reduceCtorEq, frTs, frT, klTs, klT, frL, ownT, intT, O.adds, ownA, evO.bslRows, rowsA, over, fillA, Nat.reduceMul, klL]
  have c4 := Move_ok hn hx hy
  rw [moveR_good hg hp hq hne] at c4
  have c5 := Join_ok hn hx hy
  rw [joinR_good hg hp hq hne] at c5
  have hpi := has_iff.1 hp
  have hqi := has_iff.1 hq
  have g1 := getN (l := n.ns) hpi.1 hpi.2.1
  have g2 := getP (l := (n.nd x.n).to) hpi.2.2.1 hpi.2.2.2
  have g3 := hpi.2.2.2
  have k1 := getN (l := n.ns) hqi.1 hqi.2.1
  have k2 := getP (l := (n.nd y.n).to) hqi.2.2.1 hqi.2.2.2
  have k3 := hqi.2.2.2
  obtain ⟨a, ha⟩ : ∃ a, n.lk x = a := ⟨_, rfl⟩
  have ha2 : (n.ns.getD x.n.toNat zN).to.getD x.s.toNat zP = a := ha
  obtain ⟨b, hb⟩ : ∃ b, n.lk y = b := ⟨_, rfl⟩
  have hb2 : (n.ns.getD y.n.toNat zN).to.getD y.s.toNat zP = b := hb
  unfold Nt.nd at g2 g3 k2 k3
  rw [ha2] at g2
  rw [hb2] at k2
  obtain ⟨p1, p2, p3⟩ := good_link hg hp
  obtain ⟨q1, q2, q3⟩ := good_link hg hq
  have wa := lk_wf hn hp
  have wb := lk_wf hn hq
  rw [ha] at p1 p2 p3 wa c4 c5
  rw [hb] at q1 q2 q3 wb c5
  by_cases hay : a = y
  · rw [if_pos hay] at c4 c5
    subst hay
    simp only [encTE, encT, encP] at a1 a2 c2 c3 c4 c5 c6
    simp only [F4, f0, a1, a2, c2, c3, c4, c5, c6, g1, g2, g3, k1, k2, k3, hpi.1, hpi.2.1, hpi.2.2.1, hqi.1, hqi.2.1, hqi.2.2.1, ptEq, hne, Int.reduceEq, false_iff, true_iff, RB_t, RB_f, RB_b, List.getElem?_cons_zero, List.getElem?_cons_succ, List.set_cons_succ, frV, klV, Nat.reduceLT, Nat.reduceSub, eqCells, encT, encN, encP, encA, allP, allA, allN, spN, Nat.reduceBEq, Int.toNat_natCast, evI_wr, wrOk, keysT, keysA, ne_eq, not_false_eq_true, fxa, fxc, if_true, if_false, ite_self, spS, LQ_norm, LQ_exit, LQ_ret, evO, evR, cellsT, ldCells, mkT, lenA, binPV, Env.init, resVs, resV, resT, Nat.reduceEqDiff, Nat.reduceAdd, Nat.reduceLeDiff, reduceCtorEq, frTs, frT, klTs, klT, frL, ownT, intT, O.adds, ownA, evO.bslRows, rowsA, over, fillA, Nat.reduceMul, klL]
  · rw [if_neg hay] at c4 c5
    have hab : a ≠ b := fun e => hne (by rw [← p3, e, q3])
    have hay' : y ≠ a := fun e => hay e.symm
    have hm := Ok_ln hn hq p2 hy wa
    have hj := Ok_ln hn p2 q2 wa wb
    have s1 := ln_shp hq p2
    have s2 := ln_shp p2 q2
    have l1 : (n.ln y a).lk a = y := by rw [ln_lk hq p2 p2, if_pos rfl]
    have l2 : (n.ln y a).lk y = a := by rw [ln_lk hq p2 hq, if_neg hay', if_pos rfl]
    have l3 : (n.ln a b).lk a = b := by rw [ln_lk p2 q2 p2, if_neg hab, if_pos rfl]
    have l4 : (n.ln a b).lk b = a := by rw [ln_lk p2 q2 q2, if_pos rfl]
    have d1 := Peer_is (by rw [s1.has]; exact p2) l1
    have d2 := Peer_is (by rw [s1.has]; exact hq) l2
    have d3 := Peer_is (by rw [s2.has]; exact p2) l3
    have d4 := Peer_is (by rw [s2.has]; exact q2) l4
    have d5 := oth_ok (but := [y, a]) hn (by simp) s1 (fun r hr hb => by
      simp only [List.mem_cons, List.not_mem_nil, or_false, not_or] at hb
      rw [ln_lk hq p2 hr, if_neg hb.2, if_neg hb.1])
    have d6 := oth_ok (but := [a, b]) hn (by simp) s2 (fun r hr hb => by
      simp only [List.mem_cons, List.not_mem_nil, or_false, not_or] at hb
      rw [ln_lk p2 q2 hr, if_neg hb.2, if_neg hb.1])
    simp only [encTE, encT, encP, List.map_cons, List.map_nil] at a1 a2 c2 c3 c4 c5 c6 d1 d2 d3 d4 d5 d6
    simp only [F4, f0, a1, a2, c2, c3, c4, c5, c6, d1, d2, d3, d4, d5, d6, g1, g2, g3, k1, k2, k3, hpi.1, hpi.2.1, hpi.2.2.1, hqi.1, hqi.2.1, hqi.2.2.1, ptEq, hne, hay, Int.reduceEq, false_iff, true_iff, RB_t, RB_f, RB_b, List.getElem?_cons_zero, List.getElem?_cons_succ, List.set_cons_succ, frV, klV, Nat.reduceLT, Nat.reduceSub, eqCells, encT, encN, encP, encA, allP, allA, allN, spN, Nat.reduceBEq, Int.toNat_natCast, evI_wr, wrOk, keysT, keysA, ne_eq, not_false_eq_true, fxa, fxc, if_true, if_false, ite_self, spS, LQ_norm, LQ_exit, LQ_ret, evO, evR, cellsT, ldCells, mkT, lenA, binPV, Env.init, resVs, resV, resT, Nat.reduceEqDiff, Nat.reduceAdd, Nat.reduceLeDiff, reduceCtorEq, frTs, frT, klTs, klT, frL, ownT, intT, O.adds, ownA, evO.bslRows, rowsA, over, fillA, Nat.reduceMul, klL]

end Go.Proofs.Ytgdaanehmdgmeaa
