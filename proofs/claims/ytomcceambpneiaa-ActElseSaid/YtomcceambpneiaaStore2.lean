/- Nodes that may be, copies, making and freeing: the program's functions. -/
import Derived.Test.YtomcceambpneiaaStore1
set_option linter.unusedSimpArgs false
set_option linter.unusedVariables false
set_option maxHeartbeats 4000000
set_option maxRecDepth 10000
namespace Go.Proofs.Ytomcceambpneiaa
open Go.Fx

theorem may_iff (x : Nd) : x.may ↔ ((0 ≤ x.k ∧ x.k ≤ 13) ∧ altsP x) ∧ (0 ≤ x.lv ∧ x.lv ≤ (if x.k = 0 ∨ x.k = 1 then 0 else 60)) ∧ (x.s ≠ [] ↔ (x.k = 8 ∨ x.k = 11 ∨ x.k = 12)) ∧ (x.n = 0 ∨ (x.k = 10 ∨ x.k = 12)) ∧ (x.k ≠ 8 ∨ (1 ≤ (x.to.length : Int) ∧ (x.to.length : Int) ≤ 9)) := by
  constructor
  · intro h
    refine ⟨⟨⟨h.k0, h.k1⟩, fun h9 => by have := h.aln h9; omega, fun h9 => ⟨h.alt, h.al9 h9, h.al8⟩⟩, ⟨h.lv0, ?_⟩, h.nm, ?_, ?_⟩
    · have := h.lv2; have := h.lv1; split <;> omega
    · have := h.nn; omega
    · have := h.to8; omega
  · rintro ⟨⟨⟨h1, h2⟩, h3, h4⟩, ⟨h5, h6⟩, h7, h8, h9⟩
    refine ⟨h1, h2, h5, by split at h6 <;> omega, fun h => by rw [if_pos (by omega)] at h6; exact h6, h7, fun h => by omega, fun h => by omega, fun h => (h4 h).2.1, fun h => by have := h3 h; omega, ?_, ?_⟩
    · by_cases h : x.k = 9
      · exact (h4 h).2.2
      · have := h3 h; omega
    · by_cases h : x.k = 9
      · exact (h4 h).1
      · have := h3 h
        have : x.al = [] := List.eq_nil_of_length_eq_zero this
        rw [this]; intro i a hi; simp at hi

theorem sNode_ok {x : Nd} (hx : x.Ok) : eP S 62 [.g (encN x)] = some (.a (.b (bool x.may))) := by
  rw [bool_congr (may_iff x)]
  refine x_fnB (orcS (by decide)) (fc := F62) rfl rfl ?_
  have hal := hx.al
  have c0 := alts_ok hx
  simp only [encN] at c0
  unfold F62
  simp only [encN, List.map_cons, List.map_nil, ofPT_g]
  refine x_cutR (NdM x) ?_ fun e σ hM => ?_
  · simp only [fxa, fxc, fxE, fxL, fxI, nxE, evO, evR, cellsT, ldCells, mkT, lenA, binPV, Env.init, resV, resT, frT, klT, ownT, intT, O.adds, ownA, rowsA, over, wrOk, keysT, keysA, ne_eq, if_true, if_false, ite_self, Nat.reduceLT, Nat.reduceSub, Nat.reduceBEq, Nat.reduceEqDiff, Nat.reduceAdd, Nat.reduceLeDiff, reduceCtorEq, Nat.reduceMul]
    exact ⟨by simp only [fxa, fxc, fxE, fxL, fxI, nxE, evO, evR, cellsT, ldCells, mkT, lenA, binPV, Env.init, resV, resT, frT, klT, ownT, intT, O.adds, ownA, rowsA, over, wrOk, keysT, keysA, ne_eq, if_true, if_false, ite_self, Nat.reduceLT, Nat.reduceSub, Nat.reduceBEq, Nat.reduceEqDiff, Nat.reduceAdd, Nat.reduceLeDiff, reduceCtorEq, Nat.reduceMul], by simp only [fxa, fxc, fxE, fxL, fxI, nxE, evO, evR, cellsT, ldCells, mkT, lenA, binPV, Env.init, resV, resT, frT, klT, ownT, intT, O.adds, ownA, rowsA, over, wrOk, keysT, keysA, ne_eq, if_true, if_false, ite_self, Nat.reduceLT, Nat.reduceSub, Nat.reduceBEq, Nat.reduceEqDiff, Nat.reduceAdd, Nat.reduceLeDiff, reduceCtorEq, Nat.reduceMul]⟩
  obtain ⟨e1, s1⟩ := hM
  by_cases hk : 0 ≤ x.k ∧ x.k ≤ 13
  case neg =>
    have c1 := in_no (a := x.k) (b := 0) (c := 13) hk
    simp only [e1, s1, c1, fxa, fxc, fxE, fxL, fxI, nxE, evO, evR, cellsT, ldCells, mkT, lenA, binPV, Env.init, resV, resT, frT, klT, ownT, intT, O.adds, ownA, rowsA, over, wrOk, keysT, keysA, ne_eq, if_true, if_false, ite_self, Nat.reduceLT, Nat.reduceSub, Nat.reduceBEq, Nat.reduceEqDiff, Nat.reduceAdd, Nat.reduceLeDiff, reduceCtorEq, Nat.reduceMul]
    exact fun h => hk h.1.1
  have c1 := in_is (a := x.k) (b := 0) (c := 13) hk
  by_cases ha : altsP x
  case neg =>
    rw [bool_f ha] at c0
    simp only [e1, s1, c1, c0, fxa, fxc, fxE, fxL, fxI, nxE, evO, evR, cellsT, ldCells, mkT, lenA, binPV, Env.init, resV, resT, frT, klT, ownT, intT, O.adds, ownA, rowsA, over, wrOk, keysT, keysA, ne_eq, if_true, if_false, ite_self, Nat.reduceLT, Nat.reduceSub, Nat.reduceBEq, Nat.reduceEqDiff, Nat.reduceAdd, Nat.reduceLeDiff, reduceCtorEq, Nat.reduceMul]
    exact fun h => ha h.1.2
  rw [bool_t ha] at c0
  refine x_cutR (NdM x) ?_ fun e' σ' hM => ?_
  · simp only [e1, s1, c1, c0, fxa, fxc, fxE, fxL, fxI, nxE, evO, evR, cellsT, ldCells, mkT, lenA, binPV, Env.init, resV, resT, frT, klT, ownT, intT, O.adds, ownA, rowsA, over, wrOk, keysT, keysA, ne_eq, if_true, if_false, ite_self, Nat.reduceLT, Nat.reduceSub, Nat.reduceBEq, Nat.reduceEqDiff, Nat.reduceAdd, Nat.reduceLeDiff, reduceCtorEq, Nat.reduceMul]
    exact ⟨by simp only [e1, fxa, fxc, fxE, fxL, fxI, nxE, evO, evR, cellsT, ldCells, mkT, lenA, binPV, Env.init, resV, resT, frT, klT, ownT, intT, O.adds, ownA, rowsA, over, wrOk, keysT, keysA, ne_eq, if_true, if_false, ite_self, Nat.reduceLT, Nat.reduceSub, Nat.reduceBEq, Nat.reduceEqDiff, Nat.reduceAdd, Nat.reduceLeDiff, reduceCtorEq, Nat.reduceMul], by simp only [s1, fxa, fxc, fxE, fxL, fxI, nxE, evO, evR, cellsT, ldCells, mkT, lenA, binPV, Env.init, resV, resT, frT, klT, ownT, intT, O.adds, ownA, rowsA, over, wrOk, keysT, keysA, ne_eq, if_true, if_false, ite_self, Nat.reduceLT, Nat.reduceSub, Nat.reduceBEq, Nat.reduceEqDiff, Nat.reduceAdd, Nat.reduceLeDiff, reduceCtorEq, Nat.reduceMul]⟩
  clear e1 s1
  obtain ⟨e1, s1⟩ := hM
  refine x_cutR (fun e σ => NdM x e σ ∧ e 3 = .a (.p (.b (decide (x.k = 8 ∨ x.k = 11 ∨ x.k = 12))))) ?_ fun e' σ' hM => ?_
  · by_cases k8 : x.k = 8
    · simp only [e1, s1, k8, fxa, fxc, fxE, fxL, fxI, nxE, evO, evR, cellsT, ldCells, mkT, lenA, binPV, Env.init, resV, resT, frT, klT, ownT, intT, O.adds, ownA, rowsA, over, wrOk, keysT, keysA, ne_eq, if_true, if_false, ite_self, Nat.reduceLT, Nat.reduceSub, Nat.reduceBEq, Nat.reduceEqDiff, Nat.reduceAdd, Nat.reduceLeDiff, reduceCtorEq, Nat.reduceMul]
      exact ⟨⟨by simp only [e1, fxa, fxc, fxE, fxL, fxI, nxE, evO, evR, cellsT, ldCells, mkT, lenA, binPV, Env.init, resV, resT, frT, klT, ownT, intT, O.adds, ownA, rowsA, over, wrOk, keysT, keysA, ne_eq, if_true, if_false, ite_self, Nat.reduceLT, Nat.reduceSub, Nat.reduceBEq, Nat.reduceEqDiff, Nat.reduceAdd, Nat.reduceLeDiff, reduceCtorEq, Nat.reduceMul], by simp only [s1, k8, fxa, fxc, fxE, fxL, fxI, nxE, evO, evR, cellsT, ldCells, mkT, lenA, binPV, Env.init, resV, resT, frT, klT, ownT, intT, O.adds, ownA, rowsA, over, wrOk, keysT, keysA, ne_eq, if_true, if_false, ite_self, Nat.reduceLT, Nat.reduceSub, Nat.reduceBEq, Nat.reduceEqDiff, Nat.reduceAdd, Nat.reduceLeDiff, reduceCtorEq, Nat.reduceMul]⟩, by simp [k8]⟩
    by_cases k11 : x.k = 11
    · simp only [e1, s1, k8, k11, Int.reduceEq, fxa, fxc, fxE, fxL, fxI, nxE, evO, evR, cellsT, ldCells, mkT, lenA, binPV, Env.init, resV, resT, frT, klT, ownT, intT, O.adds, ownA, rowsA, over, wrOk, keysT, keysA, ne_eq, if_true, if_false, ite_self, Nat.reduceLT, Nat.reduceSub, Nat.reduceBEq, Nat.reduceEqDiff, Nat.reduceAdd, Nat.reduceLeDiff, reduceCtorEq, Nat.reduceMul]
      exact ⟨⟨by simp only [e1, fxa, fxc, fxE, fxL, fxI, nxE, evO, evR, cellsT, ldCells, mkT, lenA, binPV, Env.init, resV, resT, frT, klT, ownT, intT, O.adds, ownA, rowsA, over, wrOk, keysT, keysA, ne_eq, if_true, if_false, ite_self, Nat.reduceLT, Nat.reduceSub, Nat.reduceBEq, Nat.reduceEqDiff, Nat.reduceAdd, Nat.reduceLeDiff, reduceCtorEq, Nat.reduceMul], by simp only [s1, k11, fxa, fxc, fxE, fxL, fxI, nxE, evO, evR, cellsT, ldCells, mkT, lenA, binPV, Env.init, resV, resT, frT, klT, ownT, intT, O.adds, ownA, rowsA, over, wrOk, keysT, keysA, ne_eq, if_true, if_false, ite_self, Nat.reduceLT, Nat.reduceSub, Nat.reduceBEq, Nat.reduceEqDiff, Nat.reduceAdd, Nat.reduceLeDiff, reduceCtorEq, Nat.reduceMul]⟩, by simp [k11]⟩
    simp only [e1, s1, k8, k11, fxa, fxc, fxE, fxL, fxI, nxE, evO, evR, cellsT, ldCells, mkT, lenA, binPV, Env.init, resV, resT, frT, klT, ownT, intT, O.adds, ownA, rowsA, over, wrOk, keysT, keysA, ne_eq, if_true, if_false, ite_self, Nat.reduceLT, Nat.reduceSub, Nat.reduceBEq, Nat.reduceEqDiff, Nat.reduceAdd, Nat.reduceLeDiff, reduceCtorEq, Nat.reduceMul]
    refine ⟨⟨by simp only [e1, fxa, fxc, fxE, fxL, fxI, nxE, evO, evR, cellsT, ldCells, mkT, lenA, binPV, Env.init, resV, resT, frT, klT, ownT, intT, O.adds, ownA, rowsA, over, wrOk, keysT, keysA, ne_eq, if_true, if_false, ite_self, Nat.reduceLT, Nat.reduceSub, Nat.reduceBEq, Nat.reduceEqDiff, Nat.reduceAdd, Nat.reduceLeDiff, reduceCtorEq, Nat.reduceMul], by simp only [s1, fxa, fxc, fxE, fxL, fxI, nxE, evO, evR, cellsT, ldCells, mkT, lenA, binPV, Env.init, resV, resT, frT, klT, ownT, intT, O.adds, ownA, rowsA, over, wrOk, keysT, keysA, ne_eq, if_true, if_false, ite_self, Nat.reduceLT, Nat.reduceSub, Nat.reduceBEq, Nat.reduceEqDiff, Nat.reduceAdd, Nat.reduceLeDiff, reduceCtorEq, Nat.reduceMul]⟩, ?_⟩
    simp [k8, k11]
  clear e1 s1
  obtain ⟨⟨e1, s1⟩, e3⟩ := hM
  refine x_cutR (fun e σ => NdM x e σ ∧ e 3 = .a (.p (.b (decide (x.k = 8 ∨ x.k = 11 ∨ x.k = 12)))) ∧ e 4 = .a (.p (.b (decide (x.k = 10 ∨ x.k = 12))))) ?_ fun e' σ' hM => ?_
  · by_cases k10 : x.k = 10
    · simp only [e1, s1, e3, k10, fxa, fxc, fxE, fxL, fxI, nxE, evO, evR, cellsT, ldCells, mkT, lenA, binPV, Env.init, resV, resT, frT, klT, ownT, intT, O.adds, ownA, rowsA, over, wrOk, keysT, keysA, ne_eq, if_true, if_false, ite_self, Nat.reduceLT, Nat.reduceSub, Nat.reduceBEq, Nat.reduceEqDiff, Nat.reduceAdd, Nat.reduceLeDiff, reduceCtorEq, Nat.reduceMul]
      unfold NdM
      repeat' apply And.intro
      all_goals first | (simp only [e1, s1, e3, k10, fxa, fxc, fxE, fxL, fxI, nxE, evO, evR, cellsT, ldCells, mkT, lenA, binPV, Env.init, resV, resT, frT, klT, ownT, intT, O.adds, ownA, rowsA, over, wrOk, keysT, keysA, ne_eq, if_true, if_false, ite_self, Nat.reduceLT, Nat.reduceSub, Nat.reduceBEq, Nat.reduceEqDiff, Nat.reduceAdd, Nat.reduceLeDiff, reduceCtorEq, Nat.reduceMul]; done) | (simp [put_at, e1, s1, e3, k10]; done)
    simp only [e1, s1, e3, k10, fxa, fxc, fxE, fxL, fxI, nxE, evO, evR, cellsT, ldCells, mkT, lenA, binPV, Env.init, resV, resT, frT, klT, ownT, intT, O.adds, ownA, rowsA, over, wrOk, keysT, keysA, ne_eq, if_true, if_false, ite_self, Nat.reduceLT, Nat.reduceSub, Nat.reduceBEq, Nat.reduceEqDiff, Nat.reduceAdd, Nat.reduceLeDiff, reduceCtorEq, Nat.reduceMul]
    unfold NdM
    repeat' apply And.intro
    all_goals first | (simp only [e1, s1, e3, k10, fxa, fxc, fxE, fxL, fxI, nxE, evO, evR, cellsT, ldCells, mkT, lenA, binPV, Env.init, resV, resT, frT, klT, ownT, intT, O.adds, ownA, rowsA, over, wrOk, keysT, keysA, ne_eq, if_true, if_false, ite_self, Nat.reduceLT, Nat.reduceSub, Nat.reduceBEq, Nat.reduceEqDiff, Nat.reduceAdd, Nat.reduceLeDiff, reduceCtorEq, Nat.reduceMul]; done) | (simp [put_at, e1, s1, e3, k10]; done)
  clear e1 s1 e3
  obtain ⟨⟨e1, s1⟩, e3, e4⟩ := hM
  refine x_cutR (fun e σ => NdM x e σ ∧ e 3 = .a (.p (.b (decide (x.k = 8 ∨ x.k = 11 ∨ x.k = 12)))) ∧ e 4 = .a (.p (.b (decide (x.k = 10 ∨ x.k = 12)))) ∧ e 5 = .a (.p (.i .i64 60))) ?_ fun e' σ' hM => ?_
  · simp only [e1, s1, e3, e4, fxa, fxc, fxE, fxL, fxI, nxE, evO, evR, cellsT, ldCells, mkT, lenA, binPV, Env.init, resV, resT, frT, klT, ownT, intT, O.adds, ownA, rowsA, over, wrOk, keysT, keysA, ne_eq, if_true, if_false, ite_self, Nat.reduceLT, Nat.reduceSub, Nat.reduceBEq, Nat.reduceEqDiff, Nat.reduceAdd, Nat.reduceLeDiff, reduceCtorEq, Nat.reduceMul]
    unfold NdM
    repeat' apply And.intro
    all_goals first | (simp only [e1, s1, e3, e4, fxa, fxc, fxE, fxL, fxI, nxE, evO, evR, cellsT, ldCells, mkT, lenA, binPV, Env.init, resV, resT, frT, klT, ownT, intT, O.adds, ownA, rowsA, over, wrOk, keysT, keysA, ne_eq, if_true, if_false, ite_self, Nat.reduceLT, Nat.reduceSub, Nat.reduceBEq, Nat.reduceEqDiff, Nat.reduceAdd, Nat.reduceLeDiff, reduceCtorEq, Nat.reduceMul]; done) | (simp [put_at, e1, s1, e3, e4]; done)
  clear e1 s1 e3 e4
  obtain ⟨⟨e1, s1⟩, e3, e4, e5⟩ := hM
  refine x_cutR (fun e σ => NdM x e σ ∧ e 3 = .a (.p (.b (decide (x.k = 8 ∨ x.k = 11 ∨ x.k = 12)))) ∧ e 4 = .a (.p (.b (decide (x.k = 10 ∨ x.k = 12)))) ∧ e 5 = .a (.p (.i .i64 (if x.k = 0 ∨ x.k = 1 then 0 else 60)))) ?_ fun e' σ' hM => ?_
  · by_cases k0 : x.k = 0
    · simp only [e1, s1, e3, e4, e5, k0, fxa, fxc, fxE, fxL, fxI, nxE, evO, evR, cellsT, ldCells, mkT, lenA, binPV, Env.init, resV, resT, frT, klT, ownT, intT, O.adds, ownA, rowsA, over, wrOk, keysT, keysA, ne_eq, if_true, if_false, ite_self, Nat.reduceLT, Nat.reduceSub, Nat.reduceBEq, Nat.reduceEqDiff, Nat.reduceAdd, Nat.reduceLeDiff, reduceCtorEq, Nat.reduceMul]
      unfold NdM
      repeat' apply And.intro
      all_goals first | (simp only [e1, s1, e3, e4, e5, k0, fxa, fxc, fxE, fxL, fxI, nxE, evO, evR, cellsT, ldCells, mkT, lenA, binPV, Env.init, resV, resT, frT, klT, ownT, intT, O.adds, ownA, rowsA, over, wrOk, keysT, keysA, ne_eq, if_true, if_false, ite_self, Nat.reduceLT, Nat.reduceSub, Nat.reduceBEq, Nat.reduceEqDiff, Nat.reduceAdd, Nat.reduceLeDiff, reduceCtorEq, Nat.reduceMul]; done) | (simp [put_at, e1, s1, e3, e4, e5, k0]; done)
    by_cases k1 : x.k = 1
    · simp only [e1, s1, e3, e4, e5, k0, k1, Int.reduceEq, fxa, fxc, fxE, fxL, fxI, nxE, evO, evR, cellsT, ldCells, mkT, lenA, binPV, Env.init, resV, resT, frT, klT, ownT, intT, O.adds, ownA, rowsA, over, wrOk, keysT, keysA, ne_eq, if_true, if_false, ite_self, Nat.reduceLT, Nat.reduceSub, Nat.reduceBEq, Nat.reduceEqDiff, Nat.reduceAdd, Nat.reduceLeDiff, reduceCtorEq, Nat.reduceMul]
      unfold NdM
      repeat' apply And.intro
      all_goals first | (simp only [e1, s1, e3, e4, e5, k0, k1, fxa, fxc, fxE, fxL, fxI, nxE, evO, evR, cellsT, ldCells, mkT, lenA, binPV, Env.init, resV, resT, frT, klT, ownT, intT, O.adds, ownA, rowsA, over, wrOk, keysT, keysA, ne_eq, if_true, if_false, ite_self, Nat.reduceLT, Nat.reduceSub, Nat.reduceBEq, Nat.reduceEqDiff, Nat.reduceAdd, Nat.reduceLeDiff, reduceCtorEq, Nat.reduceMul]; done) | (simp [put_at, e1, s1, e3, e4, e5, k0, k1]; done)
    simp only [e1, s1, e3, e4, e5, k0, k1, fxa, fxc, fxE, fxL, fxI, nxE, evO, evR, cellsT, ldCells, mkT, lenA, binPV, Env.init, resV, resT, frT, klT, ownT, intT, O.adds, ownA, rowsA, over, wrOk, keysT, keysA, ne_eq, if_true, if_false, ite_self, Nat.reduceLT, Nat.reduceSub, Nat.reduceBEq, Nat.reduceEqDiff, Nat.reduceAdd, Nat.reduceLeDiff, reduceCtorEq, Nat.reduceMul]
    unfold NdM
    repeat' apply And.intro
    all_goals first | (simp only [e1, s1, e3, e4, e5, k0, k1, fxa, fxc, fxE, fxL, fxI, nxE, evO, evR, cellsT, ldCells, mkT, lenA, binPV, Env.init, resV, resT, frT, klT, ownT, intT, O.adds, ownA, rowsA, over, wrOk, keysT, keysA, ne_eq, if_true, if_false, ite_self, Nat.reduceLT, Nat.reduceSub, Nat.reduceBEq, Nat.reduceEqDiff, Nat.reduceAdd, Nat.reduceLeDiff, reduceCtorEq, Nat.reduceMul]; done) | (simp [put_at, e1, s1, e3, e4, e5, k0, k1]; done)
  clear e1 s1 e3 e4 e5
  obtain ⟨⟨e1, s1⟩, e3, e4, e5⟩ := hM
  obtain ⟨most, hmost⟩ : ∃ z : Int, (if x.k = 0 ∨ x.k = 1 then 0 else 60) = z := ⟨_, rfl⟩
  rw [hmost] at e5 ⊢
  obtain ⟨b3, hb3⟩ : ∃ b : Bool, decide (x.k = 8 ∨ x.k = 11 ∨ x.k = 12) = b := ⟨_, rfl⟩
  obtain ⟨b4, hb4⟩ : ∃ b : Bool, decide (x.k = 10 ∨ x.k = 12) = b := ⟨_, rfl⟩
  rw [hb3] at e3
  rw [hb4] at e4
  obtain ⟨p, hp⟩ : ∃ p : Prop, (((0 ≤ x.k ∧ x.k ≤ 13) ∧ altsP x) ∧ (0 ≤ x.lv ∧ x.lv ≤ most) ∧ (x.s ≠ [] ↔ (x.k = 8 ∨ x.k = 11 ∨ x.k = 12)) ∧ (x.n = 0 ∨ (x.k = 10 ∨ x.k = 12)) ∧ (x.k ≠ 8 ∨ (1 ≤ (x.to.length : Int) ∧ (x.to.length : Int) ≤ 9))) = p := ⟨_, rfl⟩
  have hp1 := hp
  rw [hp]
  by_cases hA : 0 ≤ x.lv ∧ x.lv ≤ most
  case neg =>
    have c2 := in_no hA
    simp only [e1, s1, e3, e4, e5, c2, fxa, fxc, fxE, fxL, fxI, nxE, evO, evR, cellsT, ldCells, mkT, lenA, binPV, Env.init, resV, resT, frT, klT, ownT, intT, O.adds, ownA, rowsA, over, wrOk, keysT, keysA, ne_eq, if_true, if_false, ite_self, Nat.reduceLT, Nat.reduceSub, Nat.reduceBEq, Nat.reduceEqDiff, Nat.reduceAdd, Nat.reduceLeDiff, reduceCtorEq, Nat.reduceMul]
    rw [← hp1]
    exact fun h => hA h.2.1
  have c2 := in_is hA
  by_cases hB : x.s ≠ [] ↔ (x.k = 8 ∨ x.k = 11 ∨ x.k = 12)
  case neg =>
    have hd : ((!decide (x.s = [])) = b3) = False := by
      rw [← hb3]
      refine propext ⟨fun h => hB ?_, fun h => h.elim⟩
      rw [Bool.eq_iff_iff] at h; simpa using h
    simp only [e1, s1, e3, e4, e5, c2, hd, fxa, fxc, fxE, fxL, fxI, nxE, evO, evR, cellsT, ldCells, mkT, lenA, binPV, Env.init, resV, resT, frT, klT, ownT, intT, O.adds, ownA, rowsA, over, wrOk, keysT, keysA, ne_eq, if_true, if_false, ite_self, Nat.reduceLT, Nat.reduceSub, Nat.reduceBEq, Nat.reduceEqDiff, Nat.reduceAdd, Nat.reduceLeDiff, reduceCtorEq, Nat.reduceMul]
    rw [← hp1]
    exact fun h => hB h.2.2.1
  have hd : ((!decide (x.s = [])) = b3) = True := by
    rw [← hb3]
    refine propext ⟨fun _ => trivial, fun _ => ?_⟩
    rw [Bool.eq_iff_iff]; simpa using hB
  by_cases hn : x.n = 0
  · by_cases h8 : x.k = 8
    · have c3 := in_ok (x.to.length : Int) 1 9
      simp only [e1, s1, e3, e4, e5, c2, hd, hn, h8, c3, fxa, fxc, fxE, fxL, fxI, nxE, evO, evR, cellsT, ldCells, mkT, lenA, binPV, Env.init, resV, resT, frT, klT, ownT, intT, O.adds, ownA, rowsA, over, wrOk, keysT, keysA, ne_eq, if_true, if_false, ite_self, Nat.reduceLT, Nat.reduceSub, Nat.reduceBEq, Nat.reduceEqDiff, Nat.reduceAdd, Nat.reduceLeDiff, reduceCtorEq, Nat.reduceMul]
      rw [← hp1, Bool.and_eq_true, decide_eq_true_eq, decide_eq_true_eq]
      exact ⟨fun h => ⟨⟨hk, ha⟩, hA, hB, .inl hn, .inr h⟩, fun h => by have := h.2.2.2.2; omega⟩
    · simp only [e1, s1, e3, e4, e5, c2, hd, hn, h8, fxa, fxc, fxE, fxL, fxI, nxE, evO, evR, cellsT, ldCells, mkT, lenA, binPV, Env.init, resV, resT, frT, klT, ownT, intT, O.adds, ownA, rowsA, over, wrOk, keysT, keysA, ne_eq, if_true, if_false, ite_self, Nat.reduceLT, Nat.reduceSub, Nat.reduceBEq, Nat.reduceEqDiff, Nat.reduceAdd, Nat.reduceLeDiff, reduceCtorEq, Nat.reduceMul]
      rw [← hp1]
      exact ⟨⟨hk, ha⟩, hA, hB, .inl hn, .inl h8⟩
  · by_cases hN : x.k = 10 ∨ x.k = 12
    · have h8 : ¬ x.k = 8 := by omega
      rw [decide_eq_true hN] at hb4; subst hb4
      simp only [e1, s1, e3, e4, e5, c2, hd, hn, h8, fxa, fxc, fxE, fxL, fxI, nxE, evO, evR, cellsT, ldCells, mkT, lenA, binPV, Env.init, resV, resT, frT, klT, ownT, intT, O.adds, ownA, rowsA, over, wrOk, keysT, keysA, ne_eq, if_true, if_false, ite_self, Nat.reduceLT, Nat.reduceSub, Nat.reduceBEq, Nat.reduceEqDiff, Nat.reduceAdd, Nat.reduceLeDiff, reduceCtorEq, Nat.reduceMul]
      rw [← hp1]
      exact ⟨⟨hk, ha⟩, hA, hB, .inr hN, .inl h8⟩
    · rw [decide_eq_false hN] at hb4; subst hb4
      simp only [e1, s1, e3, e4, e5, c2, hd, hn, fxa, fxc, fxE, fxL, fxI, nxE, evO, evR, cellsT, ldCells, mkT, lenA, binPV, Env.init, resV, resT, frT, klT, ownT, intT, O.adds, ownA, rowsA, over, wrOk, keysT, keysA, ne_eq, if_true, if_false, ite_self, Nat.reduceLT, Nat.reduceSub, Nat.reduceBEq, Nat.reduceEqDiff, Nat.reduceAdd, Nat.reduceLeDiff, reduceCtorEq, Nat.reduceMul]
      rw [← hp1]
      rintro ⟨_, _, _, h, _⟩
      rcases h with h | h
      · exact hn h
      · exact hN h

/-- a copy of a net's places -/
theorem copied_ok {n : Nt} (hn : n.ns.length * 88 + 88 ≤ 140737488355328) (σ : St) :
    ∃ σ', eS S (.f 98) [.g ((encT n).map .p)] σ = some (.g [.own (10, σ.clk + 3) 0 n.ns.length, .p (.i .i64 n.cap)], σ') ∧
      (σ'.bs (10, σ.clk + 3) = some (.row 6 25 (n.ns.map encN)) ∧ σ'.clk = σ.clk + 4 ∧ σ'.ls = σ.ls ∧ ∀ s : Key, s.2 < σ.clk → σ'.bs s = σ.bs s) := by
  refine x_fnR (fc := F98) rfl rfl ?_
  have hw : IntKind.i64.wrap ((n.ns.length : Int) + 1) = n.ns.length + 1 := wrap_in _ (by omega)
  have hb : (n.ns.length + 1 : Int) * 88 ≤ 140737488355328 := by omega
  have hb2 : n.ns.length * 88 ≤ 140737488355328 := by omega
  have h0 : (0 : Int) ≤ n.ns.length + 1 := by omega
  simp only [F98, hw, hb, hb2, h0, Int.cast_ofNat_Int, Int.le_refl, Int.toNat_zero, Nat.not_lt_zero, Nat.add_assoc, Nat.reduceAdd, fxa, fxc, fxE, fxL, fxI, nxE, evO, evR, cellsT, ldCells, mkT, lenA, binPV, Env.init, resV, resT, frT, klT, ownT, intT, O.adds, ownA, rowsA, over, wrOk, keysT, keysA, ne_eq, if_true, if_false, ite_self, Nat.reduceLT, Nat.reduceSub, Nat.reduceBEq, Nat.reduceEqDiff, Nat.reduceAdd, Nat.reduceLeDiff, reduceCtorEq, Nat.reduceMul]
  intro s hs
  have hne : ∀ d k : Nat, ¬ s = (d, σ.clk + k) := by rintro d k rfl; simp at hs; omega
  have hne0 : ∀ d : Nat, ¬ s = (d, σ.clk) := by rintro d rfl; simp at hs
  simp only [hne, hne0, if_false]

/-- slices.Clone of alternatives -/
theorem cloneA_ok (l : List Ar) (hl : l.length * 24 ≤ 140737488355328) : eP S 110 [.a (.l (l.map encA))] = some (.a (.l (l.map encA))) := by
  cases l with
  | nil => exact (eP_some S).2 ⟨1, rfl⟩
  | cons a r =>
    have key : ∀ σ : St, eS S (.f 110) [.a (.p (.l ((a :: r).map encA)))] σ = some (.a (.own (7, σ.clk + 1) 0 (r.length + 1)), ((σ.add 5 (.row 2 61 [])).kill (5, σ.clk)).add 7 (.row 2 61 ((a :: r).map encA))) := by
      intro σ
      refine x_fnX (fc := F110) rfl rfl ?_
      have hl' : (r.length + 1) * 24 ≤ 140737488355328 := hl
      have h2 := allA (a :: r)
      simp only [List.map_cons, List.all_cons, encA] at h2
      simp only [F110, nilA, hl', h2, fxa, fxc, fxE, fxL, fxI, nxE, evO, evR, cellsT, ldCells, mkT, lenA, binPV, Env.init, resV, resT, frT, klT, ownT, intT, O.adds, ownA, rowsA, over, wrOk, keysT, keysA, ne_eq, if_true, if_false, ite_self, Nat.reduceLT, Nat.reduceSub, Nat.reduceBEq, Nat.reduceEqDiff, Nat.reduceAdd, Nat.reduceLeDiff, reduceCtorEq, Nat.reduceMul]
    obtain ⟨k, hk⟩ := (eS_some S).1 (key .empty)
    refine (eP_some S).2 ⟨k + 1, ?_⟩
    have ho : S.orc 110 [.a (.l ((a :: r).map encA))] = none := rfl
    have hk' : evS S k (.f 110) ([PT.a (.l ((a :: r).map encA))].map ofPT) .empty = _ := hk
    simp only [evP, ho, hk', Option.bind_some]
    simp [frT, frA, St.add, St.put, St.kill, St.empty]
    exact List.take_of_length_le (by simp)

/-- slices.IndexFunc over places: the first one that is free -/
theorem indexN_ok (l : List Nd) (hl : l.length * 88 ≤ 140737488355328) (k : Key) (σ : St) (hk : σ.bs k = some (.row 6 25 (l.map encN))) :
    eS S (.f 111) [.a (.own k 0 l.length), .a (.fn 67 [])] σ = some (.a (.p (.i .i64 (idx (fun x : Nd => decide (x.k = 0)) l))), σ) := by
  refine x_fnX (fc := F111) rfl rfl ?_
  simp only [F111, fxa, fxc, fxE, fxL, fxI, nxE, evO, evR, cellsT, ldCells, mkT, lenA, binPV, Env.init, resV, resT, frT, klT, ownT, intT, O.adds, ownA, rowsA, over, wrOk, keysT, keysA, ne_eq, if_true, if_false, ite_self, Nat.reduceLT, Nat.reduceSub, Nat.reduceBEq, Nat.reduceEqDiff, Nat.reduceAdd, Nat.reduceLeDiff, reduceCtorEq, Nat.reduceMul]
  refine loop_nat l.length (fun i e σ' => σ' = σ ∧ e 0 = .a (.own k 0 l.length) ∧ e 1 = .a (.fn 67 []) ∧ e 7 = .a (.p (.i .i64 l.length)) ∧ e 8 = .a (.p (.i .i64 (i : Nat))) ∧ ∀ j x, j < i → l[j]? = some x → decide (x.k = 0) = false) (i0 := 0) (Nat.zero_le _) ?_ ?_ ?_
  · refine ⟨rfl, ?_, ?_, ?_, ?_, fun j x hj => by omega⟩ <;> simp only [fxa, fxc, fxE, fxL, fxI, nxE, evO, evR, cellsT, ldCells, mkT, lenA, binPV, Env.init, resV, resT, frT, klT, ownT, intT, O.adds, ownA, rowsA, over, wrOk, keysT, keysA, ne_eq, if_true, if_false, ite_self, Nat.reduceLT, Nat.reduceSub, Nat.reduceBEq, Nat.reduceEqDiff, Nat.reduceAdd, Nat.reduceLeDiff, reduceCtorEq, Nat.reduceMul]
    rfl
  · rintro i e σ' hi ⟨rfl, e0, e1, e7, e8, hall⟩
    have hlt : ((i : Nat) : Int) < (l.length : Int) := by omega
    have hge : (0 : Int) ≤ ((i : Nat) : Int) := by omega
    obtain ⟨x, hx⟩ : ∃ x, l[i]? = some x := ⟨_, List.getElem?_eq_getElem hi⟩
    have hx' := mapGet encN hx
    have c1 := sfree_ok x
    simp only [encN] at c1
    by_cases hf : x.k = 0
    · rw [hf] at c1
      simp only [F111b0, e0, e1, e7, e8, hk, hlt, hge, hx', c1, hf, rowK, fxa, fxc, fxE, fxL, fxI, nxE, evO, evR, cellsT, ldCells, mkT, lenA, binPV, Env.init, resV, resT, frT, klT, ownT, intT, O.adds, ownA, rowsA, over, wrOk, keysT, keysA, ne_eq, if_true, if_false, ite_self, Nat.reduceLT, Nat.reduceSub, Nat.reduceBEq, Nat.reduceEqDiff, Nat.reduceAdd, Nat.reduceLeDiff, reduceCtorEq, Nat.reduceMul]
      have : l.findIdx? (fun x : Nd => decide (x.k = 0)) = some i := by
        rw [List.findIdx?_eq_some_iff_getElem]
        refine ⟨hi, ?_, fun j hj => ?_⟩
        · rw [List.getElem?_eq_getElem hi] at hx; rw [Option.some.inj hx]; simpa using hf
        · rw [hall j _ hj (List.getElem?_eq_getElem (by omega))]; simp
      simp only [idx, this]
    · simp only [F111b0, e0, e1, e7, e8, hk, hlt, hge, hx', c1, hf, rowK, fxa, fxc, fxE, fxL, fxI, nxE, evO, evR, cellsT, ldCells, mkT, lenA, binPV, Env.init, resV, resT, frT, klT, ownT, intT, O.adds, ownA, rowsA, over, wrOk, keysT, keysA, ne_eq, if_true, if_false, ite_self, Nat.reduceLT, Nat.reduceSub, Nat.reduceBEq, Nat.reduceEqDiff, Nat.reduceAdd, Nat.reduceLeDiff, reduceCtorEq, Nat.reduceMul]
      refine ⟨by rw [wrap_succ i (by omega)], fun j y hj hy => ?_⟩
      by_cases e : j = i
      · subst e; rw [hx] at hy; rw [← Option.some.inj hy]; simpa using hf
      · exact hall j y (by omega) hy
  · rintro e σ' ⟨rfl, e0, e1, e7, e8, hall⟩
    have hlt : ¬ ((l.length : Nat) : Int) < (l.length : Int) := by omega
    simp only [F111b0, e0, e1, e7, e8, hlt, fxa, fxc, fxE, fxL, fxI, nxE, evO, evR, cellsT, ldCells, mkT, lenA, binPV, Env.init, resV, resT, frT, klT, ownT, intT, O.adds, ownA, rowsA, over, wrOk, keysT, keysA, ne_eq, if_true, if_false, ite_self, Nat.reduceLT, Nat.reduceSub, Nat.reduceBEq, Nat.reduceEqDiff, Nat.reduceAdd, Nat.reduceLeDiff, reduceCtorEq, Nat.reduceMul]
    have : l.findIdx? (fun x : Nd => decide (x.k = 0)) = none := by
      rw [List.findIdx?_eq_none_iff]
      intro x hx
      obtain ⟨j, hj⟩ := List.getElem?_of_mem hx
      exact hall j x (List.getElem?_eq_some_iff.1 hj).1 hj
    simp only [idx, this]

end Go.Proofs.Ytomcceambpneiaa
