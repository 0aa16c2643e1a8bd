/- The law RuleKinds, as the evaluator has it. -/
import Derived.Test.YtomcceambpneiaaRuleK
set_option linter.unusedSimpArgs false
set_option linter.unusedVariables false
set_option maxHeartbeats 4000000
set_option maxRecDepth 10000
namespace Go.Proofs.Ytomcceambpneiaa
open Go.Fx

/-- what is told of a plan of x, the first one, and y -/
def KindP (x y : Nd) (p : Pl) : Prop :=
  (p.k = 8 ∧ x.k = 7) ∨ (p.k = 6 ∧ cls x.k = 3 ∧ x.k = y.k ∧ x.lv = y.lv) ∨ (p.k = 7 ∧ cls x.k = 3 ∧ x.lv < y.lv ∧ 0 ≤ p.lv ∧ p.lv ≤ 60 ∧ x.lv ≤ p.lv) ∨
  (p.k = 4 ∧ x.k = 12 ∧ p.nd.lv = x.lv ∧ p.nd.may ∧ (p.nd.k = 10 ∨ p.nd.to.length = 1)) ∨ (¬ p.k = 8 ∧ ¬ p.k = 6 ∧ ¬ p.k = 7 ∧ ¬ p.k = 4 ∧ cls x.k = 1 ∧ cls y.k = 2 ∧ 1 ≤ p.k ∧ p.k ≤ 5)

theorem out_may {x y : Nd} (hx : x.may) : ({ outN x y with lv := x.lv } : Nd).may ∧ ((outN x y).k = 10 ∨ (outN x y).to.length = 1) := by
  have h0 := hx.lv0
  have h1 := hx.lv1
  have int : ∀ z : Int, (⟨10, x.lv, z, [], [], []⟩ : Nd).may := fun z => ⟨by show (0 : Int) ≤ 10; omega, by show (10 : Int) ≤ 13; omega, h0, h1, fun h => by have h : (10 : Int) < 2 := h; omega, by simp, fun _ => .inl rfl, fun h => by have h : (10 : Int) = 8 := h; omega, fun h => by have h : (10 : Int) = 9 := h; omega, fun _ => by simp, by simp, fun i a h => by simp at h⟩
  have tr : ∀ b : Bool, ({ truthN b with lv := x.lv } : Nd).may := fun b => ⟨by show (0 : Int) ≤ 8; omega, by show (8 : Int) ≤ 13; omega, h0, h1, fun h => by have h : (8 : Int) < 2 := h; omega, by simp [truthN]; cases b <;> simp, fun h => absurd rfl h, fun _ => by simp [truthN], fun h => by have h : (8 : Int) = 9 := h; omega, fun _ => by simp [truthN], by simp [truthN], fun i a h => by simp [truthN] at h⟩
  unfold outN
  split
  · exact ⟨int _, .inl rfl⟩
  split
  · exact ⟨int _, .inl rfl⟩
  split
  · exact ⟨int _, .inl rfl⟩
  split
  · exact ⟨int _, .inl rfl⟩
  split
  · exact ⟨tr _, .inr rfl⟩
  split
  · exact ⟨tr _, .inr rfl⟩
  · exact ⟨int _, .inl rfl⟩

theorem src_kind {x y : Nd} (hx : x.may) (hy : y.may) {r : Pl × Int} (h : Src x y r) : (r.2 = 0 ∨ r.2 = 140 ∨ r.2 = 141) ∧ (r.2 = 0 → KindP x y r.1) ∧ r.1.sw = false := by
  have y0 := hy.lv0
  have y1 := hy.lv1
  have x0 := hx.lv0
  cases h with
  | no => exact ⟨.inr (.inl rfl), fun h => by have h : (140 : Int) = 0 := h; omega, rfl⟩
  | drop h => exact ⟨.inl rfl, fun _ => .inl ⟨rfl, h⟩, rfl⟩
  | join h1 h2 h3 => exact ⟨.inl rfl, fun _ => .inr (.inl ⟨rfl, h1, h2, h3⟩), rfl⟩
  | pass h1 =>
    unfold passR
    split
    · exact ⟨.inr (.inl rfl), fun h => by have h : (140 : Int) = 0 := h; omega, rfl⟩
    split
    · exact ⟨.inr (.inr rfl), fun h => by have h : (141 : Int) = 0 := h; omega, rfl⟩
    · rename_i h2 h3
      rw [passLv_in ⟨y0, y1⟩] at h3 ⊢
      refine ⟨.inl rfl, fun _ => .inr (.inr (.inl ⟨rfl, h1, by omega, ?_, ?_, ?_⟩)), rfl⟩ <;> simp only <;> split <;> first | omega | (split <;> omega)
  | ask h1 h2 =>
    have oth : ∀ k : Int, 1 ≤ k → k ≤ 5 → ¬ k = 4 → KindP x y ⟨k, false, 0, 0, zN⟩ := fun k a b c => .inr (.inr (.inr (.inr ⟨by simp only; omega, by simp only; omega, by simp only; omega, c, h1, h2, a, b⟩)))
    have pl : ∀ k : Int, 1 ≤ k → k ≤ 5 → ¬ k = 4 → ((plainR k).2 = 0 ∨ (plainR k).2 = 140 ∨ (plainR k).2 = 141) ∧ ((plainR k).2 = 0 → KindP x y (plainR k).1) ∧ (plainR k).1.sw = false := fun k a b c => ⟨.inl rfl, fun _ => oth k a b c, rfl⟩
    have no : ((noR 140).2 = 0 ∨ (noR 140).2 = 140 ∨ (noR 140).2 = 141) ∧ ((noR 140).2 = 0 → KindP x y (noR 140).1) ∧ (noR 140).1.sw = false := ⟨.inr (.inl rfl), fun h => by have h : (140 : Int) = 0 := h; omega, rfl⟩
    unfold askR pickR outR
    split
    · split
      · exact no
      · exact pl 1 (by omega) (by omega) (by omega)
    split
    · split
      · exact no
      · split
        · exact pl 5 (by omega) (by omega) (by omega)
        · exact ⟨.inl rfl, fun _ => .inr (.inr (.inr (.inr ⟨by show ¬ (2 : Int) = 8; omega, by show ¬ (2 : Int) = 6; omega, by show ¬ (2 : Int) = 7; omega, by show ¬ (2 : Int) = 4; omega, h1, h2, by show (1 : Int) ≤ 2; omega, by show (2 : Int) ≤ 5; omega⟩))), rfl⟩
    split
    · exact pl 3 (by omega) (by omega) (by omega)
    split
    · rename_i h12
      split
      · exact pl 5 (by omega) (by omega) (by omega)
      · have := out_may (y := y) hx
        exact ⟨.inl rfl, fun _ => .inr (.inr (.inr (.inl ⟨rfl, h12.1, rfl, this.1, this.2⟩))), rfl⟩
    · exact pl 5 (by omega) (by omega) (by omega)

theorem ruleKinds_law {a b : Nd} (ha : a.Ok) (hb : b.Ok) : eP S 4 [.g (encN a), .g (encN b)] = some (.a (.b true)) := by
  have f0 := fixed14_ok
  have a1 := RNode_ok ha
  have a2 := RNode_ok hb
  refine x_fn (orcS (by decide)) (fc := F4) rfl rfl ?_
  by_cases h1 : a.may
  case neg =>
    rw [bool_f h1] at a1
    simp only [encN] at a1
    simp only [F4, f0, a1, fxa, fxc, fxE, fxL, fxI, nxE, evO, evR, cellsT, ldCells, mkT, lenA, binPV, Env.init, resV, resT, frT, klT, ownT, intT, O.adds, ownA, rowsA, over, wrOk, keysT, keysA, ne_eq, if_true, if_false, ite_self, Nat.reduceLT, Nat.reduceSub, Nat.reduceBEq, Nat.reduceEqDiff, Nat.reduceAdd, Nat.reduceLeDiff, reduceCtorEq, Nat.reduceMul]
  rw [bool_t h1] at a1
  by_cases h2 : b.may
  case neg =>
    rw [bool_f h2] at a2
    simp only [encN] at a1 a2
    simp only [F4, f0, a1, a2, fxa, fxc, fxE, fxL, fxI, nxE, evO, evR, cellsT, ldCells, mkT, lenA, binPV, Env.init, resV, resT, frT, klT, ownT, intT, O.adds, ownA, rowsA, over, wrOk, keysT, keysA, ne_eq, if_true, if_false, ite_self, Nat.reduceLT, Nat.reduceSub, Nat.reduceBEq, Nat.reduceEqDiff, Nat.reduceAdd, Nat.reduceLeDiff, reduceCtorEq, Nat.reduceMul]
  rw [bool_t h2] at a2
  have c1 := Of_ok ha hb
  have w1 := of_nd ha hb
  obtain ⟨⟨p, e⟩, hp⟩ : ∃ z, ofR a b = z := ⟨_, rfl⟩
  have key : (e = 0 ∨ e = 140 ∨ e = 141) ∧ (e = 0 → (p.sw = false ∧ KindP a b p) ∨ (p.sw = true ∧ KindP b a p)) := by
    rcases of_src a b with h | ⟨r, h, e1⟩
    · rw [hp] at h
      obtain ⟨q1, q2, q3⟩ := src_kind h1 h2 h
      exact ⟨q1, fun h => .inl ⟨q3, q2 h⟩⟩
    · obtain ⟨q1, q2, q3⟩ := src_kind h2 h1 h
      rw [hp] at e1
      unfold swapR at e1
      split at e1
      · rename_i h0
        have e2 : p = ⟨r.1.k, true, r.1.lv, r.1.alt, r.1.nd⟩ := congrArg Prod.fst e1
        have e3 : e = 0 := congrArg Prod.snd e1
        exact ⟨.inl e3, fun _ => .inr ⟨by rw [e2], by rw [e2]; exact q2 h0⟩⟩
      · rename_i h0
        have e3 : e = r.2 := congrArg Prod.snd e1
        rw [e3]; exact ⟨q1, fun h => absurd h h0⟩
  rw [hp] at c1 w1
  obtain ⟨k1, k2⟩ := key
  simp only [encLE, encL, encN] at a1 a2 c1
  by_cases he : e = 0
  case neg =>
    rcases k1 with rfl | rfl | rfl
    · exact absurd rfl he
    · simp only [F4, f0, a1, a2, c1, Int.reduceEq, fxa, fxc, fxE, fxL, fxI, nxE, evO, evR, cellsT, ldCells, mkT, lenA, binPV, Env.init, resV, resT, frT, klT, ownT, intT, O.adds, ownA, rowsA, over, wrOk, keysT, keysA, ne_eq, if_true, if_false, ite_self, Nat.reduceLT, Nat.reduceSub, Nat.reduceBEq, Nat.reduceEqDiff, Nat.reduceAdd, Nat.reduceLeDiff, reduceCtorEq, Nat.reduceMul]
    · simp only [F4, f0, a1, a2, c1, Int.reduceEq, fxa, fxc, fxE, fxL, fxI, nxE, evO, evR, cellsT, ldCells, mkT, lenA, binPV, Env.init, resV, resT, frT, klT, ownT, intT, O.adds, ownA, rowsA, over, wrOk, keysT, keysA, ne_eq, if_true, if_false, ite_self, Nat.reduceLT, Nat.reduceSub, Nat.reduceBEq, Nat.reduceEqDiff, Nat.reduceAdd, Nat.reduceLeDiff, reduceCtorEq, Nat.reduceMul]
  subst he
  have d0 := RNode_ok w1
  have da := control_ok a.k
  have db := control_ok b.k
  have ea := asks_ok a.k
  have eb := asks_ok b.k
  have ta := told_ok a.k
  have tb := told_ok b.k
  simp only [encN] at d0
  rcases k2 rfl with ⟨hsw, hK⟩ | ⟨hsw, hK⟩
  · rcases hK with ⟨q1, q2⟩ | ⟨q1, q2, q3, q4⟩ | ⟨q1, q2, q3, q4, q5, q6⟩ | ⟨q1, q2, q3, q4, q5⟩ | ⟨q1, q2, q3, q4, q5, q6, q7, q8⟩
    · rw [q1] at c1
      rw [q2] at a1 c1
      simp only [F4, f0, a1, a2, c1, hsw, q1, q2, Int.reduceEq, fxa, fxc, fxE, fxL, fxI, nxE, evO, evR, cellsT, ldCells, mkT, lenA, binPV, Env.init, resV, resT, frT, klT, ownT, intT, O.adds, ownA, rowsA, over, wrOk, keysT, keysA, ne_eq, if_true, if_false, ite_self, Nat.reduceLT, Nat.reduceSub, Nat.reduceBEq, Nat.reduceEqDiff, Nat.reduceAdd, Nat.reduceLeDiff, reduceCtorEq, Nat.reduceMul]
    · rw [decide_eq_true q2] at da
      rw [q1] at c1
      rw [q3, q4] at a1 c1
      rw [q3] at da
      simp only [F4, f0, a1, a2, c1, hsw, q1, q3, q4, da, Int.reduceEq, fxa, fxc, fxE, fxL, fxI, nxE, evO, evR, cellsT, ldCells, mkT, lenA, binPV, Env.init, resV, resT, frT, klT, ownT, intT, O.adds, ownA, rowsA, over, wrOk, keysT, keysA, ne_eq, if_true, if_false, ite_self, Nat.reduceLT, Nat.reduceSub, Nat.reduceBEq, Nat.reduceEqDiff, Nat.reduceAdd, Nat.reduceLeDiff, reduceCtorEq, Nat.reduceMul]
    · rw [decide_eq_true q2] at da
      have q4' : p.lv ≥ 0 := q4
      have q6' : p.lv ≥ a.lv := q6
      rw [q1] at c1
      simp only [F4, f0, a1, a2, c1, hsw, q1, q3, q4', q5, q6', da, Int.reduceEq, fxa, fxc, fxE, fxL, fxI, nxE, evO, evR, cellsT, ldCells, mkT, lenA, binPV, Env.init, resV, resT, frT, klT, ownT, intT, O.adds, ownA, rowsA, over, wrOk, keysT, keysA, ne_eq, if_true, if_false, ite_self, Nat.reduceLT, Nat.reduceSub, Nat.reduceBEq, Nat.reduceEqDiff, Nat.reduceAdd, Nat.reduceLeDiff, reduceCtorEq, Nat.reduceMul]
    · rw [bool_t q4] at d0
      rw [q1] at c1
      rw [q2] at a1 c1
      rcases q5 with q5 | q5
      · rw [q5] at c1 d0
        rw [q3] at c1 d0
        simp only [F4, f0, a1, a2, c1, d0, hsw, q1, q2, q3, q5, Int.reduceEq, fxa, fxc, fxE, fxL, fxI, nxE, evO, evR, cellsT, ldCells, mkT, lenA, binPV, Env.init, resV, resT, frT, klT, ownT, intT, O.adds, ownA, rowsA, over, wrOk, keysT, keysA, ne_eq, if_true, if_false, ite_self, Nat.reduceLT, Nat.reduceSub, Nat.reduceBEq, Nat.reduceEqDiff, Nat.reduceAdd, Nat.reduceLeDiff, reduceCtorEq, Nat.reduceMul]
      · have hl : (p.nd.to.length : Int) = 1 := by omega
        rw [q3] at c1 d0
        by_cases h10 : p.nd.k = 10
        · rw [h10] at c1 d0
          simp only [F4, f0, a1, a2, c1, d0, hsw, q1, q2, q3, h10, Int.reduceEq, fxa, fxc, fxE, fxL, fxI, nxE, evO, evR, cellsT, ldCells, mkT, lenA, binPV, Env.init, resV, resT, frT, klT, ownT, intT, O.adds, ownA, rowsA, over, wrOk, keysT, keysA, ne_eq, if_true, if_false, ite_self, Nat.reduceLT, Nat.reduceSub, Nat.reduceBEq, Nat.reduceEqDiff, Nat.reduceAdd, Nat.reduceLeDiff, reduceCtorEq, Nat.reduceMul]
        · simp only [F4, f0, a1, a2, c1, d0, hsw, q1, q2, q3, h10, hl, Int.reduceEq, fxa, fxc, fxE, fxL, fxI, nxE, evO, evR, cellsT, ldCells, mkT, lenA, binPV, Env.init, resV, resT, frT, klT, ownT, intT, O.adds, ownA, rowsA, over, wrOk, keysT, keysA, ne_eq, if_true, if_false, ite_self, Nat.reduceLT, Nat.reduceSub, Nat.reduceBEq, Nat.reduceEqDiff, Nat.reduceAdd, Nat.reduceLeDiff, reduceCtorEq, Nat.reduceMul]
    · rw [decide_eq_true q5] at ea
      rw [decide_eq_true q6] at tb
      have q7' : p.k ≥ 1 := q7
      simp only [F4, f0, a1, a2, c1, hsw, q1, q2, q3, q4, q7', q8, ea, tb, Int.reduceEq, fxa, fxc, fxE, fxL, fxI, nxE, evO, evR, cellsT, ldCells, mkT, lenA, binPV, Env.init, resV, resT, frT, klT, ownT, intT, O.adds, ownA, rowsA, over, wrOk, keysT, keysA, ne_eq, if_true, if_false, ite_self, Nat.reduceLT, Nat.reduceSub, Nat.reduceBEq, Nat.reduceEqDiff, Nat.reduceAdd, Nat.reduceLeDiff, reduceCtorEq, Nat.reduceMul]
  · rcases hK with ⟨q1, q2⟩ | ⟨q1, q2, q3, q4⟩ | ⟨q1, q2, q3, q4, q5, q6⟩ | ⟨q1, q2, q3, q4, q5⟩ | ⟨q1, q2, q3, q4, q5, q6, q7, q8⟩
    · rw [q1] at c1
      rw [q2] at a2 c1
      simp only [F4, f0, a1, a2, c1, hsw, q1, q2, Int.reduceEq, fxa, fxc, fxE, fxL, fxI, nxE, evO, evR, cellsT, ldCells, mkT, lenA, binPV, Env.init, resV, resT, frT, klT, ownT, intT, O.adds, ownA, rowsA, over, wrOk, keysT, keysA, ne_eq, if_true, if_false, ite_self, Nat.reduceLT, Nat.reduceSub, Nat.reduceBEq, Nat.reduceEqDiff, Nat.reduceAdd, Nat.reduceLeDiff, reduceCtorEq, Nat.reduceMul]
    · rw [decide_eq_true q2] at db
      rw [q1] at c1
      rw [q3, q4] at a2 c1
      rw [q3] at db
      simp only [F4, f0, a1, a2, c1, hsw, q1, q3, q4, db, Int.reduceEq, fxa, fxc, fxE, fxL, fxI, nxE, evO, evR, cellsT, ldCells, mkT, lenA, binPV, Env.init, resV, resT, frT, klT, ownT, intT, O.adds, ownA, rowsA, over, wrOk, keysT, keysA, ne_eq, if_true, if_false, ite_self, Nat.reduceLT, Nat.reduceSub, Nat.reduceBEq, Nat.reduceEqDiff, Nat.reduceAdd, Nat.reduceLeDiff, reduceCtorEq, Nat.reduceMul]
    · rw [decide_eq_true q2] at db
      have q4' : p.lv ≥ 0 := q4
      have q6' : p.lv ≥ b.lv := q6
      rw [q1] at c1
      simp only [F4, f0, a1, a2, c1, hsw, q1, q3, q4', q5, q6', db, Int.reduceEq, fxa, fxc, fxE, fxL, fxI, nxE, evO, evR, cellsT, ldCells, mkT, lenA, binPV, Env.init, resV, resT, frT, klT, ownT, intT, O.adds, ownA, rowsA, over, wrOk, keysT, keysA, ne_eq, if_true, if_false, ite_self, Nat.reduceLT, Nat.reduceSub, Nat.reduceBEq, Nat.reduceEqDiff, Nat.reduceAdd, Nat.reduceLeDiff, reduceCtorEq, Nat.reduceMul]
    · rw [bool_t q4] at d0
      rw [q1] at c1
      rw [q2] at a2 c1
      rcases q5 with q5 | q5
      · rw [q5] at c1 d0
        rw [q3] at c1 d0
        simp only [F4, f0, a1, a2, c1, d0, hsw, q1, q2, q3, q5, Int.reduceEq, fxa, fxc, fxE, fxL, fxI, nxE, evO, evR, cellsT, ldCells, mkT, lenA, binPV, Env.init, resV, resT, frT, klT, ownT, intT, O.adds, ownA, rowsA, over, wrOk, keysT, keysA, ne_eq, if_true, if_false, ite_self, Nat.reduceLT, Nat.reduceSub, Nat.reduceBEq, Nat.reduceEqDiff, Nat.reduceAdd, Nat.reduceLeDiff, reduceCtorEq, Nat.reduceMul]
      · have hl : (p.nd.to.length : Int) = 1 := by omega
        rw [q3] at c1 d0
        by_cases h10 : p.nd.k = 10
        · rw [h10] at c1 d0
          simp only [F4, f0, a1, a2, c1, d0, hsw, q1, q2, q3, h10, Int.reduceEq, fxa, fxc, fxE, fxL, fxI, nxE, evO, evR, cellsT, ldCells, mkT, lenA, binPV, Env.init, resV, resT, frT, klT, ownT, intT, O.adds, ownA, rowsA, over, wrOk, keysT, keysA, ne_eq, if_true, if_false, ite_self, Nat.reduceLT, Nat.reduceSub, Nat.reduceBEq, Nat.reduceEqDiff, Nat.reduceAdd, Nat.reduceLeDiff, reduceCtorEq, Nat.reduceMul]
        · simp only [F4, f0, a1, a2, c1, d0, hsw, q1, q2, q3, h10, hl, Int.reduceEq, fxa, fxc, fxE, fxL, fxI, nxE, evO, evR, cellsT, ldCells, mkT, lenA, binPV, Env.init, resV, resT, frT, klT, ownT, intT, O.adds, ownA, rowsA, over, wrOk, keysT, keysA, ne_eq, if_true, if_false, ite_self, Nat.reduceLT, Nat.reduceSub, Nat.reduceBEq, Nat.reduceEqDiff, Nat.reduceAdd, Nat.reduceLeDiff, reduceCtorEq, Nat.reduceMul]
    · rw [decide_eq_true q5] at eb
      rw [decide_eq_true q6] at ta
      have q7' : p.k ≥ 1 := q7
      simp only [F4, f0, a1, a2, c1, hsw, q1, q2, q3, q4, q7', q8, eb, ta, Int.reduceEq, fxa, fxc, fxE, fxL, fxI, nxE, evO, evR, cellsT, ldCells, mkT, lenA, binPV, Env.init, resV, resT, frT, klT, ownT, intT, O.adds, ownA, rowsA, over, wrOk, keysT, keysA, ne_eq, if_true, if_false, ite_self, Nat.reduceLT, Nat.reduceSub, Nat.reduceBEq, Nat.reduceEqDiff, Nat.reduceAdd, Nat.reduceLeDiff, reduceCtorEq, Nat.reduceMul]

end Go.Proofs.Ytomcceambpneiaa
