/- The law RuleTurns, as the evaluator has it. -/
import Derived.Test.YtomcceambpneiaaRuleP
set_option linter.unusedSimpArgs false
set_option linter.unusedVariables false
set_option maxHeartbeats 4000000
set_option maxRecDepth 10000
namespace Go.Proofs.Ytomcceambpneiaa
open Go.Fx

theorem fixed14_ok : eP S 11 [] = some (.a (.b true)) := (eP_some S).2 ⟨60, by kernel_rfl⟩

def sm14 (x : Nd) : Prop := (x.to.length : Int) ≤ 20 ∧ (x.al.length : Int) ≤ 20 ∧ x.lv ≤ 1000 ∧ x.lv ≥ -1000
theorem small14_ok (x : Nd) : eP S 12 [.g (encN x)] = some (.a (.b (bool (sm14 x)))) := by
  refine x_fnB (orcS (by decide)) (fc := F12) rfl rfl ?_
  by_cases h1 : (x.to.length : Int) ≤ 20
  case neg => simp only [F12, h1, fxa, fxc, fxE, fxL, fxI, nxE, evO, evR, cellsT, ldCells, mkT, lenA, binPV, Env.init, resV, resT, frT, klT, ownT, intT, O.adds, ownA, rowsA, over, wrOk, keysT, keysA, ne_eq, if_true, if_false, ite_self, Nat.reduceLT, Nat.reduceSub, Nat.reduceBEq, Nat.reduceEqDiff, Nat.reduceAdd, Nat.reduceLeDiff, reduceCtorEq, Nat.reduceMul]; exact fun h => h1 h.1
  by_cases h2 : (x.al.length : Int) ≤ 20
  case neg => simp only [F12, h1, h2, fxa, fxc, fxE, fxL, fxI, nxE, evO, evR, cellsT, ldCells, mkT, lenA, binPV, Env.init, resV, resT, frT, klT, ownT, intT, O.adds, ownA, rowsA, over, wrOk, keysT, keysA, ne_eq, if_true, if_false, ite_self, Nat.reduceLT, Nat.reduceSub, Nat.reduceBEq, Nat.reduceEqDiff, Nat.reduceAdd, Nat.reduceLeDiff, reduceCtorEq, Nat.reduceMul]; exact fun h => h2 h.2.1
  by_cases h3 : x.lv ≤ 1000
  case neg => simp only [F12, h1, h2, h3, fxa, fxc, fxE, fxL, fxI, nxE, evO, evR, cellsT, ldCells, mkT, lenA, binPV, Env.init, resV, resT, frT, klT, ownT, intT, O.adds, ownA, rowsA, over, wrOk, keysT, keysA, ne_eq, if_true, if_false, ite_self, Nat.reduceLT, Nat.reduceSub, Nat.reduceBEq, Nat.reduceEqDiff, Nat.reduceAdd, Nat.reduceLeDiff, reduceCtorEq, Nat.reduceMul]; exact fun h => h3 h.2.2.1
  by_cases h4 : x.lv ≥ -1000
  · simp only [F12, h1, h2, h3, h4, fxa, fxc, fxE, fxL, fxI, nxE, evO, evR, cellsT, ldCells, mkT, lenA, binPV, Env.init, resV, resT, frT, klT, ownT, intT, O.adds, ownA, rowsA, over, wrOk, keysT, keysA, ne_eq, if_true, if_false, ite_self, Nat.reduceLT, Nat.reduceSub, Nat.reduceBEq, Nat.reduceEqDiff, Nat.reduceAdd, Nat.reduceLeDiff, reduceCtorEq, Nat.reduceMul]; exact ⟨h1, h2, h3, h4⟩
  · simp only [F12, h1, h2, h3, h4, fxa, fxc, fxE, fxL, fxI, nxE, evO, evR, cellsT, ldCells, mkT, lenA, binPV, Env.init, resV, resT, frT, klT, ownT, intT, O.adds, ownA, rowsA, over, wrOk, keysT, keysA, ne_eq, if_true, if_false, ite_self, Nat.reduceLT, Nat.reduceSub, Nat.reduceBEq, Nat.reduceEqDiff, Nat.reduceAdd, Nat.reduceLeDiff, reduceCtorEq, Nat.reduceMul]; exact fun h => h4 h.2.2.2

def tame14 (x : Nd) : Prop := ∀ (i : Nat) (a : Ar), x.al[i]? = some a → a.n ≤ 1000 ∧ a.n ≥ -1000
theorem tame14_ok {x : Nd} (hx : x.Ok) : eP S 13 [.g (encN x)] = some (.a (.b (bool (tame14 x)))) := by
  refine x_fnB (orcS (by decide)) (fc := F13) rfl rfl ?_
  have hal := hx.al
  simp only [F13, fxa, fxc, fxE, fxL, fxI, nxE, evO, evR, cellsT, ldCells, mkT, lenA, binPV, Env.init, resV, resT, frT, klT, ownT, intT, O.adds, ownA, rowsA, over, wrOk, keysT, keysA, ne_eq, if_true, if_false, ite_self, Nat.reduceLT, Nat.reduceSub, Nat.reduceBEq, Nat.reduceEqDiff, Nat.reduceAdd, Nat.reduceLeDiff, reduceCtorEq, Nat.reduceMul]
  refine loop_nat x.al.length (fun i e σ => e 1 = .a (.ptr (1, 0) 0 0) ∧ e 3 = .a (.p (.i .i64 (i : Nat))) ∧ σ.bs (1, 0) = some (.var ((encN x).map .p)) ∧ ∀ (j : Nat) (a : Ar), j < i → x.al[j]? = some a → a.n ≤ 1000 ∧ a.n ≥ -1000) (i0 := 0) (Nat.zero_le _) ?_ ?_ ?_
  · refine ⟨?_, ?_, ?_, fun j a hj => by omega⟩ <;> simp only [fxa, fxc, fxE, fxL, fxI, nxE, evO, evR, cellsT, ldCells, mkT, lenA, binPV, Env.init, resV, resT, frT, klT, ownT, intT, O.adds, ownA, rowsA, over, wrOk, keysT, keysA, ne_eq, if_true, if_false, ite_self, Nat.reduceLT, Nat.reduceSub, Nat.reduceBEq, Nat.reduceEqDiff, Nat.reduceAdd, Nat.reduceLeDiff, reduceCtorEq, Nat.reduceMul]
    rfl
  · rintro i e σ hi ⟨e1, e3, s1, hall⟩
    obtain ⟨a, ha⟩ : ∃ a, x.al[i]? = some a := ⟨_, List.getElem?_eq_getElem hi⟩
    have ha' := mapGet encA ha
    have hlt : ((i : Nat) : Int) < (x.al.length : Int) := by omega
    have hge : (0 : Int) ≤ ((i : Nat) : Int) := by omega
    simp only [encN, List.map_cons, List.map_nil] at s1
    by_cases h1 : a.n > 1000
    · simp only [F13b0, e1, e3, s1, hlt, hge, ha', h1, fxa, fxc, fxE, fxL, fxI, nxE, evO, evR, cellsT, ldCells, mkT, lenA, binPV, Env.init, resV, resT, frT, klT, ownT, intT, O.adds, ownA, rowsA, over, wrOk, keysT, keysA, ne_eq, if_true, if_false, ite_self, Nat.reduceLT, Nat.reduceSub, Nat.reduceBEq, Nat.reduceEqDiff, Nat.reduceAdd, Nat.reduceLeDiff, reduceCtorEq, Nat.reduceMul]
      intro hP; have := hP i a ha; omega
    by_cases h2 : a.n < -1000
    · simp only [F13b0, e1, e3, s1, hlt, hge, ha', h1, h2, fxa, fxc, fxE, fxL, fxI, nxE, evO, evR, cellsT, ldCells, mkT, lenA, binPV, Env.init, resV, resT, frT, klT, ownT, intT, O.adds, ownA, rowsA, over, wrOk, keysT, keysA, ne_eq, if_true, if_false, ite_self, Nat.reduceLT, Nat.reduceSub, Nat.reduceBEq, Nat.reduceEqDiff, Nat.reduceAdd, Nat.reduceLeDiff, reduceCtorEq, Nat.reduceMul]
      intro hP; have := hP i a ha; omega
    simp only [F13b0, e1, e3, s1, hlt, hge, ha', h1, h2, fxa, fxc, fxE, fxL, fxI, nxE, evO, evR, cellsT, ldCells, mkT, lenA, binPV, Env.init, resV, resT, frT, klT, ownT, intT, O.adds, ownA, rowsA, over, wrOk, keysT, keysA, ne_eq, if_true, if_false, ite_self, Nat.reduceLT, Nat.reduceSub, Nat.reduceBEq, Nat.reduceEqDiff, Nat.reduceAdd, Nat.reduceLeDiff, reduceCtorEq, Nat.reduceMul]
    refine ⟨by rw [wrap_succ i (by omega)], fun j c hj hc => ?_⟩
    by_cases e : j = i
    · subst e; rw [ha] at hc; rw [← Option.some.inj hc]; omega
    · exact hall j c (by omega) hc
  · rintro e σ ⟨e1, e3, s1, hall⟩
    have hlt : ¬ ((x.al.length : Nat) : Int) < (x.al.length : Int) := by omega
    simp only [encN, List.map_cons, List.map_nil] at s1
    simp only [F13b0, e1, e3, s1, hlt, fxa, fxc, fxE, fxL, fxI, nxE, evO, evR, cellsT, ldCells, mkT, lenA, binPV, Env.init, resV, resT, frT, klT, ownT, intT, O.adds, ownA, rowsA, over, wrOk, keysT, keysA, ne_eq, if_true, if_false, ite_self, Nat.reduceLT, Nat.reduceSub, Nat.reduceBEq, Nat.reduceEqDiff, Nat.reduceAdd, Nat.reduceLeDiff, reduceCtorEq, Nat.reduceMul]
    exact fun i a hi => hall i a (List.getElem?_eq_some_iff.1 hi).1 hi

theorem ruleTurns_law {a b : Nd} (ha : a.Ok) (hb : b.Ok) : eP S 3 [.g (encN a), .g (encN b)] = some (.a (.b true)) := by
  have f0 := fixed14_ok
  have a1 := small14_ok a
  have a2 := small14_ok b
  have a3 := tame14_ok ha
  have a4 := tame14_ok hb
  refine x_fn (orcS (by decide)) (fc := F3) rfl rfl ?_
  by_cases h1 : sm14 a
  case neg =>
    rw [bool_f h1] at a1
    simp only [encN] at a1
    simp only [F3, f0, a1, fxa, fxc, fxE, fxL, fxI, nxE, evO, evR, cellsT, ldCells, mkT, lenA, binPV, Env.init, resV, resT, frT, klT, ownT, intT, O.adds, ownA, rowsA, over, wrOk, keysT, keysA, ne_eq, if_true, if_false, ite_self, Nat.reduceLT, Nat.reduceSub, Nat.reduceBEq, Nat.reduceEqDiff, Nat.reduceAdd, Nat.reduceLeDiff, reduceCtorEq, Nat.reduceMul]
  rw [bool_t h1] at a1
  by_cases h2 : sm14 b
  case neg =>
    rw [bool_f h2] at a2
    simp only [encN] at a1 a2
    simp only [F3, f0, a1, a2, fxa, fxc, fxE, fxL, fxI, nxE, evO, evR, cellsT, ldCells, mkT, lenA, binPV, Env.init, resV, resT, frT, klT, ownT, intT, O.adds, ownA, rowsA, over, wrOk, keysT, keysA, ne_eq, if_true, if_false, ite_self, Nat.reduceLT, Nat.reduceSub, Nat.reduceBEq, Nat.reduceEqDiff, Nat.reduceAdd, Nat.reduceLeDiff, reduceCtorEq, Nat.reduceMul]
  rw [bool_t h2] at a2
  by_cases h3 : tame14 a
  case neg =>
    rw [bool_f h3] at a3
    simp only [encN] at a1 a2 a3
    simp only [F3, f0, a1, a2, a3, fxa, fxc, fxE, fxL, fxI, nxE, evO, evR, cellsT, ldCells, mkT, lenA, binPV, Env.init, resV, resT, frT, klT, ownT, intT, O.adds, ownA, rowsA, over, wrOk, keysT, keysA, ne_eq, if_true, if_false, ite_self, Nat.reduceLT, Nat.reduceSub, Nat.reduceBEq, Nat.reduceEqDiff, Nat.reduceAdd, Nat.reduceLeDiff, reduceCtorEq, Nat.reduceMul]
  rw [bool_t h3] at a3
  by_cases h4 : tame14 b
  case neg =>
    rw [bool_f h4] at a4
    simp only [encN] at a1 a2 a3 a4
    simp only [F3, f0, a1, a2, a3, a4, fxa, fxc, fxE, fxL, fxI, nxE, evO, evR, cellsT, ldCells, mkT, lenA, binPV, Env.init, resV, resT, frT, klT, ownT, intT, O.adds, ownA, rowsA, over, wrOk, keysT, keysA, ne_eq, if_true, if_false, ite_self, Nat.reduceLT, Nat.reduceSub, Nat.reduceBEq, Nat.reduceEqDiff, Nat.reduceAdd, Nat.reduceLeDiff, reduceCtorEq, Nat.reduceMul]
  rw [bool_t h4] at a4
  have c1 := Of_ok ha hb
  have c2 := Of_ok hb ha
  have T := turn_law a b
  have w1 := of_nd ha hb
  have w2 := of_nd hb ha
  obtain ⟨⟨x, e⟩, hx⟩ : ∃ z, ofR a b = z := ⟨_, rfl⟩
  obtain ⟨⟨y, f⟩, hy⟩ : ∃ z, ofR b a = z := ⟨_, rfl⟩
  rw [hx] at c1 T w1
  rw [hy] at c2 T w2
  obtain ⟨T1, T2, T3, T4⟩ := T
  simp only at T1 T2 T3 T4 w1 w2
  subst T1
  by_cases he : e = 0
  case neg =>
    obtain ⟨rfl, rfl⟩ := T2 he
    have d1 := PSame_ok (p := p0) (q := p0) w1
    rw [bool_t rfl] at d1
    simp only [encLE, encL, encN, p0, zN, List.map_nil] at a1 a2 a3 a4 c1 c2 d1
    simp only [F3, f0, a1, a2, a3, a4, c1, c2, d1, he, fxa, fxc, fxE, fxL, fxI, nxE, evO, evR, cellsT, ldCells, mkT, lenA, binPV, Env.init, resV, resT, frT, klT, ownT, intT, O.adds, ownA, rowsA, over, wrOk, keysT, keysA, ne_eq, if_true, if_false, ite_self, Nat.reduceLT, Nat.reduceSub, Nat.reduceBEq, Nat.reduceEqDiff, Nat.reduceAdd, Nat.reduceLeDiff, reduceCtorEq, Nat.reduceMul]
  subst he
  by_cases h5 : x.k = 6 ∨ a.k = 7 ∧ b.k = 7
  · obtain ⟨q1, q2, q3, q4⟩ := T3 rfl h5
    have q6 : x.k = 6 → a.k = b.k ∧ a.lv = b.lv := fun h => q4.elim (fun h2 => absurd h h2) id
    simp only [encLE, encL, encN] at a1 a2 a3 a4 c1 c2
    by_cases h6 : x.k = 6
    · obtain ⟨r1, r2⟩ := q6 h6
      have q3' : y.k = 6 := by rw [← q3]; exact h6
      rw [r1, r2] at c1 c2
      rw [r1] at a1 a3
      rw [r2] at a1 a3
      simp only [F3, f0, a1, a2, a3, a4, c1, c2, h6, q1, q2, q3', r1, r2, fxa, fxc, fxE, fxL, fxI, nxE, evO, evR, cellsT, ldCells, mkT, lenA, binPV, Env.init, resV, resT, frT, klT, ownT, intT, O.adds, ownA, rowsA, over, wrOk, keysT, keysA, ne_eq, if_true, if_false, ite_self, Nat.reduceLT, Nat.reduceSub, Nat.reduceBEq, Nat.reduceEqDiff, Nat.reduceAdd, Nat.reduceLeDiff, reduceCtorEq, Nat.reduceMul]
    · obtain ⟨r1, r2⟩ := h5.resolve_left h6
      have q3' : y.k = x.k := q3.symm
      rw [r1] at a1 a3 c1 c2
      rw [r2] at a2 a4 c1 c2
      simp only [F3, f0, a1, a2, a3, a4, c1, c2, h6, q1, q2, q3', r1, r2, fxa, fxc, fxE, fxL, fxI, nxE, evO, evR, cellsT, ldCells, mkT, lenA, binPV, Env.init, resV, resT, frT, klT, ownT, intT, O.adds, ownA, rowsA, over, wrOk, keysT, keysA, ne_eq, if_true, if_false, ite_self, Nat.reduceLT, Nat.reduceSub, Nat.reduceBEq, Nat.reduceEqDiff, Nat.reduceAdd, Nat.reduceLeDiff, reduceCtorEq, Nat.reduceMul]
  · obtain ⟨q1, q2, q3⟩ := T4 rfl h5
    have d1 := PSame_ok (p := x) (q := ⟨y.k, x.sw, y.lv, y.alt, y.nd⟩) w1
    rw [bool_t q2] at d1
    have n1 := need_ok (p := x) (a := a) (b := b)
    have n2 := need_ok (p := y) (a := b) (b := a)
    rw [q3] at n1
    have hd : (decide (a.k = 7) && decide (b.k = 7)) = false := by
      have : ¬ (a.k = 7 ∧ b.k = 7) := fun h => h5 (.inr h)
      simpa using this
    have h6 : ¬ x.k = 6 := fun h => h5 (.inl h)
    have hsw : decide (x.sw = y.sw) = false := by simpa using q1
    simp only [encLE, encL, encN] at a1 a2 a3 a4 c1 c2 d1 n1 n2
    by_cases h7 : a.k = 7
    · have h8 : ¬ b.k = 7 := fun h => h5 (.inr ⟨h7, h⟩)
      rw [h7] at a1 a3 c1 c2 n1 n2
      simp only [F3, f0, a1, a2, a3, a4, c1, c2, d1, n1, n2, h6, h7, h8, hsw, fxa, fxc, fxE, fxL, fxI, nxE, evO, evR, cellsT, ldCells, mkT, lenA, binPV, Env.init, resV, resT, frT, klT, ownT, intT, O.adds, ownA, rowsA, over, wrOk, keysT, keysA, ne_eq, if_true, if_false, ite_self, Nat.reduceLT, Nat.reduceSub, Nat.reduceBEq, Nat.reduceEqDiff, Nat.reduceAdd, Nat.reduceLeDiff, reduceCtorEq, Nat.reduceMul]
    · simp only [F3, f0, a1, a2, a3, a4, c1, c2, d1, n1, n2, h6, h7, hsw, fxa, fxc, fxE, fxL, fxI, nxE, evO, evR, cellsT, ldCells, mkT, lenA, binPV, Env.init, resV, resT, frT, klT, ownT, intT, O.adds, ownA, rowsA, over, wrOk, keysT, keysA, ne_eq, if_true, if_false, ite_self, Nat.reduceLT, Nat.reduceSub, Nat.reduceBEq, Nat.reduceEqDiff, Nat.reduceAdd, Nat.reduceLeDiff, reduceCtorEq, Nat.reduceMul]
end Go.Proofs.Ytomcceambpneiaa
