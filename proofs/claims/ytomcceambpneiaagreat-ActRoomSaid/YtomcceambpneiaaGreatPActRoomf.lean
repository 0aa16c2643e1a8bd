/- Part 6 of what is proved for the law ActRoom: it returns true, whatever the input. No condition. -/
import Derived.Test.YtomcceambpneiaaGreatChecked
import Derived.Test.YtomcceambpneiaaGreatRows
import Derived.Test.YtomcceambpneiaaGreatPActRoome
section
set_option linter.unusedSimpArgs false
set_option linter.unusedVariables false
set_option maxHeartbeats 8000000
set_option maxRecDepth 10000
namespace Go.Proofs.YtomcceambpneiaaGreat
open Go.Fx
theorem Rhalf_ok {x y : Nd} (hx : x.Ok) : eP S 60 [.g (encN x), .g (encN y)] = some (encLE (outR x y)) := by
  refine x_fn (orcS (by decide)) (fc := F60) rfl rfl ?_
  have c3 : isOp x.s → eP S 76 [.g (tOp x.s x.n y.n)] = some (encO (opR x.s x.n y.n)) := fun h => RStep_ok (b := y.n) hx.n h
  unfold outR outN
  by_cases h1 : x.s = [43]
  · have c3 := c3 (.inl h1)
    unfold opR at c3
    simp only [h1, tOp, tI, encO, wr, List.cons.injEq, nmU, if_true] at c3
    simp only [F60, PT.flat, PV.flat, List.all_cons, List.all_nil, Bool.and_true, Bool.and_false, Bool.true_and, Bool.false_and, encLE, encL, plainR, zN, wr, h1, c3, Int.reduceEq, List.cons.injEq, nmU, List.cons_ne_nil, not_true_eq_false, fxa, fxc, fxE, fxL, fxI, nxE, evO, evR, cellsT, ldCells, mkT, lenA, binPV, Env.init, resV, resT, frT, klT, ownT, intT, O.adds, ownA, rowsA, over, wrOk, keysT, keysA, ne_eq, if_true, if_false, ite_self, Nat.reduceLT, Nat.reduceSub, Nat.reduceBEq, Nat.reduceEqDiff, Nat.reduceAdd, Nat.reduceLeDiff, reduceCtorEq, Nat.reduceMul]
  by_cases h2 : x.s = [45]
  · have c3 := c3 (.inr (.inl h2))
    unfold opR at c3
    simp only [h2, tOp, tI, encO, wr, List.cons.injEq, nmU, if_true, false_and, if_false] at c3
    simp only [F60, PT.flat, PV.flat, List.all_cons, List.all_nil, Bool.and_true, Bool.and_false, Bool.true_and, Bool.false_and, encLE, encL, plainR, zN, wr, h2, c3, Int.reduceEq, List.cons.injEq, nmU, List.cons_ne_nil, not_true_eq_false, fxa, fxc, fxE, fxL, fxI, nxE, evO, evR, cellsT, ldCells, mkT, lenA, binPV, Env.init, resV, resT, frT, klT, ownT, intT, O.adds, ownA, rowsA, over, wrOk, keysT, keysA, ne_eq, if_true, if_false, ite_self, Nat.reduceLT, Nat.reduceSub, Nat.reduceBEq, Nat.reduceEqDiff, Nat.reduceAdd, Nat.reduceLeDiff, reduceCtorEq, Nat.reduceMul]
  by_cases h3 : x.s = [42]
  · have c3 := c3 (.inr (.inr (.inl h3)))
    unfold opR at c3
    simp only [h3, tOp, tI, encO, wr, List.cons.injEq, nmU, if_true, false_and, if_false] at c3
    simp only [F60, PT.flat, PV.flat, List.all_cons, List.all_nil, Bool.and_true, Bool.and_false, Bool.true_and, Bool.false_and, encLE, encL, plainR, zN, wr, h3, c3, Int.reduceEq, List.cons.injEq, nmU, List.cons_ne_nil, not_true_eq_false, fxa, fxc, fxE, fxL, fxI, nxE, evO, evR, cellsT, ldCells, mkT, lenA, binPV, Env.init, resV, resT, frT, klT, ownT, intT, O.adds, ownA, rowsA, over, wrOk, keysT, keysA, ne_eq, if_true, if_false, ite_self, Nat.reduceLT, Nat.reduceSub, Nat.reduceBEq, Nat.reduceEqDiff, Nat.reduceAdd, Nat.reduceLeDiff, reduceCtorEq, Nat.reduceMul]
  by_cases h4 : x.s = [47]
  · have c3 := c3 (.inr (.inr (.inr (.inl h4))))
    unfold opR at c3
    by_cases h0 : y.n = 0
    · simp only [h4, h0, tOp, tI, encO, wr, List.cons.injEq, nmU, if_true, false_and, if_false] at c3
      simp only [F60, PT.flat, PV.flat, List.all_cons, List.all_nil, Bool.and_true, Bool.and_false, Bool.true_and, Bool.false_and, encLE, encL, plainR, zN, wr, h4, h0, c3, Int.reduceEq, List.cons.injEq, nmU, List.cons_ne_nil, not_true_eq_false, fxa, fxc, fxE, fxL, fxI, nxE, evO, evR, cellsT, ldCells, mkT, lenA, binPV, Env.init, resV, resT, frT, klT, ownT, intT, O.adds, ownA, rowsA, over, wrOk, keysT, keysA, ne_eq, if_true, if_false, ite_self, Nat.reduceLT, Nat.reduceSub, Nat.reduceBEq, Nat.reduceEqDiff, Nat.reduceAdd, Nat.reduceLeDiff, reduceCtorEq, Nat.reduceMul]
    · simp only [h4, h0, tOp, tI, encO, wr, List.cons.injEq, nmU, if_true, false_and, if_false] at c3
      simp only [F60, PT.flat, PV.flat, List.all_cons, List.all_nil, Bool.and_true, Bool.and_false, Bool.true_and, Bool.false_and, encLE, encL, plainR, zN, wr, h4, h0, c3, Int.reduceEq, List.cons.injEq, nmU, List.cons_ne_nil, not_true_eq_false, fxa, fxc, fxE, fxL, fxI, nxE, evO, evR, cellsT, ldCells, mkT, lenA, binPV, Env.init, resV, resT, frT, klT, ownT, intT, O.adds, ownA, rowsA, over, wrOk, keysT, keysA, ne_eq, if_true, if_false, ite_self, Nat.reduceLT, Nat.reduceSub, Nat.reduceBEq, Nat.reduceEqDiff, Nat.reduceAdd, Nat.reduceLeDiff, reduceCtorEq, Nat.reduceMul]
  by_cases h5 : x.s = [60]
  · have c3 := c3 (.inr (.inr (.inr (.inr (.inl h5)))))
    unfold opR at c3
    by_cases h0 : x.n < y.n
    · simp only [h5, h0, tOp, tI, encO, wr, List.cons.injEq, nmU, if_true, false_and, if_false, true_and, true_or] at c3
      simp only [F60, PT.flat, PV.flat, List.all_cons, List.all_nil, Bool.and_true, Bool.and_false, Bool.true_and, Bool.false_and, encLE, encL, plainR, zN, wr, h5, h0, c3, truthN, zP, decide_true, Int.reduceEq, List.cons.injEq, nmU, List.cons_ne_nil, not_true_eq_false, fxa, fxc, fxE, fxL, fxI, nxE, evO, evR, cellsT, ldCells, mkT, lenA, binPV, Env.init, resV, resT, frT, klT, ownT, intT, O.adds, ownA, rowsA, over, wrOk, keysT, keysA, ne_eq, if_true, if_false, ite_self, Nat.reduceLT, Nat.reduceSub, Nat.reduceBEq, Nat.reduceEqDiff, Nat.reduceAdd, Nat.reduceLeDiff, reduceCtorEq, Nat.reduceMul]
    · simp only [h5, h0, tOp, tI, encO, wr, List.cons.injEq, nmU, if_true, false_and, if_false, true_and, or_self] at c3
      simp only [F60, PT.flat, PV.flat, List.all_cons, List.all_nil, Bool.and_true, Bool.and_false, Bool.true_and, Bool.false_and, encLE, encL, plainR, zN, wr, h5, h0, c3, truthN, zP, decide_false, Bool.false_eq_true, Int.reduceEq, List.cons.injEq, nmU, List.cons_ne_nil, not_true_eq_false, fxa, fxc, fxE, fxL, fxI, nxE, evO, evR, cellsT, ldCells, mkT, lenA, binPV, Env.init, resV, resT, frT, klT, ownT, intT, O.adds, ownA, rowsA, over, wrOk, keysT, keysA, ne_eq, if_true, if_false, ite_self, Nat.reduceLT, Nat.reduceSub, Nat.reduceBEq, Nat.reduceEqDiff, Nat.reduceAdd, Nat.reduceLeDiff, reduceCtorEq, Nat.reduceMul]
  by_cases h6 : x.s = [61, 61]
  · have c3 := c3 (.inr (.inr (.inr (.inr (.inr h6)))))
    unfold opR at c3
    by_cases h0 : x.n = y.n
    · simp only [h6, h0, tOp, tI, encO, wr, List.cons.injEq, nmU, if_true, false_and, if_false, true_and, or_true, and_true, and_self] at c3
      simp only [F60, PT.flat, PV.flat, List.all_cons, List.all_nil, Bool.and_true, Bool.and_false, Bool.true_and, Bool.false_and, encLE, encL, plainR, zN, wr, h6, h0, c3, truthN, zP, decide_true, Int.reduceEq, List.cons.injEq, nmU, List.cons_ne_nil, not_true_eq_false, fxa, fxc, fxE, fxL, fxI, nxE, evO, evR, cellsT, ldCells, mkT, lenA, binPV, Env.init, resV, resT, frT, klT, ownT, intT, O.adds, ownA, rowsA, over, wrOk, keysT, keysA, ne_eq, if_true, if_false, ite_self, Nat.reduceLT, Nat.reduceSub, Nat.reduceBEq, Nat.reduceEqDiff, Nat.reduceAdd, Nat.reduceLeDiff, reduceCtorEq, Nat.reduceMul]
    · simp only [h6, h0, tOp, tI, encO, wr, List.cons.injEq, nmU, if_true, false_and, if_false, true_and, or_self, and_false] at c3
      simp only [F60, PT.flat, PV.flat, List.all_cons, List.all_nil, Bool.and_true, Bool.and_false, Bool.true_and, Bool.false_and, encLE, encL, plainR, zN, wr, h6, h0, c3, truthN, zP, decide_false, Bool.false_eq_true, Int.reduceEq, List.cons.injEq, nmU, List.cons_ne_nil, not_true_eq_false, fxa, fxc, fxE, fxL, fxI, nxE, evO, evR, cellsT, ldCells, mkT, lenA, binPV, Env.init, resV, resT, frT, klT, ownT, intT, O.adds, ownA, rowsA, over, wrOk, keysT, keysA, ne_eq, if_true, if_false, ite_self, Nat.reduceLT, Nat.reduceSub, Nat.reduceBEq, Nat.reduceEqDiff, Nat.reduceAdd, Nat.reduceLeDiff, reduceCtorEq, Nat.reduceMul]
  · simp only [F60, PT.flat, PV.flat, List.all_cons, List.all_nil, Bool.and_true, Bool.and_false, Bool.true_and, Bool.false_and, encLE, encL, plainR, zN, wr, h1, h2, h3, h4, h5, h6, Int.reduceEq, List.cons.injEq, nmU, List.cons_ne_nil, false_and, not_true_eq_false, fxa, fxc, fxE, fxL, fxI, nxE, evO, evR, cellsT, ldCells, mkT, lenA, binPV, Env.init, resV, resT, frT, klT, ownT, intT, O.adds, ownA, rowsA, over, wrOk, keysT, keysA, ne_eq, if_true, if_false, ite_self, Nat.reduceLT, Nat.reduceSub, Nat.reduceBEq, Nat.reduceEqDiff, Nat.reduceAdd, Nat.reduceLeDiff, reduceCtorEq, Nat.reduceMul]
end Go.Proofs.YtomcceambpneiaaGreat
end
section
set_option linter.unusedSimpArgs false
set_option linter.unusedVariables false
set_option maxHeartbeats 8000000
set_option maxRecDepth 10000
namespace Go.Proofs.YtomcceambpneiaaGreat
open Go.Fx
def pk (y : Nd) (a : Ar) : Bool := decide (a.s = y.s) && decide (a.n = wr (y.to.length - 1))
theorem idx_some {f : Ar → Bool} {l : List Ar} {j : Nat} {a : Ar} (ha : l[j]? = some a) (hf : f a = true) (hb : ∀ i b, i < j → l[i]? = some b → f b = false) : idx f l = (j : Int) := by
  have hj := (List.getElem?_eq_some_iff.1 ha)
  have hjl := hj.1
  have : l.findIdx? f = some j := by
    rw [List.findIdx?_eq_some_iff_getElem]
    refine ⟨hj.1, by rw [hj.2]; exact hf, fun i hi => ?_⟩
    rw [hb i _ hi (List.getElem?_eq_getElem (by omega))]; simp
  unfold idx; rw [this]
theorem idx_none {f : Ar → Bool} {l : List Ar} (hb : ∀ (i : Nat) b, l[i]? = some b → f b = false) : idx f l = -1 := by
  have : l.findIdx? f = none := by
    rw [List.findIdx?_eq_none_iff]
    intro b hb'
    obtain ⟨i, hi, e⟩ := List.mem_iff_getElem.1 hb'
    exact hb i b (by rw [← e]; exact List.getElem?_eq_getElem hi)
  unfold idx; rw [this]
theorem askLoop {x y : Nd} {σ : St} (hx : x.Ok) (h9 : x.k = 9) (h8 : y.k = 8) (s2 : σ.bs (2, 0) = some (.var ((encN x).map .p))) (s3 : σ.bs (3, 1) = some (.var ((encN y).map .p)))
    (s4 : σ.bs (4, 2) = some (.var [.p (.i .i64 0), .p (.b false), .p (.i .i64 0), .p (.i .i64 0), .p (.i .i64 0), .p (.i .i64 0), .p (.i .i64 0), .p (.s []), .nil, .nil])) (e : Env)
    (e2 : e 2 = .a (.ptr (2, 0) 0 0)) (e3 : e 3 = .a (.ptr (3, 1) 0 0)) (e4 : e 4 = .a (.ptr (4, 2) 0 0)) (e6 : e 6 = .a (.p (.i .i64 0))) :
    wp S false (.loop F34b0) e σ (fun z e' σ' => (z = .exit 0 ∧ pickIx x y < 0 ∧ σ' = σ ∧ e' 2 = .a (.ptr (2, 0) 0 0) ∧ e' 3 = .a (.ptr (3, 1) 0 0) ∧ e' 4 = .a (.ptr (4, 2) 0 0))
      ∨ (z = .ret ∧ 0 ≤ pickIx x y ∧ e' 4 = .a (.ptr (4, 2) 0 0) ∧ e' 5 = .a (.p (.i .i64 0)) ∧ σ'.bs (4, 2) = some (.var [.p (.i .i64 2), .p (.b false), .p (.i .i64 0), .p (.i .i64 (pickIx x y)), .p (.i .i64 0), .p (.i .i64 0), .p (.i .i64 0), .p (.s []), .nil, .nil]))) := by
  have hb := hx.al
  refine loop_nat x.al.length (fun j e τ => τ = σ ∧ (∀ (i : Nat) b, i < j → x.al[i]? = some b → pk y b = false) ∧ e 2 = .a (.ptr (2, 0) 0 0) ∧ e 3 = .a (.ptr (3, 1) 0 0) ∧ e 4 = .a (.ptr (4, 2) 0 0) ∧ e 6 = .a (.p (.i .i64 (j : Nat)))) (i0 := 0) (Nat.zero_le _) ⟨rfl, fun i b h => absurd h (Nat.not_lt_zero _), e2, e3, e4, e6⟩ ?_ ?_
  · rintro j e τ hj ⟨rfl, hbef, e2, e3, e4, e6⟩
    obtain ⟨a, ha⟩ : ∃ a, x.al[j]? = some a := ⟨_, List.getElem?_eq_getElem hj⟩
    have ga := mapGet encA ha
    have hjlt : ((j : Nat) : Int) < (x.al.length : Int) := by omega
    have hjge : (0 : Int) ≤ ((j : Nat) : Int) := by omega
    have hw : IntKind.i64.wrap ((j : Int) + 1) = ((j + 1 : Nat) : Int) := wrap_succ j (by omega)
    simp only [encN, List.map_cons, List.map_nil, h9, h8] at s2 s3
    simp only [encA] at ga
    have hpk : pk y a = (decide (a.s = y.s) && decide (a.n = IntKind.i64.wrap ((y.to.length : Int) - 1))) := rfl
    by_cases h1 : a.s = y.s
    · by_cases h2 : a.n = IntKind.i64.wrap ((y.to.length : Int) - 1)
      · have hp : pk y a = true := by rw [hpk]; simp [h1, h2]
        have hix : pickIx x y = (j : Int) := idx_some ha hp hbef
        have h0 : (0 : Int) ≤ (j : Int) := hjge
        simp only [F34b0, e2, e3, e4, e6, s2, s3, s4, ga, h1, h2, hix, hjlt, hjge, hw, allA, Int.reduceEq, Int.toNat_natCast, List.length_map, reduceCtorEq, false_and, true_and, and_true, or_false, false_or, fxa, fxc, fxE, fxL, fxI, nxE, evO, evR, cellsT, ldCells, mkT, lenA, binPV, Env.init, resV, resT, frT, klT, ownT, intT, O.adds, ownA, rowsA, over, wrOk, keysT, keysA, ne_eq, if_true, if_false, ite_self, Nat.reduceLT, Nat.reduceSub, Nat.reduceBEq, Nat.reduceEqDiff, Nat.reduceAdd, Nat.reduceLeDiff, reduceCtorEq, Nat.reduceMul]
      · have hp : pk y a = false := by rw [hpk]; simp [h2]
        have hstep : ∀ (i : Nat) b, i < j + 1 → x.al[i]? = some b → pk y b = false := fun i b hi hb => by
          rcases Nat.lt_succ_iff_lt_or_eq.1 hi with h | h
          · exact hbef i b h hb
          · subst h; rw [ha] at hb; cases hb; exact hp
        simp only [F34b0, e2, e3, e4, e6, s2, s3, s4, ga, h1, h2, hjlt, hjge, hw, hstep, allA, Int.reduceEq, Int.toNat_natCast, List.length_map, fxa, fxc, fxE, fxL, fxI, nxE, evO, evR, cellsT, ldCells, mkT, lenA, binPV, Env.init, resV, resT, frT, klT, ownT, intT, O.adds, ownA, rowsA, over, wrOk, keysT, keysA, ne_eq, if_true, if_false, ite_self, Nat.reduceLT, Nat.reduceSub, Nat.reduceBEq, Nat.reduceEqDiff, Nat.reduceAdd, Nat.reduceLeDiff, reduceCtorEq, Nat.reduceMul]
        try exact hstep
    · have hp : pk y a = false := by rw [hpk]; simp [h1]
      have hstep : ∀ (i : Nat) b, i < j + 1 → x.al[i]? = some b → pk y b = false := fun i b hi hb => by
        rcases Nat.lt_succ_iff_lt_or_eq.1 hi with h | h
        · exact hbef i b h hb
        · subst h; rw [ha] at hb; cases hb; exact hp
      simp only [F34b0, e2, e3, e4, e6, s2, s3, s4, ga, h1, hjlt, hjge, hw, hstep, allA, Int.reduceEq, Int.toNat_natCast, List.length_map, fxa, fxc, fxE, fxL, fxI, nxE, evO, evR, cellsT, ldCells, mkT, lenA, binPV, Env.init, resV, resT, frT, klT, ownT, intT, O.adds, ownA, rowsA, over, wrOk, keysT, keysA, ne_eq, if_true, if_false, ite_self, Nat.reduceLT, Nat.reduceSub, Nat.reduceBEq, Nat.reduceEqDiff, Nat.reduceAdd, Nat.reduceLeDiff, reduceCtorEq, Nat.reduceMul]
      try exact hstep
  · rintro e τ ⟨rfl, hbef, e2, e3, e4, e6⟩
    have hlt : ¬ ((x.al.length : Nat) : Int) < (x.al.length : Int) := by omega
    have hix : pickIx x y = -1 := idx_none fun i b hb => hbef i b (List.getElem?_eq_some_iff.1 hb).1 hb
    simp only [encN, List.map_cons, List.map_nil, h9, h8] at s2 s3
    simp only [F34b0, e2, e3, e4, e6, s2, s3, s4, hlt, hix, allA, Int.reduceEq, Int.reduceNeg, Int.reduceLT, Int.reduceLE, List.length_map, reduceCtorEq, false_and, true_and, and_true, or_false, false_or, fxa, fxc, fxE, fxL, fxI, nxE, evO, evR, cellsT, ldCells, mkT, lenA, binPV, Env.init, resV, resT, frT, klT, ownT, intT, O.adds, ownA, rowsA, over, wrOk, keysT, keysA, ne_eq, if_true, if_false, ite_self, Nat.reduceLT, Nat.reduceSub, Nat.reduceBEq, Nat.reduceEqDiff, Nat.reduceAdd, Nat.reduceLeDiff, reduceCtorEq, Nat.reduceMul]
theorem askLoop0 {x y : Nd} {σ : St} (h98 : ¬ (x.k = 9 ∧ y.k = 8)) (s2 : σ.bs (2, 0) = some (.var ((encN x).map .p))) (s3 : σ.bs (3, 1) = some (.var ((encN y).map .p))) (e : Env)
    (e2 : e 2 = .a (.ptr (2, 0) 0 0)) (e3 : e 3 = .a (.ptr (3, 1) 0 0)) (e4 : e 4 = .a (.ptr (4, 2) 0 0)) (e6 : e 6 = .a (.p (.i .i64 0))) :
    wp S false (.loop F34b0) e σ (fun z e' σ' => z = .exit 0 ∧ σ' = σ ∧ e' 2 = .a (.ptr (2, 0) 0 0) ∧ e' 3 = .a (.ptr (3, 1) 0 0) ∧ e' 4 = .a (.ptr (4, 2) 0 0)) := by
  simp only [encN, List.map_cons, List.map_nil] at s2 s3
  rw [x_loop]
  by_cases h0 : (0 : Int) < (x.al.length : Int)
  · by_cases h9 : x.k = 9
    · have h8 : ¬ y.k = 8 := fun h => h98 ⟨h9, h⟩
      simp only [F34b0, e2, e3, e4, e6, s2, s3, h0, h9, h8, Int.reduceEq, allA, List.length_map, fxa, fxc, fxE, fxL, fxI, nxE, evO, evR, cellsT, ldCells, mkT, lenA, binPV, Env.init, resV, resT, frT, klT, ownT, intT, O.adds, ownA, rowsA, over, wrOk, keysT, keysA, ne_eq, if_true, if_false, ite_self, Nat.reduceLT, Nat.reduceSub, Nat.reduceBEq, Nat.reduceEqDiff, Nat.reduceAdd, Nat.reduceLeDiff, reduceCtorEq, Nat.reduceMul]
    · simp only [F34b0, e2, e3, e4, e6, s2, s3, h0, h9, Int.reduceEq, allA, List.length_map, fxa, fxc, fxE, fxL, fxI, nxE, evO, evR, cellsT, ldCells, mkT, lenA, binPV, Env.init, resV, resT, frT, klT, ownT, intT, O.adds, ownA, rowsA, over, wrOk, keysT, keysA, ne_eq, if_true, if_false, ite_self, Nat.reduceLT, Nat.reduceSub, Nat.reduceBEq, Nat.reduceEqDiff, Nat.reduceAdd, Nat.reduceLeDiff, reduceCtorEq, Nat.reduceMul]
  · simp only [F34b0, e2, e3, e4, e6, s2, s3, h0, Int.reduceEq, allA, List.length_map, fxa, fxc, fxE, fxL, fxI, nxE, evO, evR, cellsT, ldCells, mkT, lenA, binPV, Env.init, resV, resT, frT, klT, ownT, intT, O.adds, ownA, rowsA, over, wrOk, keysT, keysA, ne_eq, if_true, if_false, ite_self, Nat.reduceLT, Nat.reduceSub, Nat.reduceBEq, Nat.reduceEqDiff, Nat.reduceAdd, Nat.reduceLeDiff, reduceCtorEq, Nat.reduceMul]
theorem Rasked_ok {x y : Nd} (hx : x.Ok) : eP S 34 [.g (encN x), .g (encN y)] = some (encLE (askR x y)) := by
  refine x_fn (orcS (by decide)) (fc := F34) rfl rfl ?_
  have co := Rhalf_ok (y := y) hx
  obtain ⟨⟨⟨ok, os, ol, oa, ⟨m1, m2, m3, m4, m5, m6⟩⟩, oe⟩, ho⟩ : ∃ z, outR x y = z := ⟨_, rfl⟩
  unfold askR
  rw [ho] at co ⊢
  simp only [encN, encLE, encL] at co
  by_cases h1 : x.k = 3 ∧ y.k = 2
  · obtain ⟨h1, h2⟩ := h1
    by_cases h3 : x.lv = y.lv
    · simp only [F34, encLE, encL, plainR, noR, p0, zN, h1, h2, h3, Int.reduceEq, not_true_eq_false, fxa, fxc, fxE, fxL, fxI, nxE, evO, evR, cellsT, ldCells, mkT, lenA, binPV, Env.init, resV, resT, frT, klT, ownT, intT, O.adds, ownA, rowsA, over, wrOk, keysT, keysA, ne_eq, if_true, if_false, ite_self, Nat.reduceLT, Nat.reduceSub, Nat.reduceBEq, Nat.reduceEqDiff, Nat.reduceAdd, Nat.reduceLeDiff, reduceCtorEq, Nat.reduceMul]
    · simp only [F34, encLE, encL, plainR, noR, p0, zN, h1, h2, h3, Int.reduceEq, not_true_eq_false, fxa, fxc, fxE, fxL, fxI, nxE, evO, evR, cellsT, ldCells, mkT, lenA, binPV, Env.init, resV, resT, frT, klT, ownT, intT, O.adds, ownA, rowsA, over, wrOk, keysT, keysA, ne_eq, if_true, if_false, ite_self, Nat.reduceLT, Nat.reduceSub, Nat.reduceBEq, Nat.reduceEqDiff, Nat.reduceAdd, Nat.reduceLeDiff, reduceCtorEq, Nat.reduceMul]
  by_cases h2 : x.k = 9 ∧ y.k = 8
  · have h2' := h2
    obtain ⟨h2, h3⟩ := h2
    unfold pickR
    by_cases h4 : x.lv = y.lv
    case neg => simp only [F34, encLE, encL, plainR, noR, p0, zN, h2, h3, h4, Int.reduceEq, not_true_eq_false, fxa, fxc, fxE, fxL, fxI, nxE, evO, evR, cellsT, ldCells, mkT, lenA, binPV, Env.init, resV, resT, frT, klT, ownT, intT, O.adds, ownA, rowsA, over, wrOk, keysT, keysA, ne_eq, if_true, if_false, ite_self, Nat.reduceLT, Nat.reduceSub, Nat.reduceBEq, Nat.reduceEqDiff, Nat.reduceAdd, Nat.reduceLeDiff, reduceCtorEq, Nat.reduceMul]
    simp only [F34, encLE, encL, plainR, noR, p0, zN, h2, h3, h4, Int.reduceEq, not_true_eq_false, fxa, fxc, fxE, fxL, fxI, nxE, evO, evR, cellsT, ldCells, mkT, lenA, binPV, Env.init, resV, resT, frT, klT, ownT, intT, O.adds, ownA, rowsA, over, wrOk, keysT, keysA, ne_eq, if_true, if_false, ite_self, Nat.reduceLT, Nat.reduceSub, Nat.reduceBEq, Nat.reduceEqDiff, Nat.reduceAdd, Nat.reduceLeDiff, reduceCtorEq, Nat.reduceMul]
    refine Go.Fx.wp_mono (askLoop (x := x) (y := y) hx h2 h3 ?_ ?_ ?_ _ ?_ ?_ ?_ ?_) ?_
    all_goals first
      | (simp only [encN, h2, h3, h4, List.map_cons, List.map_nil, fxa, fxc, fxE, fxL, fxI, nxE, evO, evR, cellsT, ldCells, mkT, lenA, binPV, Env.init, resV, resT, frT, klT, ownT, intT, O.adds, ownA, rowsA, over, wrOk, keysT, keysA, ne_eq, if_true, if_false, ite_self, Nat.reduceLT, Nat.reduceSub, Nat.reduceBEq, Nat.reduceEqDiff, Nat.reduceAdd, Nat.reduceLeDiff, reduceCtorEq, Nat.reduceMul]; done)
      | skip
    rintro z e' σ' (⟨rfl, hi, rfl, g2, g3, g4⟩ | ⟨rfl, hi, g4, g5, g6⟩)
    · simp only [g2, g3, g4, hi, h2, h3, h4, Int.reduceEq, fxa, fxc, fxE, fxL, fxI, nxE, evO, evR, cellsT, ldCells, mkT, lenA, binPV, Env.init, resV, resT, frT, klT, ownT, intT, O.adds, ownA, rowsA, over, wrOk, keysT, keysA, ne_eq, if_true, if_false, ite_self, Nat.reduceLT, Nat.reduceSub, Nat.reduceBEq, Nat.reduceEqDiff, Nat.reduceAdd, Nat.reduceLeDiff, reduceCtorEq, Nat.reduceMul]
    · have hi' : ¬ pickIx x y < 0 := by omega
      simp only [g4, g5, g6, hi', fxa, fxc, fxE, fxL, fxI, nxE, evO, evR, cellsT, ldCells, mkT, lenA, binPV, Env.init, resV, resT, frT, klT, ownT, intT, O.adds, ownA, rowsA, over, wrOk, keysT, keysA, ne_eq, if_true, if_false, ite_self, Nat.reduceLT, Nat.reduceSub, Nat.reduceBEq, Nat.reduceEqDiff, Nat.reduceAdd, Nat.reduceLeDiff, reduceCtorEq, Nat.reduceMul]
  by_cases h3 : x.k = 11 ∧ y.k = 10
  · have h3' := h3
    obtain ⟨h3, h4⟩ := h3
    simp only [F34, encLE, encL, plainR, noR, p0, zN, h3, h4, Int.reduceEq, not_true_eq_false, fxa, fxc, fxE, fxL, fxI, nxE, evO, evR, cellsT, ldCells, mkT, lenA, binPV, Env.init, resV, resT, frT, klT, ownT, intT, O.adds, ownA, rowsA, over, wrOk, keysT, keysA, ne_eq, if_true, if_false, ite_self, Nat.reduceLT, Nat.reduceSub, Nat.reduceBEq, Nat.reduceEqDiff, Nat.reduceAdd, Nat.reduceLeDiff, reduceCtorEq, Nat.reduceMul]
    refine Go.Fx.wp_mono (askLoop0 (x := x) (y := y) h2 ?_ ?_ _ ?_ ?_ ?_ ?_) ?_
    all_goals first
      | (simp only [encN, h3, h4, List.map_cons, List.map_nil, fxa, fxc, fxE, fxL, fxI, nxE, evO, evR, cellsT, ldCells, mkT, lenA, binPV, Env.init, resV, resT, frT, klT, ownT, intT, O.adds, ownA, rowsA, over, wrOk, keysT, keysA, ne_eq, if_true, if_false, ite_self, Nat.reduceLT, Nat.reduceSub, Nat.reduceBEq, Nat.reduceEqDiff, Nat.reduceAdd, Nat.reduceLeDiff, reduceCtorEq, Nat.reduceMul]; done)
      | skip
    rintro z e' σ' ⟨rfl, rfl, g2, g3, g4⟩
    simp only [g2, g3, g4, h3, h4, Int.reduceEq, fxa, fxc, fxE, fxL, fxI, nxE, evO, evR, cellsT, ldCells, mkT, lenA, binPV, Env.init, resV, resT, frT, klT, ownT, intT, O.adds, ownA, rowsA, over, wrOk, keysT, keysA, ne_eq, if_true, if_false, ite_self, Nat.reduceLT, Nat.reduceSub, Nat.reduceBEq, Nat.reduceEqDiff, Nat.reduceAdd, Nat.reduceLeDiff, reduceCtorEq, Nat.reduceMul]
  by_cases h4 : x.k = 12 ∧ y.k = 10
  · obtain ⟨h4, h5⟩ := h4
    simp only [F34, encLE, encL, plainR, noR, p0, zN, h4, h5, Int.reduceEq, not_true_eq_false, fxa, fxc, fxE, fxL, fxI, nxE, evO, evR, cellsT, ldCells, mkT, lenA, binPV, Env.init, resV, resT, frT, klT, ownT, intT, O.adds, ownA, rowsA, over, wrOk, keysT, keysA, ne_eq, if_true, if_false, ite_self, Nat.reduceLT, Nat.reduceSub, Nat.reduceBEq, Nat.reduceEqDiff, Nat.reduceAdd, Nat.reduceLeDiff, reduceCtorEq, Nat.reduceMul]
    refine Go.Fx.wp_mono (askLoop0 (x := x) (y := y) h2 ?_ ?_ _ ?_ ?_ ?_ ?_) ?_
    all_goals first
      | (simp only [encN, h4, h5, List.map_cons, List.map_nil, fxa, fxc, fxE, fxL, fxI, nxE, evO, evR, cellsT, ldCells, mkT, lenA, binPV, Env.init, resV, resT, frT, klT, ownT, intT, O.adds, ownA, rowsA, over, wrOk, keysT, keysA, ne_eq, if_true, if_false, ite_self, Nat.reduceLT, Nat.reduceSub, Nat.reduceBEq, Nat.reduceEqDiff, Nat.reduceAdd, Nat.reduceLeDiff, reduceCtorEq, Nat.reduceMul]; done)
      | skip
    rintro z e' σ' ⟨rfl, rfl, g2, g3, g4⟩
    rw [h4, h5] at co
    simp only [g2, g3, g4, h4, h5, co, Int.reduceEq, fxa, fxc, fxE, fxL, fxI, nxE, evO, evR, cellsT, ldCells, mkT, lenA, binPV, Env.init, resV, resT, frT, klT, ownT, intT, O.adds, ownA, rowsA, over, wrOk, keysT, keysA, ne_eq, if_true, if_false, ite_self, Nat.reduceLT, Nat.reduceSub, Nat.reduceBEq, Nat.reduceEqDiff, Nat.reduceAdd, Nat.reduceLeDiff, reduceCtorEq, Nat.reduceMul]
  by_cases n3 : x.k = 3
  · have hy : ¬ y.k = 2 := fun h => h1 ⟨n3, h⟩
    simp only [F34, encLE, encL, plainR, noR, p0, zN, n3, hy, Int.reduceEq, not_true_eq_false, fxa, fxc, fxE, fxL, fxI, nxE, evO, evR, cellsT, ldCells, mkT, lenA, binPV, Env.init, resV, resT, frT, klT, ownT, intT, O.adds, ownA, rowsA, over, wrOk, keysT, keysA, ne_eq, if_true, if_false, ite_self, Nat.reduceLT, Nat.reduceSub, Nat.reduceBEq, Nat.reduceEqDiff, Nat.reduceAdd, Nat.reduceLeDiff, reduceCtorEq, Nat.reduceMul]
    refine Go.Fx.wp_mono (askLoop0 (x := x) (y := y) h2 ?_ ?_ _ ?_ ?_ ?_ ?_) ?_
    all_goals first
      | (simp only [encN, n3, hy, List.map_cons, List.map_nil, fxa, fxc, fxE, fxL, fxI, nxE, evO, evR, cellsT, ldCells, mkT, lenA, binPV, Env.init, resV, resT, frT, klT, ownT, intT, O.adds, ownA, rowsA, over, wrOk, keysT, keysA, ne_eq, if_true, if_false, ite_self, Nat.reduceLT, Nat.reduceSub, Nat.reduceBEq, Nat.reduceEqDiff, Nat.reduceAdd, Nat.reduceLeDiff, reduceCtorEq, Nat.reduceMul]; done)
      | skip
    rintro z e' σ' ⟨rfl, rfl, g2, g3, g4⟩
    simp only [g2, g3, g4, n3, hy, Int.reduceEq, fxa, fxc, fxE, fxL, fxI, nxE, evO, evR, cellsT, ldCells, mkT, lenA, binPV, Env.init, resV, resT, frT, klT, ownT, intT, O.adds, ownA, rowsA, over, wrOk, keysT, keysA, ne_eq, if_true, if_false, ite_self, Nat.reduceLT, Nat.reduceSub, Nat.reduceBEq, Nat.reduceEqDiff, Nat.reduceAdd, Nat.reduceLeDiff, reduceCtorEq, Nat.reduceMul]
  by_cases n9 : x.k = 9
  · have hy : ¬ y.k = 8 := fun h => h2 ⟨n9, h⟩
    simp only [F34, encLE, encL, plainR, noR, p0, zN, n9, hy, Int.reduceEq, not_true_eq_false, fxa, fxc, fxE, fxL, fxI, nxE, evO, evR, cellsT, ldCells, mkT, lenA, binPV, Env.init, resV, resT, frT, klT, ownT, intT, O.adds, ownA, rowsA, over, wrOk, keysT, keysA, ne_eq, if_true, if_false, ite_self, Nat.reduceLT, Nat.reduceSub, Nat.reduceBEq, Nat.reduceEqDiff, Nat.reduceAdd, Nat.reduceLeDiff, reduceCtorEq, Nat.reduceMul]
    refine Go.Fx.wp_mono (askLoop0 (x := x) (y := y) h2 ?_ ?_ _ ?_ ?_ ?_ ?_) ?_
    all_goals first
      | (simp only [encN, n9, hy, List.map_cons, List.map_nil, fxa, fxc, fxE, fxL, fxI, nxE, evO, evR, cellsT, ldCells, mkT, lenA, binPV, Env.init, resV, resT, frT, klT, ownT, intT, O.adds, ownA, rowsA, over, wrOk, keysT, keysA, ne_eq, if_true, if_false, ite_self, Nat.reduceLT, Nat.reduceSub, Nat.reduceBEq, Nat.reduceEqDiff, Nat.reduceAdd, Nat.reduceLeDiff, reduceCtorEq, Nat.reduceMul]; done)
      | skip
    rintro z e' σ' ⟨rfl, rfl, g2, g3, g4⟩
    simp only [g2, g3, g4, n9, hy, Int.reduceEq, fxa, fxc, fxE, fxL, fxI, nxE, evO, evR, cellsT, ldCells, mkT, lenA, binPV, Env.init, resV, resT, frT, klT, ownT, intT, O.adds, ownA, rowsA, over, wrOk, keysT, keysA, ne_eq, if_true, if_false, ite_self, Nat.reduceLT, Nat.reduceSub, Nat.reduceBEq, Nat.reduceEqDiff, Nat.reduceAdd, Nat.reduceLeDiff, reduceCtorEq, Nat.reduceMul]
  by_cases n11 : x.k = 11
  · have hy : ¬ y.k = 10 := fun h => h3 ⟨n11, h⟩
    simp only [F34, encLE, encL, plainR, noR, p0, zN, n11, hy, Int.reduceEq, not_true_eq_false, fxa, fxc, fxE, fxL, fxI, nxE, evO, evR, cellsT, ldCells, mkT, lenA, binPV, Env.init, resV, resT, frT, klT, ownT, intT, O.adds, ownA, rowsA, over, wrOk, keysT, keysA, ne_eq, if_true, if_false, ite_self, Nat.reduceLT, Nat.reduceSub, Nat.reduceBEq, Nat.reduceEqDiff, Nat.reduceAdd, Nat.reduceLeDiff, reduceCtorEq, Nat.reduceMul]
    refine Go.Fx.wp_mono (askLoop0 (x := x) (y := y) h2 ?_ ?_ _ ?_ ?_ ?_ ?_) ?_
    all_goals first
      | (simp only [encN, n11, hy, List.map_cons, List.map_nil, fxa, fxc, fxE, fxL, fxI, nxE, evO, evR, cellsT, ldCells, mkT, lenA, binPV, Env.init, resV, resT, frT, klT, ownT, intT, O.adds, ownA, rowsA, over, wrOk, keysT, keysA, ne_eq, if_true, if_false, ite_self, Nat.reduceLT, Nat.reduceSub, Nat.reduceBEq, Nat.reduceEqDiff, Nat.reduceAdd, Nat.reduceLeDiff, reduceCtorEq, Nat.reduceMul]; done)
      | skip
    rintro z e' σ' ⟨rfl, rfl, g2, g3, g4⟩
    simp only [g2, g3, g4, n11, hy, Int.reduceEq, fxa, fxc, fxE, fxL, fxI, nxE, evO, evR, cellsT, ldCells, mkT, lenA, binPV, Env.init, resV, resT, frT, klT, ownT, intT, O.adds, ownA, rowsA, over, wrOk, keysT, keysA, ne_eq, if_true, if_false, ite_self, Nat.reduceLT, Nat.reduceSub, Nat.reduceBEq, Nat.reduceEqDiff, Nat.reduceAdd, Nat.reduceLeDiff, reduceCtorEq, Nat.reduceMul]
  by_cases n12 : x.k = 12
  · have hy : ¬ y.k = 10 := fun h => h4 ⟨n12, h⟩
    simp only [F34, encLE, encL, plainR, noR, p0, zN, n12, hy, Int.reduceEq, not_true_eq_false, fxa, fxc, fxE, fxL, fxI, nxE, evO, evR, cellsT, ldCells, mkT, lenA, binPV, Env.init, resV, resT, frT, klT, ownT, intT, O.adds, ownA, rowsA, over, wrOk, keysT, keysA, ne_eq, if_true, if_false, ite_self, Nat.reduceLT, Nat.reduceSub, Nat.reduceBEq, Nat.reduceEqDiff, Nat.reduceAdd, Nat.reduceLeDiff, reduceCtorEq, Nat.reduceMul]
    refine Go.Fx.wp_mono (askLoop0 (x := x) (y := y) h2 ?_ ?_ _ ?_ ?_ ?_ ?_) ?_
    all_goals first
      | (simp only [encN, n12, hy, List.map_cons, List.map_nil, fxa, fxc, fxE, fxL, fxI, nxE, evO, evR, cellsT, ldCells, mkT, lenA, binPV, Env.init, resV, resT, frT, klT, ownT, intT, O.adds, ownA, rowsA, over, wrOk, keysT, keysA, ne_eq, if_true, if_false, ite_self, Nat.reduceLT, Nat.reduceSub, Nat.reduceBEq, Nat.reduceEqDiff, Nat.reduceAdd, Nat.reduceLeDiff, reduceCtorEq, Nat.reduceMul]; done)
      | skip
    rintro z e' σ' ⟨rfl, rfl, g2, g3, g4⟩
    simp only [g2, g3, g4, n12, hy, Int.reduceEq, fxa, fxc, fxE, fxL, fxI, nxE, evO, evR, cellsT, ldCells, mkT, lenA, binPV, Env.init, resV, resT, frT, klT, ownT, intT, O.adds, ownA, rowsA, over, wrOk, keysT, keysA, ne_eq, if_true, if_false, ite_self, Nat.reduceLT, Nat.reduceSub, Nat.reduceBEq, Nat.reduceEqDiff, Nat.reduceAdd, Nat.reduceLeDiff, reduceCtorEq, Nat.reduceMul]
  simp only [F34, encLE, encL, plainR, noR, p0, zN, n3, n9, n11, n12, false_and, Int.reduceEq, not_true_eq_false, fxa, fxc, fxE, fxL, fxI, nxE, evO, evR, cellsT, ldCells, mkT, lenA, binPV, Env.init, resV, resT, frT, klT, ownT, intT, O.adds, ownA, rowsA, over, wrOk, keysT, keysA, ne_eq, if_true, if_false, ite_self, Nat.reduceLT, Nat.reduceSub, Nat.reduceBEq, Nat.reduceEqDiff, Nat.reduceAdd, Nat.reduceLeDiff, reduceCtorEq, Nat.reduceMul]
  refine Go.Fx.wp_mono (askLoop0 (x := x) (y := y) h2 ?_ ?_ _ ?_ ?_ ?_ ?_) ?_
  all_goals first
    | (simp only [encN, n3, n9, n11, n12, List.map_cons, List.map_nil, fxa, fxc, fxE, fxL, fxI, nxE, evO, evR, cellsT, ldCells, mkT, lenA, binPV, Env.init, resV, resT, frT, klT, ownT, intT, O.adds, ownA, rowsA, over, wrOk, keysT, keysA, ne_eq, if_true, if_false, ite_self, Nat.reduceLT, Nat.reduceSub, Nat.reduceBEq, Nat.reduceEqDiff, Nat.reduceAdd, Nat.reduceLeDiff, reduceCtorEq, Nat.reduceMul]; done)
    | skip
  rintro z e' σ' ⟨rfl, rfl, g2, g3, g4⟩
  simp only [g2, g3, g4, n3, n9, n11, n12, Int.reduceEq, fxa, fxc, fxE, fxL, fxI, nxE, evO, evR, cellsT, ldCells, mkT, lenA, binPV, Env.init, resV, resT, frT, klT, ownT, intT, O.adds, ownA, rowsA, over, wrOk, keysT, keysA, ne_eq, if_true, if_false, ite_self, Nat.reduceLT, Nat.reduceSub, Nat.reduceBEq, Nat.reduceEqDiff, Nat.reduceAdd, Nat.reduceLeDiff, reduceCtorEq, Nat.reduceMul]
def firstR (x y : Nd) : (Pl × Int) × Bool :=
  if x.k = 7 then (plainR 8, true) else if y.k = 7 then (noR 0, false)
  else if cls x.k = 3 ∧ cls y.k = 3 ∧ x.lv = y.lv then (if x.k = y.k then plainR 6 else noR 140, true)
  else if cls x.k = 3 ∧ (¬ cls y.k = 3 ∨ x.lv < y.lv) then (passR x y, true)
  else if cls y.k = 3 ∨ ¬ cls x.k = 1 ∨ ¬ cls y.k = 2 then (noR 140, false) else (askR x y, true)
def encF (z : (Pl × Int) × Bool) : PT := .t [(true, encL z.1.1), (false, [.i .i64 z.1.2]), (false, [.b z.2])]
theorem Rfirst_ok {x y : Nd} (hx : x.Ok) : eP S 21 [.g (encN x), .g (encN y)] = some (encF (firstR x y)) := by
  refine x_fn (orcS (by decide)) (fc := F21) rfl rfl ?_
  have ca := Rasked_ok (y := y) hx
  have cp := Rpassed_ok x y
  have x3 := RControl_ok x.k
  have y3 := RControl_ok y.k
  have x1 := RAsks_ok x.k
  have y2 := RTold_ok y.k
  obtain ⟨⟨⟨ak, ka0, al, aa, ⟨m1, m2, m3, m4, m5, m6⟩⟩, ae⟩, ha⟩ : ∃ z, askR x y = z := ⟨_, rfl⟩
  obtain ⟨⟨⟨pk, ps, pl, pa, ⟨n1, n2, n3, n4, n5, n6⟩⟩, pe⟩, hp⟩ : ∃ z, passR x y = z := ⟨_, rfl⟩
  unfold firstR
  rw [ha] at ca ⊢
  rw [hp] at cp ⊢
  simp only [encN, encLE, encL] at ca cp
  by_cases h1 : x.k = 7
  · simp only [F21, encF, encL, plainR, noR, p0, zN, h1, Int.reduceEq, fxa, fxc, fxE, fxL, fxI, nxE, evO, evR, cellsT, ldCells, mkT, lenA, binPV, Env.init, resV, resT, frT, klT, ownT, intT, O.adds, ownA, rowsA, over, wrOk, keysT, keysA, ne_eq, if_true, if_false, ite_self, Nat.reduceLT, Nat.reduceSub, Nat.reduceBEq, Nat.reduceEqDiff, Nat.reduceAdd, Nat.reduceLeDiff, reduceCtorEq, Nat.reduceMul]
  by_cases h2 : y.k = 7
  · simp only [F21, encF, encL, plainR, noR, p0, zN, h1, h2, Int.reduceEq, fxa, fxc, fxE, fxL, fxI, nxE, evO, evR, cellsT, ldCells, mkT, lenA, binPV, Env.init, resV, resT, frT, klT, ownT, intT, O.adds, ownA, rowsA, over, wrOk, keysT, keysA, ne_eq, if_true, if_false, ite_self, Nat.reduceLT, Nat.reduceSub, Nat.reduceBEq, Nat.reduceEqDiff, Nat.reduceAdd, Nat.reduceLeDiff, reduceCtorEq, Nat.reduceMul]
  by_cases h3 : cls x.k = 3
  · by_cases h4 : cls y.k = 3
    · by_cases h5 : x.lv = y.lv
      · by_cases h6 : x.k = y.k
        · simp only [F21, encF, encL, plainR, noR, p0, zN, h1, h2, x3, y3, h3, h4, h5, h6, Int.reduceEq, Int.lt_irrefl, fxa, fxc, fxE, fxL, fxI, nxE, evO, evR, cellsT, ldCells, mkT, lenA, binPV, Env.init, resV, resT, frT, klT, ownT, intT, O.adds, ownA, rowsA, over, wrOk, keysT, keysA, ne_eq, if_true, if_false, ite_self, Nat.reduceLT, Nat.reduceSub, Nat.reduceBEq, Nat.reduceEqDiff, Nat.reduceAdd, Nat.reduceLeDiff, reduceCtorEq, Nat.reduceMul]
          all_goals simp only [h6] at h1 h3 x3
          all_goals simp only [encF, encL, plainR, noR, p0, zN, h1, h2, x3, y3, h3, h4, h5, h6, Int.reduceEq, Int.lt_irrefl, fxa, fxc, fxE, fxL, fxI, nxE, evO, evR, cellsT, ldCells, mkT, lenA, binPV, Env.init, resV, resT, frT, klT, ownT, intT, O.adds, ownA, rowsA, over, wrOk, keysT, keysA, ne_eq, if_true, if_false, ite_self, Nat.reduceLT, Nat.reduceSub, Nat.reduceBEq, Nat.reduceEqDiff, Nat.reduceAdd, Nat.reduceLeDiff, reduceCtorEq, Nat.reduceMul]
        · simp only [F21, encF, encL, plainR, noR, p0, zN, h1, h2, x3, y3, h3, h4, h5, h6, Int.reduceEq, Int.lt_irrefl, fxa, fxc, fxE, fxL, fxI, nxE, evO, evR, cellsT, ldCells, mkT, lenA, binPV, Env.init, resV, resT, frT, klT, ownT, intT, O.adds, ownA, rowsA, over, wrOk, keysT, keysA, ne_eq, if_true, if_false, ite_self, Nat.reduceLT, Nat.reduceSub, Nat.reduceBEq, Nat.reduceEqDiff, Nat.reduceAdd, Nat.reduceLeDiff, reduceCtorEq, Nat.reduceMul]
      · by_cases h6 : x.lv < y.lv
        · simp only [F21, encF, encL, plainR, noR, p0, zN, h1, h2, x3, y3, x1, y2, h3, h4, h5, h6, cp, or_true, not_true_eq_false, Int.reduceEq, fxa, fxc, fxE, fxL, fxI, nxE, evO, evR, cellsT, ldCells, mkT, lenA, binPV, Env.init, resV, resT, frT, klT, ownT, intT, O.adds, ownA, rowsA, over, wrOk, keysT, keysA, ne_eq, if_true, if_false, ite_self, Nat.reduceLT, Nat.reduceSub, Nat.reduceBEq, Nat.reduceEqDiff, Nat.reduceAdd, Nat.reduceLeDiff, reduceCtorEq, Nat.reduceMul]
        · simp only [F21, encF, encL, plainR, noR, p0, zN, h1, h2, x3, y3, x1, y2, h3, h4, h5, h6, or_false, true_or, not_true_eq_false, Int.reduceEq, fxa, fxc, fxE, fxL, fxI, nxE, evO, evR, cellsT, ldCells, mkT, lenA, binPV, Env.init, resV, resT, frT, klT, ownT, intT, O.adds, ownA, rowsA, over, wrOk, keysT, keysA, ne_eq, if_true, if_false, ite_self, Nat.reduceLT, Nat.reduceSub, Nat.reduceBEq, Nat.reduceEqDiff, Nat.reduceAdd, Nat.reduceLeDiff, reduceCtorEq, Nat.reduceMul]
    · simp only [F21, encF, encL, plainR, noR, p0, zN, h1, h2, x3, y3, x1, y2, h3, h4, cp, true_or, not_false_eq_true, Int.reduceEq, fxa, fxc, fxE, fxL, fxI, nxE, evO, evR, cellsT, ldCells, mkT, lenA, binPV, Env.init, resV, resT, frT, klT, ownT, intT, O.adds, ownA, rowsA, over, wrOk, keysT, keysA, ne_eq, if_true, if_false, ite_self, Nat.reduceLT, Nat.reduceSub, Nat.reduceBEq, Nat.reduceEqDiff, Nat.reduceAdd, Nat.reduceLeDiff, reduceCtorEq, Nat.reduceMul]
  by_cases h4 : cls y.k = 3
  · simp only [F21, encF, encL, plainR, noR, p0, zN, h1, h2, x3, y3, x1, y2, h3, h4, true_or, Int.reduceEq, fxa, fxc, fxE, fxL, fxI, nxE, evO, evR, cellsT, ldCells, mkT, lenA, binPV, Env.init, resV, resT, frT, klT, ownT, intT, O.adds, ownA, rowsA, over, wrOk, keysT, keysA, ne_eq, if_true, if_false, ite_self, Nat.reduceLT, Nat.reduceSub, Nat.reduceBEq, Nat.reduceEqDiff, Nat.reduceAdd, Nat.reduceLeDiff, reduceCtorEq, Nat.reduceMul]
  by_cases h5 : cls x.k = 1
  · by_cases h6 : cls y.k = 2
    · simp only [F21, encF, encL, plainR, noR, p0, zN, h1, h2, x3, y3, x1, y2, h3, h4, h5, h6, ca, not_true_eq_false, or_self, Int.reduceEq, fxa, fxc, fxE, fxL, fxI, nxE, evO, evR, cellsT, ldCells, mkT, lenA, binPV, Env.init, resV, resT, frT, klT, ownT, intT, O.adds, ownA, rowsA, over, wrOk, keysT, keysA, ne_eq, if_true, if_false, ite_self, Nat.reduceLT, Nat.reduceSub, Nat.reduceBEq, Nat.reduceEqDiff, Nat.reduceAdd, Nat.reduceLeDiff, reduceCtorEq, Nat.reduceMul]
    · simp only [F21, encF, encL, plainR, noR, p0, zN, h1, h2, x3, y3, x1, y2, h3, h4, h5, h6, not_true_eq_false, not_false_eq_true, or_self, or_true, Int.reduceEq, fxa, fxc, fxE, fxL, fxI, nxE, evO, evR, cellsT, ldCells, mkT, lenA, binPV, Env.init, resV, resT, frT, klT, ownT, intT, O.adds, ownA, rowsA, over, wrOk, keysT, keysA, ne_eq, if_true, if_false, ite_self, Nat.reduceLT, Nat.reduceSub, Nat.reduceBEq, Nat.reduceEqDiff, Nat.reduceAdd, Nat.reduceLeDiff, reduceCtorEq, Nat.reduceMul]
  · simp only [F21, encF, encL, plainR, noR, p0, zN, h1, h2, x3, y3, x1, y2, h3, h4, h5, not_true_eq_false, not_false_eq_true, or_self, true_or, or_true, Int.reduceEq, fxa, fxc, fxE, fxL, fxI, nxE, evO, evR, cellsT, ldCells, mkT, lenA, binPV, Env.init, resV, resT, frT, klT, ownT, intT, O.adds, ownA, rowsA, over, wrOk, keysT, keysA, ne_eq, if_true, if_false, ite_self, Nat.reduceLT, Nat.reduceSub, Nat.reduceBEq, Nat.reduceEqDiff, Nat.reduceAdd, Nat.reduceLeDiff, reduceCtorEq, Nat.reduceMul]
theorem first_7 {a b : Nd} (h : a.k = 7) : firstR a b = (plainR 8, true) := by unfold firstR; rw [if_pos h]
theorem first_y {a b : Nd} (h : ¬ a.k = 7) (h2 : b.k = 7) : firstR a b = (noR 0, false) := by unfold firstR; rw [if_neg h, if_pos h2]
theorem ofR_first (a b : Nd) : ofR a b = if cls a.k = 0 ∨ cls b.k = 0 then noR 140 else if (firstR a b).2 = true then (firstR a b).1 else if (firstR b a).2 = true then swapR (firstR b a).1 else noR 140 := by
  unfold ofR
  by_cases h0 : cls a.k = 0 ∨ cls b.k = 0
  · rw [if_pos h0, if_pos h0]
  rw [if_neg h0, if_neg h0]
  have ra := cls_r a.k
  have rb := cls_r b.k
  have a4 := cls4_ a.k
  have b4 := cls4_ b.k
  by_cases h1 : a.k = 7
  · rw [if_pos (a4.2 h1), first_7 h1]; rfl
  rw [if_neg (fun e => h1 (a4.1 e))]
  by_cases h2 : b.k = 7
  · rw [if_pos (b4.2 h2), first_y h1 h2, first_7 h2]; rfl
  rw [if_neg (fun e => h2 (b4.1 e))]
  have na : cls a.k ≠ 4 := fun e => h1 (a4.1 e)
  have nb : cls b.k ≠ 4 := fun e => h2 (b4.1 e)
  clear a4 b4
  unfold firstR
  rw [if_neg h1, if_neg h2, if_neg h2, if_neg h1]
  obtain ⟨u, hu⟩ : ∃ u, cls a.k = u := ⟨_, rfl⟩
  obtain ⟨v, hv⟩ : ∃ v, cls b.k = v := ⟨_, rfl⟩
  rw [hu] at ra na h0 ⊢
  rw [hv] at rb nb h0 ⊢
  by_cases h3 : u = 3
  · by_cases h4 : v = 3
    · subst h3; subst h4
      by_cases h5 : a.lv = b.lv
      · by_cases h6 : a.k = b.k
        · simp [h5, h6]
        · simp [h5, h6, passR]
      · by_cases h6 : a.lv < b.lv
        · have g1 : a.lv ≤ b.lv := by omega
          simp [h5, h6, g1]
        · have g1 : ¬ a.lv ≤ b.lv := by omega
          have g2 : b.lv < a.lv := by omega
          have g3 : ¬ b.lv = a.lv := by omega
          simp [h5, h6, g1, g2, g3]
    · subst h3
      simp [h4]
  · by_cases h4 : v = 3
    · subst h4
      simp [h3]
    · by_cases h5 : u = 1
      · by_cases h6 : v = 2
        · subst h5; subst h6; simp
        · subst h5
          simp [h4, h6]
      · by_cases h6 : v = 1
        · have : u = 2 := by omega
          subst this; subst h6; simp
        · simp [h3, h4, h5, h6]
theorem swap_first {b a : Nd} : (firstR b a).1.1.sw = false := by
  unfold firstR
  repeat' split
  all_goals first
    | rfl
    | (unfold passR; repeat' split
       all_goals rfl)
    | (unfold askR; repeat' split
       all_goals first
         | rfl
         | (unfold pickR; repeat' split
            all_goals rfl)
         | (unfold outR; repeat' split
            all_goals rfl))
theorem ROf_ok {a b : Nd} (ha : a.Ok) (hb : b.Ok) : eP S 8 [.g (encN a), .g (encN b)] = some (encLE (ofR a b)) := by
  refine x_fn (orcS (by decide)) (fc := F8) rfl rfl ?_
  have ka := Rknown_ok a.k
  have kb := Rknown_ok b.k
  have c1 := Rfirst_ok (y := b) ha
  have c2 := Rfirst_ok (y := a) hb
  rw [ofR_first]
  obtain ⟨⟨⟨⟨ak, ka0, al, aa, ⟨m1, m2, m3, m4, m5, m6⟩⟩, ae⟩, is⟩, h1⟩ : ∃ z, firstR a b = z := ⟨_, rfl⟩
  obtain ⟨⟨⟨⟨pk, ps, pl, pa, ⟨n1, n2, n3, n4, n5, n6⟩⟩, pe⟩, was⟩, h2⟩ : ∃ z, firstR b a = z := ⟨_, rfl⟩
  rw [h1] at c1 ⊢
  rw [h2] at c2 ⊢
  simp only [encN, encF, encL] at c1 c2
  by_cases k1 : cls a.k = 0
  · simp only [F8, encLE, encL, noR, p0, zN, ka, k1, true_or, ne_eq, not_true_eq_false, fxa, fxc, fxE, fxL, fxI, nxE, evO, evR, cellsT, ldCells, mkT, lenA, binPV, Env.init, resV, resT, frT, klT, ownT, intT, O.adds, ownA, rowsA, over, wrOk, keysT, keysA, ne_eq, if_true, if_false, ite_self, Nat.reduceLT, Nat.reduceSub, Nat.reduceBEq, Nat.reduceEqDiff, Nat.reduceAdd, Nat.reduceLeDiff, reduceCtorEq, Nat.reduceMul]
  by_cases k2 : cls b.k = 0
  · simp only [F8, encLE, encL, noR, p0, zN, ka, kb, k1, k2, or_true, ne_eq, not_true_eq_false, not_false_eq_true, fxa, fxc, fxE, fxL, fxI, nxE, evO, evR, cellsT, ldCells, mkT, lenA, binPV, Env.init, resV, resT, frT, klT, ownT, intT, O.adds, ownA, rowsA, over, wrOk, keysT, keysA, ne_eq, if_true, if_false, ite_self, Nat.reduceLT, Nat.reduceSub, Nat.reduceBEq, Nat.reduceEqDiff, Nat.reduceAdd, Nat.reduceLeDiff, reduceCtorEq, Nat.reduceMul]
  cases is with
  | true => simp only [F8, encLE, encL, noR, p0, zN, ka, kb, k1, k2, c1, or_self, ne_eq, not_true_eq_false, not_false_eq_true, fxa, fxc, fxE, fxL, fxI, nxE, evO, evR, cellsT, ldCells, mkT, lenA, binPV, Env.init, resV, resT, frT, klT, ownT, intT, O.adds, ownA, rowsA, over, wrOk, keysT, keysA, ne_eq, if_true, if_false, ite_self, Nat.reduceLT, Nat.reduceSub, Nat.reduceBEq, Nat.reduceEqDiff, Nat.reduceAdd, Nat.reduceLeDiff, reduceCtorEq, Nat.reduceMul]
  | false =>
    cases was with
    | true =>
      unfold swapR
      by_cases h : pe = 0
      · simp only [F8, encLE, encL, noR, p0, zN, ka, kb, k1, k2, c1, c2, h, or_self, Bool.false_eq_true, ne_eq, not_true_eq_false, not_false_eq_true, fxa, fxc, fxE, fxL, fxI, nxE, evO, evR, cellsT, ldCells, mkT, lenA, binPV, Env.init, resV, resT, frT, klT, ownT, intT, O.adds, ownA, rowsA, over, wrOk, keysT, keysA, ne_eq, if_true, if_false, ite_self, Nat.reduceLT, Nat.reduceSub, Nat.reduceBEq, Nat.reduceEqDiff, Nat.reduceAdd, Nat.reduceLeDiff, reduceCtorEq, Nat.reduceMul]
      · have hs : ps = false := by
          have := swap_first (a := a) (b := b)
          rw [h2] at this; exact this
        simp only [F8, encLE, encL, noR, p0, zN, ka, kb, k1, k2, c1, c2, h, hs, or_self, Bool.false_eq_true, ne_eq, not_true_eq_false, not_false_eq_true, fxa, fxc, fxE, fxL, fxI, nxE, evO, evR, cellsT, ldCells, mkT, lenA, binPV, Env.init, resV, resT, frT, klT, ownT, intT, O.adds, ownA, rowsA, over, wrOk, keysT, keysA, ne_eq, if_true, if_false, ite_self, Nat.reduceLT, Nat.reduceSub, Nat.reduceBEq, Nat.reduceEqDiff, Nat.reduceAdd, Nat.reduceLeDiff, reduceCtorEq, Nat.reduceMul]
    | false => simp only [F8, encLE, encL, noR, p0, zN, ka, kb, k1, k2, c1, c2, or_self, Bool.false_eq_true, ne_eq, not_true_eq_false, not_false_eq_true, fxa, fxc, fxE, fxL, fxI, nxE, evO, evR, cellsT, ldCells, mkT, lenA, binPV, Env.init, resV, resT, frT, klT, ownT, intT, O.adds, ownA, rowsA, over, wrOk, keysT, keysA, ne_eq, if_true, if_false, ite_self, Nat.reduceLT, Nat.reduceSub, Nat.reduceBEq, Nat.reduceEqDiff, Nat.reduceAdd, Nat.reduceLeDiff, reduceCtorEq, Nat.reduceMul]
end Go.Proofs.YtomcceambpneiaaGreat
end
section
set_option linter.unusedSimpArgs false
set_option linter.unusedVariables false
set_option maxHeartbeats 8000000
set_option maxRecDepth 10000
namespace Go.Proofs.YtomcceambpneiaaGreat
open Go.Fx
theorem fixed15r_ok : eP S 4 [] = some (.a (.b true)) := (eP_some S).2 ⟨80, by kernel_rfl⟩
theorem actRoom_law {n : Nt} {i more : Int} (hn : n.Ok) : eP S 3 [.g (encT n), .a (.i .i64 i), .a (.i .i64 more)] = some (.a (.b true)) := by
  have f0 := fixed15r_ok
  have a1 := Small_ok hn 150
  have a2 := RCheck_ok hn
  have a3 := Do_ok (i := i) hn
  have a4 := RMeets_ok n i
  have a5 := RUsed_ok hn
  refine x_fn (orcS (by decide)) (fc := F3) rfl rfl ?_
  by_cases h1 : n.small 150
  case neg =>
    rw [bool_f h1] at a1
    simp only [encT] at a1
    simp only [F3, f0, a1, encT, fxa, fxc, fxE, fxL, fxI, nxE, evO, evR, cellsT, ldCells, mkT, lenA, binPV, Env.init, resV, resT, frT, klT, ownT, intT, O.adds, ownA, rowsA, over, wrOk, keysT, keysA, ne_eq, if_true, if_false, ite_self, Nat.reduceLT, Nat.reduceSub, Nat.reduceBEq, Nat.reduceEqDiff, Nat.reduceAdd, Nat.reduceLeDiff, reduceCtorEq, Nat.reduceMul]
  rw [bool_t h1] at a1
  by_cases h2 : n.Good
  case neg =>
    rw [bool_f h2] at a2
    simp only [Bool.false_eq_true, if_false, encT] at a1 a2
    simp only [F3, f0, a1, a2, Int.reduceEq, encT, fxa, fxc, fxE, fxL, fxI, nxE, evO, evR, cellsT, ldCells, mkT, lenA, binPV, Env.init, resV, resT, frT, klT, ownT, intT, O.adds, ownA, rowsA, over, wrOk, keysT, keysA, ne_eq, if_true, if_false, ite_self, Nat.reduceLT, Nat.reduceSub, Nat.reduceBEq, Nat.reduceEqDiff, Nat.reduceAdd, Nat.reduceLeDiff, reduceCtorEq, Nat.reduceMul]
  rw [bool_t h2] at a2
  simp only [if_true, encT] at a1 a2 a4 a5
  by_cases m1 : more < 0
  · simp only [F3, f0, a1, a2, m1, Int.reduceEq, encT, fxa, fxc, fxE, fxL, fxI, nxE, evO, evR, cellsT, ldCells, mkT, lenA, binPV, Env.init, resV, resT, frT, klT, ownT, intT, O.adds, ownA, rowsA, over, wrOk, keysT, keysA, ne_eq, if_true, if_false, ite_self, Nat.reduceLT, Nat.reduceSub, Nat.reduceBEq, Nat.reduceEqDiff, Nat.reduceAdd, Nat.reduceLeDiff, reduceCtorEq, Nat.reduceMul]
  by_cases m2 : more > 100
  · simp only [F3, f0, a1, a2, m1, m2, Int.reduceEq, encT, fxa, fxc, fxE, fxL, fxI, nxE, evO, evR, cellsT, ldCells, mkT, lenA, binPV, Env.init, resV, resT, frT, klT, ownT, intT, O.adds, ownA, rowsA, over, wrOk, keysT, keysA, ne_eq, if_true, if_false, ite_self, Nat.reduceLT, Nat.reduceSub, Nat.reduceBEq, Nat.reduceEqDiff, Nat.reduceAdd, Nat.reduceLeDiff, reduceCtorEq, Nat.reduceMul]
  by_cases m3 : n.cap > 3000
  · simp only [F3, f0, a1, a2, m1, m2, m3, Int.reduceEq, encT, fxa, fxc, fxE, fxL, fxI, nxE, evO, evR, cellsT, ldCells, mkT, lenA, binPV, Env.init, resV, resT, frT, klT, ownT, intT, O.adds, ownA, rowsA, over, wrOk, keysT, keysA, ne_eq, if_true, if_false, ite_self, Nat.reduceLT, Nat.reduceSub, Nat.reduceBEq, Nat.reduceEqDiff, Nat.reduceAdd, Nat.reduceLeDiff, reduceCtorEq, Nat.reduceMul]
  by_cases hm : meetR n i < 0
  · simp only [F3, f0, a1, a2, a4, m1, m2, m3, hm, Int.reduceEq, encT, fxa, fxc, fxE, fxL, fxI, nxE, evO, evR, cellsT, ldCells, mkT, lenA, binPV, Env.init, resV, resT, frT, klT, ownT, intT, O.adds, ownA, rowsA, over, wrOk, keysT, keysA, ne_eq, if_true, if_false, ite_self, Nat.reduceLT, Nat.reduceSub, Nat.reduceBEq, Nat.reduceEqDiff, Nat.reduceAdd, Nat.reduceLeDiff, reduceCtorEq, Nat.reduceMul]
  have hM := meetR_meet hn h2 hm
  have hc : 0 ≤ more := by omega
  have hb : n.cap + more ≤ 4000 := by omega
  have hU := up_Ok hc hn h2 hb
  have a6 := Do_ok (i := i) hU
  have hw : IntKind.i64.wrap (n.cap + more) = n.cap + more := wrap_in _ (by have := h2.cap1; omega)
  have ga := getN (l := n.ns) hM.a0 hM.a1
  have gb := getN (l := n.ns) hM.b0 hM.b1
  have a0 := hM.a0
  have a1' := hM.a1
  have b0 := hM.b0
  have b1 := hM.b1
  have a7 := ROf_ok hM.ka hM.kb
  have D := do_case hn i
  have E := do_case hU i
  have eU : meetR (upN more n) i = meetR n i := rfl
  obtain ⟨k, hk⟩ : ∃ k, meetR n i = k := ⟨_, rfl⟩
  rw [hk] at a4 a7 gb b0 b1 hM hm eU
  have hna : n.ns.getD i.toNat zN = n.nd i := rfl
  have hnb : n.ns.getD k.toNat zN = n.nd k := rfl
  rw [hna] at ga
  rw [hnb] at gb
  obtain ⟨⟨p, e⟩, hp⟩ : ∃ r, ofR (n.nd i) (n.nd k) = r := ⟨_, rfl⟩
  rw [hp] at a7
  simp only [encN] at ga gb
  simp only [encN, encLE, encL] at a7
  by_cases he : e = 0
  case neg =>
    simp only [F3, f0, a1, a2, a4, a7, m1, m2, m3, hm, ga, gb, a0, a1', b0, b1, he, allN, Int.reduceEq, encT, List.length_map, fxa, fxc, fxE, fxL, fxI, nxE, evO, evR, cellsT, ldCells, mkT, lenA, binPV, Env.init, resV, resT, frT, klT, ownT, intT, O.adds, ownA, rowsA, over, wrOk, keysT, keysA, ne_eq, if_true, if_false, ite_self, Nat.reduceLT, Nat.reduceSub, Nat.reduceBEq, Nat.reduceEqDiff, Nat.reduceAdd, Nat.reduceLeDiff, reduceCtorEq, Nat.reduceMul]
  subst he
  have a8 := RNeed_ok (p := p) hM.ka hM.kb
  obtain ⟨nd, hnd⟩ : ∃ z, needR p (n.nd i) (n.nd k) = z := ⟨_, rfl⟩
  rw [hnd] at a8
  simp only [encL, encN] at a8
  have u1 := good_used h2
  have u3 : 0 ≤ n.used := (usedL_le n.ns).1
  have u5 := h2.cap2
  have hX := of_plan hM.ma hM.mb hM.ka hM.kb hM.pa hM.pb (by rw [hp])
  rw [hp] at hX
  simp only at hX
  have hnb30 : 0 ≤ nd ∧ nd ≤ 30 := by
    cases hsw : p.sw with
    | false =>
      rw [hsw] at hX
      have := need_room hM hX
      have hnr : needR p (n.nd i) (n.nd k) = needX p (n.nd i) (n.nd k) := by unfold needR; rw [hsw]; rfl
      rw [← hnd, hnr]; omega
    | true =>
      rw [hsw] at hX
      have := need_room hM.swap hX
      have hnr : needR p (n.nd i) (n.nd k) = needX p (n.nd k) (n.nd i) := by unfold needR; rw [hsw]; rfl
      rw [← hnd, hnr]; omega
  have w3 : IntKind.i64.wrap (n.used + nd) = n.used + nd := wrap_in _ (by omega)
  obtain ⟨r, hr⟩ : ∃ r, doR n i = r := ⟨_, rfl⟩
  rw [hr] at a3 D
  cases D with
  | bad h => exact absurd h2 h
  | none h hm' => rw [hk] at hm'; omega
  | pair h e' hm' he' h0 => rw [hk, hp] at he'; exact absurd he' h0
  | full h q hm' hq hu =>
    rw [hk, hp] at hq
    have : p = q := congrArg Prod.fst hq
    subst this
    rw [hk, hnd] at hu
    obtain ⟨r', hr'⟩ : ∃ r, doR (upN more n) i = r := ⟨_, rfl⟩
    rw [hr'] at a6 E
    cases E with
    | bad h => exact absurd (up_good hc h2 hb) h
    | none h hm' => rw [eU] at hm'; omega
    | pair h e' hm' he' h0 => rw [eU, up_nd, up_nd, hp] at he'; exact absurd he' h0
    | full h q hm' hq hu' =>
      rw [eU, up_nd, up_nd, hp] at hq
      have : p = q := congrArg Prod.fst hq
      subst this
      rw [eU, up_nd, up_nd, hnd, up_used] at hu'
      have hu' : ¬ n.used + nd ≤ n.cap + more := hu'
      simp only [encD, encT, encL, encN, p0, zN, List.map_nil, upN] at a3 a6
      simp only [F3, f0, a1, a2, a3, a4, a5, a6, a7, a8, m1, m2, m3, hm, ga, gb, a0, a1', b0, b1, w3, hw, hu, hu', allN, Int.reduceEq, encT, List.length_map, fxa, fxc, fxE, fxL, fxI, nxE, evO, evR, cellsT, ldCells, mkT, lenA, binPV, Env.init, resV, resT, frT, klT, ownT, intT, O.adds, ownA, rowsA, over, wrOk, keysT, keysA, ne_eq, if_true, if_false, ite_self, Nat.reduceLT, Nat.reduceSub, Nat.reduceBEq, Nat.reduceEqDiff, Nat.reduceAdd, Nat.reduceLeDiff, reduceCtorEq, Nat.reduceMul]
    | done h q m' hd' =>
      have hq := hd'.pl
      have hu' := hd'.room
      rw [eU, up_nd, up_nd, hp] at hq
      have : p = q := congrArg Prod.fst hq
      subst this
      rw [eU, up_nd, up_nd, hnd, up_used] at hu'
      have hu' : n.used + nd ≤ n.cap + more := hu'
      simp only [encD, encT, encL, encN, p0, zN, List.map_nil, upN] at a3 a6
      simp only [F3, f0, a1, a2, a3, a4, a5, a6, a7, a8, m1, m2, m3, hm, ga, gb, a0, a1', b0, b1, w3, hw, hu, hu', allN, Int.reduceEq, encT, List.length_map, fxa, fxc, fxE, fxL, fxI, nxE, evO, evR, cellsT, ldCells, mkT, lenA, binPV, Env.init, resV, resT, frT, klT, ownT, intT, O.adds, ownA, rowsA, over, wrOk, keysT, keysA, ne_eq, if_true, if_false, ite_self, Nat.reduceLT, Nat.reduceSub, Nat.reduceBEq, Nat.reduceEqDiff, Nat.reduceAdd, Nat.reduceLeDiff, reduceCtorEq, Nat.reduceMul]
  | done h q m hd =>
    have hq := hd.pl
    have hu := hd.room
    have hs := hd.st
    rw [hk, hp] at hq
    have : p = q := congrArg Prod.fst hq
    subst this
    rw [hk, hnd] at hu
    rw [up_doR hc hn hb hd] at a6
    have hu' : n.used + nd ≤ n.cap + more := by omega
    have mc := hs.cap
    have c1 := Same_ok (b := upN more m) (up_Ok hc hs.ok hs.good (by omega))
    rw [bool_t rfl] at c1
    simp only [encT, encN, upN] at c1
    simp only [encD, encT, encL, encN, upN] at a3 a6
    simp only [F3, f0, a1, a2, a3, a4, a5, a6, a7, a8, c1, m1, m2, m3, hm, ga, gb, a0, a1', b0, b1, w3, hw, hu, hu', allN, Int.reduceEq, encT, List.length_map, fxa, fxc, fxE, fxL, fxI, nxE, evO, evR, cellsT, ldCells, mkT, lenA, binPV, Env.init, resV, resT, frT, klT, ownT, intT, O.adds, ownA, rowsA, over, wrOk, keysT, keysA, ne_eq, if_true, if_false, ite_self, Nat.reduceLT, Nat.reduceSub, Nat.reduceBEq, Nat.reduceEqDiff, Nat.reduceAdd, Nat.reduceLeDiff, reduceCtorEq, Nat.reduceMul]
end Go.Proofs.YtomcceambpneiaaGreat
end
section
set_option linter.unusedSimpArgs false
set_option linter.unusedVariables false
namespace Go.Proofs.YtomcceambpneiaaGreat
open Go.Fx
theorem cellsI : Tryz.prog.cellsOf 3 = 1 := by kernel_rfl
theorem cellsSt : Tryz.prog.cellsOf 9 = 1 := by kernel_rfl
theorem cellsPt : Tryz.prog.cellsOf 46 = 2 := by kernel_rfl
theorem cellsAr : Tryz.prog.cellsOf 57 = 2 := by kernel_rfl
theorem cellsNd : Tryz.prog.cellsOf 33 = 6 := by kernel_rfl
theorem cellsNt : Tryz.prog.cellsOf 24 = 2 := by kernel_rfl
theorem cellsLN : Tryz.prog.cellsOf 22 = 1 := by kernel_rfl
theorem cellsLA : Tryz.prog.cellsOf 30 = 1 := by kernel_rfl
theorem cellsLP : Tryz.prog.cellsOf 31 = 1 := by kernel_rfl
theorem bytesPt : Tryz.prog.bytesOf 46 = 16 := by kernel_rfl
theorem bytesAr : Tryz.prog.bytesOf 57 = 24 := by kernel_rfl
theorem bytesNd : Tryz.prog.bytesOf 33 = 88 := by kernel_rfl
theorem len2 {α : Type} {l : List α} (h : l.length = 2) : ∃ a b, l = [a, b] := by
  match l, h with
  | [a, b], _ => exact ⟨a, b, rfl⟩
theorem len6 {α : Type} {l : List α} (h : l.length = 6) : ∃ a b c d e f, l = [a, b, c, d, e, f] := by
  match l, h with
  | [a, b, c, d, e, f], _ => exact ⟨a, b, c, d, e, f, rfl⟩
theorem wf_int {i : Int} (h : (Lit.int .i64 i).wf = true) : wf i := by
  simp only [Lit.wf, IntKind.min, IntKind.max, IntKind.bits, IntKind.signed, Bool.and_eq_true, decide_eq_true_eq] at h
  rw [if_pos trivial, if_pos trivial] at h
  unfold wf; omega
theorem ct_int {n : Nat} {qs : List PV} (h : CT Tryz.prog n 3 qs) : ∃ i, qs = [.i .i64 i] ∧ wf i := by
  cases n with
  | zero => exact h.elim
  | succ n => simp only [CT, Tryz.underlying3] at h; obtain ⟨i, h1, h2⟩ := h; exact ⟨i, h1, wf_int h2⟩
theorem ct_str {n : Nat} {qs : List PV} (h : CT Tryz.prog n 9 qs) : ∃ s, qs = [.s s] ∧ s.length ≤ 140737488355328 := by
  cases n with
  | zero => exact h.elim
  | succ n => simp only [CT, Tryz.underlying9] at h; obtain ⟨s, h1, h2⟩ := h; exact ⟨s, h1, by simp only [reachBytes] at h2; omega⟩
theorem ct_port {n : Nat} {qs : List PV} (h : CT Tryz.prog n 46 qs) : ∃ p : Pt, (wf p.n ∧ wf p.s) ∧ qs = encP p := by
  cases n with
  | zero => exact h.elim
  | succ n =>
    simp only [CT, Tryz.underlying46, cellsPt] at h
    obtain ⟨hl, hf⟩ := h
    obtain ⟨q0, q1, rfl⟩ := len2 hl
    have f0 : CT Tryz.prog n 3 (List.take (Tryz.prog.cellsOf 3) [q0, q1]) := hf _ (Array.mem_of_getElem? (i := 0) rfl)
    have f1 : CT Tryz.prog n 3 (List.take (Tryz.prog.cellsOf 3) [q1]) := hf _ (Array.mem_of_getElem? (i := 1) rfl)
    rw [cellsI] at f0 f1
    have f0 : CT Tryz.prog n 3 [q0] := f0
    have f1 : CT Tryz.prog n 3 [q1] := f1
    obtain ⟨i, e0, h0⟩ := ct_int f0
    obtain ⟨j, e1, h1⟩ := ct_int f1
    simp only [List.cons.injEq, and_true] at e0 e1
    subst e0 e1
    exact ⟨⟨i, j⟩, ⟨h0, h1⟩, rfl⟩
theorem ct_arity {n : Nat} {qs : List PV} (h : CT Tryz.prog n 57 qs) : ∃ a : Ar, wf a.n ∧ qs = encA a := by
  cases n with
  | zero => exact h.elim
  | succ n =>
    simp only [CT, Tryz.underlying57, cellsAr] at h
    obtain ⟨hl, hf⟩ := h
    obtain ⟨q0, q1, rfl⟩ := len2 hl
    have f0 : CT Tryz.prog n 9 (List.take (Tryz.prog.cellsOf 9) [q0, q1]) := hf _ (Array.mem_of_getElem? (i := 0) rfl)
    have f1 : CT Tryz.prog n 3 (List.take (Tryz.prog.cellsOf 3) [q1]) := hf _ (Array.mem_of_getElem? (i := 1) rfl)
    rw [cellsSt] at f0
    rw [cellsI] at f1
    have f0 : CT Tryz.prog n 9 [q0] := f0
    have f1 : CT Tryz.prog n 3 [q1] := f1
    obtain ⟨s, e0, h0⟩ := ct_str f0
    obtain ⟨j, e1, h1⟩ := ct_int f1
    simp only [List.cons.injEq, and_true] at e0 e1
    subst e0 e1
    exact ⟨⟨s, j⟩, h1, rfl⟩
theorem ct_rows {α : Type} {t k : Nat} {n : Nat} {f : α → List PV} {R : α → Prop} (h : ∀ qs, CT Tryz.prog n t qs → ∃ x, R x ∧ qs = f x) : ∀ (rows : List (List PV)), (∀ r, r ∈ rows → r.length = k ∧ CT Tryz.prog n t r) → ∃ l : List α, rows = l.map f ∧ ∀ x, x ∈ l → R x := by
  intro rows
  induction rows with
  | nil => intro _; exact ⟨[], rfl, fun t ht => by simp at ht⟩
  | cons r rows ihr =>
    intro h2
    obtain ⟨x, hx, rfl⟩ := h r (h2 r (by simp)).2
    obtain ⟨l, rfl, hl⟩ := ihr fun r hr => h2 r (by simp [hr])
    exact ⟨x :: l, rfl, fun u hu => by rcases List.mem_cons.1 hu with rfl | hu; exact hx; exact hl u hu⟩
theorem ct_ports {n : Nat} {qs : List PV} (h : CT Tryz.prog n 31 qs) : ∃ l : List Pt, (l.length * 16 ≤ 140737488355328 ∧ ∀ p, p ∈ l → wf p.n ∧ wf p.s) ∧ qs = [.l (l.map encP)] := by
  cases n with
  | zero => exact h.elim
  | succ n =>
    simp only [CT, Tryz.underlying31, bytesPt] at h
    obtain ⟨rows, e, hr, hrow⟩ := h
    obtain ⟨l, rfl, hl⟩ := ct_rows (fun qs => ct_port) rows hrow
    exact ⟨l, ⟨by simp only [reachBytes, List.length_map] at hr; omega, hl⟩, e⟩
theorem ct_arities {n : Nat} {qs : List PV} (h : CT Tryz.prog n 30 qs) : ∃ l : List Ar, (l.length * 24 ≤ 140737488355328 ∧ ∀ a, a ∈ l → wf a.n) ∧ qs = [.l (l.map encA)] := by
  cases n with
  | zero => exact h.elim
  | succ n =>
    simp only [CT, Tryz.underlying30, bytesAr] at h
    obtain ⟨rows, e, hr, hrow⟩ := h
    obtain ⟨l, rfl, hl⟩ := ct_rows (fun qs => ct_arity) rows hrow
    exact ⟨l, ⟨by simp only [reachBytes, List.length_map] at hr; omega, hl⟩, e⟩
theorem ct_node {n : Nat} {qs : List PV} (h : CT Tryz.prog n 33 qs) : ∃ x : Nd, x.Ok ∧ qs = encN x := by
  cases n with
  | zero => exact h.elim
  | succ n =>
    simp only [CT, Tryz.underlying33, cellsNd] at h
    obtain ⟨hl, hf⟩ := h
    obtain ⟨q0, q1, q2, q3, q4, q5, rfl⟩ := len6 hl
    have f0 : CT Tryz.prog n 3 (List.take (Tryz.prog.cellsOf 3) [q0, q1, q2, q3, q4, q5]) := hf _ (Array.mem_of_getElem? (i := 0) rfl)
    have f1 : CT Tryz.prog n 3 (List.take (Tryz.prog.cellsOf 3) [q1, q2, q3, q4, q5]) := hf _ (Array.mem_of_getElem? (i := 1) rfl)
    have f2 : CT Tryz.prog n 3 (List.take (Tryz.prog.cellsOf 3) [q2, q3, q4, q5]) := hf _ (Array.mem_of_getElem? (i := 2) rfl)
    have f3 : CT Tryz.prog n 9 (List.take (Tryz.prog.cellsOf 9) [q3, q4, q5]) := hf _ (Array.mem_of_getElem? (i := 3) rfl)
    have f4 : CT Tryz.prog n 30 (List.take (Tryz.prog.cellsOf 30) [q4, q5]) := hf _ (Array.mem_of_getElem? (i := 4) rfl)
    have f5 : CT Tryz.prog n 31 (List.take (Tryz.prog.cellsOf 31) [q5]) := hf _ (Array.mem_of_getElem? (i := 5) rfl)
    rw [cellsI] at f0 f1 f2
    rw [cellsSt] at f3
    rw [cellsLA] at f4
    rw [cellsLP] at f5
    have f0 : CT Tryz.prog n 3 [q0] := f0
    have f1 : CT Tryz.prog n 3 [q1] := f1
    have f2 : CT Tryz.prog n 3 [q2] := f2
    have f3 : CT Tryz.prog n 9 [q3] := f3
    have f4 : CT Tryz.prog n 30 [q4] := f4
    have f5 : CT Tryz.prog n 31 [q5] := f5
    obtain ⟨k, e0, h0⟩ := ct_int f0
    obtain ⟨lv, e1, h1⟩ := ct_int f1
    obtain ⟨m, e2, h2⟩ := ct_int f2
    obtain ⟨s, e3, h3⟩ := ct_str f3
    obtain ⟨al, h4, e4⟩ := ct_arities f4
    obtain ⟨to, h5, e5⟩ := ct_ports f5
    simp only [List.cons.injEq, and_true] at e0 e1 e2 e3 e4 e5
    subst e0 e1 e2 e3 e4 e5
    exact ⟨⟨k, lv, m, s, al, to⟩, ⟨h0, h1, h2, h3, h4.1, h5.1, h4.2, h5.2⟩, rfl⟩
theorem ct_net {n : Nat} {qs : List PV} (h : CT Tryz.prog n 24 qs) : ∃ x : Nt, x.Ok ∧ qs = encT x := by
  cases n with
  | zero => exact h.elim
  | succ n =>
    simp only [CT, Tryz.underlying24, cellsNt] at h
    obtain ⟨hl, hf⟩ := h
    obtain ⟨q0, q1, rfl⟩ := len2 hl
    have f0 : CT Tryz.prog n 22 (List.take (Tryz.prog.cellsOf 22) [q0, q1]) := hf _ (Array.mem_of_getElem? (i := 0) rfl)
    have f1 : CT Tryz.prog n 3 (List.take (Tryz.prog.cellsOf 3) [q1]) := hf _ (Array.mem_of_getElem? (i := 1) rfl)
    rw [cellsLN] at f0
    rw [cellsI] at f1
    have f0 : CT Tryz.prog n 22 [q0] := f0
    have f1 : CT Tryz.prog n 3 [q1] := f1
    obtain ⟨j, e1, h1⟩ := ct_int f1
    cases n with
    | zero => exact f0.elim
    | succ n =>
      simp only [CT, Tryz.underlying22, bytesNd] at f0
      obtain ⟨rows, e, hr, hrow⟩ := f0
      obtain ⟨l, rfl, hl2⟩ := ct_rows (fun qs => ct_node) rows hrow
      simp only [List.cons.injEq, and_true] at e e1
      subst e e1
      exact ⟨⟨l, j⟩, ⟨by simp only [reachBytes, List.length_map] at hr; simp only; omega, h1, hl2⟩, rfl⟩
theorem aggI : aggT Tryz.prog 3 = false := by simp only [aggT, Tryz.underlying3, aggD]
theorem aggNt : aggT Tryz.prog 24 = true := by simp only [aggT, Tryz.underlying24, aggD]
theorem at_int {p : PT} (h : AT Tryz.prog 3 p ∧ p.isG = aggT Tryz.prog 3) : ∃ i, wf i ∧ p = .a (.i .i64 i) := by
  obtain ⟨h1, h2⟩ := h
  rw [aggI] at h2
  cases p with
  | a q => obtain ⟨n, hn⟩ := h1; obtain ⟨i, e, hi⟩ := ct_int hn; simp only [List.cons.injEq, and_true] at e; subst e; exact ⟨i, hi, rfl⟩
  | g qs => simp [PT.isG] at h2
  | _ => exact h1.elim
theorem at_net {p : PT} (h : AT Tryz.prog 24 p ∧ p.isG = aggT Tryz.prog 24) : ∃ x : Nt, x.Ok ∧ p = .g (encT x) := by
  obtain ⟨h1, h2⟩ := h
  rw [aggNt] at h2
  cases p with
  | g qs => obtain ⟨n, hn⟩ := h1; obtain ⟨x, hx, rfl⟩ := ct_net hn; exact ⟨x, hx, rfl⟩
  | _ => simp [PT.isG] at h2
theorem own : ownKnob Tryz.prog.godebug = none := by kernel_rfl
theorem laidOut : laidOutB Tryz.prog = true := by kernel_rfl
def lawTs : List TypeId := [3, 9, 46, 57, 31, 30, 33, 22, 24]
theorem lawTsOk : closedTs Tryz.prog lawTs = true := by kernel_rfl
end Go.Proofs.YtomcceambpneiaaGreat
end
namespace Go.Proofs.YtomcceambpneiaaGreat.actRoom
open Go.Fx Go.ChangeShapes Go.WideShapes Go.ChangeAt Go.RowKit
theorem law (ps : List PT) (h : F2 (fun t p => AT Tryz.checked.prog t p ∧ p.isG = aggT Tryz.checked.prog t) Tryz.f3.params.toList ps) : eP S 3 ps = some (.a (.b true)) := by
  have h' : F2 (fun t p => AT Tryz.prog t p ∧ p.isG = aggT Tryz.prog t) [24, 3, 3] ps := by rw [Tryz.params3] at h; exact h
  obtain _ | ⟨h1, r1⟩ := h'
  obtain _ | ⟨h2, r2⟩ := r1
  obtain _ | ⟨h3, r3⟩ := r2
  obtain _ | _ := r3
  obtain ⟨a1, k1, rfl⟩ := at_net h1
  obtain ⟨a2, k2, rfl⟩ := at_int h2
  obtain ⟨a3, k3, rfl⟩ := at_int h3
  exact actRoom_law k1
set_option maxRecDepth 100000 in
theorem lifted (os : Os) (started : os.Started) (H : Type) (enc : TypeId × Value → H) :
    ReturnsInHanded {} Tryz.checked os 3 .any (Rows.actRoomSpec.pre6 enc Tryz.prog Tryz.f3 Rows.actRoomRow.domain false) (Rows.actRoomSpec.post enc Tryz.prog Tryz.f3 false true false false) := by
  refine row_ok (C := Tryz.checked) (eqs := [(46, [0, 0]), (57, [1, 0]), (81, [0, 0]), (46, [9]), (68, [8]), (70, [8]), (54, [8]), (69, [8]), (58, [8])]) (S := S) (ts := lawTs) (tb := 4) own started (by kernel_rfl) Tryz.func3 laidOut
    (ChangeSpec.witness6 (enc := enc) (C := Tryz.checked) false ⟨#[], #[.agg #[.slice none 0 0, .int .i64 0], .int .i64 0, .int .i64 0], []⟩ 8 (by kernel_rfl) (by kernel_rfl) (by kernel_rfl) (by kernel_rfl))
    lawTsOk (by kernel_rfl) rfl Tryz.underlying4 rfl ?_ seatOk law
  intro ds hd
  match ds, hd with
  | [d1, d2, d3], _ => rfl
theorem over : Rows.actRoomRow.holds Tryz.pinned (OpenSpec.ofChange Rows.actRoomSpec) :=
  OpenClaim.holds_of_wide 3 Tryz.f3 rfl rfl rfl rfl rfl rfl rfl ⟨rfl, rfl, rfl, rfl, rfl⟩ rfl rfl rfl rfl rfl (by kernel_rfl) Tryz.func3 (by kernel_rfl)
    (of_decide_eq_true (by kernel_rfl)) (by unfold Func.isWrapper; first | (rw [if_pos (by decide +kernel)]; kernel_rfl) | (rw [if_neg (by decide +kernel)]; exact ⟨rfl, rfl⟩))
    (fun os started H enc _ => lifted os started H enc)
theorem proved : Rows.ActRoomSaid := over
#print axioms proved
end Go.Proofs.YtomcceambpneiaaGreat.actRoom
