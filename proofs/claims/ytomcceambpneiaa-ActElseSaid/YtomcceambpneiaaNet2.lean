/- How many ports a node has, and whether nodes and nets may be: the document's functions. -/
import Derived.Test.YtomcceambpneiaaNet1
set_option linter.unusedSimpArgs false
set_option linter.unusedVariables false
set_option maxHeartbeats 4000000
set_option maxRecDepth 10000
namespace Go.Proofs.Ytomcceambpneiaa
open Go.Fx

/-- a cut: the ways up to here come together, or leave -/
theorem x_cutR {rd : Bool} {a b : C} {e : Env} {σ : St} {Q : Ex → Env → St → Prop} (M : Env → St → Prop) (h : wp S rd a e σ (LQ M Q)) (k : ∀ e' σ', M e' σ' → wp S rd b e' σ' Q) : wp S rd (.seq a b) e σ Q := by
  rw [x_seq]
  refine Go.Fx.wp_mono h fun x e' σ' q => ?_
  cases x with
  | norm => exact k e' σ' q
  | exit id => exact q
  | ret => exact q

def Nd.ports (x : Nd) : Int :=
  if x.k = 1 ∨ x.k = 7 ∨ x.k = 10 ∨ x.k = 13 then 1 else if x.k = 5 ∨ x.k = 6 ∨ x.k = 12 then 2 else if x.k = 2 ∨ x.k = 3 ∨ x.k = 4 ∨ x.k = 11 then 3 else if x.k = 8 then x.to.length else if x.k = 9 then 2 + x.al.length else 0

theorem RPorts_ok {x : Nd} (hx : x.Ok) : eP S 21 [.g (encN x)] = some (.a (.i .i64 x.ports)) := by
  refine x_fn (orcS (by decide)) (fc := F21) rfl rfl ?_
  have hal := hx.al
  have hw : IntKind.i64.wrap (2 + (x.al.length : Int)) = 2 + x.al.length := wrap_in _ (by omega)
  unfold Nd.ports
  by_cases h1 : x.k = 1
  · simp only [F21, h1, Int.reduceEq, or_true, true_or, or_false, false_or, fxa, fxc, fxE, fxL, fxI, nxE, evO, evR, cellsT, ldCells, mkT, lenA, binPV, Env.init, resV, resT, frT, klT, ownT, intT, O.adds, ownA, rowsA, over, wrOk, keysT, keysA, ne_eq, if_true, if_false, ite_self, Nat.reduceLT, Nat.reduceSub, Nat.reduceBEq, Nat.reduceEqDiff, Nat.reduceAdd, Nat.reduceLeDiff, reduceCtorEq, Nat.reduceMul]
  by_cases h2 : x.k = 7
  · simp only [F21, h2, Int.reduceEq, or_true, true_or, or_false, false_or, fxa, fxc, fxE, fxL, fxI, nxE, evO, evR, cellsT, ldCells, mkT, lenA, binPV, Env.init, resV, resT, frT, klT, ownT, intT, O.adds, ownA, rowsA, over, wrOk, keysT, keysA, ne_eq, if_true, if_false, ite_self, Nat.reduceLT, Nat.reduceSub, Nat.reduceBEq, Nat.reduceEqDiff, Nat.reduceAdd, Nat.reduceLeDiff, reduceCtorEq, Nat.reduceMul]
  by_cases h3 : x.k = 10
  · simp only [F21, h3, Int.reduceEq, or_true, true_or, or_false, false_or, fxa, fxc, fxE, fxL, fxI, nxE, evO, evR, cellsT, ldCells, mkT, lenA, binPV, Env.init, resV, resT, frT, klT, ownT, intT, O.adds, ownA, rowsA, over, wrOk, keysT, keysA, ne_eq, if_true, if_false, ite_self, Nat.reduceLT, Nat.reduceSub, Nat.reduceBEq, Nat.reduceEqDiff, Nat.reduceAdd, Nat.reduceLeDiff, reduceCtorEq, Nat.reduceMul]
  by_cases h4 : x.k = 13
  · simp only [F21, h4, Int.reduceEq, or_true, true_or, or_false, false_or, fxa, fxc, fxE, fxL, fxI, nxE, evO, evR, cellsT, ldCells, mkT, lenA, binPV, Env.init, resV, resT, frT, klT, ownT, intT, O.adds, ownA, rowsA, over, wrOk, keysT, keysA, ne_eq, if_true, if_false, ite_self, Nat.reduceLT, Nat.reduceSub, Nat.reduceBEq, Nat.reduceEqDiff, Nat.reduceAdd, Nat.reduceLeDiff, reduceCtorEq, Nat.reduceMul]
  by_cases h5 : x.k = 5
  · simp only [F21, h5, Int.reduceEq, or_true, true_or, or_false, false_or, fxa, fxc, fxE, fxL, fxI, nxE, evO, evR, cellsT, ldCells, mkT, lenA, binPV, Env.init, resV, resT, frT, klT, ownT, intT, O.adds, ownA, rowsA, over, wrOk, keysT, keysA, ne_eq, if_true, if_false, ite_self, Nat.reduceLT, Nat.reduceSub, Nat.reduceBEq, Nat.reduceEqDiff, Nat.reduceAdd, Nat.reduceLeDiff, reduceCtorEq, Nat.reduceMul]
  by_cases h6 : x.k = 6
  · simp only [F21, h6, Int.reduceEq, or_true, true_or, or_false, false_or, fxa, fxc, fxE, fxL, fxI, nxE, evO, evR, cellsT, ldCells, mkT, lenA, binPV, Env.init, resV, resT, frT, klT, ownT, intT, O.adds, ownA, rowsA, over, wrOk, keysT, keysA, ne_eq, if_true, if_false, ite_self, Nat.reduceLT, Nat.reduceSub, Nat.reduceBEq, Nat.reduceEqDiff, Nat.reduceAdd, Nat.reduceLeDiff, reduceCtorEq, Nat.reduceMul]
  by_cases h7 : x.k = 12
  · simp only [F21, h7, Int.reduceEq, or_true, true_or, or_false, false_or, fxa, fxc, fxE, fxL, fxI, nxE, evO, evR, cellsT, ldCells, mkT, lenA, binPV, Env.init, resV, resT, frT, klT, ownT, intT, O.adds, ownA, rowsA, over, wrOk, keysT, keysA, ne_eq, if_true, if_false, ite_self, Nat.reduceLT, Nat.reduceSub, Nat.reduceBEq, Nat.reduceEqDiff, Nat.reduceAdd, Nat.reduceLeDiff, reduceCtorEq, Nat.reduceMul]
  by_cases h8 : x.k = 2
  · simp only [F21, h8, Int.reduceEq, or_true, true_or, or_false, false_or, fxa, fxc, fxE, fxL, fxI, nxE, evO, evR, cellsT, ldCells, mkT, lenA, binPV, Env.init, resV, resT, frT, klT, ownT, intT, O.adds, ownA, rowsA, over, wrOk, keysT, keysA, ne_eq, if_true, if_false, ite_self, Nat.reduceLT, Nat.reduceSub, Nat.reduceBEq, Nat.reduceEqDiff, Nat.reduceAdd, Nat.reduceLeDiff, reduceCtorEq, Nat.reduceMul]
  by_cases h9 : x.k = 3
  · simp only [F21, h9, Int.reduceEq, or_true, true_or, or_false, false_or, fxa, fxc, fxE, fxL, fxI, nxE, evO, evR, cellsT, ldCells, mkT, lenA, binPV, Env.init, resV, resT, frT, klT, ownT, intT, O.adds, ownA, rowsA, over, wrOk, keysT, keysA, ne_eq, if_true, if_false, ite_self, Nat.reduceLT, Nat.reduceSub, Nat.reduceBEq, Nat.reduceEqDiff, Nat.reduceAdd, Nat.reduceLeDiff, reduceCtorEq, Nat.reduceMul]
  by_cases h10 : x.k = 4
  · simp only [F21, h10, Int.reduceEq, or_true, true_or, or_false, false_or, fxa, fxc, fxE, fxL, fxI, nxE, evO, evR, cellsT, ldCells, mkT, lenA, binPV, Env.init, resV, resT, frT, klT, ownT, intT, O.adds, ownA, rowsA, over, wrOk, keysT, keysA, ne_eq, if_true, if_false, ite_self, Nat.reduceLT, Nat.reduceSub, Nat.reduceBEq, Nat.reduceEqDiff, Nat.reduceAdd, Nat.reduceLeDiff, reduceCtorEq, Nat.reduceMul]
  by_cases h11 : x.k = 11
  · simp only [F21, h11, Int.reduceEq, or_true, true_or, or_false, false_or, fxa, fxc, fxE, fxL, fxI, nxE, evO, evR, cellsT, ldCells, mkT, lenA, binPV, Env.init, resV, resT, frT, klT, ownT, intT, O.adds, ownA, rowsA, over, wrOk, keysT, keysA, ne_eq, if_true, if_false, ite_self, Nat.reduceLT, Nat.reduceSub, Nat.reduceBEq, Nat.reduceEqDiff, Nat.reduceAdd, Nat.reduceLeDiff, reduceCtorEq, Nat.reduceMul]
  by_cases h12 : x.k = 8
  · simp only [F21, h12, Int.reduceEq, or_true, true_or, or_false, false_or, fxa, fxc, fxE, fxL, fxI, nxE, evO, evR, cellsT, ldCells, mkT, lenA, binPV, Env.init, resV, resT, frT, klT, ownT, intT, O.adds, ownA, rowsA, over, wrOk, keysT, keysA, ne_eq, if_true, if_false, ite_self, Nat.reduceLT, Nat.reduceSub, Nat.reduceBEq, Nat.reduceEqDiff, Nat.reduceAdd, Nat.reduceLeDiff, reduceCtorEq, Nat.reduceMul]
  by_cases h13 : x.k = 9
  · simp only [F21, h13, hw, Int.reduceEq, or_true, true_or, or_false, false_or, fxa, fxc, fxE, fxL, fxI, nxE, evO, evR, cellsT, ldCells, mkT, lenA, binPV, Env.init, resV, resT, frT, klT, ownT, intT, O.adds, ownA, rowsA, over, wrOk, keysT, keysA, ne_eq, if_true, if_false, ite_self, Nat.reduceLT, Nat.reduceSub, Nat.reduceBEq, Nat.reduceEqDiff, Nat.reduceAdd, Nat.reduceLeDiff, reduceCtorEq, Nat.reduceMul]
  · simp only [F21, h1, h2, h3, h4, h5, h6, h7, h8, h9, h10, h11, h12, h13, or_false, false_or, fxa, fxc, fxE, fxL, fxI, nxE, evO, evR, cellsT, ldCells, mkT, lenA, binPV, Env.init, resV, resT, frT, klT, ownT, intT, O.adds, ownA, rowsA, over, wrOk, keysT, keysA, ne_eq, if_true, if_false, ite_self, Nat.reduceLT, Nat.reduceSub, Nat.reduceBEq, Nat.reduceEqDiff, Nat.reduceAdd, Nat.reduceLeDiff, reduceCtorEq, Nat.reduceMul]

/-- alternatives, of different names -/
def altOk (l : List Ar) : Prop := ∀ (i : Nat) (a : Ar), l[i]? = some a → a.s ≠ [] ∧ 0 ≤ a.n ∧ a.n ≤ 8 ∧ ∀ (j : Nat) (b : Ar), j < i → l[j]? = some b → b.s ≠ a.s

/-- a node may be, but for its To -/
structure Nd.may (x : Nd) : Prop where
  k0 : 0 ≤ x.k
  k1 : x.k ≤ 13
  lv0 : 0 ≤ x.lv
  lv1 : x.lv ≤ 60
  lv2 : x.k < 2 → x.lv ≤ 0
  nm : x.s ≠ [] ↔ (x.k = 8 ∨ x.k = 11 ∨ x.k = 12)
  nn : x.n ≠ 0 → x.k = 10 ∨ x.k = 12
  to8 : x.k = 8 → 1 ≤ (x.to.length : Int) ∧ (x.to.length : Int) ≤ 9
  al9 : x.k = 9 → 1 ≤ (x.al.length : Int)
  aln : x.k ≠ 9 → (x.al.length : Int) ≤ 0
  al8 : (x.al.length : Int) ≤ 8
  alt : altOk x.al

def NdM (x : Nd) (e : Env) (σ : St) : Prop := e 1 = .a (.ptr (1, 0) 0 0) ∧ σ.bs (1, 0) = some (.var [.p (.i .i64 x.k), .p (.i .i64 x.lv), .p (.i .i64 x.n), .p (.s x.s), .p (.l (x.al.map encA)), .p (.l (x.to.map encP))])

theorem RNode_ok {x : Nd} (hx : x.Ok) : eP S 17 [.g (encN x)] = some (.a (.b (bool x.may))) := by
  refine x_fnB (orcS (by decide)) (fc := F17) rfl rfl ?_
  have hal := hx.al
  unfold F17
  simp only [encN, List.map_cons, List.map_nil, ofPT_g]
  refine x_cutR (NdM x) ?_ fun e σ hM => ?_
  · simp only [fxa, fxc, fxE, fxL, fxI, nxE, evO, evR, cellsT, ldCells, mkT, lenA, binPV, Env.init, resV, resT, frT, klT, ownT, intT, O.adds, ownA, rowsA, over, wrOk, keysT, keysA, ne_eq, if_true, if_false, ite_self, Nat.reduceLT, Nat.reduceSub, Nat.reduceBEq, Nat.reduceEqDiff, Nat.reduceAdd, Nat.reduceLeDiff, reduceCtorEq, Nat.reduceMul]
    exact ⟨by simp only [fxa, fxc, fxE, fxL, fxI, nxE, evO, evR, cellsT, ldCells, mkT, lenA, binPV, Env.init, resV, resT, frT, klT, ownT, intT, O.adds, ownA, rowsA, over, wrOk, keysT, keysA, ne_eq, if_true, if_false, ite_self, Nat.reduceLT, Nat.reduceSub, Nat.reduceBEq, Nat.reduceEqDiff, Nat.reduceAdd, Nat.reduceLeDiff, reduceCtorEq, Nat.reduceMul], by simp only [fxa, fxc, fxE, fxL, fxI, nxE, evO, evR, cellsT, ldCells, mkT, lenA, binPV, Env.init, resV, resT, frT, klT, ownT, intT, O.adds, ownA, rowsA, over, wrOk, keysT, keysA, ne_eq, if_true, if_false, ite_self, Nat.reduceLT, Nat.reduceSub, Nat.reduceBEq, Nat.reduceEqDiff, Nat.reduceAdd, Nat.reduceLeDiff, reduceCtorEq, Nat.reduceMul]⟩
  obtain ⟨e1, s1⟩ := hM
  refine x_cutR (fun e σ => NdM x e σ ∧ 0 ≤ x.k ∧ x.k ≤ 13 ∧ 0 ≤ x.lv ∧ x.lv ≤ 60 ∧ (x.k < 2 → x.lv ≤ 0)) ?_ fun e' σ' hM => ?_
  · simp only [e1, s1, fxa, fxc, fxE, fxL, fxI, nxE, evO, evR, cellsT, ldCells, mkT, lenA, binPV, Env.init, resV, resT, frT, klT, ownT, intT, O.adds, ownA, rowsA, over, wrOk, keysT, keysA, ne_eq, if_true, if_false, ite_self, Nat.reduceLT, Nat.reduceSub, Nat.reduceBEq, Nat.reduceEqDiff, Nat.reduceAdd, Nat.reduceLeDiff, reduceCtorEq, Nat.reduceMul]
    iterate 7
      all_goals try (first
        | (refine wpX_bsplit (fun h => ?_) (fun h => ?_) <;> simp only [h, e1, s1, fxa, fxc, fxE, fxL, fxI, nxE, evO, evR, cellsT, ldCells, mkT, lenA, binPV, Env.init, resV, resT, frT, klT, ownT, intT, O.adds, ownA, rowsA, over, wrOk, keysT, keysA, ne_eq, if_true, if_false, ite_self, Nat.reduceLT, Nat.reduceSub, Nat.reduceBEq, Nat.reduceEqDiff, Nat.reduceAdd, Nat.reduceLeDiff, reduceCtorEq, Nat.reduceMul])
        | (refine wpC_split (fun h => ?_) (fun h => ?_) <;> simp only [h, e1, s1, fxa, fxc, fxE, fxL, fxI, nxE, evO, evR, cellsT, ldCells, mkT, lenA, binPV, Env.init, resV, resT, frT, klT, ownT, intT, O.adds, ownA, rowsA, over, wrOk, keysT, keysA, ne_eq, if_true, if_false, ite_self, Nat.reduceLT, Nat.reduceSub, Nat.reduceBEq, Nat.reduceEqDiff, Nat.reduceAdd, Nat.reduceLeDiff, reduceCtorEq, Nat.reduceMul]))
    all_goals simp only [Bool.not_eq_false', Bool.not_eq_true', Bool.not_false, Bool.not_true, decide_eq_true_eq, decide_eq_false_iff_not, Int.natCast_inj] at *
    all_goals first
      | (intro hP; have p1 := hP.k0; have p2 := hP.k1; have p3 := hP.lv0; have p4 := hP.lv1; have p5 := hP.lv2; omega)
      | (refine ⟨⟨by simp only [e1, fxa, fxc, fxE, fxL, fxI, nxE, evO, evR, cellsT, ldCells, mkT, lenA, binPV, Env.init, resV, resT, frT, klT, ownT, intT, O.adds, ownA, rowsA, over, wrOk, keysT, keysA, ne_eq, if_true, if_false, ite_self, Nat.reduceLT, Nat.reduceSub, Nat.reduceBEq, Nat.reduceEqDiff, Nat.reduceAdd, Nat.reduceLeDiff, reduceCtorEq, Nat.reduceMul], by simp only [s1, fxa, fxc, fxE, fxL, fxI, nxE, evO, evR, cellsT, ldCells, mkT, lenA, binPV, Env.init, resV, resT, frT, klT, ownT, intT, O.adds, ownA, rowsA, over, wrOk, keysT, keysA, ne_eq, if_true, if_false, ite_self, Nat.reduceLT, Nat.reduceSub, Nat.reduceBEq, Nat.reduceEqDiff, Nat.reduceAdd, Nat.reduceLeDiff, reduceCtorEq, Nat.reduceMul]⟩, ?_⟩; omega)
  clear e1 s1
  obtain ⟨⟨e1, s1⟩, hA⟩ := hM
  refine x_cutR (fun e σ => NdM x e σ ∧ (x.s ≠ [] ↔ (x.k = 8 ∨ x.k = 11 ∨ x.k = 12)) ∧ (x.n ≠ 0 → x.k = 10 ∨ x.k = 12)) ?_ fun e' σ' hM => ?_
  · simp only [e1, s1, fxa, fxc, fxE, fxL, fxI, nxE, evO, evR, cellsT, ldCells, mkT, lenA, binPV, Env.init, resV, resT, frT, klT, ownT, intT, O.adds, ownA, rowsA, over, wrOk, keysT, keysA, ne_eq, if_true, if_false, ite_self, Nat.reduceLT, Nat.reduceSub, Nat.reduceBEq, Nat.reduceEqDiff, Nat.reduceAdd, Nat.reduceLeDiff, reduceCtorEq, Nat.reduceMul]
    cases hs : decide (x.s = []) with
    | true =>
      have hs' : x.s = [] := by simpa using hs
      simp only [hs, e1, s1, fxa, fxc, fxE, fxL, fxI, nxE, evO, evR, cellsT, ldCells, mkT, lenA, binPV, Env.init, resV, resT, frT, klT, ownT, intT, O.adds, ownA, rowsA, over, wrOk, keysT, keysA, ne_eq, if_true, if_false, ite_self, Nat.reduceLT, Nat.reduceSub, Nat.reduceBEq, Nat.reduceEqDiff, Nat.reduceAdd, Nat.reduceLeDiff, reduceCtorEq, Nat.reduceMul]
      iterate 8
        all_goals try (first
          | (refine wpX_bsplit (fun h => ?_) (fun h => ?_) <;> simp only [h, e1, s1, fxa, fxc, fxE, fxL, fxI, nxE, evO, evR, cellsT, ldCells, mkT, lenA, binPV, Env.init, resV, resT, frT, klT, ownT, intT, O.adds, ownA, rowsA, over, wrOk, keysT, keysA, ne_eq, if_true, if_false, ite_self, Nat.reduceLT, Nat.reduceSub, Nat.reduceBEq, Nat.reduceEqDiff, Nat.reduceAdd, Nat.reduceLeDiff, reduceCtorEq, Nat.reduceMul])
          | (refine wpC_split (fun h => ?_) (fun h => ?_) <;> simp only [h, e1, s1, fxa, fxc, fxE, fxL, fxI, nxE, evO, evR, cellsT, ldCells, mkT, lenA, binPV, Env.init, resV, resT, frT, klT, ownT, intT, O.adds, ownA, rowsA, over, wrOk, keysT, keysA, ne_eq, if_true, if_false, ite_self, Nat.reduceLT, Nat.reduceSub, Nat.reduceBEq, Nat.reduceEqDiff, Nat.reduceAdd, Nat.reduceLeDiff, reduceCtorEq, Nat.reduceMul]))
      all_goals simp only [Bool.not_eq_false', Bool.not_eq_true', Bool.not_false, Bool.not_true, decide_eq_true_eq, decide_eq_false_iff_not, Int.natCast_inj] at *
      all_goals try simp only [Bool.false_eq, Bool.true_eq, Bool.not_eq_false', Bool.not_eq_true', Bool.not_false, Bool.not_true, decide_eq_true_eq, decide_eq_false_iff_not, Int.natCast_inj] at *
      all_goals first
        | (intro hP; have p1 := hP.nm; have p2 := hP.nn; simp only [hs', ne_eq, not_true_eq_false, false_iff] at p1; omega)
        | (refine ⟨⟨by simp only [e1, fxa, fxc, fxE, fxL, fxI, nxE, evO, evR, cellsT, ldCells, mkT, lenA, binPV, Env.init, resV, resT, frT, klT, ownT, intT, O.adds, ownA, rowsA, over, wrOk, keysT, keysA, ne_eq, if_true, if_false, ite_self, Nat.reduceLT, Nat.reduceSub, Nat.reduceBEq, Nat.reduceEqDiff, Nat.reduceAdd, Nat.reduceLeDiff, reduceCtorEq, Nat.reduceMul], by simp only [s1, fxa, fxc, fxE, fxL, fxI, nxE, evO, evR, cellsT, ldCells, mkT, lenA, binPV, Env.init, resV, resT, frT, klT, ownT, intT, O.adds, ownA, rowsA, over, wrOk, keysT, keysA, ne_eq, if_true, if_false, ite_self, Nat.reduceLT, Nat.reduceSub, Nat.reduceBEq, Nat.reduceEqDiff, Nat.reduceAdd, Nat.reduceLeDiff, reduceCtorEq, Nat.reduceMul]⟩, ?_⟩; simp only [hs', ne_eq, not_true_eq_false, false_iff]; omega)
    | false =>
      have hs' : ¬ x.s = [] := by simpa using hs
      simp only [hs, e1, s1, fxa, fxc, fxE, fxL, fxI, nxE, evO, evR, cellsT, ldCells, mkT, lenA, binPV, Env.init, resV, resT, frT, klT, ownT, intT, O.adds, ownA, rowsA, over, wrOk, keysT, keysA, ne_eq, if_true, if_false, ite_self, Nat.reduceLT, Nat.reduceSub, Nat.reduceBEq, Nat.reduceEqDiff, Nat.reduceAdd, Nat.reduceLeDiff, reduceCtorEq, Nat.reduceMul]
      iterate 8
        all_goals try (first
          | (refine wpX_bsplit (fun h => ?_) (fun h => ?_) <;> simp only [h, e1, s1, fxa, fxc, fxE, fxL, fxI, nxE, evO, evR, cellsT, ldCells, mkT, lenA, binPV, Env.init, resV, resT, frT, klT, ownT, intT, O.adds, ownA, rowsA, over, wrOk, keysT, keysA, ne_eq, if_true, if_false, ite_self, Nat.reduceLT, Nat.reduceSub, Nat.reduceBEq, Nat.reduceEqDiff, Nat.reduceAdd, Nat.reduceLeDiff, reduceCtorEq, Nat.reduceMul])
          | (refine wpC_split (fun h => ?_) (fun h => ?_) <;> simp only [h, e1, s1, fxa, fxc, fxE, fxL, fxI, nxE, evO, evR, cellsT, ldCells, mkT, lenA, binPV, Env.init, resV, resT, frT, klT, ownT, intT, O.adds, ownA, rowsA, over, wrOk, keysT, keysA, ne_eq, if_true, if_false, ite_self, Nat.reduceLT, Nat.reduceSub, Nat.reduceBEq, Nat.reduceEqDiff, Nat.reduceAdd, Nat.reduceLeDiff, reduceCtorEq, Nat.reduceMul]))
      all_goals simp only [Bool.not_eq_false', Bool.not_eq_true', Bool.not_false, Bool.not_true, decide_eq_true_eq, decide_eq_false_iff_not, Int.natCast_inj] at *
      all_goals try simp only [Bool.false_eq, Bool.true_eq, Bool.not_eq_false', Bool.not_eq_true', Bool.not_false, Bool.not_true, decide_eq_true_eq, decide_eq_false_iff_not, Int.natCast_inj] at *
      all_goals first
        | (intro hP; have p1 := hP.nm; have p2 := hP.nn; simp only [hs', ne_eq, not_false_eq_true, true_iff] at p1; omega)
        | (refine ⟨⟨by simp only [e1, fxa, fxc, fxE, fxL, fxI, nxE, evO, evR, cellsT, ldCells, mkT, lenA, binPV, Env.init, resV, resT, frT, klT, ownT, intT, O.adds, ownA, rowsA, over, wrOk, keysT, keysA, ne_eq, if_true, if_false, ite_self, Nat.reduceLT, Nat.reduceSub, Nat.reduceBEq, Nat.reduceEqDiff, Nat.reduceAdd, Nat.reduceLeDiff, reduceCtorEq, Nat.reduceMul], by simp only [s1, fxa, fxc, fxE, fxL, fxI, nxE, evO, evR, cellsT, ldCells, mkT, lenA, binPV, Env.init, resV, resT, frT, klT, ownT, intT, O.adds, ownA, rowsA, over, wrOk, keysT, keysA, ne_eq, if_true, if_false, ite_self, Nat.reduceLT, Nat.reduceSub, Nat.reduceBEq, Nat.reduceEqDiff, Nat.reduceAdd, Nat.reduceLeDiff, reduceCtorEq, Nat.reduceMul]⟩, ?_⟩; simp only [hs', ne_eq, not_false_eq_true, true_iff]; omega)
  clear e1 s1
  obtain ⟨⟨e1, s1⟩, hB⟩ := hM
  refine x_cutR (fun e σ => NdM x e σ ∧ (x.k = 8 → 1 ≤ (x.to.length : Int) ∧ (x.to.length : Int) ≤ 9) ∧ (x.k = 9 → 1 ≤ (x.al.length : Int)) ∧ (x.k ≠ 9 → (x.al.length : Int) ≤ 0) ∧ (x.al.length : Int) ≤ 8) ?_ fun e' σ' hM => ?_
  · simp only [e1, s1, fxa, fxc, fxE, fxL, fxI, nxE, evO, evR, cellsT, ldCells, mkT, lenA, binPV, Env.init, resV, resT, frT, klT, ownT, intT, O.adds, ownA, rowsA, over, wrOk, keysT, keysA, ne_eq, if_true, if_false, ite_self, Nat.reduceLT, Nat.reduceSub, Nat.reduceBEq, Nat.reduceEqDiff, Nat.reduceAdd, Nat.reduceLeDiff, reduceCtorEq, Nat.reduceMul]
    iterate 9
      all_goals try (first
        | (refine wpX_bsplit (fun h => ?_) (fun h => ?_) <;> simp only [h, e1, s1, fxa, fxc, fxE, fxL, fxI, nxE, evO, evR, cellsT, ldCells, mkT, lenA, binPV, Env.init, resV, resT, frT, klT, ownT, intT, O.adds, ownA, rowsA, over, wrOk, keysT, keysA, ne_eq, if_true, if_false, ite_self, Nat.reduceLT, Nat.reduceSub, Nat.reduceBEq, Nat.reduceEqDiff, Nat.reduceAdd, Nat.reduceLeDiff, reduceCtorEq, Nat.reduceMul])
        | (refine wpC_split (fun h => ?_) (fun h => ?_) <;> simp only [h, e1, s1, fxa, fxc, fxE, fxL, fxI, nxE, evO, evR, cellsT, ldCells, mkT, lenA, binPV, Env.init, resV, resT, frT, klT, ownT, intT, O.adds, ownA, rowsA, over, wrOk, keysT, keysA, ne_eq, if_true, if_false, ite_self, Nat.reduceLT, Nat.reduceSub, Nat.reduceBEq, Nat.reduceEqDiff, Nat.reduceAdd, Nat.reduceLeDiff, reduceCtorEq, Nat.reduceMul]))
    all_goals simp only [Bool.not_eq_false', Bool.not_eq_true', Bool.not_false, Bool.not_true, decide_eq_true_eq, decide_eq_false_iff_not, Int.natCast_inj] at *
    all_goals first
      | (intro hP; have p1 := hP.to8; have p2 := hP.al9; have p3 := hP.aln; have p4 := hP.al8; omega)
      | (refine ⟨⟨by simp only [e1, fxa, fxc, fxE, fxL, fxI, nxE, evO, evR, cellsT, ldCells, mkT, lenA, binPV, Env.init, resV, resT, frT, klT, ownT, intT, O.adds, ownA, rowsA, over, wrOk, keysT, keysA, ne_eq, if_true, if_false, ite_self, Nat.reduceLT, Nat.reduceSub, Nat.reduceBEq, Nat.reduceEqDiff, Nat.reduceAdd, Nat.reduceLeDiff, reduceCtorEq, Nat.reduceMul], by simp only [s1, fxa, fxc, fxE, fxL, fxI, nxE, evO, evR, cellsT, ldCells, mkT, lenA, binPV, Env.init, resV, resT, frT, klT, ownT, intT, O.adds, ownA, rowsA, over, wrOk, keysT, keysA, ne_eq, if_true, if_false, ite_self, Nat.reduceLT, Nat.reduceSub, Nat.reduceBEq, Nat.reduceEqDiff, Nat.reduceAdd, Nat.reduceLeDiff, reduceCtorEq, Nat.reduceMul]⟩, ?_⟩; omega)
  clear e1 s1
  obtain ⟨⟨e1, s1⟩, hC⟩ := hM
  refine x_cutR (fun e σ => altOk x.al) ?_ fun e' σ' hM => ?_
  · simp only [e1, s1, fxa, fxc, fxE, fxL, fxI, nxE, evO, evR, cellsT, ldCells, mkT, lenA, binPV, Env.init, resV, resT, frT, klT, ownT, intT, O.adds, ownA, rowsA, over, wrOk, keysT, keysA, ne_eq, if_true, if_false, ite_self, Nat.reduceLT, Nat.reduceSub, Nat.reduceBEq, Nat.reduceEqDiff, Nat.reduceAdd, Nat.reduceLeDiff, reduceCtorEq, Nat.reduceMul]
    refine loop_nat x.al.length (fun i e σ => NdM x e σ ∧ e 3 = .a (.p (.i .i64 (i : Nat))) ∧ ∀ m a, m < i → x.al[m]? = some a → a.s ≠ [] ∧ 0 ≤ a.n ∧ a.n ≤ 8 ∧ ∀ j b, j < m → x.al[j]? = some b → b.s ≠ a.s) (i0 := 0) (Nat.zero_le _) ?_ ?_ ?_
    · exact ⟨⟨by simp only [e1, fxa, fxc, fxE, fxL, fxI, nxE, evO, evR, cellsT, ldCells, mkT, lenA, binPV, Env.init, resV, resT, frT, klT, ownT, intT, O.adds, ownA, rowsA, over, wrOk, keysT, keysA, ne_eq, if_true, if_false, ite_self, Nat.reduceLT, Nat.reduceSub, Nat.reduceBEq, Nat.reduceEqDiff, Nat.reduceAdd, Nat.reduceLeDiff, reduceCtorEq, Nat.reduceMul], by simp only [s1, fxa, fxc, fxE, fxL, fxI, nxE, evO, evR, cellsT, ldCells, mkT, lenA, binPV, Env.init, resV, resT, frT, klT, ownT, intT, O.adds, ownA, rowsA, over, wrOk, keysT, keysA, ne_eq, if_true, if_false, ite_self, Nat.reduceLT, Nat.reduceSub, Nat.reduceBEq, Nat.reduceEqDiff, Nat.reduceAdd, Nat.reduceLeDiff, reduceCtorEq, Nat.reduceMul]⟩, by simp only [fxa, fxc, fxE, fxL, fxI, nxE, evO, evR, cellsT, ldCells, mkT, lenA, binPV, Env.init, resV, resT, frT, klT, ownT, intT, O.adds, ownA, rowsA, over, wrOk, keysT, keysA, ne_eq, if_true, if_false, ite_self, Nat.reduceLT, Nat.reduceSub, Nat.reduceBEq, Nat.reduceEqDiff, Nat.reduceAdd, Nat.reduceLeDiff, reduceCtorEq, Nat.reduceMul]; rfl, fun j a hj => by omega⟩
    · rintro i e σ hi ⟨⟨e1, s1⟩, e3, hall⟩
      obtain ⟨a, ha⟩ : ∃ a, x.al[i]? = some a := ⟨_, List.getElem?_eq_getElem hi⟩
      have ha' := mapGet encA ha
      have hlt : ((i : Nat) : Int) < (x.al.length : Int) := by omega
      have hge : (0 : Int) ≤ ((i : Nat) : Int) := by omega
      by_cases h1 : a.s = []
      · simp only [F17b0, e1, e3, s1, hlt, hge, ha', h1, fxa, fxc, fxE, fxL, fxI, nxE, evO, evR, cellsT, ldCells, mkT, lenA, binPV, Env.init, resV, resT, frT, klT, ownT, intT, O.adds, ownA, rowsA, over, wrOk, keysT, keysA, ne_eq, if_true, if_false, ite_self, Nat.reduceLT, Nat.reduceSub, Nat.reduceBEq, Nat.reduceEqDiff, Nat.reduceAdd, Nat.reduceLeDiff, reduceCtorEq, Nat.reduceMul]
        intro hP; exact (hP.alt i a ha).1 h1
      by_cases h2 : a.n < 0
      · simp only [F17b0, e1, e3, s1, hlt, hge, ha', h1, h2, fxa, fxc, fxE, fxL, fxI, nxE, evO, evR, cellsT, ldCells, mkT, lenA, binPV, Env.init, resV, resT, frT, klT, ownT, intT, O.adds, ownA, rowsA, over, wrOk, keysT, keysA, ne_eq, if_true, if_false, ite_self, Nat.reduceLT, Nat.reduceSub, Nat.reduceBEq, Nat.reduceEqDiff, Nat.reduceAdd, Nat.reduceLeDiff, reduceCtorEq, Nat.reduceMul]
        intro hP; have := hP.alt i a ha; omega
      by_cases h3 : a.n > 8
      · simp only [F17b0, e1, e3, s1, hlt, hge, ha', h1, h2, h3, fxa, fxc, fxE, fxL, fxI, nxE, evO, evR, cellsT, ldCells, mkT, lenA, binPV, Env.init, resV, resT, frT, klT, ownT, intT, O.adds, ownA, rowsA, over, wrOk, keysT, keysA, ne_eq, if_true, if_false, ite_self, Nat.reduceLT, Nat.reduceSub, Nat.reduceBEq, Nat.reduceEqDiff, Nat.reduceAdd, Nat.reduceLeDiff, reduceCtorEq, Nat.reduceMul]
        intro hP; have := hP.alt i a ha; omega
      simp only [F17b0, e1, e3, s1, hlt, hge, ha', h1, h2, h3, fxa, fxc, fxE, fxL, fxI, nxE, evO, evR, cellsT, ldCells, mkT, lenA, binPV, Env.init, resV, resT, frT, klT, ownT, intT, O.adds, ownA, rowsA, over, wrOk, keysT, keysA, ne_eq, if_true, if_false, ite_self, Nat.reduceLT, Nat.reduceSub, Nat.reduceBEq, Nat.reduceEqDiff, Nat.reduceAdd, Nat.reduceLeDiff, reduceCtorEq, Nat.reduceMul]
      refine loop_nat i (fun j e σ => NdM x e σ ∧ e 3 = .a (.p (.i .i64 (i : Nat))) ∧ e 4 = .a (.p (.i .i64 (j : Nat))) ∧ ∀ m b, m < j → x.al[m]? = some b → b.s ≠ a.s) (i0 := 0) (Nat.zero_le _) ?_ ?_ ?_
      · exact ⟨⟨by simp only [e1, fxa, fxc, fxE, fxL, fxI, nxE, evO, evR, cellsT, ldCells, mkT, lenA, binPV, Env.init, resV, resT, frT, klT, ownT, intT, O.adds, ownA, rowsA, over, wrOk, keysT, keysA, ne_eq, if_true, if_false, ite_self, Nat.reduceLT, Nat.reduceSub, Nat.reduceBEq, Nat.reduceEqDiff, Nat.reduceAdd, Nat.reduceLeDiff, reduceCtorEq, Nat.reduceMul], by simp only [s1, fxa, fxc, fxE, fxL, fxI, nxE, evO, evR, cellsT, ldCells, mkT, lenA, binPV, Env.init, resV, resT, frT, klT, ownT, intT, O.adds, ownA, rowsA, over, wrOk, keysT, keysA, ne_eq, if_true, if_false, ite_self, Nat.reduceLT, Nat.reduceSub, Nat.reduceBEq, Nat.reduceEqDiff, Nat.reduceAdd, Nat.reduceLeDiff, reduceCtorEq, Nat.reduceMul]⟩, by simp only [e3, fxa, fxc, fxE, fxL, fxI, nxE, evO, evR, cellsT, ldCells, mkT, lenA, binPV, Env.init, resV, resT, frT, klT, ownT, intT, O.adds, ownA, rowsA, over, wrOk, keysT, keysA, ne_eq, if_true, if_false, ite_self, Nat.reduceLT, Nat.reduceSub, Nat.reduceBEq, Nat.reduceEqDiff, Nat.reduceAdd, Nat.reduceLeDiff, reduceCtorEq, Nat.reduceMul], by simp only [fxa, fxc, fxE, fxL, fxI, nxE, evO, evR, cellsT, ldCells, mkT, lenA, binPV, Env.init, resV, resT, frT, klT, ownT, intT, O.adds, ownA, rowsA, over, wrOk, keysT, keysA, ne_eq, if_true, if_false, ite_self, Nat.reduceLT, Nat.reduceSub, Nat.reduceBEq, Nat.reduceEqDiff, Nat.reduceAdd, Nat.reduceLeDiff, reduceCtorEq, Nat.reduceMul]; rfl, fun j a hj => by omega⟩
      · rintro j e σ hj ⟨⟨e1, s1⟩, e3, e4, hj2⟩
        obtain ⟨b, hb⟩ : ∃ b, x.al[j]? = some b := ⟨_, List.getElem?_eq_getElem (by omega)⟩
        have hb' := mapGet encA hb
        have hlt2 : ((j : Nat) : Int) < ((i : Nat) : Int) := by omega
        have hlt3 : ((j : Nat) : Int) < (x.al.length : Int) := by omega
        have hge2 : (0 : Int) ≤ ((j : Nat) : Int) := by omega
        by_cases h4 : b.s = a.s
        · simp only [F17b1, e1, e3, e4, s1, hlt, hge, hlt2, hlt3, hge2, ha', hb', h4, fxa, fxc, fxE, fxL, fxI, nxE, evO, evR, cellsT, ldCells, mkT, lenA, binPV, Env.init, resV, resT, frT, klT, ownT, intT, O.adds, ownA, rowsA, over, wrOk, keysT, keysA, ne_eq, if_true, if_false, ite_self, Nat.reduceLT, Nat.reduceSub, Nat.reduceBEq, Nat.reduceEqDiff, Nat.reduceAdd, Nat.reduceLeDiff, reduceCtorEq, Nat.reduceMul]
          intro hP; exact (hP.alt i a ha).2.2.2 j b hj hb h4
        · simp only [F17b1, e1, e3, e4, s1, hlt, hge, hlt2, hlt3, hge2, ha', hb', h4, fxa, fxc, fxE, fxL, fxI, nxE, evO, evR, cellsT, ldCells, mkT, lenA, binPV, Env.init, resV, resT, frT, klT, ownT, intT, O.adds, ownA, rowsA, over, wrOk, keysT, keysA, ne_eq, if_true, if_false, ite_self, Nat.reduceLT, Nat.reduceSub, Nat.reduceBEq, Nat.reduceEqDiff, Nat.reduceAdd, Nat.reduceLeDiff, reduceCtorEq, Nat.reduceMul]
          refine ⟨⟨by simp only [e1, fxa, fxc, fxE, fxL, fxI, nxE, evO, evR, cellsT, ldCells, mkT, lenA, binPV, Env.init, resV, resT, frT, klT, ownT, intT, O.adds, ownA, rowsA, over, wrOk, keysT, keysA, ne_eq, if_true, if_false, ite_self, Nat.reduceLT, Nat.reduceSub, Nat.reduceBEq, Nat.reduceEqDiff, Nat.reduceAdd, Nat.reduceLeDiff, reduceCtorEq, Nat.reduceMul], by simp only [s1, fxa, fxc, fxE, fxL, fxI, nxE, evO, evR, cellsT, ldCells, mkT, lenA, binPV, Env.init, resV, resT, frT, klT, ownT, intT, O.adds, ownA, rowsA, over, wrOk, keysT, keysA, ne_eq, if_true, if_false, ite_self, Nat.reduceLT, Nat.reduceSub, Nat.reduceBEq, Nat.reduceEqDiff, Nat.reduceAdd, Nat.reduceLeDiff, reduceCtorEq, Nat.reduceMul]⟩, by rw [wrap_succ j (by omega)], fun m c hm hc => ?_⟩
          by_cases e : m = j
          · subst e; rw [hb] at hc; rw [← Option.some.inj hc]; exact h4
          · exact hj2 m c (by omega) hc
      · rintro e σ ⟨⟨e1, s1⟩, e3, e4, hj2⟩
        have hlt2 : ¬ ((i : Nat) : Int) < ((i : Nat) : Int) := by omega
        simp only [F17b1, e1, e3, e4, s1, hlt2, fxa, fxc, fxE, fxL, fxI, nxE, evO, evR, cellsT, ldCells, mkT, lenA, binPV, Env.init, resV, resT, frT, klT, ownT, intT, O.adds, ownA, rowsA, over, wrOk, keysT, keysA, ne_eq, if_true, if_false, ite_self, Nat.reduceLT, Nat.reduceSub, Nat.reduceBEq, Nat.reduceEqDiff, Nat.reduceAdd, Nat.reduceLeDiff, reduceCtorEq, Nat.reduceMul]
        refine ⟨⟨by simp only [e1, fxa, fxc, fxE, fxL, fxI, nxE, evO, evR, cellsT, ldCells, mkT, lenA, binPV, Env.init, resV, resT, frT, klT, ownT, intT, O.adds, ownA, rowsA, over, wrOk, keysT, keysA, ne_eq, if_true, if_false, ite_self, Nat.reduceLT, Nat.reduceSub, Nat.reduceBEq, Nat.reduceEqDiff, Nat.reduceAdd, Nat.reduceLeDiff, reduceCtorEq, Nat.reduceMul], by simp only [s1, fxa, fxc, fxE, fxL, fxI, nxE, evO, evR, cellsT, ldCells, mkT, lenA, binPV, Env.init, resV, resT, frT, klT, ownT, intT, O.adds, ownA, rowsA, over, wrOk, keysT, keysA, ne_eq, if_true, if_false, ite_self, Nat.reduceLT, Nat.reduceSub, Nat.reduceBEq, Nat.reduceEqDiff, Nat.reduceAdd, Nat.reduceLeDiff, reduceCtorEq, Nat.reduceMul]⟩, by rw [wrap_succ i (by omega)], fun m c hm hc => ?_⟩
        by_cases e : m = i
        · subst e; rw [ha] at hc; rw [← Option.some.inj hc]; exact ⟨h1, by omega, by omega, hj2⟩
        · exact hall m c (by omega) hc
    · rintro e σ ⟨⟨e1, s1⟩, e3, hall⟩
      have hlt : ¬ ((x.al.length : Nat) : Int) < (x.al.length : Int) := by omega
      simp only [F17b0, e1, e3, s1, hlt, fxa, fxc, fxE, fxL, fxI, nxE, evO, evR, cellsT, ldCells, mkT, lenA, binPV, Env.init, resV, resT, frT, klT, ownT, intT, O.adds, ownA, rowsA, over, wrOk, keysT, keysA, ne_eq, if_true, if_false, ite_self, Nat.reduceLT, Nat.reduceSub, Nat.reduceBEq, Nat.reduceEqDiff, Nat.reduceAdd, Nat.reduceLeDiff, reduceCtorEq, Nat.reduceMul]
      exact fun i a hi => hall i a (List.getElem?_eq_some_iff.1 hi).1 hi
  simp only [fxa, fxc, fxE, fxL, fxI, nxE, evO, evR, cellsT, ldCells, mkT, lenA, binPV, Env.init, resV, resT, frT, klT, ownT, intT, O.adds, ownA, rowsA, over, wrOk, keysT, keysA, ne_eq, if_true, if_false, ite_self, Nat.reduceLT, Nat.reduceSub, Nat.reduceBEq, Nat.reduceEqDiff, Nat.reduceAdd, Nat.reduceLeDiff, reduceCtorEq, Nat.reduceMul]
  exact ⟨hA.1, hA.2.1, hA.2.2.1, hA.2.2.2.1, hA.2.2.2.2, hB.1, hB.2, hC.1, hC.2.1, hC.2.2.1, hC.2.2.2, hM⟩

end Go.Proofs.Ytomcceambpneiaa
