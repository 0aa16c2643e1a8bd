/- Places, ports, and what may be: the program's functions. -/
import Derived.Test.YtomcceambpneiaaNet3
set_option linter.unusedSimpArgs false
set_option linter.unusedVariables false
set_option maxHeartbeats 4000000
set_option maxRecDepth 10000
namespace Go.Proofs.Ytomcceambpneiaa
open Go.Fx

theorem in_ok (a b c : Int) : eP S 61 [.a (.i .i64 a), .a (.i .i64 b), .a (.i .i64 c)] = some (.a (.b (decide (a ≥ b) && decide (a ≤ c)))) := by
  refine x_fn (orcS (by decide)) (fc := F61) rfl rfl ?_
  by_cases h : a ≥ b
  · simp only [F61, h, fxa, fxc, fxE, fxL, fxI, nxE, evO, evR, cellsT, ldCells, mkT, lenA, binPV, Env.init, resV, resT, frT, klT, ownT, intT, O.adds, ownA, rowsA, over, wrOk, keysT, keysA, ne_eq, if_true, if_false, ite_self, Nat.reduceLT, Nat.reduceSub, Nat.reduceBEq, Nat.reduceEqDiff, Nat.reduceAdd, Nat.reduceLeDiff, reduceCtorEq, Nat.reduceMul]
  · simp only [F61, h, fxa, fxc, fxE, fxL, fxI, nxE, evO, evR, cellsT, ldCells, mkT, lenA, binPV, Env.init, resV, resT, frT, klT, ownT, intT, O.adds, ownA, rowsA, over, wrOk, keysT, keysA, ne_eq, if_true, if_false, ite_self, Nat.reduceLT, Nat.reduceSub, Nat.reduceBEq, Nat.reduceEqDiff, Nat.reduceAdd, Nat.reduceLeDiff, reduceCtorEq, Nat.reduceMul]
theorem in_is {a b c : Int} (h : b ≤ a ∧ a ≤ c) : eP S 61 [.a (.i .i64 a), .a (.i .i64 b), .a (.i .i64 c)] = some (.a (.b true)) := by
  rw [in_ok, decide_eq_true (h.1 : a ≥ b), decide_eq_true h.2]; rfl
theorem in_no {a b c : Int} (h : ¬ (b ≤ a ∧ a ≤ c)) : eP S 61 [.a (.i .i64 a), .a (.i .i64 b), .a (.i .i64 c)] = some (.a (.b false)) := by
  rw [in_ok]
  have : (decide (a ≥ b) && decide (a ≤ c)) = false := by
    rw [Bool.and_eq_false_iff, decide_eq_false_iff_not, decide_eq_false_iff_not]; omega
  rw [this]
theorem sfree_ok (x : Nd) : eP S 67 [.g (encN x)] = some (.a (.b (decide (x.k = 0)))) := by
  refine x_fn (orcS (by decide)) (fc := F67) rfl rfl ?_
  simp only [F67, fxa, fxc, fxE, fxL, fxI, nxE, evO, evR, cellsT, ldCells, mkT, lenA, binPV, Env.init, resV, resT, frT, klT, ownT, intT, O.adds, ownA, rowsA, over, wrOk, keysT, keysA, ne_eq, if_true, if_false, ite_self, Nat.reduceLT, Nat.reduceSub, Nat.reduceBEq, Nat.reduceEqDiff, Nat.reduceAdd, Nat.reduceLeDiff, reduceCtorEq, Nat.reduceMul]

/-- how many nodes -/
def usedL (l : List Nd) : Int := (l.countP fun x => decide (x.k ≠ 0) : Nat)
def Nt.used (n : Nt) : Int := usedL n.ns
theorem usedL_take {l : List Nd} {i : Nat} {x : Nd} (h : l[i]? = some x) : usedL (l.take (i + 1)) = usedL (l.take i) + (if x.k = 0 then 0 else 1) := by
  unfold usedL
  rw [List.take_add_one, h]
  simp only [Option.toList_some, List.countP_append, List.countP_cons, List.countP_nil]
  by_cases hk : x.k = 0
  · simp [hk]
  · simp [hk]
theorem usedL_le (l : List Nd) : 0 ≤ usedL l ∧ usedL l ≤ l.length := by
  unfold usedL
  have := List.countP_le_length (p := fun x : Nd => decide (x.k ≠ 0)) (l := l)
  omega

theorem sUsed_ok {n : Nt} (hn : n.Ok) : eP S 48 [.g (encT n)] = some (.a (.i .i64 n.used)) := by
  refine x_fn (orcS (by decide)) (fc := F48) rfl rfl ?_
  have hns := hn.ns
  simp only [F48, fxa, fxc, fxE, fxL, fxI, nxE, evO, evR, cellsT, ldCells, mkT, lenA, binPV, Env.init, resV, resT, frT, klT, ownT, intT, O.adds, ownA, rowsA, over, wrOk, keysT, keysA, ne_eq, if_true, if_false, ite_self, Nat.reduceLT, Nat.reduceSub, Nat.reduceBEq, Nat.reduceEqDiff, Nat.reduceAdd, Nat.reduceLeDiff, reduceCtorEq, Nat.reduceMul]
  refine loop_nat n.ns.length (fun i e σ => e 7 = .a (.p (.l (n.ns.map encN))) ∧ e 8 = .a (.p (.i .i64 n.ns.length)) ∧ e 9 = .a (.p (.i .i64 (i : Nat))) ∧ e 3 = .a (.p (.i .i64 (usedL (n.ns.take i))))) (i0 := 0) (Nat.zero_le _) ?_ ?_ ?_
  · refine ⟨?_, ?_, ?_, ?_⟩ <;> simp only [fxa, fxc, fxE, fxL, fxI, nxE, evO, evR, cellsT, ldCells, mkT, lenA, binPV, Env.init, resV, resT, frT, klT, ownT, intT, O.adds, ownA, rowsA, over, wrOk, keysT, keysA, ne_eq, if_true, if_false, ite_self, Nat.reduceLT, Nat.reduceSub, Nat.reduceBEq, Nat.reduceEqDiff, Nat.reduceAdd, Nat.reduceLeDiff, reduceCtorEq, Nat.reduceMul]
    all_goals rfl
  · rintro i e σ hi ⟨e7, e8, e9, e3⟩
    obtain ⟨x, hx⟩ : ∃ x, n.ns[i]? = some x := ⟨_, List.getElem?_eq_getElem hi⟩
    have hx' := mapGet encN hx
    have hlt : ((i : Nat) : Int) < (n.ns.length : Int) := by omega
    have hge : (0 : Int) ≤ ((i : Nat) : Int) := by omega
    have c1 := sfree_ok x
    have hu := usedL_take hx
    have hb := usedL_le (n.ns.take i)
    simp only [List.length_take] at hb
    simp only [encN] at c1
    by_cases hk : x.k = 0
    · rw [if_pos hk, Int.add_zero] at hu
      rw [hk] at c1
      simp only [F48b0, e7, e8, e9, e3, hlt, hge, hx', c1, hk, hu, fxa, fxc, fxE, fxL, fxI, nxE, evO, evR, cellsT, ldCells, mkT, lenA, binPV, Env.init, resV, resT, frT, klT, ownT, intT, O.adds, ownA, rowsA, over, wrOk, keysT, keysA, ne_eq, if_true, if_false, ite_self, Nat.reduceLT, Nat.reduceSub, Nat.reduceBEq, Nat.reduceEqDiff, Nat.reduceAdd, Nat.reduceLeDiff, reduceCtorEq, Nat.reduceMul]
      rw [wrap_succ i (by omega)]
    · rw [if_neg hk] at hu
      have hw : IntKind.i64.wrap (usedL (n.ns.take i) + 1) = usedL (n.ns.take i) + 1 := wrap_in _ (by omega)
      simp only [F48b0, e7, e8, e9, e3, hlt, hge, hx', c1, hk, hu, hw, fxa, fxc, fxE, fxL, fxI, nxE, evO, evR, cellsT, ldCells, mkT, lenA, binPV, Env.init, resV, resT, frT, klT, ownT, intT, O.adds, ownA, rowsA, over, wrOk, keysT, keysA, ne_eq, if_true, if_false, ite_self, Nat.reduceLT, Nat.reduceSub, Nat.reduceBEq, Nat.reduceEqDiff, Nat.reduceAdd, Nat.reduceLeDiff, reduceCtorEq, Nat.reduceMul]
      rw [wrap_succ i (by omega)]
  · rintro e σ ⟨e7, e8, e9, e3⟩
    have hlt : ¬ ((n.ns.length : Nat) : Int) < (n.ns.length : Int) := by omega
    rw [List.take_length] at e3
    simp only [F48b0, e7, e8, e9, e3, hlt, Nt.used, fxa, fxc, fxE, fxL, fxI, nxE, evO, evR, cellsT, ldCells, mkT, lenA, binPV, Env.init, resV, resT, frT, klT, ownT, intT, O.adds, ownA, rowsA, over, wrOk, keysT, keysA, ne_eq, if_true, if_false, ite_self, Nat.reduceLT, Nat.reduceSub, Nat.reduceBEq, Nat.reduceEqDiff, Nat.reduceAdd, Nat.reduceLeDiff, reduceCtorEq, Nat.reduceMul]

theorem RUsed_ok {n : Nt} (hn : n.Ok) : eP S 30 [.g (encT n)] = some (.a (.i .i64 n.used)) := by
  refine x_fn (orcS (by decide)) (fc := F30) rfl rfl ?_
  have hns := hn.ns
  simp only [F30, fxa, fxc, fxE, fxL, fxI, nxE, evO, evR, cellsT, ldCells, mkT, lenA, binPV, Env.init, resV, resT, frT, klT, ownT, intT, O.adds, ownA, rowsA, over, wrOk, keysT, keysA, ne_eq, if_true, if_false, ite_self, Nat.reduceLT, Nat.reduceSub, Nat.reduceBEq, Nat.reduceEqDiff, Nat.reduceAdd, Nat.reduceLeDiff, reduceCtorEq, Nat.reduceMul]
  refine loop_nat n.ns.length (fun i e σ => e 1 = .a (.ptr (1, 0) 0 0) ∧ e 4 = .a (.p (.i .i64 (i : Nat))) ∧ e 3 = .a (.p (.i .i64 (usedL (n.ns.take i)))) ∧ σ.bs (1, 0) = some (.var ((encT n).map .p))) (i0 := 0) (Nat.zero_le _) ?_ ?_ ?_
  · refine ⟨?_, ?_, ?_, ?_⟩ <;> simp only [fxa, fxc, fxE, fxL, fxI, nxE, evO, evR, cellsT, ldCells, mkT, lenA, binPV, Env.init, resV, resT, frT, klT, ownT, intT, O.adds, ownA, rowsA, over, wrOk, keysT, keysA, ne_eq, if_true, if_false, ite_self, Nat.reduceLT, Nat.reduceSub, Nat.reduceBEq, Nat.reduceEqDiff, Nat.reduceAdd, Nat.reduceLeDiff, reduceCtorEq, Nat.reduceMul]
    all_goals rfl
  · rintro i e σ hi ⟨e1, e4, e3, s1⟩
    obtain ⟨x, hx⟩ : ∃ x, n.ns[i]? = some x := ⟨_, List.getElem?_eq_getElem hi⟩
    have hx' := mapGet encN hx
    have hlt : ((i : Nat) : Int) < (n.ns.length : Int) := by omega
    have hge : (0 : Int) ≤ ((i : Nat) : Int) := by omega
    have hu := usedL_take hx
    have hb := usedL_le (n.ns.take i)
    simp only [List.length_take] at hb
    simp only [encT, List.map_cons, List.map_nil] at s1
    by_cases hk : x.k = 0
    · rw [if_pos hk, Int.add_zero] at hu
      simp only [F30b0, e1, e4, e3, s1, hlt, hge, hx', hk, hu, fxa, fxc, fxE, fxL, fxI, nxE, evO, evR, cellsT, ldCells, mkT, lenA, binPV, Env.init, resV, resT, frT, klT, ownT, intT, O.adds, ownA, rowsA, over, wrOk, keysT, keysA, ne_eq, if_true, if_false, ite_self, Nat.reduceLT, Nat.reduceSub, Nat.reduceBEq, Nat.reduceEqDiff, Nat.reduceAdd, Nat.reduceLeDiff, reduceCtorEq, Nat.reduceMul]
      rw [wrap_succ i (by omega)]
    · rw [if_neg hk] at hu
      have hw : IntKind.i64.wrap (usedL (n.ns.take i) + 1) = usedL (n.ns.take i) + 1 := wrap_in _ (by omega)
      simp only [F30b0, e1, e4, e3, s1, hlt, hge, hx', hk, hu, hw, fxa, fxc, fxE, fxL, fxI, nxE, evO, evR, cellsT, ldCells, mkT, lenA, binPV, Env.init, resV, resT, frT, klT, ownT, intT, O.adds, ownA, rowsA, over, wrOk, keysT, keysA, ne_eq, if_true, if_false, ite_self, Nat.reduceLT, Nat.reduceSub, Nat.reduceBEq, Nat.reduceEqDiff, Nat.reduceAdd, Nat.reduceLeDiff, reduceCtorEq, Nat.reduceMul]
      rw [wrap_succ i (by omega)]
  · rintro e σ ⟨e1, e4, e3, s1⟩
    have hlt : ¬ ((n.ns.length : Nat) : Int) < (n.ns.length : Int) := by omega
    rw [List.take_length] at e3
    simp only [encT, List.map_cons, List.map_nil] at s1
    simp only [F30b0, e1, e4, e3, s1, hlt, Nt.used, fxa, fxc, fxE, fxL, fxI, nxE, evO, evR, cellsT, ldCells, mkT, lenA, binPV, Env.init, resV, resT, frT, klT, ownT, intT, O.adds, ownA, rowsA, over, wrOk, keysT, keysA, ne_eq, if_true, if_false, ite_self, Nat.reduceLT, Nat.reduceSub, Nat.reduceBEq, Nat.reduceEqDiff, Nat.reduceAdd, Nat.reduceLeDiff, reduceCtorEq, Nat.reduceMul]

theorem sfixed_ok : eP S 87 [] = some (.g [.i .i64 0, .i .i64 1, .i .i64 3, .i .i64 3, .i .i64 3, .i .i64 2, .i .i64 2, .i .i64 1, .i .i64 0, .i .i64 0, .i .i64 1, .i .i64 3, .i .i64 2, .i .i64 1]) := (eP_some S).2 ⟨3, by kernel_rfl⟩

theorem sPorts_ok {x : Nd} (hx : x.Ok) : eP S 63 [.g (encN x)] = some (.a (.i .i64 x.ports)) := by
  refine x_fn (orcS (by decide)) (fc := F63) rfl rfl ?_
  have hal := hx.al
  have hw : IntKind.i64.wrap (2 + (x.al.length : Int)) = 2 + x.al.length := wrap_in _ (by omega)
  have f := sfixed_ok
  by_cases h8 : x.k = 8
  · have e : x.ports = x.to.length := by unfold Nd.ports; rw [h8]; simp
    rw [e]
    simp only [F63, h8, Int.reduceEq, fxa, fxc, fxE, fxL, fxI, nxE, evO, evR, cellsT, ldCells, mkT, lenA, binPV, Env.init, resV, resT, frT, klT, ownT, intT, O.adds, ownA, rowsA, over, wrOk, keysT, keysA, ne_eq, if_true, if_false, ite_self, Nat.reduceLT, Nat.reduceSub, Nat.reduceBEq, Nat.reduceEqDiff, Nat.reduceAdd, Nat.reduceLeDiff, reduceCtorEq, Nat.reduceMul]
  by_cases h9 : x.k = 9
  · have e : x.ports = 2 + x.al.length := by unfold Nd.ports; rw [h9]; simp
    rw [e]
    simp only [F63, h9, hw, Int.reduceEq, fxa, fxc, fxE, fxL, fxI, nxE, evO, evR, cellsT, ldCells, mkT, lenA, binPV, Env.init, resV, resT, frT, klT, ownT, intT, O.adds, ownA, rowsA, over, wrOk, keysT, keysA, ne_eq, if_true, if_false, ite_self, Nat.reduceLT, Nat.reduceSub, Nat.reduceBEq, Nat.reduceEqDiff, Nat.reduceAdd, Nat.reduceLeDiff, reduceCtorEq, Nat.reduceMul]
  by_cases hin : 0 ≤ x.k ∧ x.k ≤ 13
  · have c1 := in_is (a := x.k) (b := 0) (c := 13) hin
    obtain ⟨k, hk⟩ : ∃ k : Nat, x.k = k := ⟨x.k.toNat, by omega⟩
    unfold Nd.ports
    rw [hk] at c1 h8 h9
    have hk13 : k ≤ 13 := by omega
    simp only [F63, hk, h8, h9, c1, f, fxa, fxc, fxE, fxL, fxI, nxE, evO, evR, cellsT, ldCells, mkT, lenA, binPV, Env.init, resV, resT, frT, klT, ownT, intT, O.adds, ownA, rowsA, over, wrOk, keysT, keysA, ne_eq, if_true, if_false, ite_self, Nat.reduceLT, Nat.reduceSub, Nat.reduceBEq, Nat.reduceEqDiff, Nat.reduceAdd, Nat.reduceLeDiff, reduceCtorEq, Nat.reduceMul]
    have : k = 0 ∨ k = 1 ∨ k = 2 ∨ k = 3 ∨ k = 4 ∨ k = 5 ∨ k = 6 ∨ k = 7 ∨ k = 10 ∨ k = 11 ∨ k = 12 ∨ k = 13 := by omega
    rcases this with rfl | rfl | rfl | rfl | rfl | rfl | rfl | rfl | rfl | rfl | rfl | rfl <;> simp only [Int.reduceToNat, Int.reduceEq, Int.reduceLT, Int.reduceLE, Int.cast_ofNat_Int, List.drop_succ_cons, List.drop_zero, or_true, true_or, or_false, false_or, or_self, fxa, fxc, fxE, fxL, fxI, nxE, evO, evR, cellsT, ldCells, mkT, lenA, binPV, Env.init, resV, resT, frT, klT, ownT, intT, O.adds, ownA, rowsA, over, wrOk, keysT, keysA, ne_eq, if_true, if_false, ite_self, Nat.reduceLT, Nat.reduceSub, Nat.reduceBEq, Nat.reduceEqDiff, Nat.reduceAdd, Nat.reduceLeDiff, reduceCtorEq, Nat.reduceMul]
  · have c1 := in_no (a := x.k) (b := 0) (c := 13) hin
    have e : x.ports = 0 := by
      unfold Nd.ports
      rw [if_neg (by omega), if_neg (by omega), if_neg (by omega), if_neg (by omega), if_neg (by omega)]
    rw [e]
    simp only [F63, h8, h9, c1, fxa, fxc, fxE, fxL, fxI, nxE, evO, evR, cellsT, ldCells, mkT, lenA, binPV, Env.init, resV, resT, frT, klT, ownT, intT, O.adds, ownA, rowsA, over, wrOk, keysT, keysA, ne_eq, if_true, if_false, ite_self, Nat.reduceLT, Nat.reduceSub, Nat.reduceBEq, Nat.reduceEqDiff, Nat.reduceAdd, Nat.reduceLeDiff, reduceCtorEq, Nat.reduceMul]

theorem alt1_ok (b a : Ar) (k : Key) (σ : St) (hk : σ.bs k = some (.var ((encA a).map .p))) (hlt : k.2 < σ.clk) :
    eS S (.f 103) [.g ((encA b).map .p), .a (.ptr k 0 0)] σ = some (.a (.p (.b (decide (b.s = a.s)))), σ.add 2 (.var ((encA b).map .p))) := by
  have hne : ¬ k = (2, σ.clk) := by rintro rfl; exact Nat.lt_irrefl _ hlt
  simp only [encA, List.map_cons, List.map_nil] at hk
  refine x_fnX (fc := F103) rfl rfl ?_
  simp only [F103, hk, hne, fxa, fxc, fxE, fxL, fxI, nxE, evO, evR, cellsT, ldCells, mkT, lenA, binPV, Env.init, resV, resT, frT, klT, ownT, intT, O.adds, ownA, rowsA, over, wrOk, keysT, keysA, ne_eq, if_true, if_false, ite_self, Nat.reduceLT, Nat.reduceSub, Nat.reduceBEq, Nat.reduceEqDiff, Nat.reduceAdd, Nat.reduceLeDiff, reduceCtorEq, Nat.reduceMul]

/-- slices.IndexFunc over alternatives -/
theorem indexA_ok (l : List Ar) (hl : l.length * 24 ≤ 140737488355328) (g : FuncId) (caps : List Key) (hc : caps ≠ []) (hsp : spN g = false) (f : Ar → Bool) (R : St → Prop)
    (hR : ∀ p σ, R σ → ∃ σ', eS S (.f g) ([.g ((encA p).map .p)] ++ caps.map fun s => .a (.ptr s 0 0)) σ = some (.a (.p (.b (f p))), σ') ∧ R σ') (σ : St) (h0 : R σ) :
    ∃ σ', eS S (.f 79) [.a (.p (.l (l.map encA))), .a (.fn g caps)] σ = some (.a (.p (.i .i64 (idx f l))), σ') ∧ R σ' := by
  obtain ⟨c1, cr, rfl⟩ : ∃ c1 cr, caps = c1 :: cr := by
    cases caps with
    | nil => exact absurd rfl hc
    | cons c1 cr => exact ⟨c1, cr, rfl⟩
  refine x_fnR (fc := F79) rfl rfl ?_
  simp only [F79, fxa, fxc, fxE, fxL, fxI, nxE, evO, evR, cellsT, ldCells, mkT, lenA, binPV, Env.init, resV, resT, frT, klT, ownT, intT, O.adds, ownA, rowsA, over, wrOk, keysT, keysA, ne_eq, if_true, if_false, ite_self, Nat.reduceLT, Nat.reduceSub, Nat.reduceBEq, Nat.reduceEqDiff, Nat.reduceAdd, Nat.reduceLeDiff, reduceCtorEq, Nat.reduceMul]
  refine loop_nat l.length (fun i e σ => e 0 = .a (.p (.l (l.map encA))) ∧ e 1 = .a (.fn g (c1 :: cr)) ∧ e 7 = .a (.p (.i .i64 l.length)) ∧ e 8 = .a (.p (.i .i64 (i : Nat))) ∧ R σ ∧ ∀ j x, j < i → l[j]? = some x → f x = false) (i0 := 0) (Nat.zero_le _) ?_ ?_ ?_
  · refine ⟨?_, ?_, ?_, ?_, h0, fun j x hj => by omega⟩ <;> simp only [fxa, fxc, fxE, fxL, fxI, nxE, evO, evR, cellsT, ldCells, mkT, lenA, binPV, Env.init, resV, resT, frT, klT, ownT, intT, O.adds, ownA, rowsA, over, wrOk, keysT, keysA, ne_eq, if_true, if_false, ite_self, Nat.reduceLT, Nat.reduceSub, Nat.reduceBEq, Nat.reduceEqDiff, Nat.reduceAdd, Nat.reduceLeDiff, reduceCtorEq, Nat.reduceMul]
    rfl
  · rintro i e σ hi ⟨e0, e1, e7, e8, hRσ, hall⟩
    have hlt : ((i : Nat) : Int) < (l.length : Int) := by omega
    have hge : (0 : Int) ≤ ((i : Nat) : Int) := by omega
    obtain ⟨x, hx⟩ : ∃ x, l[i]? = some x := ⟨_, List.getElem?_eq_getElem hi⟩
    have hx' := mapGet encA hx
    obtain ⟨σ2, hcall, hR2⟩ := hR x σ hRσ
    simp only [encA, List.map_cons, List.map_nil, List.cons_append, List.nil_append] at hcall
    simp only [F79b0, e0, e1, e7, e8, hlt, hge, hx', hsp, hcall, Bool.false_eq_true, fxa, fxc, fxE, fxL, fxI, nxE, evO, evR, cellsT, ldCells, mkT, lenA, binPV, Env.init, resV, resT, frT, klT, ownT, intT, O.adds, ownA, rowsA, over, wrOk, keysT, keysA, ne_eq, if_true, if_false, ite_self, Nat.reduceLT, Nat.reduceSub, Nat.reduceBEq, Nat.reduceEqDiff, Nat.reduceAdd, Nat.reduceLeDiff, reduceCtorEq, Nat.reduceMul]
    refine wpC_split (fun hf => ?_) (fun hf => ?_)
    · simp only [fxa, fxc, fxE, fxL, fxI, nxE, evO, evR, cellsT, ldCells, mkT, lenA, binPV, Env.init, resV, resT, frT, klT, ownT, intT, O.adds, ownA, rowsA, over, wrOk, keysT, keysA, ne_eq, if_true, if_false, ite_self, Nat.reduceLT, Nat.reduceSub, Nat.reduceBEq, Nat.reduceEqDiff, Nat.reduceAdd, Nat.reduceLeDiff, reduceCtorEq, Nat.reduceMul]
      refine ⟨?_, hR2⟩
      have : l.findIdx? f = some i := by
        rw [List.findIdx?_eq_some_iff_getElem]
        refine ⟨hi, ?_, fun j hj => ?_⟩
        · rw [List.getElem?_eq_getElem hi] at hx; rw [Option.some.inj hx]; exact hf
        · rw [hall j _ hj (List.getElem?_eq_getElem (by omega))]; simp
      simp only [idx, this]
    · simp only [e0, e1, e7, e8, fxa, fxc, fxE, fxL, fxI, nxE, evO, evR, cellsT, ldCells, mkT, lenA, binPV, Env.init, resV, resT, frT, klT, ownT, intT, O.adds, ownA, rowsA, over, wrOk, keysT, keysA, ne_eq, if_true, if_false, ite_self, Nat.reduceLT, Nat.reduceSub, Nat.reduceBEq, Nat.reduceEqDiff, Nat.reduceAdd, Nat.reduceLeDiff, reduceCtorEq, Nat.reduceMul]
      refine ⟨by rw [wrap_succ i (by omega)], hR2, fun j y hj hy => ?_⟩
      by_cases e : j = i
      · subst e; rw [hx] at hy; rw [← Option.some.inj hy]; exact hf
      · exact hall j y (by omega) hy
  · rintro e σ ⟨e0, e1, e7, e8, hRσ, hall⟩
    have hlt : ¬ ((l.length : Nat) : Int) < (l.length : Int) := by omega
    simp only [F79b0, e0, e1, e7, e8, hlt, fxa, fxc, fxE, fxL, fxI, nxE, evO, evR, cellsT, ldCells, mkT, lenA, binPV, Env.init, resV, resT, frT, klT, ownT, intT, O.adds, ownA, rowsA, over, wrOk, keysT, keysA, ne_eq, if_true, if_false, ite_self, Nat.reduceLT, Nat.reduceSub, Nat.reduceBEq, Nat.reduceEqDiff, Nat.reduceAdd, Nat.reduceLeDiff, reduceCtorEq, Nat.reduceMul]
    refine ⟨?_, hRσ⟩
    have : l.findIdx? f = none := by
      rw [List.findIdx?_eq_none_iff]
      intro x hx
      obtain ⟨j, hj⟩ := List.getElem?_of_mem hx
      exact hall j x (List.getElem?_eq_some_iff.1 hj).1 hj
    simp only [idx, this]

theorem containsA_ok (l : List Ar) (hl : l.length * 24 ≤ 140737488355328) (a : Ar) (k : Key) (R : St → Prop) (hRk : ∀ σ, R σ → σ.bs k = some (.var ((encA a).map .p)) ∧ k.2 < σ.clk) (hRa : ∀ σ b, R σ → R (σ.add 2 b)) (σ : St) (h0 : R σ) :
    ∃ σ', eS S (.f 104) [.a (.p (.l (l.map encA))), .a (.fn 103 [k])] σ = some (.a (.p (.b (l.any fun b => decide (b.s = a.s)))), σ') ∧ R σ' := by
  obtain ⟨σ', h, hR⟩ := indexA_ok l hl 103 [k] (by simp) (by decide) (fun b => decide (b.s = a.s)) R (fun b σ hσ => ⟨_, alt1_ok b a k σ (hRk σ hσ).1 (hRk σ hσ).2, hRa σ _ hσ⟩) σ h0
  refine x_fnR (fc := F104) rfl rfl ?_
  simp only [F104, h, idx_any, fxa, fxc, fxE, fxL, fxI, nxE, evO, evR, cellsT, ldCells, mkT, lenA, binPV, Env.init, resV, resT, frT, klT, ownT, intT, O.adds, ownA, rowsA, over, wrOk, keysT, keysA, ne_eq, if_true, if_false, ite_self, Nat.reduceLT, Nat.reduceSub, Nat.reduceBEq, Nat.reduceEqDiff, Nat.reduceAdd, Nat.reduceLeDiff, reduceCtorEq, Nat.reduceMul]
  exact hR

def altsP (x : Nd) : Prop := (x.k ≠ 9 → x.al.length = 0) ∧ (x.k = 9 → altOk x.al ∧ 1 ≤ (x.al.length : Int) ∧ (x.al.length : Int) ≤ 8)

theorem alts_ok {x : Nd} (hx : x.Ok) : eP S 86 [.g (encN x)] = some (.a (.b (bool (altsP x)))) := by
  refine x_fnB (orcS (by decide)) (fc := F86) rfl rfl ?_
  have hal := hx.al
  by_cases h9 : x.k = 9
  case neg =>
    simp only [F86, h9, fxa, fxc, fxE, fxL, fxI, nxE, evO, evR, cellsT, ldCells, mkT, lenA, binPV, Env.init, resV, resT, frT, klT, ownT, intT, O.adds, ownA, rowsA, over, wrOk, keysT, keysA, ne_eq, if_true, if_false, ite_self, Nat.reduceLT, Nat.reduceSub, Nat.reduceBEq, Nat.reduceEqDiff, Nat.reduceAdd, Nat.reduceLeDiff, reduceCtorEq, Nat.reduceMul]
    rw [decide_eq_true_iff]
    exact ⟨fun h => ⟨fun _ => by omega, fun h2 => absurd h2 h9⟩, fun h => by have := h.1 h9; omega⟩
  simp only [F86, h9, fxa, fxc, fxE, fxL, fxI, nxE, evO, evR, cellsT, ldCells, mkT, lenA, binPV, Env.init, resV, resT, frT, klT, ownT, intT, O.adds, ownA, rowsA, over, wrOk, keysT, keysA, ne_eq, if_true, if_false, ite_self, Nat.reduceLT, Nat.reduceSub, Nat.reduceBEq, Nat.reduceEqDiff, Nat.reduceAdd, Nat.reduceLeDiff, reduceCtorEq, Nat.reduceMul]
  refine loop_nat x.al.length (fun i e σ => e 1 = .a (.ptr (1, 0) 0 0) ∧ e 14 = .a (.p (.l (x.al.map encA))) ∧ e 15 = .a (.p (.i .i64 x.al.length)) ∧ e 16 = .a (.p (.i .i64 (i : Nat))) ∧ σ.bs (1, 0) = some (.var ((encN x).map .p)) ∧ 1 ≤ σ.clk ∧
    ∀ (m : Nat) (a : Ar), m < i → x.al[m]? = some a → a.s ≠ [] ∧ 0 ≤ a.n ∧ a.n ≤ 8 ∧ ∀ (j : Nat) (b : Ar), j < m → x.al[j]? = some b → b.s ≠ a.s) (i0 := 0) (Nat.zero_le _) ?_ ?_ ?_
  · refine ⟨?_, ?_, ?_, ?_, ?_, ?_, fun j a hj => by omega⟩ <;> simp only [h9, fxa, fxc, fxE, fxL, fxI, nxE, evO, evR, cellsT, ldCells, mkT, lenA, binPV, Env.init, resV, resT, frT, klT, ownT, intT, O.adds, ownA, rowsA, over, wrOk, keysT, keysA, ne_eq, if_true, if_false, ite_self, Nat.reduceLT, Nat.reduceSub, Nat.reduceBEq, Nat.reduceEqDiff, Nat.reduceAdd, Nat.reduceLeDiff, reduceCtorEq, Nat.reduceMul]
    all_goals first | rfl | omega
  · rintro i e σ hi ⟨e1, e14, e15, e16, s1, hc, hall⟩
    obtain ⟨a, ha⟩ : ∃ a, x.al[i]? = some a := ⟨_, List.getElem?_eq_getElem hi⟩
    have ha' := mapGet encA ha
    have hlt : ((i : Nat) : Int) < (x.al.length : Int) := by omega
    have hle : ((i : Nat) : Int) ≤ (x.al.length : Int) := by omega
    have hge : (0 : Int) ≤ ((i : Nat) : Int) := by omega
    simp only [encN, List.map_cons, List.map_nil] at s1
    have htk : List.take i (x.al.map encA) = (x.al.take i).map encA := List.map_take.symm
    have hall2 : ((x.al.take i).map encA).all (fun r => decide (r.length = 2)) = true := allA _
    by_cases h1 : a.s = []
    · simp only [F86b0, e1, e14, e15, e16, s1, hlt, hle, hge, ha', h1, capsOf, optInt, subRows, htk, hall2, Int.reduceToNat, Nat.sub_zero, Int.toNat_zero, Int.le_refl, List.drop_zero, fxa, fxc, fxE, fxL, fxI, nxE, evO, evR, cellsT, ldCells, mkT, lenA, binPV, Env.init, resV, resT, frT, klT, ownT, intT, O.adds, ownA, rowsA, over, wrOk, keysT, keysA, ne_eq, if_true, if_false, ite_self, Nat.reduceLT, Nat.reduceSub, Nat.reduceBEq, Nat.reduceEqDiff, Nat.reduceAdd, Nat.reduceLeDiff, reduceCtorEq, Nat.reduceMul]
      intro hP; exact ((hP.2 h9).1 i a ha).1 h1
    by_cases h2 : 0 ≤ a.n ∧ a.n ≤ 8
    case neg =>
      have c1 := in_no h2
      simp only [F86b0, e1, e14, e15, e16, s1, hlt, hle, hge, ha', h1, c1, capsOf, optInt, subRows, htk, hall2, Int.reduceToNat, Nat.sub_zero, Int.toNat_zero, Int.le_refl, List.drop_zero, fxa, fxc, fxE, fxL, fxI, nxE, evO, evR, cellsT, ldCells, mkT, lenA, binPV, Env.init, resV, resT, frT, klT, ownT, intT, O.adds, ownA, rowsA, over, wrOk, keysT, keysA, ne_eq, if_true, if_false, ite_self, Nat.reduceLT, Nat.reduceSub, Nat.reduceBEq, Nat.reduceEqDiff, Nat.reduceAdd, Nat.reduceLeDiff, reduceCtorEq, Nat.reduceMul]
      intro hP; have := (hP.2 h9).1 i a ha; omega
    have c1 := in_is h2
    have hne : ∀ d : Nat, ∀ s : Key, s.2 < σ.clk → ¬ s = (d, σ.clk) := by rintro d s hs rfl; exact Nat.lt_irrefl _ hs
    obtain ⟨σ0, hσ0⟩ : ∃ σ0, σ0 = ((σ.add 4 (.var [.p (.s []), .p (.i .i64 0)])).put (4, σ.clk) (.var [.p (.s a.s), .p (.i .i64 a.n)])) := ⟨_, rfl⟩
    obtain ⟨σ2, hcall, hR2⟩ := containsA_ok (x.al.take i) (by simp; omega) a (4, σ.clk) (fun σ' => σ'.bs (1, 0) = some (.var ((encN x).map .p)) ∧ σ'.bs (4, σ.clk) = some (.var ((encA a).map .p)) ∧ σ.clk < σ'.clk)
      (fun σ' h => ⟨h.2.1, h.2.2⟩) (fun σ' b h => ⟨by simp only [add_bs]; rw [if_neg (by simp)]; exact h.1, by simp only [add_bs]; rw [if_neg (by simp)]; exact h.2.1, by simp only [add_clk]; omega⟩) σ0
      (by rw [hσ0]; refine ⟨?_, ?_, ?_⟩ <;> simp only [s1, encN, encA, List.map_cons, List.map_nil, fxa, fxc, fxE, fxL, fxI, nxE, evO, evR, cellsT, ldCells, mkT, lenA, binPV, Env.init, resV, resT, frT, klT, ownT, intT, O.adds, ownA, rowsA, over, wrOk, keysT, keysA, ne_eq, if_true, if_false, ite_self, Nat.reduceLT, Nat.reduceSub, Nat.reduceBEq, Nat.reduceEqDiff, Nat.reduceAdd, Nat.reduceLeDiff, reduceCtorEq, Nat.reduceMul])
    simp only [encN, List.map_cons, List.map_nil] at hR2
    rw [hσ0] at hcall
    simp only [F86b0, e1, e14, e15, e16, s1, hlt, hle, hge, ha', h1, c1, capsOf, optInt, subRows, htk, hall2, hcall, Int.reduceToNat, Nat.sub_zero, Int.toNat_zero, Int.le_refl, List.drop_zero, fxa, fxc, fxE, fxL, fxI, nxE, evO, evR, cellsT, ldCells, mkT, lenA, binPV, Env.init, resV, resT, frT, klT, ownT, intT, O.adds, ownA, rowsA, over, wrOk, keysT, keysA, ne_eq, if_true, if_false, ite_self, Nat.reduceLT, Nat.reduceSub, Nat.reduceBEq, Nat.reduceEqDiff, Nat.reduceAdd, Nat.reduceLeDiff, reduceCtorEq, Nat.reduceMul]
    cases hany : (x.al.take i).any fun b => decide (b.s = a.s) with
    | true =>
      simp only [hany, fxa, fxc, fxE, fxL, fxI, nxE, evO, evR, cellsT, ldCells, mkT, lenA, binPV, Env.init, resV, resT, frT, klT, ownT, intT, O.adds, ownA, rowsA, over, wrOk, keysT, keysA, ne_eq, if_true, if_false, ite_self, Nat.reduceLT, Nat.reduceSub, Nat.reduceBEq, Nat.reduceEqDiff, Nat.reduceAdd, Nat.reduceLeDiff, reduceCtorEq, Nat.reduceMul]
      intro hP
      rw [List.any_eq_true] at hany
      obtain ⟨b, hb, hb2⟩ := hany
      obtain ⟨j, hj⟩ := List.getElem?_of_mem hb
      have hjl := (List.getElem?_eq_some_iff.1 hj).1
      simp at hjl
      rw [List.getElem?_take_of_lt (by omega)] at hj
      exact ((hP.2 h9).1 i a ha).2.2.2 j b (by omega) hj (by simpa using hb2)
    | false =>
      simp only [hany, e1, e14, e15, e16, fxa, fxc, fxE, fxL, fxI, nxE, evO, evR, cellsT, ldCells, mkT, lenA, binPV, Env.init, resV, resT, frT, klT, ownT, intT, O.adds, ownA, rowsA, over, wrOk, keysT, keysA, ne_eq, if_true, if_false, ite_self, Nat.reduceLT, Nat.reduceSub, Nat.reduceBEq, Nat.reduceEqDiff, Nat.reduceAdd, Nat.reduceLeDiff, reduceCtorEq, Nat.reduceMul]
      refine ⟨by rw [wrap_succ i (by omega)], hR2.1, by omega, fun m c hm hcc => ?_⟩
      by_cases e : m = i
      · subst e; rw [ha] at hcc; rw [← Option.some.inj hcc]
        refine ⟨h1, h2.1, h2.2, fun j b hj hb hs => ?_⟩
        rw [List.any_eq_false] at hany
        exact hany b (by rw [List.mem_take_iff_getElem]; obtain ⟨hl, hg⟩ := List.getElem?_eq_some_iff.1 hb; exact ⟨j, by omega, hg⟩) (by simpa using hs)
      · exact hall m c (by omega) hcc
  · rintro e σ ⟨e1, e14, e15, e16, s1, hc, hall⟩
    have hlt : ¬ ((x.al.length : Nat) : Int) < (x.al.length : Int) := by omega
    have c1 := in_ok (x.al.length : Int) 1 8
    simp only [encN, List.map_cons, List.map_nil] at s1
    simp only [F86b0, e1, e14, e15, e16, s1, hlt, c1, fxa, fxc, fxE, fxL, fxI, nxE, evO, evR, cellsT, ldCells, mkT, lenA, binPV, Env.init, resV, resT, frT, klT, ownT, intT, O.adds, ownA, rowsA, over, wrOk, keysT, keysA, ne_eq, if_true, if_false, ite_self, Nat.reduceLT, Nat.reduceSub, Nat.reduceBEq, Nat.reduceEqDiff, Nat.reduceAdd, Nat.reduceLeDiff, reduceCtorEq, Nat.reduceMul]
    rw [Bool.and_eq_true, decide_eq_true_eq, decide_eq_true_eq]
    exact ⟨fun h => ⟨fun h2 => absurd h9 h2, fun _ => ⟨fun i a hi => hall i a (List.getElem?_eq_some_iff.1 hi).1 hi, h.1, h.2⟩⟩, fun h => (h.2 h9).2⟩

end Go.Proofs.Ytomcceambpneiaa
