/- The law PairsPick, as the evaluator has it; lists of pairs. -/
import Derived.Test.YtkpfjolcmkikeaaPairs2
set_option linter.unusedSimpArgs false
set_option linter.unusedVariables false
set_option maxHeartbeats 4000000
set_option maxRecDepth 10000
namespace Go.Proofs.Ytkpfjolcmkikeaa
open Go.Fx

theorem fixed17_ok : eP S 39 [] = some (.a (.b true)) := (eP_some S).2 ⟨60, by kernel_rfl⟩

def eqP (p x : Pt) : Bool := decide (x.n = p.n) && decide (x.s = p.s)
theorem eqP_iff {p x : Pt} : eqP p x = true ↔ x = p := by
  obtain ⟨a, b⟩ := p
  obtain ⟨c, d⟩ := x
  simp [eqP]

theorem in17_ok {l : List Pt} (hl : l.length * 16 ≤ 140737488355328) (p : Pt) : eP S 47 [.a (.l (l.map encP)), .g (encP p)] = some (.a (.b (l.any (eqP p)))) := by
  refine x_fn (orcS (by decide)) (fc := F47) rfl rfl ?_
  simp only [F47, encP, fxa, fxc, fxE, fxL, fxI, nxE, evO, evR, cellsT, ldCells, mkT, lenA, binPV, Env.init, resV, resT, frT, klT, ownT, intT, O.adds, ownA, rowsA, over, wrOk, keysT, keysA, ne_eq, if_true, if_false, ite_self, Nat.reduceLT, Nat.reduceSub, Nat.reduceBEq, Nat.reduceEqDiff, Nat.reduceAdd, Nat.reduceLeDiff, reduceCtorEq, Nat.reduceMul]
  refine loop_nat l.length (fun k e σ => e 0 = .a (.p (.l (l.map encP))) ∧ e 3 = .a (.ptr (3, 0) 0 0) ∧ e 5 = .a (.p (.i .i64 (k : Nat))) ∧ σ.bs (3, 0) = some (.var ((encP p).map .p)) ∧ ((l.take k).any (eqP p)) = false) (i0 := 0) (Nat.zero_le _) ?_ ?_ ?_
  · refine ⟨?_, ?_, ?_, ?_, ?_⟩ <;> simp only [encP, List.map_cons, List.map_nil, fxa, fxc, fxE, fxL, fxI, nxE, evO, evR, cellsT, ldCells, mkT, lenA, binPV, Env.init, resV, resT, frT, klT, ownT, intT, O.adds, ownA, rowsA, over, wrOk, keysT, keysA, ne_eq, if_true, if_false, ite_self, Nat.reduceLT, Nat.reduceSub, Nat.reduceBEq, Nat.reduceEqDiff, Nat.reduceAdd, Nat.reduceLeDiff, reduceCtorEq, Nat.reduceMul]
    all_goals rfl
  · rintro k e σ hk ⟨e0, e3, e5, s3, hall⟩
    obtain ⟨x, hx⟩ : ∃ x, l[k]? = some x := ⟨_, List.getElem?_eq_getElem hk⟩
    have hx' := mapGet encP hx
    have hlt : ((k : Nat) : Int) < (l.length : Int) := by omega
    have hge : (0 : Int) ≤ ((k : Nat) : Int) := by omega
    have hra : ((l.map encP).all fun r => decide (r.length = 2)) = true := by simp [encP]
    have htk : ((l.take (k + 1)).any (eqP p)) = eqP p x := by rw [List.take_add_one, hx]; simp [hall]
    simp only [encP, List.map_cons, List.map_nil] at hx' hra s3
    cases e : eqP p x with
    | true =>
      have hany : l.any (eqP p) = true := by rw [List.any_eq_true]; exact ⟨x, List.mem_of_getElem? hx, e⟩
      have e' : (decide (x.n = p.n) && decide (x.s = p.s)) = true := e
      simp only [F47b0, e0, e3, e5, s3, hlt, hge, hx', hra, e', hany, encP, List.map_cons, List.map_nil, fxa, fxc, fxE, fxL, fxI, nxE, evO, evR, cellsT, ldCells, mkT, lenA, binPV, Env.init, resV, resT, frT, klT, ownT, intT, O.adds, ownA, rowsA, over, wrOk, keysT, keysA, ne_eq, if_true, if_false, ite_self, Nat.reduceLT, Nat.reduceSub, Nat.reduceBEq, Nat.reduceEqDiff, Nat.reduceAdd, Nat.reduceLeDiff, reduceCtorEq, Nat.reduceMul]
    | false =>
      have e' : (decide (x.n = p.n) && decide (x.s = p.s)) = false := e
      rw [e] at htk
      simp only [F47b0, e0, e3, e5, s3, hlt, hge, hx', hra, e', htk, encP, List.map_cons, List.map_nil, fxa, fxc, fxE, fxL, fxI, nxE, evO, evR, cellsT, ldCells, mkT, lenA, binPV, Env.init, resV, resT, frT, klT, ownT, intT, O.adds, ownA, rowsA, over, wrOk, keysT, keysA, ne_eq, if_true, if_false, ite_self, Nat.reduceLT, Nat.reduceSub, Nat.reduceBEq, Nat.reduceEqDiff, Nat.reduceAdd, Nat.reduceLeDiff, reduceCtorEq, Nat.reduceMul]
      rw [wrap_succ k (by omega)]
  · rintro e σ ⟨e0, e3, e5, s3, hall⟩
    have hlt : ¬ ((l.length : Nat) : Int) < (l.length : Int) := by omega
    rw [List.take_length] at hall
    simp only [F47b0, e0, e3, e5, hlt, hall, List.length_map, fxa, fxc, fxE, fxL, fxI, nxE, evO, evR, cellsT, ldCells, mkT, lenA, binPV, Env.init, resV, resT, frT, klT, ownT, intT, O.adds, ownA, rowsA, over, wrOk, keysT, keysA, ne_eq, if_true, if_false, ite_self, Nat.reduceLT, Nat.reduceSub, Nat.reduceBEq, Nat.reduceEqDiff, Nat.reduceAdd, Nat.reduceLeDiff, reduceCtorEq, Nat.reduceMul]

theorem in17_mem {l : List Pt} {p : Pt} : l.any (eqP p) = true ↔ p ∈ l := by
  rw [List.any_eq_true]
  constructor
  · rintro ⟨x, h1, h2⟩; rw [← eqP_iff.1 h2]; exact h1
  · intro h; exact ⟨p, h, eqP_iff.2 rfl⟩

theorem Same17_ok {a b : List Pt} (ha : a.length * 16 ≤ 140737488355328) : eP S 42 [.a (.l (a.map encP)), .a (.l (b.map encP))] = some (.a (.b (Fx.bool (a = b)))) := by
  refine x_fnB (orcS (by decide)) (fc := F42) rfl rfl ?_
  by_cases h : a.length = b.length
  case neg =>
    have h' : ¬ (a.length : Int) = b.length := by omega
    simp only [F42, h', fxa, fxc, fxE, fxL, fxI, nxE, evO, evR, cellsT, ldCells, mkT, lenA, binPV, Env.init, resV, resT, frT, klT, ownT, intT, O.adds, ownA, rowsA, over, wrOk, keysT, keysA, ne_eq, if_true, if_false, ite_self, Nat.reduceLT, Nat.reduceSub, Nat.reduceBEq, Nat.reduceEqDiff, Nat.reduceAdd, Nat.reduceLeDiff, reduceCtorEq, Nat.reduceMul]; intro e; exact h (by rw [e])
  simp only [F42, h, fxa, fxc, fxE, fxL, fxI, nxE, evO, evR, cellsT, ldCells, mkT, lenA, binPV, Env.init, resV, resT, frT, klT, ownT, intT, O.adds, ownA, rowsA, over, wrOk, keysT, keysA, ne_eq, if_true, if_false, ite_self, Nat.reduceLT, Nat.reduceSub, Nat.reduceBEq, Nat.reduceEqDiff, Nat.reduceAdd, Nat.reduceLeDiff, reduceCtorEq, Nat.reduceMul]
  refine loop_nat b.length (fun i e σ => e 0 = .a (.p (.l (a.map encP))) ∧ e 1 = .a (.p (.l (b.map encP))) ∧ e 5 = .a (.p (.i .i64 (i : Nat))) ∧ ∀ j, j < i → a[j]? = b[j]?) (i0 := 0) (Nat.zero_le _) ?_ ?_ ?_
  · refine ⟨?_, ?_, ?_, fun j hj => by omega⟩ <;> simp only [fxa, fxc, fxE, fxL, fxI, nxE, evO, evR, cellsT, ldCells, mkT, lenA, binPV, Env.init, resV, resT, frT, klT, ownT, intT, O.adds, ownA, rowsA, over, wrOk, keysT, keysA, ne_eq, if_true, if_false, ite_self, Nat.reduceLT, Nat.reduceSub, Nat.reduceBEq, Nat.reduceEqDiff, Nat.reduceAdd, Nat.reduceLeDiff, reduceCtorEq, Nat.reduceMul]
    rfl
  · rintro i e σ hi ⟨e0, e1, e5, hall⟩
    obtain ⟨x, hx⟩ : ∃ x, a[i]? = some x := ⟨_, List.getElem?_eq_getElem (by omega)⟩
    obtain ⟨y, hy⟩ : ∃ y, b[i]? = some y := ⟨_, List.getElem?_eq_getElem hi⟩
    have hx' := mapGet encP hx
    have hy' := mapGet encP hy
    have hlt : ((i : Nat) : Int) < (a.length : Int) := by omega
    have hlt' : ((i : Nat) : Int) < (b.length : Int) := by omega
    have hge : (0 : Int) ≤ ((i : Nat) : Int) := by omega
    have hra : ∀ l : List Pt, ((l.map encP).all fun r => decide (r.length = 2)) = true := fun l => by simp [encP]
    simp only [encP] at hx' hy' hra
    cases e : eqP y x with
    | true =>
      have e' : (decide (x.n = y.n) && decide (x.s = y.s)) = true := e
      simp only [F42b0, e0, e1, e5, hlt, hlt', hge, hx', hy', hra, e', encP, Bool.not_true, fxa, fxc, fxE, fxL, fxI, nxE, evO, evR, cellsT, ldCells, mkT, lenA, binPV, Env.init, resV, resT, frT, klT, ownT, intT, O.adds, ownA, rowsA, over, wrOk, keysT, keysA, ne_eq, if_true, if_false, ite_self, Nat.reduceLT, Nat.reduceSub, Nat.reduceBEq, Nat.reduceEqDiff, Nat.reduceAdd, Nat.reduceLeDiff, reduceCtorEq, Nat.reduceMul]
      refine ⟨by rw [wrap_succ i (by omega)], fun j hj => ?_⟩
      by_cases e2 : j = i
      · rw [e2, hx, hy, eqP_iff.1 e]
      · exact hall j (by omega)
    | false =>
      have e' : (decide (x.n = y.n) && decide (x.s = y.s)) = false := e
      simp only [F42b0, e0, e1, e5, hlt, hlt', hge, hx', hy', hra, e', encP, Bool.not_false, fxa, fxc, fxE, fxL, fxI, nxE, evO, evR, cellsT, ldCells, mkT, lenA, binPV, Env.init, resV, resT, frT, klT, ownT, intT, O.adds, ownA, rowsA, over, wrOk, keysT, keysA, ne_eq, if_true, if_false, ite_self, Nat.reduceLT, Nat.reduceSub, Nat.reduceBEq, Nat.reduceEqDiff, Nat.reduceAdd, Nat.reduceLeDiff, reduceCtorEq, Nat.reduceMul]
      intro h2; rw [h2, hy] at hx; rw [eqP_iff.2 (Option.some.inj hx).symm] at e; cases e
  · rintro e σ ⟨e0, e1, e5, hall⟩
    have hlt : ¬ ((b.length : Nat) : Int) < (a.length : Int) := by omega
    simp only [F42b0, e0, e1, e5, hlt, List.length_map, fxa, fxc, fxE, fxL, fxI, nxE, evO, evR, cellsT, ldCells, mkT, lenA, binPV, Env.init, resV, resT, frT, klT, ownT, intT, O.adds, ownA, rowsA, over, wrOk, keysT, keysA, ne_eq, if_true, if_false, ite_self, Nat.reduceLT, Nat.reduceSub, Nat.reduceBEq, Nat.reduceEqDiff, Nat.reduceAdd, Nat.reduceLeDiff, reduceCtorEq, Nat.reduceMul]
    exact list_ext h fun j hj => hall j (by omega)

theorem pickI_eq {i : Int} {m : Nat} (hm : 0 < m) : pickI i m = (i % (m : Int)).toNat := by
  unfold pickI
  have h : (0 : Int) < m := by omega
  have b0 := Int.lt_tmod_of_pos i h
  rw [Int.tmod_eq_emod_of_nonneg (by omega), Int.add_emod_right, Int.tmod_def, Int.sub_mul_emod_self_left]
theorem pickI_lt {i : Int} {m : Nat} (hm : 0 < m) : pickI i m < m := by
  rw [pickI_eq hm]
  have := Int.emod_lt_of_pos i (show (0 : Int) < m by omega)
  have := Int.emod_nonneg i (show (m : Int) ≠ 0 by omega)
  omega
theorem rds_len (n : Nt) : n.rds.length ≤ n.ns.length := by
  unfold Nt.rds
  split
  · have h8 := List.length_filter_le (rdy n) n.prs
    have h9 : n.prs.length ≤ n.ns.length := prsTo_len n n.ns.length
    omega
  · simp

theorem pairsPick_law {n : Nt} {i : Int} (hn : n.Ok) (hi : wf i) : eP S 11 [.g (encT n), .a (.i .i64 i)] = some (.a (.b true)) := by
  have f0 := fixed17_ok
  have a1 := Small_ok hn 120
  have a2 := RCheck_ok hn
  refine x_fn (orcS (by decide)) (fc := F11) rfl rfl ?_
  by_cases h1 : n.small 120
  case neg =>
    rw [bool_f h1] at a1
    simp only [encT] at a1
    simp only [F11, f0, a1, fxa, fxc, fxE, fxL, fxI, nxE, evO, evR, cellsT, ldCells, mkT, lenA, binPV, Env.init, resV, resT, frT, klT, ownT, intT, O.adds, ownA, rowsA, over, wrOk, keysT, keysA, ne_eq, if_true, if_false, ite_self, Nat.reduceLT, Nat.reduceSub, Nat.reduceBEq, Nat.reduceEqDiff, Nat.reduceAdd, Nat.reduceLeDiff, reduceCtorEq, Nat.reduceMul]
  rw [bool_t h1] at a1
  by_cases hG : n.Good
  case neg =>
    rw [bool_f hG] at a2
    simp only [Bool.false_eq_true, if_false, encT] at a1 a2
    simp only [F11, f0, a1, a2, Int.reduceEq, fxa, fxc, fxE, fxL, fxI, nxE, evO, evR, cellsT, ldCells, mkT, lenA, binPV, Env.init, resV, resT, frT, klT, ownT, intT, O.adds, ownA, rowsA, over, wrOk, keysT, keysA, ne_eq, if_true, if_false, ite_self, Nat.reduceLT, Nat.reduceSub, Nat.reduceBEq, Nat.reduceEqDiff, Nat.reduceAdd, Nat.reduceLeDiff, reduceCtorEq, Nat.reduceMul]
  rw [bool_t hG] at a2
  simp only [if_true, encT] at a1 a2
  by_cases h2 : i < -100000
  · simp only [F11, f0, a1, a2, h2, Int.reduceNeg, Int.reduceEq, fxa, fxc, fxE, fxL, fxI, nxE, evO, evR, cellsT, ldCells, mkT, lenA, binPV, Env.init, resV, resT, frT, klT, ownT, intT, O.adds, ownA, rowsA, over, wrOk, keysT, keysA, ne_eq, if_true, if_false, ite_self, Nat.reduceLT, Nat.reduceSub, Nat.reduceBEq, Nat.reduceEqDiff, Nat.reduceAdd, Nat.reduceLeDiff, reduceCtorEq, Nat.reduceMul]
  by_cases h3 : i > 100000
  · simp only [F11, f0, a1, a2, h2, h3, Int.reduceNeg, Int.reduceEq, fxa, fxc, fxE, fxL, fxI, nxE, evO, evR, cellsT, ldCells, mkT, lenA, binPV, Env.init, resV, resT, frT, klT, ownT, intT, O.adds, ownA, rowsA, over, wrOk, keysT, keysA, ne_eq, if_true, if_false, ite_self, Nat.reduceLT, Nat.reduceSub, Nat.reduceBEq, Nat.reduceEqDiff, Nat.reduceAdd, Nat.reduceLeDiff, reduceCtorEq, Nat.reduceMul]
  have hns := hn.ns
  have hpl := rds_len n
  have hsm := h1.1
  have c1 := Ready_ok hn
  have c2 := fun (i : Int) (hi : wf i) => Pick_ok hn hi
  obtain ⟨L, hL⟩ : ∃ L, n.rds = L := ⟨_, rfl⟩
  rw [hL] at c1 c2 hpl
  simp only [encT] at c1 c2
  by_cases h0 : L.length = 0
  · have c3 := c2 i hi
    have : L = [] := List.eq_nil_of_length_eq_zero h0
    subst this
    simp only [List.length_nil, if_true, ne_eq, not_true_eq_false, decide_false, List.map_nil, zP, encP] at c1 c3
    simp only [F11, f0, a1, a2, h2, h3, c1, c3, Int.reduceNeg, Int.reduceEq, fxa, fxc, fxE, fxL, fxI, nxE, evO, evR, cellsT, ldCells, mkT, lenA, binPV, Env.init, resV, resT, frT, klT, ownT, intT, O.adds, ownA, rowsA, over, wrOk, keysT, keysA, ne_eq, if_true, if_false, ite_self, Nat.reduceLT, Nat.reduceSub, Nat.reduceBEq, Nat.reduceEqDiff, Nat.reduceAdd, Nat.reduceLeDiff, reduceCtorEq, Nat.reduceMul]
    rfl
  have hm : 0 < L.length := by omega
  have w1 : IntKind.i64.wrap (i + (L.length : Int)) = i + (L.length : Int) := wrap_in _ (by omega)
  have w2 : IntKind.i64.wrap (7 * (L.length : Int)) = 7 * (L.length : Int) := wrap_in _ (by omega)
  have w3 : IntKind.i64.wrap (i - 7 * (L.length : Int)) = i - 7 * (L.length : Int) := wrap_in _ (by omega)
  have p1 : pickI (i + (L.length : Int)) L.length = pickI i L.length := by rw [pickI_eq hm, pickI_eq hm, Int.add_emod_right]
  have p2 : pickI (i - 7 * (L.length : Int)) L.length = pickI i L.length := by rw [pickI_eq hm, pickI_eq hm, Int.mul_comm, Int.sub_mul_emod_self_left]
  have c3 := c2 i hi
  have c4 := c2 (i + (L.length : Int)) (by unfold wf; omega)
  have c5 := c2 (i - 7 * (L.length : Int)) (by unfold wf; omega)
  rw [p1] at c4
  rw [p2] at c5
  rw [if_neg h0, decide_eq_true h0] at c3 c4 c5
  have hget : L.getD (pickI i L.length) zP ∈ L := by
    have h := pickI_lt (i := i) hm
    rw [List.getD_eq_getElem?_getD, List.getElem?_eq_getElem h]; exact List.getElem_mem h
  obtain ⟨P, hP⟩ : ∃ P, L.getD (pickI i L.length) zP = P := ⟨_, rfl⟩
  rw [hP] at c3 c4 c5 hget
  have c6 := in17_ok (l := L) (by omega) P
  rw [in17_mem.2 hget] at c6
  simp only [encP] at c3 c4 c5 c6
  simp only [F11, f0, a1, a2, h2, h3, c1, c3, c4, c5, w1, w2, w3, List.length_map, Int.reduceNeg, Int.reduceEq, fxa, fxc, fxE, fxL, fxI, nxE, evO, evR, cellsT, ldCells, mkT, lenA, binPV, Env.init, resV, resT, frT, klT, ownT, intT, O.adds, ownA, rowsA, over, wrOk, keysT, keysA, ne_eq, if_true, if_false, ite_self, Nat.reduceLT, Nat.reduceSub, Nat.reduceBEq, Nat.reduceEqDiff, Nat.reduceAdd, Nat.reduceLeDiff, reduceCtorEq, Nat.reduceMul]
  refine loop_nat L.length (fun k e σ => e 2 = .a (.ptr (2, 0) 0 0) ∧ e 5 = .a (.p (.l (L.map encP))) ∧ e 6 = .a (.ptr (6, 1) 0 0) ∧ e 8 = .a (.ptr (8, 2) 0 0) ∧ e 10 = .a (.ptr (10, 3) 0 0) ∧ e 12 = .a (.p (.i .i64 (k : Nat))) ∧ σ.bs (2, 0) = some (.var ((encT n).map .p)) ∧ σ.bs (6, 1) = some (.var ((encP P).map .p)) ∧ σ.bs (8, 2) = some (.var ((encP P).map .p)) ∧ σ.bs (10, 3) = some (.var ((encP P).map .p))) (i0 := 0) (Nat.zero_le _) ?_ ?_ ?_
  · refine ⟨?_, ?_, ?_, ?_, ?_, ?_, ?_, ?_, ?_, ?_⟩ <;> simp only [encP, encT, List.map_cons, List.map_nil, fxa, fxc, fxE, fxL, fxI, nxE, evO, evR, cellsT, ldCells, mkT, lenA, binPV, Env.init, resV, resT, frT, klT, ownT, intT, O.adds, ownA, rowsA, over, wrOk, keysT, keysA, ne_eq, if_true, if_false, ite_self, Nat.reduceLT, Nat.reduceSub, Nat.reduceBEq, Nat.reduceEqDiff, Nat.reduceAdd, Nat.reduceLeDiff, reduceCtorEq, Nat.reduceMul]
    rfl
  · rintro k e σ hk ⟨e2, e5, e6, e8, e10, e12, s2, s6, s8, s10⟩
    obtain ⟨x, hx⟩ : ∃ x, L[k]? = some x := ⟨_, List.getElem?_eq_getElem hk⟩
    have hx' := mapGet encP hx
    have hlt : ((k : Nat) : Int) < (L.length : Int) := by omega
    have hge : (0 : Int) ≤ ((k : Nat) : Int) := by omega
    have hra : ((L.map encP).all fun r => decide (r.length = 2)) = true := by simp [encP]
    have d := c2 (k : Int) (by unfold wf; omega)
    have hpk : pickI (k : Int) L.length = k := by rw [pickI_eq hm, Int.emod_eq_of_lt (by omega) hlt]; rfl
    rw [hpk, if_neg h0, decide_eq_true h0, List.getD_eq_getElem?_getD, hx] at d
    have hee : (decide (x.n = x.n) && decide (x.s = x.s)) = true := by simp
    simp only [Option.getD_some, encP, encT, List.map_cons, List.map_nil] at d s2 s6 s8 s10 hx' hra
    simp only [F11b0, e2, e5, e6, e8, e10, e12, s2, s6, s8, s10, hlt, hge, d, hx', hra, hee, encP, encT, List.map_cons, List.map_nil, fxa, fxc, fxE, fxL, fxI, nxE, evO, evR, cellsT, ldCells, mkT, lenA, binPV, Env.init, resV, resT, frT, klT, ownT, intT, O.adds, ownA, rowsA, over, wrOk, keysT, keysA, ne_eq, if_true, if_false, ite_self, Nat.reduceLT, Nat.reduceSub, Nat.reduceBEq, Nat.reduceEqDiff, Nat.reduceAdd, Nat.reduceLeDiff, reduceCtorEq, Nat.reduceMul]
    rw [wrap_succ k (by omega)]
  · rintro e σ ⟨e2, e5, e6, e8, e10, e12, s2, s6, s8, s10⟩
    have hlt : ¬ ((L.length : Nat) : Int) < (L.length : Int) := by omega
    have hee : (decide (P.n = P.n) && decide (P.s = P.s)) = true := by simp
    simp only [encP, List.map_cons, List.map_nil] at s6 s8 s10
    simp only [F11b0, e2, e5, e6, e8, e10, e12, s2, s6, s8, s10, hlt, c6, hee, List.length_map, fxa, fxc, fxE, fxL, fxI, nxE, evO, evR, cellsT, ldCells, mkT, lenA, binPV, Env.init, resV, resT, frT, klT, ownT, intT, O.adds, ownA, rowsA, over, wrOk, keysT, keysA, ne_eq, if_true, if_false, ite_self, Nat.reduceLT, Nat.reduceSub, Nat.reduceBEq, Nat.reduceEqDiff, Nat.reduceAdd, Nat.reduceLeDiff, reduceCtorEq, Nat.reduceMul]
end Go.Proofs.Ytkpfjolcmkikeaa
