/- Whether all ports but some have the same links in two nets; the fixed calls. -/
import Derived.Test.YtgdaanehmdgmeaaNet3
set_option linter.unusedSimpArgs false
set_option linter.unusedVariables false
set_option maxHeartbeats 4000000
set_option maxRecDepth 10000
namespace Go.Proofs.Ytgdaanehmdgmeaa
open Go.Fx

theorem fixed13_ok : eP S 14 [] = some (.a (.b true)) := (eP_some S).2 ⟨40, by kernel_rfl⟩

theorem at_ok (i j : Int) : eP S 40 [.a (.i .i64 i), .a (.i .i64 j)] = some (.g [.i .i64 i, .i .i64 j]) := by
  refine x_fn (orcS (by decide)) (fc := F40) rfl rfl ?_
  simp only [F40, false_iff, true_iff, RB_t, RB_f, RB_b, List.getElem?_cons_zero, List.getElem?_cons_succ, List.set_cons_succ, frV, klV, Nat.reduceLT, Nat.reduceSub, eqCells, encT, encN, encP, encA, allP, allA, allN, spN, Nat.reduceBEq, Int.toNat_natCast, evI_wr, wrOk, keysT, keysA, ne_eq, not_false_eq_true, fxa, fxc, if_true, if_false, ite_self, spS, LQ_norm, LQ_exit, LQ_ret, evO, evR, cellsT, ldCells, mkT, lenA, binPV, Env.init, resVs, resV, resT, Nat.reduceEqDiff, Nat.reduceAdd, Nat.reduceLeDiff, reduceCtorEq, frTs, frT, klTs, klT, frL, ownT, intT, O.adds, ownA, evO.bslRows, rowsA, over, fillA, Nat.reduceMul, klL]

theorem others_ok {n m : Nt} {but : List Pt} (hn : n.Ok) (hb : but.length * 16 ≤ 140737488355328) (hlen : n.ns.length = m.ns.length)
    (h : ∀ (i : Nat) (x y : Nd), n.ns[i]? = some x → m.ns[i]? = some y → x.to.length = y.to.length ∧ x.k = y.k ∧ ∀ j : Nat, (⟨i, j⟩ : Pt) ∉ but → x.to[j]? = y.to[j]?) :
    eP S 26 [.g (encT n), .g (encT m), .a (.l (but.map encP))] = some (.a (.b true)) := by
  refine x_fn (orcS (by decide)) (fc := F26) rfl rfl ?_
  have hns := hn.ns
  have hlen' : (n.ns.length : Int) = m.ns.length := by omega
  simp only [F26, hlen', false_iff, true_iff, RB_t, RB_f, RB_b, List.getElem?_cons_zero, List.getElem?_cons_succ, List.set_cons_succ, frV, klV, Nat.reduceLT, Nat.reduceSub, eqCells, encT, encN, encP, encA, allP, allA, allN, spN, Nat.reduceBEq, Int.toNat_natCast, evI_wr, wrOk, keysT, keysA, ne_eq, not_false_eq_true, fxa, fxc, if_true, if_false, ite_self, spS, LQ_norm, LQ_exit, LQ_ret, evO, evR, cellsT, ldCells, mkT, lenA, binPV, Env.init, resVs, resV, resT, Nat.reduceEqDiff, Nat.reduceAdd, Nat.reduceLeDiff, reduceCtorEq, frTs, frT, klTs, klT, frL, ownT, intT, O.adds, ownA, evO.bslRows, rowsA, over, fillA, Nat.reduceMul, klL]
  refine loop_nat n.ns.length (fun i e σ => e 2 = .a (.p (.l (but.map encP))) ∧ e 3 = .a (.ptr (3, 0) 0 0) ∧ e 4 = .a (.ptr (4, 1) 0 0) ∧ e 7 = .a (.p (.i .i64 (i : Nat))) ∧ σ.bs (3, 0) = some (.var ((encT n).map .p)) ∧ σ.bs (4, 1) = some (.var ((encT m).map .p))) (i0 := 0) (Nat.zero_le _) ?_ ?_ ?_
  · refine ⟨?_, ?_, ?_, ?_, ?_, ?_⟩ <;> simp only [false_iff, true_iff, RB_t, RB_f, RB_b, List.getElem?_cons_zero, List.getElem?_cons_succ, List.set_cons_succ, frV, klV, Nat.reduceLT, Nat.reduceSub, eqCells, encT, encN, encP, encA, allP, allA, allN, spN, Nat.reduceBEq, Int.toNat_natCast, evI_wr, wrOk, keysT, keysA, ne_eq, not_false_eq_true, fxa, fxc, if_true, if_false, ite_self, spS, LQ_norm, LQ_exit, LQ_ret, evO, evR, cellsT, ldCells, mkT, lenA, binPV, Env.init, resVs, resV, resT, Nat.reduceEqDiff, Nat.reduceAdd, Nat.reduceLeDiff, reduceCtorEq, frTs, frT, klTs, klT, frL, ownT, intT, O.adds, ownA, evO.bslRows, rowsA, over, fillA, Nat.reduceMul, klL]
    rfl
  · rintro i e σ hi ⟨e2, e3, e4, e7, s3, s4⟩
    obtain ⟨x, hx⟩ : ∃ x, n.ns[i]? = some x := ⟨_, List.getElem?_eq_getElem hi⟩
    obtain ⟨y, hy⟩ : ∃ y, m.ns[i]? = some y := ⟨_, List.getElem?_eq_getElem (by omega)⟩
    have hx' := mapGet encN hx
    have hy' := mapGet encN hy
    have hlt : ((i : Nat) : Int) < (n.ns.length : Int) := by omega
    have hlt' : ((i : Nat) : Int) < (m.ns.length : Int) := by omega
    have hge : (0 : Int) ≤ ((i : Nat) : Int) := by omega
    obtain ⟨h1, h2, h3⟩ := h i x y hx hy
    have h1' : (x.to.length : Int) = y.to.length := by omega
    have hto := (hn.nd x (List.mem_of_getElem? hx)).to
    simp only [encT, List.map_cons, List.map_nil] at s3 s4
    simp only [F26b0, e2, e3, e4, e7, s3, s4, hlt, hlt', hge, hx', hy', h1', h2, false_iff, true_iff, RB_t, RB_f, RB_b, List.getElem?_cons_zero, List.getElem?_cons_succ, List.set_cons_succ, frV, klV, Nat.reduceLT, Nat.reduceSub, eqCells, encT, encN, encP, encA, allP, allA, allN, spN, Nat.reduceBEq, Int.toNat_natCast, evI_wr, wrOk, keysT, keysA, ne_eq, not_false_eq_true, fxa, fxc, if_true, if_false, ite_self, spS, LQ_norm, LQ_exit, LQ_ret, evO, evR, cellsT, ldCells, mkT, lenA, binPV, Env.init, resVs, resV, resT, Nat.reduceEqDiff, Nat.reduceAdd, Nat.reduceLeDiff, reduceCtorEq, frTs, frT, klTs, klT, frL, ownT, intT, O.adds, ownA, evO.bslRows, rowsA, over, fillA, Nat.reduceMul, klL]
    refine loop_nat x.to.length (fun j e σ => e 2 = .a (.p (.l (but.map encP))) ∧ e 3 = .a (.ptr (3, 0) 0 0) ∧ e 4 = .a (.ptr (4, 1) 0 0) ∧ e 7 = .a (.p (.i .i64 (i : Nat))) ∧ e 8 = .a (.p (.i .i64 (j : Nat))) ∧ σ.bs (3, 0) = some (.var ((encT n).map .p)) ∧ σ.bs (4, 1) = some (.var ((encT m).map .p))) (i0 := 0) (Nat.zero_le _) ?_ ?_ ?_
    · refine ⟨?_, ?_, ?_, ?_, ?_, ?_, ?_⟩ <;> simp only [e2, e3, e4, e7, s3, s4, false_iff, true_iff, RB_t, RB_f, RB_b, List.getElem?_cons_zero, List.getElem?_cons_succ, List.set_cons_succ, frV, klV, Nat.reduceLT, Nat.reduceSub, eqCells, encT, encN, encP, encA, allP, allA, allN, spN, Nat.reduceBEq, Int.toNat_natCast, evI_wr, wrOk, keysT, keysA, ne_eq, not_false_eq_true, fxa, fxc, if_true, if_false, ite_self, spS, LQ_norm, LQ_exit, LQ_ret, evO, evR, cellsT, ldCells, mkT, lenA, binPV, Env.init, resVs, resV, resT, Nat.reduceEqDiff, Nat.reduceAdd, Nat.reduceLeDiff, reduceCtorEq, frTs, frT, klTs, klT, frL, ownT, intT, O.adds, ownA, evO.bslRows, rowsA, over, fillA, Nat.reduceMul, klL]
      rfl
    · rintro j e σ hj ⟨e2, e3, e4, e7, e8, s3, s4⟩
      obtain ⟨p, hp⟩ : ∃ p, x.to[j]? = some p := ⟨_, List.getElem?_eq_getElem hj⟩
      obtain ⟨q, hq⟩ : ∃ q, y.to[j]? = some q := ⟨_, List.getElem?_eq_getElem (by omega)⟩
      have hp' := mapGet encP hp
      have hq' := mapGet encP hq
      have hlt2 : ((j : Nat) : Int) < (x.to.length : Int) := by omega
      have hlt3 : ((j : Nat) : Int) < (y.to.length : Int) := by omega
      have hge2 : (0 : Int) ≤ ((j : Nat) : Int) := by omega
      have c1 := at_ok i j
      simp only [encT, List.map_cons, List.map_nil] at s3 s4
      simp only [F26b1, e2, e3, e4, e7, e8, s3, s4, hlt, hge, hlt2, hge2, hx', c1, false_iff, true_iff, RB_t, RB_f, RB_b, List.getElem?_cons_zero, List.getElem?_cons_succ, List.set_cons_succ, frV, klV, Nat.reduceLT, Nat.reduceSub, eqCells, encT, encN, encP, encA, allP, allA, allN, spN, Nat.reduceBEq, Int.toNat_natCast, evI_wr, wrOk, keysT, keysA, ne_eq, not_false_eq_true, fxa, fxc, if_true, if_false, ite_self, spS, LQ_norm, LQ_exit, LQ_ret, evO, evR, cellsT, ldCells, mkT, lenA, binPV, Env.init, resVs, resV, resT, Nat.reduceEqDiff, Nat.reduceAdd, Nat.reduceLeDiff, reduceCtorEq, frTs, frT, klTs, klT, frL, ownT, intT, O.adds, ownA, evO.bslRows, rowsA, over, fillA, Nat.reduceMul, klL]
      refine loop_nat but.length (fun k e σ' => e 2 = .a (.p (.l (but.map encP))) ∧ e 3 = .a (.ptr (3, 0) 0 0) ∧ e 4 = .a (.ptr (4, 1) 0 0) ∧ e 7 = .a (.p (.i .i64 (i : Nat))) ∧ e 8 = .a (.p (.i .i64 (j : Nat))) ∧ e 9 = .a (.ptr (9, σ.clk) 0 0) ∧ e 10 = .a (.p (.b ((but.take k).any fun r => decide (r = ⟨i, j⟩)))) ∧ e 11 = .a (.p (.i .i64 (k : Nat))) ∧
        σ'.bs (3, 0) = some (.var ((encT n).map .p)) ∧ σ'.bs (4, 1) = some (.var ((encT m).map .p)) ∧ σ'.bs (9, σ.clk) = some (.var [.p (.i .i64 i), .p (.i .i64 j)])) (i0 := 0) (Nat.zero_le _) ?_ ?_ ?_
      · refine ⟨?_, ?_, ?_, ?_, ?_, ?_, ?_, ?_, ?_, ?_, ?_⟩ <;> simp only [e2, e3, e4, e7, e8, s3, s4, false_iff, true_iff, RB_t, RB_f, RB_b, List.getElem?_cons_zero, List.getElem?_cons_succ, List.set_cons_succ, frV, klV, Nat.reduceLT, Nat.reduceSub, eqCells, encT, encN, encP, encA, allP, allA, allN, spN, Nat.reduceBEq, Int.toNat_natCast, evI_wr, wrOk, keysT, keysA, ne_eq, not_false_eq_true, fxa, fxc, if_true, if_false, ite_self, spS, LQ_norm, LQ_exit, LQ_ret, evO, evR, cellsT, ldCells, mkT, lenA, binPV, Env.init, resVs, resV, resT, Nat.reduceEqDiff, Nat.reduceAdd, Nat.reduceLeDiff, reduceCtorEq, frTs, frT, klTs, klT, frL, ownT, intT, O.adds, ownA, evO.bslRows, rowsA, over, fillA, Nat.reduceMul, klL]
        rfl
      · rintro k e σ' hk ⟨e2, e3, e4, e7, e8, e9, e10, e11, s3, s4, s9⟩
        obtain ⟨r, hr⟩ : ∃ r, but[k]? = some r := ⟨_, List.getElem?_eq_getElem hk⟩
        have hr' := mapGet encP hr
        have hlt4 : ((k : Nat) : Int) < (but.length : Int) := by omega
        have hge4 : (0 : Int) ≤ ((k : Nat) : Int) := by omega
        have hstep : ((but.take (k + 1)).any fun r => decide (r = (⟨i, j⟩ : Pt))) = (((but.take k).any fun r => decide (r = (⟨i, j⟩ : Pt))) || decide (r = ⟨i, j⟩)) := by
          rw [List.take_add_one, hr]; simp
        have hdr : (decide (r.n = (i : Int)) && decide (r.s = (j : Int))) = decide (r = ⟨i, j⟩) := ptEq r ⟨i, j⟩
        rw [hstep]
        cases ha : (but.take k).any fun r => decide (r = (⟨i, j⟩ : Pt)) with
        | true =>
          rw [ha] at e10
          simp only [F26b2, e2, e3, e4, e7, e8, e9, e10, e11, s3, s4, s9, hlt4, hge4, hr', hdr, false_iff, true_iff, RB_t, RB_f, RB_b, List.getElem?_cons_zero, List.getElem?_cons_succ, List.set_cons_succ, frV, klV, Nat.reduceLT, Nat.reduceSub, eqCells, encT, encN, encP, encA, allP, allA, allN, spN, Nat.reduceBEq, Int.toNat_natCast, evI_wr, wrOk, keysT, keysA, ne_eq, not_false_eq_true, fxa, fxc, if_true, if_false, ite_self, spS, LQ_norm, LQ_exit, LQ_ret, evO, evR, cellsT, ldCells, mkT, lenA, binPV, Env.init, resVs, resV, resT, Nat.reduceEqDiff, Nat.reduceAdd, Nat.reduceLeDiff, reduceCtorEq, frTs, frT, klTs, klT, frL, ownT, intT, O.adds, ownA, evO.bslRows, rowsA, over, fillA, Nat.reduceMul, klL]
          rw [wrap_succ k (by omega)]
        | false =>
          rw [ha] at e10
          simp only [F26b2, e2, e3, e4, e7, e8, e9, e10, e11, s3, s4, s9, hlt4, hge4, hr', hdr, false_iff, true_iff, RB_t, RB_f, RB_b, List.getElem?_cons_zero, List.getElem?_cons_succ, List.set_cons_succ, frV, klV, Nat.reduceLT, Nat.reduceSub, eqCells, encT, encN, encP, encA, allP, allA, allN, spN, Nat.reduceBEq, Int.toNat_natCast, evI_wr, wrOk, keysT, keysA, ne_eq, not_false_eq_true, fxa, fxc, if_true, if_false, ite_self, spS, LQ_norm, LQ_exit, LQ_ret, evO, evR, cellsT, ldCells, mkT, lenA, binPV, Env.init, resVs, resV, resT, Nat.reduceEqDiff, Nat.reduceAdd, Nat.reduceLeDiff, reduceCtorEq, frTs, frT, klTs, klT, frL, ownT, intT, O.adds, ownA, evO.bslRows, rowsA, over, fillA, Nat.reduceMul, klL]
          rw [wrap_succ k (by omega)]
      · rintro e σ' ⟨e2, e3, e4, e7, e8, e9, e10, e11, s3, s4, s9⟩
        have hlt4 : ¬ ((but.length : Nat) : Int) < (but.length : Int) := by omega
        rw [List.take_length] at e10
        simp only [encT, List.map_cons, List.map_nil] at s3 s4
        cases ha : but.any fun r => decide (r = (⟨i, j⟩ : Pt)) with
        | true =>
          rw [ha] at e10
          simp only [F26b2, e2, e3, e4, e7, e8, e9, e10, e11, s3, s4, s9, hlt, hlt', hge, hlt2, hlt3, hge2, hlt4, hx', hy', false_iff, true_iff, RB_t, RB_f, RB_b, List.getElem?_cons_zero, List.getElem?_cons_succ, List.set_cons_succ, frV, klV, Nat.reduceLT, Nat.reduceSub, eqCells, encT, encN, encP, encA, allP, allA, allN, spN, Nat.reduceBEq, Int.toNat_natCast, evI_wr, wrOk, keysT, keysA, ne_eq, not_false_eq_true, fxa, fxc, if_true, if_false, ite_self, spS, LQ_norm, LQ_exit, LQ_ret, evO, evR, cellsT, ldCells, mkT, lenA, binPV, Env.init, resVs, resV, resT, Nat.reduceEqDiff, Nat.reduceAdd, Nat.reduceLeDiff, reduceCtorEq, frTs, frT, klTs, klT, frL, ownT, intT, O.adds, ownA, evO.bslRows, rowsA, over, fillA, Nat.reduceMul, klL]
          rw [wrap_succ j (by omega)]
        | false =>
          rw [ha] at e10
          have hni : (⟨i, j⟩ : Pt) ∉ but := by
            intro hm
            rw [List.any_eq_false] at ha
            exact ha _ hm (by simp)
          have hpq := h3 j hni
          rw [hp, hq] at hpq
          have hpq := Option.some.inj hpq
          subst hpq
          simp only [F26b2, e2, e3, e4, e7, e8, e9, e10, e11, s3, s4, s9, hlt, hlt', hge, hlt2, hlt3, hge2, hlt4, hx', hy', hp', hq', false_iff, true_iff, RB_t, RB_f, RB_b, List.getElem?_cons_zero, List.getElem?_cons_succ, List.set_cons_succ, frV, klV, Nat.reduceLT, Nat.reduceSub, eqCells, encT, encN, encP, encA, allP, allA, allN, spN, Nat.reduceBEq, Int.toNat_natCast, evI_wr, wrOk, keysT, keysA, ne_eq, not_false_eq_true, fxa, fxc, if_true, if_false, ite_self, spS, LQ_norm, LQ_exit, LQ_ret, evO, evR, cellsT, ldCells, mkT, lenA, binPV, Env.init, resVs, resV, resT, Nat.reduceEqDiff, Nat.reduceAdd, Nat.reduceLeDiff, reduceCtorEq, frTs, frT, klTs, klT, frL, ownT, intT, O.adds, ownA, evO.bslRows, rowsA, over, fillA, Nat.reduceMul, klL]
          rw [wrap_succ j (by omega)]
    · rintro e σ ⟨e2, e3, e4, e7, e8, s3, s4⟩
      have hlt2 : ¬ ((x.to.length : Nat) : Int) < (x.to.length : Int) := by omega
      simp only [encT, List.map_cons, List.map_nil] at s3 s4
      simp only [F26b1, e2, e3, e4, e7, e8, s3, s4, hlt, hge, hx', hlt2, false_iff, true_iff, RB_t, RB_f, RB_b, List.getElem?_cons_zero, List.getElem?_cons_succ, List.set_cons_succ, frV, klV, Nat.reduceLT, Nat.reduceSub, eqCells, encT, encN, encP, encA, allP, allA, allN, spN, Nat.reduceBEq, Int.toNat_natCast, evI_wr, wrOk, keysT, keysA, ne_eq, not_false_eq_true, fxa, fxc, if_true, if_false, ite_self, spS, LQ_norm, LQ_exit, LQ_ret, evO, evR, cellsT, ldCells, mkT, lenA, binPV, Env.init, resVs, resV, resT, Nat.reduceEqDiff, Nat.reduceAdd, Nat.reduceLeDiff, reduceCtorEq, frTs, frT, klTs, klT, frL, ownT, intT, O.adds, ownA, evO.bslRows, rowsA, over, fillA, Nat.reduceMul, klL]
      rw [wrap_succ i (by omega)]
  · rintro e σ ⟨e2, e3, e4, e7, s3, s4⟩
    have hlt : ¬ ((n.ns.length : Nat) : Int) < (n.ns.length : Int) := by omega
    simp only [encT, List.map_cons, List.map_nil] at s3 s4
    simp only [F26b0, e2, e3, e4, e7, s3, s4, hlt, false_iff, true_iff, RB_t, RB_f, RB_b, List.getElem?_cons_zero, List.getElem?_cons_succ, List.set_cons_succ, frV, klV, Nat.reduceLT, Nat.reduceSub, eqCells, encT, encN, encP, encA, allP, allA, allN, spN, Nat.reduceBEq, Int.toNat_natCast, evI_wr, wrOk, keysT, keysA, ne_eq, not_false_eq_true, fxa, fxc, if_true, if_false, ite_self, spS, LQ_norm, LQ_exit, LQ_ret, evO, evR, cellsT, ldCells, mkT, lenA, binPV, Env.init, resVs, resV, resT, Nat.reduceEqDiff, Nat.reduceAdd, Nat.reduceLeDiff, reduceCtorEq, frTs, frT, klTs, klT, frL, ownT, intT, O.adds, ownA, evO.bslRows, rowsA, over, fillA, Nat.reduceMul, klL]

end Go.Proofs.Ytgdaanehmdgmeaa
