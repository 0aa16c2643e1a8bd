/- The laws WireLinks, WireBack, WireNone, as the evaluator has them: true of all arguments. -/
import Derived.Test.YtgdaanehmdgmeaaWireP
import Derived.Test.YtgdaanehmdgmeaaOthers
set_option linter.unusedSimpArgs false
set_option linter.unusedVariables false
set_option maxHeartbeats 4000000
set_option maxRecDepth 10000
namespace Go.Proofs.Ytgdaanehmdgmeaa
open Go.Fx

theorem Ok_ln {n : Nt} {p q : Pt} (hn : n.Ok) (hp : n.has p = true) (hq : n.has q = true) (wp_ : wf p.n ∧ wf p.s) (wq : wf q.n ∧ wf q.s) : (n.ln p q).Ok :=
  Ok_set (Ok_set hn hp wq) (by rw [has_set q q hp]; exact hq) wp_
theorem Peer_is {n : Nt} {p q : Pt} (h : n.has p = true) (hl : n.lk p = q) : eP S 15 [.g (encT n), .g (encP p)] = some (.t [(true, encP q), (false, [.i .i64 0])]) := by
  have := Peer_ok n p
  rw [h, hl] at this; exact this
theorem Peer_no {n : Nt} {p : Pt} (h : n.has p = false) : eP S 15 [.g (encT n), .g (encP p)] = some (.t [(true, encP zP), (false, [.i .i64 130])]) := by
  have := Peer_ok n p
  rw [h] at this; exact this
theorem same_is {n : Nt} (hn : n.Ok) : eP S 23 [.g (encT n), .g (encT n)] = some (.a (.b true)) := by
  have := Same_ok hn (b := n)
  rw [bool_t rfl] at this; exact this
theorem oth_ok {n m : Nt} {but : List Pt} (hn : n.Ok) (hb : but.length * 16 ≤ 140737488355328) (hs : Shp n m) (h : ∀ p, n.has p = true → p ∉ but → m.lk p = n.lk p) :
    eP S 26 [.g (encT n), .g (encT m), .a (.l (but.map encP))] = some (.a (.b true)) := by
  obtain ⟨h1, h2⟩ := oth_of hs h
  exact others_ok hn hb h1 h2

theorem wireLinks_law {n : Nt} {x y : Pt} (hn : n.Ok) (hx : wf x.n ∧ wf x.s) (hy : wf y.n ∧ wf y.s) : eP S 5 [.g (encT n), .g (encP x ++ encP y)] = some (.a (.b true)) := by
  have f0 := fixed13_ok
  have a1 := Small_ok hn 150
  have c1 := Link_ok hn hx hy
  refine x_fn (orcS (by decide)) (fc := F5) rfl rfl ?_
  by_cases h1 : n.small 150
  case neg =>
    rw [bool_f h1] at a1
    simp only [encT, encP] at a1
    simp only [F5, f0, a1, false_iff, true_iff, RB_t, RB_f, RB_b, List.getElem?_cons_zero, List.getElem?_cons_succ, List.set_cons_succ, frV, klV, Nat.reduceLT, Nat.reduceSub, eqCells, encT, encN, encP, encA, allP, allA, allN, spN, Nat.reduceBEq, Int.toNat_natCast, evI_wr, wrOk, keysT, keysA, ne_eq, not_false_eq_true, fxa, fxc, if_true, if_false, ite_self, spS, LQ_norm, LQ_exit, LQ_ret, evO, evR, cellsT, ldCells, mkT, lenA, binPV, Env.init, resVs, resV, resT, Nat.reduceEqDiff, Nat.reduceAdd, Nat.reduceLeDiff, reduceCtorEq, frTs, frT, klTs, klT, frL, ownT, intT, O.adds, ownA, evO.bslRows, rowsA, over, fillA, Nat.reduceMul, klL]
  rw [bool_t h1] at a1
  by_cases h2 : n.has x = true ∧ n.has y = true ∧ x ≠ y
  case neg =>
    rw [linkR_no h2] at c1
    have c2 := same_is hn
    simp only [encTE, encT, encP] at a1 c1 c2
    simp only [F5, f0, a1, c1, c2, Int.reduceEq, false_iff, true_iff, RB_t, RB_f, RB_b, List.getElem?_cons_zero, List.getElem?_cons_succ, List.set_cons_succ, frV, klV, Nat.reduceLT, Nat.reduceSub, eqCells, encT, encN, encP, encA, allP, allA, allN, spN, Nat.reduceBEq, Int.toNat_natCast, evI_wr, wrOk, keysT, keysA, ne_eq, not_false_eq_true, fxa, fxc, if_true, if_false, ite_self, spS, LQ_norm, LQ_exit, LQ_ret, evO, evR, cellsT, ldCells, mkT, lenA, binPV, Env.init, resVs, resV, resT, Nat.reduceEqDiff, Nat.reduceAdd, Nat.reduceLeDiff, reduceCtorEq, frTs, frT, klTs, klT, frL, ownT, intT, O.adds, ownA, evO.bslRows, rowsA, over, fillA, Nat.reduceMul, klL]
  obtain ⟨hp, hq, hne⟩ := h2
  rw [linkR_ok hp hq hne] at c1
  have hs := ln_shp hp hq
  have hm := Ok_ln hn hp hq hx hy
  have p' : (n.ln x y).has x = true := by rw [hs.has]; exact hp
  have q' : (n.ln x y).has y = true := by rw [hs.has]; exact hq
  have l1 : (n.ln x y).lk x = y := by rw [ln_lk hp hq hp, if_neg hne, if_pos rfl]
  have l2 : (n.ln x y).lk y = x := by rw [ln_lk hp hq hq, if_pos rfl]
  have c2 := Peer_is p' l1
  have c3 := Peer_is q' l2
  have c4 := Link_ok hm hy hx
  rw [linkR_ok q' p' (Ne.symm hne), ln_again hp hq hne] at c4
  have c5 := same_is hm
  have c6 := oth_ok (but := [x, y]) hn (by simp) hs (fun r hr hb => by
    simp only [List.mem_cons, List.not_mem_nil, or_false, not_or] at hb
    rw [ln_lk hp hq hr, if_neg hb.2, if_neg hb.1])
  simp only [encTE, encT, encP, List.map_cons, List.map_nil] at a1 c1 c2 c3 c4 c5 c6
  simp only [F5, f0, a1, c1, c2, c3, c4, c5, c6, Int.reduceEq, false_iff, true_iff, RB_t, RB_f, RB_b, List.getElem?_cons_zero, List.getElem?_cons_succ, List.set_cons_succ, frV, klV, Nat.reduceLT, Nat.reduceSub, eqCells, encT, encN, encP, encA, allP, allA, allN, spN, Nat.reduceBEq, Int.toNat_natCast, evI_wr, wrOk, keysT, keysA, ne_eq, not_false_eq_true, fxa, fxc, if_true, if_false, ite_self, spS, LQ_norm, LQ_exit, LQ_ret, evO, evR, cellsT, ldCells, mkT, lenA, binPV, Env.init, resVs, resV, resT, Nat.reduceEqDiff, Nat.reduceAdd, Nat.reduceLeDiff, reduceCtorEq, frTs, frT, klTs, klT, frL, ownT, intT, O.adds, ownA, evO.bslRows, rowsA, over, fillA, Nat.reduceMul, klL]

theorem wireNone_law {n : Nt} {x y : Pt} (hn : n.Ok) (hx : wf x.n ∧ wf x.s) (hy : wf y.n ∧ wf y.s) : eP S 7 [.g (encT n), .g (encP x ++ encP y)] = some (.a (.b true)) := by
  have f0 := fixed13_ok
  have a1 := Small_ok hn 150
  have c1 := Link_ok hn hx hy
  have c2 := Has_ok n x
  have c3 := Has_ok n y
  have c4 := Move_ok hn hx hy
  have c5 := Join_ok hn hx hy
  have c6 := same_is hn
  refine x_fn (orcS (by decide)) (fc := F7) rfl rfl ?_
  by_cases h1 : n.small 150
  case neg =>
    rw [bool_f h1] at a1
    simp only [encT, encP] at a1
    simp only [F7, f0, a1, false_iff, true_iff, RB_t, RB_f, RB_b, List.getElem?_cons_zero, List.getElem?_cons_succ, List.set_cons_succ, frV, klV, Nat.reduceLT, Nat.reduceSub, eqCells, encT, encN, encP, encA, allP, allA, allN, spN, Nat.reduceBEq, Int.toNat_natCast, evI_wr, wrOk, keysT, keysA, ne_eq, not_false_eq_true, fxa, fxc, if_true, if_false, ite_self, spS, LQ_norm, LQ_exit, LQ_ret, evO, evR, cellsT, ldCells, mkT, lenA, binPV, Env.init, resVs, resV, resT, Nat.reduceEqDiff, Nat.reduceAdd, Nat.reduceLeDiff, reduceCtorEq, frTs, frT, klTs, klT, frL, ownT, intT, O.adds, ownA, evO.bslRows, rowsA, over, fillA, Nat.reduceMul, klL]
  rw [bool_t h1] at a1
  have mno : ¬ (n.has x = true ∧ n.has y = true ∧ x ≠ y) → moveR n x y = (n, 130) := by
    intro h
    unfold moveR
    rw [if_neg]
    simp only [Bool.and_eq_true, Bool.not_eq_true', decide_eq_false_iff_not]
    rintro ⟨⟨⟨a, b⟩, c⟩, _⟩; exact h ⟨a, b, c⟩
  have jno : ¬ (n.has x = true ∧ n.has y = true ∧ x ≠ y) → joinR n x y = (n, 130) := by
    intro h
    unfold joinR
    rw [if_neg]
    simp only [Bool.and_eq_true, Bool.not_eq_true', decide_eq_false_iff_not]
    rintro ⟨⟨⟨⟨a, b⟩, c⟩, _⟩, _⟩; exact h ⟨a, b, c⟩
  obtain ⟨⟨⟨ms, mc⟩, me⟩, hmv⟩ : ∃ z, moveR n x y = z := ⟨_, rfl⟩
  obtain ⟨⟨⟨js, jc⟩, je⟩, hjn⟩ : ∃ z, joinR n x y = z := ⟨_, rfl⟩
  cases hp : n.has x with
  | false =>
    have c7 := Peer_no hp
    have hno : ¬ (n.has x = true ∧ n.has y = true ∧ x ≠ y) := by rw [hp]; simp
    rw [linkR_no hno] at c1
    rw [mno hno] at c4
    rw [jno hno] at c5
    rw [hp] at c2
    cases hq : n.has y with
    | false =>
      rw [hq] at c3
      simp only [encTE, encT, encP, zP] at a1 c1 c2 c3 c4 c5 c6 c7
      simp only [F7, f0, a1, c1, c2, c3, c4, c5, c6, c7, Int.reduceEq, false_iff, true_iff, RB_t, RB_f, RB_b, List.getElem?_cons_zero, List.getElem?_cons_succ, List.set_cons_succ, frV, klV, Nat.reduceLT, Nat.reduceSub, eqCells, encT, encN, encP, encA, allP, allA, allN, spN, Nat.reduceBEq, Int.toNat_natCast, evI_wr, wrOk, keysT, keysA, ne_eq, not_false_eq_true, fxa, fxc, if_true, if_false, ite_self, spS, LQ_norm, LQ_exit, LQ_ret, evO, evR, cellsT, ldCells, mkT, lenA, binPV, Env.init, resVs, resV, resT, Nat.reduceEqDiff, Nat.reduceAdd, Nat.reduceLeDiff, reduceCtorEq, frTs, frT, klTs, klT, frL, ownT, intT, O.adds, ownA, evO.bslRows, rowsA, over, fillA, Nat.reduceMul, klL]
    | true =>
      rw [hq] at c3
      simp only [encTE, encT, encP, zP] at a1 c1 c2 c3 c4 c5 c6 c7
      simp only [F7, f0, a1, c1, c2, c3, c4, c5, c6, c7, Int.reduceEq, false_iff, true_iff, RB_t, RB_f, RB_b, List.getElem?_cons_zero, List.getElem?_cons_succ, List.set_cons_succ, frV, klV, Nat.reduceLT, Nat.reduceSub, eqCells, encT, encN, encP, encA, allP, allA, allN, spN, Nat.reduceBEq, Int.toNat_natCast, evI_wr, wrOk, keysT, keysA, ne_eq, not_false_eq_true, fxa, fxc, if_true, if_false, ite_self, spS, LQ_norm, LQ_exit, LQ_ret, evO, evR, cellsT, ldCells, mkT, lenA, binPV, Env.init, resVs, resV, resT, Nat.reduceEqDiff, Nat.reduceAdd, Nat.reduceLeDiff, reduceCtorEq, frTs, frT, klTs, klT, frL, ownT, intT, O.adds, ownA, evO.bslRows, rowsA, over, fillA, Nat.reduceMul, klL]
  | true =>
    have c7 := Peer_is hp rfl
    rw [hp] at c2
    cases hq : n.has y with
    | false =>
      have hno : ¬ (n.has x = true ∧ n.has y = true ∧ x ≠ y) := by rw [hq]; simp
      rw [linkR_no hno] at c1
      rw [mno hno] at c4
      rw [jno hno] at c5
      rw [hq] at c3
      simp only [encTE, encT, encP, zP] at a1 c1 c2 c3 c4 c5 c6 c7
      simp only [F7, f0, a1, c1, c2, c3, c4, c5, c6, c7, Int.reduceEq, false_iff, true_iff, RB_t, RB_f, RB_b, List.getElem?_cons_zero, List.getElem?_cons_succ, List.set_cons_succ, frV, klV, Nat.reduceLT, Nat.reduceSub, eqCells, encT, encN, encP, encA, allP, allA, allN, spN, Nat.reduceBEq, Int.toNat_natCast, evI_wr, wrOk, keysT, keysA, ne_eq, not_false_eq_true, fxa, fxc, if_true, if_false, ite_self, spS, LQ_norm, LQ_exit, LQ_ret, evO, evR, cellsT, ldCells, mkT, lenA, binPV, Env.init, resVs, resV, resT, Nat.reduceEqDiff, Nat.reduceAdd, Nat.reduceLeDiff, reduceCtorEq, frTs, frT, klTs, klT, frL, ownT, intT, O.adds, ownA, evO.bslRows, rowsA, over, fillA, Nat.reduceMul, klL]
    | true =>
      rw [hq] at c3
      by_cases hne : x = y
      · subst hne
        have hno : ¬ (n.has x = true ∧ n.has x = true ∧ x ≠ x) := by simp
        rw [linkR_no hno] at c1
        rw [mno hno] at c4
        rw [jno hno] at c5
        simp only [encTE, encT, encP, zP] at a1 c1 c2 c4 c5 c6 c7
        simp only [F7, f0, a1, c1, c2, c4, c5, c6, c7, Int.reduceEq, false_iff, true_iff, RB_t, RB_f, RB_b, List.getElem?_cons_zero, List.getElem?_cons_succ, List.set_cons_succ, frV, klV, Nat.reduceLT, Nat.reduceSub, eqCells, encT, encN, encP, encA, allP, allA, allN, spN, Nat.reduceBEq, Int.toNat_natCast, evI_wr, wrOk, keysT, keysA, ne_eq, not_false_eq_true, fxa, fxc, if_true, if_false, ite_self, spS, LQ_norm, LQ_exit, LQ_ret, evO, evR, cellsT, ldCells, mkT, lenA, binPV, Env.init, resVs, resV, resT, Nat.reduceEqDiff, Nat.reduceAdd, Nat.reduceLeDiff, reduceCtorEq, frTs, frT, klTs, klT, frL, ownT, intT, O.adds, ownA, evO.bslRows, rowsA, over, fillA, Nat.reduceMul, klL]
      · rw [linkR_ok hp hq hne] at c1
        rw [hmv] at c4
        rw [hjn] at c5
        simp only [encTE, encT, encP, zP] at a1 c1 c2 c3 c4 c5 c6 c7
        simp only [F7, f0, a1, c1, c2, c3, c4, c5, c6, c7, ptEq, hne, Int.reduceEq, false_iff, true_iff, RB_t, RB_f, RB_b, List.getElem?_cons_zero, List.getElem?_cons_succ, List.set_cons_succ, frV, klV, Nat.reduceLT, Nat.reduceSub, eqCells, encT, encN, encP, encA, allP, allA, allN, spN, Nat.reduceBEq, Int.toNat_natCast, evI_wr, wrOk, keysT, keysA, ne_eq, not_false_eq_true, fxa, fxc, if_true, if_false, ite_self, spS, LQ_norm, LQ_exit, LQ_ret, evO, evR, cellsT, ldCells, mkT, lenA, binPV, Env.init, resVs, resV, resT, Nat.reduceEqDiff, Nat.reduceAdd, Nat.reduceLeDiff, reduceCtorEq, frTs, frT, klTs, klT, frL, ownT, intT, O.adds, ownA, evO.bslRows, rowsA, over, fillA, Nat.reduceMul, klL]

theorem wireBack_law {n : Nt} {x y : Pt} (hn : n.Ok) (hx : wf x.n ∧ wf x.s) (hy : wf y.n ∧ wf y.s) : eP S 6 [.g (encT n), .g (encP x ++ encP y)] = some (.a (.b true)) := by
  have f0 := fixed13_ok
  have a1 := Small_ok hn 150
  have a2 := RCheck_ok hn
  have c2 := Has_ok n x
  have c3 := Has_ok n y
  have c6 := same_is hn
  refine x_fn (orcS (by decide)) (fc := F6) rfl rfl ?_
  by_cases h1 : n.small 150
  case neg =>
    rw [bool_f h1] at a1
    simp only [encT, encP] at a1
    simp only [F6, f0, a1, false_iff, true_iff, RB_t, RB_f, RB_b, List.getElem?_cons_zero, List.getElem?_cons_succ, List.set_cons_succ, frV, klV, Nat.reduceLT, Nat.reduceSub, eqCells, encT, encN, encP, encA, allP, allA, allN, spN, Nat.reduceBEq, Int.toNat_natCast, evI_wr, wrOk, keysT, keysA, ne_eq, not_false_eq_true, fxa, fxc, if_true, if_false, ite_self, spS, LQ_norm, LQ_exit, LQ_ret, evO, evR, cellsT, ldCells, mkT, lenA, binPV, Env.init, resVs, resV, resT, Nat.reduceEqDiff, Nat.reduceAdd, Nat.reduceLeDiff, reduceCtorEq, frTs, frT, klTs, klT, frL, ownT, intT, O.adds, ownA, evO.bslRows, rowsA, over, fillA, Nat.reduceMul, klL]
  rw [bool_t h1] at a1
  by_cases hg : n.Good
  case neg =>
    rw [bool_f hg] at a2
    simp only [encT, encP, Bool.false_eq_true, if_false] at a1 a2
    simp only [F6, f0, a1, a2, Int.reduceEq, false_iff, true_iff, RB_t, RB_f, RB_b, List.getElem?_cons_zero, List.getElem?_cons_succ, List.set_cons_succ, frV, klV, Nat.reduceLT, Nat.reduceSub, eqCells, encT, encN, encP, encA, allP, allA, allN, spN, Nat.reduceBEq, Int.toNat_natCast, evI_wr, wrOk, keysT, keysA, ne_eq, not_false_eq_true, fxa, fxc, if_true, if_false, ite_self, spS, LQ_norm, LQ_exit, LQ_ret, evO, evR, cellsT, ldCells, mkT, lenA, binPV, Env.init, resVs, resV, resT, Nat.reduceEqDiff, Nat.reduceAdd, Nat.reduceLeDiff, reduceCtorEq, frTs, frT, klTs, klT, frL, ownT, intT, O.adds, ownA, evO.bslRows, rowsA, over, fillA, Nat.reduceMul, klL]
  rw [bool_t hg, if_pos rfl] at a2
  cases hp : n.has x with
  | false =>
    rw [hp] at c2
    simp only [encT, encP] at a1 a2 c2
    simp only [F6, f0, a1, a2, c2, Int.reduceEq, false_iff, true_iff, RB_t, RB_f, RB_b, List.getElem?_cons_zero, List.getElem?_cons_succ, List.set_cons_succ, frV, klV, Nat.reduceLT, Nat.reduceSub, eqCells, encT, encN, encP, encA, allP, allA, allN, spN, Nat.reduceBEq, Int.toNat_natCast, evI_wr, wrOk, keysT, keysA, ne_eq, not_false_eq_true, fxa, fxc, if_true, if_false, ite_self, spS, LQ_norm, LQ_exit, LQ_ret, evO, evR, cellsT, ldCells, mkT, lenA, binPV, Env.init, resVs, resV, resT, Nat.reduceEqDiff, Nat.reduceAdd, Nat.reduceLeDiff, reduceCtorEq, frTs, frT, klTs, klT, frL, ownT, intT, O.adds, ownA, evO.bslRows, rowsA, over, fillA, Nat.reduceMul, klL]
  | true =>
  cases hq : n.has y with
  | false =>
    rw [hp] at c2
    rw [hq] at c3
    simp only [encT, encP] at a1 a2 c2 c3
    simp only [F6, f0, a1, a2, c2, c3, Int.reduceEq, false_iff, true_iff, RB_t, RB_f, RB_b, List.getElem?_cons_zero, List.getElem?_cons_succ, List.set_cons_succ, frV, klV, Nat.reduceLT, Nat.reduceSub, eqCells, encT, encN, encP, encA, allP, allA, allN, spN, Nat.reduceBEq, Int.toNat_natCast, evI_wr, wrOk, keysT, keysA, ne_eq, not_false_eq_true, fxa, fxc, if_true, if_false, ite_self, spS, LQ_norm, LQ_exit, LQ_ret, evO, evR, cellsT, ldCells, mkT, lenA, binPV, Env.init, resVs, resV, resT, Nat.reduceEqDiff, Nat.reduceAdd, Nat.reduceLeDiff, reduceCtorEq, frTs, frT, klTs, klT, frL, ownT, intT, O.adds, ownA, evO.bslRows, rowsA, over, fillA, Nat.reduceMul, klL]
  | true =>
  rw [hp] at c2
  rw [hq] at c3
  by_cases hne : x = y
  · subst hne
    simp only [encT, encP] at a1 a2 c2 c3
    simp only [F6, f0, a1, a2, c2, c3, Int.reduceEq, false_iff, true_iff, RB_t, RB_f, RB_b, List.getElem?_cons_zero, List.getElem?_cons_succ, List.set_cons_succ, frV, klV, Nat.reduceLT, Nat.reduceSub, eqCells, encT, encN, encP, encA, allP, allA, allN, spN, Nat.reduceBEq, Int.toNat_natCast, evI_wr, wrOk, keysT, keysA, ne_eq, not_false_eq_true, fxa, fxc, if_true, if_false, ite_self, spS, LQ_norm, LQ_exit, LQ_ret, evO, evR, cellsT, ldCells, mkT, lenA, binPV, Env.init, resVs, resV, resT, Nat.reduceEqDiff, Nat.reduceAdd, Nat.reduceLeDiff, reduceCtorEq, frTs, frT, klTs, klT, frL, ownT, intT, O.adds, ownA, evO.bslRows, rowsA, over, fillA, Nat.reduceMul, klL]
  have c4 := Move_ok hn hx hy
  rw [moveR_good hg hp hq hne] at c4
  have hpi := has_iff.1 hp
  have g1 := getN (l := n.ns) hpi.1 hpi.2.1
  have g2 := getP (l := (n.nd x.n).to) hpi.2.2.1 hpi.2.2.2
  have g3 := hpi.2.2.2
  obtain ⟨a, ha⟩ : ∃ a, n.lk x = a := ⟨_, rfl⟩
  have ha2 : (n.ns.getD x.n.toNat zN).to.getD x.s.toNat zP = a := ha
  unfold Nt.nd at g2 g3
  rw [ha2] at g2
  by_cases hay : n.lk x = y
  · rw [if_pos hay] at c4
    rw [ha] at hay
    subst hay
    simp only [encTE, encT, encP] at a1 a2 c2 c3 c4 c6
    simp only [F6, f0, a1, a2, c2, c3, c4, c6, g1, g2, g3, hpi.1, hpi.2.1, hpi.2.2.1, ptEq, hne, Int.reduceEq, false_iff, true_iff, RB_t, RB_f, RB_b, List.getElem?_cons_zero, List.getElem?_cons_succ, List.set_cons_succ, frV, klV, Nat.reduceLT, Nat.reduceSub, eqCells, encT, encN, encP, encA, allP, allA, allN, spN, Nat.reduceBEq, Int.toNat_natCast, evI_wr, wrOk, keysT, keysA, ne_eq, not_false_eq_true, fxa, fxc, if_true, if_false, ite_self, spS, LQ_norm, LQ_exit, LQ_ret, evO, evR, cellsT, ldCells, mkT, lenA, binPV, Env.init, resVs, resV, resT, Nat.reduceEqDiff, Nat.reduceAdd, Nat.reduceLeDiff, reduceCtorEq, frTs, frT, klTs, klT, frL, ownT, intT, O.adds, ownA, evO.bslRows, rowsA, over, fillA, Nat.reduceMul, klL]
  · rw [if_neg hay, ha] at c4
    obtain ⟨b1, b2, b3, b4, b5⟩ := move_back hg hp hq hne hay
    obtain ⟨h1', h2', h3'⟩ := good_link hg hp
    have wa := lk_wf hn hp
    rw [ha] at b1 b2 b3 b4 b5 hay h1' h2' wa
    have hm := Ok_ln hn hq h2' hy wa
    have hs1 := ln_shp hq h2'
    have hk := Ok_ln hm (by rw [hs1.has]; exact hp) (by rw [hs1.has]; exact h2') hx wa
    have c7 := Move_ok hm hy hx
    rw [b1] at c7
    have c8 := Peer_is (by rw [b4.has]; exact hp) b2
    have c9 := Peer_is (by rw [b4.has]; exact h2') b3
    have c10 := oth_ok (but := [y]) hn (by simp) b4 b5
    simp only [encTE, encT, encP, List.map_cons, List.map_nil] at a1 a2 c2 c3 c4 c6 c7 c8 c9 c10
    simp only [F6, f0, a1, a2, c2, c3, c4, c6, c7, c8, c9, c10, g1, g2, g3, hpi.1, hpi.2.1, hpi.2.2.1, ptEq, hne, hay, Int.reduceEq, false_iff, true_iff, RB_t, RB_f, RB_b, List.getElem?_cons_zero, List.getElem?_cons_succ, List.set_cons_succ, frV, klV, Nat.reduceLT, Nat.reduceSub, eqCells, encT, encN, encP, encA, allP, allA, allN, spN, Nat.reduceBEq, Int.toNat_natCast, evI_wr, wrOk, keysT, keysA, ne_eq, not_false_eq_true, fxa, fxc, if_true, if_false, ite_self, spS, LQ_norm, LQ_exit, LQ_ret, evO, evR, cellsT, ldCells, mkT, lenA, binPV, Env.init, resVs, resV, resT, Nat.reduceEqDiff, Nat.reduceAdd, Nat.reduceLeDiff, reduceCtorEq, frTs, frT, klTs, klT, frL, ownT, intT, O.adds, ownA, evO.bslRows, rowsA, over, fillA, Nat.reduceMul, klL]

end Go.Proofs.Ytgdaanehmdgmeaa
