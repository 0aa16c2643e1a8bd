/- The law StoreBack, as the evaluator has it. -/
import Derived.Test.YtgdaanehmdgmeaaStoreQ
import Derived.Test.YtgdaanehmdgmeaaLawP
set_option linter.unusedSimpArgs false
set_option linter.unusedVariables false
set_option maxHeartbeats 4000000
set_option maxRecDepth 10000
namespace Go.Proofs.Ytgdaanehmdgmeaa
open Go.Fx

/-- what making leaves -/
structure Made (n : Nt) (x : Nd) (a : Nt) (t : Nat) : Prop where
  one : 1 ≤ t
  lt : t < a.ns.length
  was : ∀ y, n.ns[t]? = some y → y.k = 0
  now : a.ns[t]? = some x.fresh
  used : a.used = n.used + 1
  cap : a.cap = n.cap
  rest : ∀ i : Nat, i ≠ t → i < a.ns.length → i < n.ns.length ∧ a.ns[i]? = n.ns[i]?
  back : a.free t = n
  len : a.ns.length ≤ n.ns.length + 1
  le : n.ns.length ≤ a.ns.length
  ok : a.Ok

theorem good_big {n : Nt} (hG : n.Good) : n.ns.length ≤ 4000 := by
  have := hG.ln2; have := hG.cap2; omega
theorem good_root {n : Nt} (hG : n.Good) : ∃ y, n.ns[0]? = some y ∧ y.k = 1 := by
  have := hG.ln1
  obtain ⟨y, hy⟩ : ∃ y, n.ns[0]? = some y := ⟨_, List.getElem?_eq_getElem (by omega)⟩
  exact ⟨y, hy, (hG.nds 0 y hy).2.2.1.1 (by simp)⟩

theorem made {n : Nt} {x : Nd} (hn : n.Ok) (hG : n.Good) (hx : x.Ok) (hk : x.k ≠ 0) : Made n x (n.make x) n.at := by
  have hb := good_big hG
  obtain ⟨r, hr, hr1⟩ := good_root hG
  have hfk : x.fresh.k = x.k := rfl
  cases hf : n.ns.findIdx? isFree with
  | some i =>
    obtain ⟨hi, hfi, hbef⟩ := List.findIdx?_eq_some_iff_getElem.1 hf
    have e1 : n.at = i := by unfold Nt.at; rw [hf]
    have e2 : n.make x = ⟨n.ns.set i x.fresh, n.cap⟩ := by unfold Nt.make; rw [hf]
    have hy : n.ns[i]? = some n.ns[i] := List.getElem?_eq_getElem hi
    have hyk : (n.ns[i]).k = 0 := by simpa [isFree] using hfi
    rw [e1, e2]
    refine ⟨?_, by simpa using hi, fun y h => ?_, by simp [List.getElem?_set, hi], ?_, rfl, fun j hj hjl => ⟨by simpa using hjl, List.getElem?_set_ne (Ne.symm hj)⟩, ?_, by simp, by simp, ⟨by simp; omega, hn.cap, fun y h => ?_⟩⟩
    · rcases Nat.eq_zero_or_pos i with rfl | h
      · rw [hr] at hy; simp only [Option.some.injEq] at hy; rw [← hy, hr1] at hyk; omega
      · exact h
    · rw [hy] at h; rw [← Option.some.inj h]; exact hyk
    · show usedL (n.ns.set i x.fresh) = usedL n.ns + 1
      rw [usedL_set _ hy, if_pos hyk, hfk, if_neg hk]; omega
    · show (⟨trim ((n.ns.set i x.fresh).set (i : Int).toNat zN), n.cap⟩ : Nt) = n
      rw [Int.toNat_natCast, List.set_set, good_set hG hy hyk, good_trim hG]
    · rcases List.mem_or_eq_of_mem_set h with h | rfl
      · exact hn.nd y h
      · exact fresh_ok hx
  | none =>
    have hnone := List.findIdx?_eq_none_iff.1 hf
    have e1 : n.at = n.ns.length := by unfold Nt.at; rw [hf]
    have e2 : n.make x = ⟨n.ns ++ [x.fresh], n.cap⟩ := by unfold Nt.make; rw [hf]
    rw [e1, e2]
    have hl := hG.ln1
    refine ⟨by omega, by simp, fun y h => ?_, by simp, ?_, rfl, fun j hj hjl => ?_, ?_, by simp, by simp, ⟨by simp; omega, hn.cap, fun y h => ?_⟩⟩
    · rw [List.getElem?_eq_none (Nat.le_refl _)] at h; cases h
    · show usedL (n.ns ++ [x.fresh]) = usedL n.ns + 1
      rw [usedL_app, usedL_cons, usedL_nil, hfk, if_neg hk]; omega
    · simp only [List.length_append, List.length_cons, List.length_nil] at hjl
      exact ⟨by omega, List.getElem?_append_left (by omega)⟩
    · show (⟨trim ((n.ns ++ [x.fresh]).set (n.ns.length : Int).toNat zN), n.cap⟩ : Nt) = n
      have e3 : (n.ns ++ [x.fresh]).set (n.ns.length : Int).toNat zN = n.ns ++ [zN] := by
        rw [Int.toNat_natCast, List.set_append_right _ _ (Nat.le_refl _)]; simp
      have e4 : trim (n.ns ++ [zN]) = n.ns := by
        have hlast := hG.last
        unfold Nt.nd at hlast
        rw [show ((n.ns.length : Int) - 1).toNat = n.ns.length - 1 by omega] at hlast
        have t1 : tl (n.ns ++ [zN]) (n.ns.length + 1) = tl (n.ns ++ [zN]) n.ns.length := by
          simp only [tl]; rw [if_pos]
          rw [List.getD_eq_getElem?_getD, List.getElem?_append_right (Nat.le_refl _)]; simp [isFree, zN]
        have t2 : tl (n.ns ++ [zN]) n.ns.length = n.ns.length := tl_full (by omega) (by
          rw [List.getD_eq_getElem?_getD, List.getElem?_append_left (by omega), ← List.getD_eq_getElem?_getD]; exact hlast)
        unfold trim
        rw [List.length_append, List.length_cons, List.length_nil, t1, t2]; simp
      rw [e3, e4]
    · rcases List.mem_append.1 h with h | h
      · exact hn.nd y h
      · simp only [List.mem_cons, List.not_mem_nil, or_false] at h; rw [h]; exact fresh_ok hx


theorem freeR_made {n a : Nt} {x : Nd} {t : Nat} (h : Made n x a t) (hk : x.k ≠ 0) : freeR a t = (n, 0) := by
  unfold freeR
  have h1 := h.lt
  have h2 : a.nd t = x.fresh := by unfold Nt.nd; rw [Int.toNat_natCast]; exact getD_of h.now
  rw [if_pos ⟨by omega, by omega, by rw [h2]; exact hk⟩, h.back]
theorem small_bound {n : Nt} {m : Int} (h : n.small m) : (n.ns.length : Int) ≤ m := by
  exact h.2

theorem storeBack_law {n : Nt} {x : Nd} (hn : n.Ok) (hx : x.Ok) : eP S 8 [.g (encT n), .g (encN x)] = some (.a (.b true)) := by
  have f0 := fixed12_ok
  have a1 := Small_ok hn 150
  have a2 := RCheck_ok hn
  have a3 := RNode_ok hx
  refine x_fn (orcS (by decide)) (fc := F8) rfl rfl ?_
  by_cases h1 : n.small 150
  case neg =>
    rw [bool_f h1] at a1
    simp only [encT] at a1
    simp only [F8, f0, a1, false_iff, true_iff, RB_t, RB_f, RB_b, List.getElem?_cons_zero, List.getElem?_cons_succ, List.set_cons_succ, frV, klV, Nat.reduceLT, Nat.reduceSub, eqCells, encT, encN, encP, encA, allP, allA, allN, spN, Nat.reduceBEq, Int.toNat_natCast, evI_wr, wrOk, keysT, keysA, ne_eq, not_false_eq_true, fxa, fxc, if_true, if_false, ite_self, spS, LQ_norm, LQ_exit, LQ_ret, evO, evR, cellsT, ldCells, mkT, lenA, binPV, Env.init, resVs, resV, resT, Nat.reduceEqDiff, Nat.reduceAdd, Nat.reduceLeDiff, reduceCtorEq, frTs, frT, klTs, klT, frL, ownT, intT, O.adds, ownA, evO.bslRows, rowsA, over, fillA, Nat.reduceMul, klL]
  rw [bool_t h1] at a1
  by_cases h2 : n.Good
  case neg =>
    rw [bool_f h2] at a2
    simp only [Bool.false_eq_true, if_false, encT] at a1 a2
    simp only [F8, f0, a1, a2, Int.reduceEq, false_iff, true_iff, RB_t, RB_f, RB_b, List.getElem?_cons_zero, List.getElem?_cons_succ, List.set_cons_succ, frV, klV, Nat.reduceLT, Nat.reduceSub, eqCells, encT, encN, encP, encA, allP, allA, allN, spN, Nat.reduceBEq, Int.toNat_natCast, evI_wr, wrOk, keysT, keysA, ne_eq, not_false_eq_true, fxa, fxc, if_true, if_false, ite_self, spS, LQ_norm, LQ_exit, LQ_ret, evO, evR, cellsT, ldCells, mkT, lenA, binPV, Env.init, resVs, resV, resT, Nat.reduceEqDiff, Nat.reduceAdd, Nat.reduceLeDiff, reduceCtorEq, frTs, frT, klTs, klT, frL, ownT, intT, O.adds, ownA, evO.bslRows, rowsA, over, fillA, Nat.reduceMul, klL]
  rw [bool_t h2] at a2
  simp only [if_true] at a2
  by_cases h3 : (x.to.length : Int) > 20
  · simp only [encT] at a1 a2
    simp only [F8, f0, a1, a2, h3, false_iff, true_iff, RB_t, RB_f, RB_b, List.getElem?_cons_zero, List.getElem?_cons_succ, List.set_cons_succ, frV, klV, Nat.reduceLT, Nat.reduceSub, eqCells, encT, encN, encP, encA, allP, allA, allN, spN, Nat.reduceBEq, Int.toNat_natCast, evI_wr, wrOk, keysT, keysA, ne_eq, not_false_eq_true, fxa, fxc, if_true, if_false, ite_self, spS, LQ_norm, LQ_exit, LQ_ret, evO, evR, cellsT, ldCells, mkT, lenA, binPV, Env.init, resVs, resV, resT, Nat.reduceEqDiff, Nat.reduceAdd, Nat.reduceLeDiff, reduceCtorEq, frTs, frT, klTs, klT, frL, ownT, intT, O.adds, ownA, evO.bslRows, rowsA, over, fillA, Nat.reduceMul, klL]
  by_cases h4 : (x.al.length : Int) > 20
  · simp only [encT] at a1 a2
    simp only [F8, f0, a1, a2, h3, h4, false_iff, true_iff, RB_t, RB_f, RB_b, List.getElem?_cons_zero, List.getElem?_cons_succ, List.set_cons_succ, frV, klV, Nat.reduceLT, Nat.reduceSub, eqCells, encT, encN, encP, encA, allP, allA, allN, spN, Nat.reduceBEq, Int.toNat_natCast, evI_wr, wrOk, keysT, keysA, ne_eq, not_false_eq_true, fxa, fxc, if_true, if_false, ite_self, spS, LQ_norm, LQ_exit, LQ_ret, evO, evR, cellsT, ldCells, mkT, lenA, binPV, Env.init, resVs, resV, resT, Nat.reduceEqDiff, Nat.reduceAdd, Nat.reduceLeDiff, reduceCtorEq, frTs, frT, klTs, klT, frL, ownT, intT, O.adds, ownA, evO.bslRows, rowsA, over, fillA, Nat.reduceMul, klL]
  by_cases h5 : x.k < 2
  · simp only [encT] at a1 a2
    simp only [F8, f0, a1, a2, h3, h4, h5, false_iff, true_iff, RB_t, RB_f, RB_b, List.getElem?_cons_zero, List.getElem?_cons_succ, List.set_cons_succ, frV, klV, Nat.reduceLT, Nat.reduceSub, eqCells, encT, encN, encP, encA, allP, allA, allN, spN, Nat.reduceBEq, Int.toNat_natCast, evI_wr, wrOk, keysT, keysA, ne_eq, not_false_eq_true, fxa, fxc, if_true, if_false, ite_self, spS, LQ_norm, LQ_exit, LQ_ret, evO, evR, cellsT, ldCells, mkT, lenA, binPV, Env.init, resVs, resV, resT, Nat.reduceEqDiff, Nat.reduceAdd, Nat.reduceLeDiff, reduceCtorEq, frTs, frT, klTs, klT, frL, ownT, intT, O.adds, ownA, evO.bslRows, rowsA, over, fillA, Nat.reduceMul, klL]
  by_cases h6 : x.may
  case neg =>
    rw [bool_f h6] at a3
    simp only [encT, encN] at a1 a2 a3
    simp only [F8, f0, a1, a2, a3, h3, h4, h5, false_iff, true_iff, RB_t, RB_f, RB_b, List.getElem?_cons_zero, List.getElem?_cons_succ, List.set_cons_succ, frV, klV, Nat.reduceLT, Nat.reduceSub, eqCells, encT, encN, encP, encA, allP, allA, allN, spN, Nat.reduceBEq, Int.toNat_natCast, evI_wr, wrOk, keysT, keysA, ne_eq, not_false_eq_true, fxa, fxc, if_true, if_false, ite_self, spS, LQ_norm, LQ_exit, LQ_ret, evO, evR, cellsT, ldCells, mkT, lenA, binPV, Env.init, resVs, resV, resT, Nat.reduceEqDiff, Nat.reduceAdd, Nat.reduceLeDiff, reduceCtorEq, frTs, frT, klTs, klT, frL, ownT, intT, O.adds, ownA, evO.bslRows, rowsA, over, fillA, Nat.reduceMul, klL]
  rw [bool_t h6] at a3
  have hb := good_big h2
  have c1 := sMake_ok hn (by omega) hx
  have c2 := RUsed_ok hn
  have hk : x.k ≠ 0 := by omega
  by_cases h7 : n.used < n.cap
  case neg =>
    have e : makeR n x = (n, 0, 121) := by
      unfold makeR
      rw [bool_t h6, if_neg (by simp; omega), if_pos (by omega)]
    rw [e] at c1
    have c3 := Same_ok hn (b := n)
    rw [bool_t rfl] at c3
    simp only [encTIE, encT, encN] at a1 a2 a3 c1 c2 c3
    simp only [F8, f0, a1, a2, a3, h3, h4, h5, c1, c2, c3, h7, Int.reduceEq, false_iff, true_iff, RB_t, RB_f, RB_b, List.getElem?_cons_zero, List.getElem?_cons_succ, List.set_cons_succ, frV, klV, Nat.reduceLT, Nat.reduceSub, eqCells, encT, encN, encP, encA, allP, allA, allN, spN, Nat.reduceBEq, Int.toNat_natCast, evI_wr, wrOk, keysT, keysA, ne_eq, not_false_eq_true, fxa, fxc, if_true, if_false, ite_self, spS, LQ_norm, LQ_exit, LQ_ret, evO, evR, cellsT, ldCells, mkT, lenA, binPV, Env.init, resVs, resV, resT, Nat.reduceEqDiff, Nat.reduceAdd, Nat.reduceLeDiff, reduceCtorEq, frTs, frT, klTs, klT, frL, ownT, intT, O.adds, ownA, evO.bslRows, rowsA, over, fillA, Nat.reduceMul, klL]
  have hm := made hn h2 hx hk
  have e : makeR n x = (n.make x, (n.at : Int), 0) := by
    unfold makeR
    rw [bool_t h6, if_neg (by simp; omega), if_neg (by omega)]
  rw [e] at c1
  obtain ⟨a, ha⟩ : ∃ a, n.make x = a := ⟨_, rfl⟩
  obtain ⟨t, ht⟩ : ∃ t, n.at = t := ⟨_, rfl⟩
  rw [ha, ht] at hm c1
  have c3 := sUsed_ok hm.ok
  have c4 := sUsed_ok hn
  have c5 := sFree_ok hm.ok (by have := hm.len; omega) (t : Int)
  rw [freeR_made hm hk] at c5
  have c6 := Same_ok hn (b := n)
  rw [bool_t rfl] at c6
  rw [hm.used] at c3
  have hul := usedL_le n.ns
  have hu1 : 0 ≤ n.used ∧ n.used ≤ n.ns.length := hul
  have hw : IntKind.i64.wrap (n.used + 1) = n.used + 1 := wrap_in _ (by omega)
  have t1 : ¬ (t : Int) < 1 := by have := hm.one; omega
  have t2 : ¬ (t : Int) ≥ (a.ns.length : Int) := by have := hm.lt; omega
  have t3 : (t : Int) < (a.ns.length : Int) := by have := hm.lt; omega
  have t4 : (0 : Int) ≤ (t : Int) := by omega
  have t5 := mapGet encN hm.now
  have t6 : ¬ n.used + 1 > a.cap := by rw [hm.cap]; omega
  have hkf : x.fresh.k = x.k := rfl
  by_cases t7 : (t : Int) < (n.ns.length : Int)
  case' pos =>
    obtain ⟨y, hy⟩ : ∃ y, n.ns[t]? = some y := ⟨_, List.getElem?_eq_getElem (by omega)⟩
    have hy' := mapGet encN hy
    have hyk := hm.was y hy
    simp only [encTIE, encTE, encT, encN] at a1 a2 a3 c1 c2 c3 c4 c5 c6 hy'
    simp only [encN] at t5
    simp only [F8, f0, a1, a2, a3, h3, h4, h5, c1, c2, c3, c4, h7, hw, t1, t2, t3, t4, t5, t6, t7, hy', hyk, hkf, Int.reduceEq, false_iff, true_iff, RB_t, RB_f, RB_b, List.getElem?_cons_zero, List.getElem?_cons_succ, List.set_cons_succ, frV, klV, Nat.reduceLT, Nat.reduceSub, eqCells, encT, encN, encP, encA, allP, allA, allN, spN, Nat.reduceBEq, Int.toNat_natCast, evI_wr, wrOk, keysT, keysA, ne_eq, not_false_eq_true, fxa, fxc, if_true, if_false, ite_self, spS, LQ_norm, LQ_exit, LQ_ret, evO, evR, cellsT, ldCells, mkT, lenA, binPV, Env.init, resVs, resV, resT, Nat.reduceEqDiff, Nat.reduceAdd, Nat.reduceLeDiff, reduceCtorEq, frTs, frT, klTs, klT, frL, ownT, intT, O.adds, ownA, evO.bslRows, rowsA, over, fillA, Nat.reduceMul, klL]
  case' neg =>
    simp only [encTIE, encTE, encT, encN] at a1 a2 a3 c1 c2 c3 c4 c5 c6
    simp only [encN] at t5
    simp only [F8, f0, a1, a2, a3, h3, h4, h5, c1, c2, c3, c4, h7, hw, t1, t2, t3, t4, t5, t6, t7, hkf, Int.reduceEq, false_iff, true_iff, RB_t, RB_f, RB_b, List.getElem?_cons_zero, List.getElem?_cons_succ, List.set_cons_succ, frV, klV, Nat.reduceLT, Nat.reduceSub, eqCells, encT, encN, encP, encA, allP, allA, allN, spN, Nat.reduceBEq, Int.toNat_natCast, evI_wr, wrOk, keysT, keysA, ne_eq, not_false_eq_true, fxa, fxc, if_true, if_false, ite_self, spS, LQ_norm, LQ_exit, LQ_ret, evO, evR, cellsT, ldCells, mkT, lenA, binPV, Env.init, resVs, resV, resT, Nat.reduceEqDiff, Nat.reduceAdd, Nat.reduceLeDiff, reduceCtorEq, frTs, frT, klTs, klT, frL, ownT, intT, O.adds, ownA, evO.bslRows, rowsA, over, fillA, Nat.reduceMul, klL]
  all_goals
    refine loop_nat a.ns.length (fun i e σ => e 2 = .a (.ptr (2, 0) 0 0) ∧ e 5 = .a (.ptr (5, 2) 0 0) ∧ e 6 = .a (.p (.i .i64 (t : Nat))) ∧ e 8 = .a (.p (.i .i64 (i : Nat))) ∧ σ.bs (2, 0) = some (.var ((encT n).map .p)) ∧ σ.bs (5, 2) = some (.var ((encT a).map .p))) (i0 := 0) (Nat.zero_le _) ?_ ?_ ?_
    · refine ⟨?_, ?_, ?_, ?_, ?_, ?_⟩ <;> simp only [false_iff, true_iff, RB_t, RB_f, RB_b, List.getElem?_cons_zero, List.getElem?_cons_succ, List.set_cons_succ, frV, klV, Nat.reduceLT, Nat.reduceSub, eqCells, encT, encN, encP, encA, allP, allA, allN, spN, Nat.reduceBEq, Int.toNat_natCast, evI_wr, wrOk, keysT, keysA, ne_eq, not_false_eq_true, fxa, fxc, if_true, if_false, ite_self, spS, LQ_norm, LQ_exit, LQ_ret, evO, evR, cellsT, ldCells, mkT, lenA, binPV, Env.init, resVs, resV, resT, Nat.reduceEqDiff, Nat.reduceAdd, Nat.reduceLeDiff, reduceCtorEq, frTs, frT, klTs, klT, frL, ownT, intT, O.adds, ownA, evO.bslRows, rowsA, over, fillA, Nat.reduceMul, klL]
      all_goals rfl
    · rintro i e σ hi ⟨e2, e5, e6, e8, s2, s5⟩
      have hlt : ((i : Nat) : Int) < (a.ns.length : Int) := by omega
      have hge : (0 : Int) ≤ ((i : Nat) : Int) := by omega
      have hmle := hm.len
      simp only [encT, List.map_cons, List.map_nil] at s2 s5
      by_cases hit : i = t
      · subst hit
        simp only [F8b0, e2, e5, e6, e8, s2, s5, hlt, false_iff, true_iff, RB_t, RB_f, RB_b, List.getElem?_cons_zero, List.getElem?_cons_succ, List.set_cons_succ, frV, klV, Nat.reduceLT, Nat.reduceSub, eqCells, encT, encN, encP, encA, allP, allA, allN, spN, Nat.reduceBEq, Int.toNat_natCast, evI_wr, wrOk, keysT, keysA, ne_eq, not_false_eq_true, fxa, fxc, if_true, if_false, ite_self, spS, LQ_norm, LQ_exit, LQ_ret, evO, evR, cellsT, ldCells, mkT, lenA, binPV, Env.init, resVs, resV, resT, Nat.reduceEqDiff, Nat.reduceAdd, Nat.reduceLeDiff, reduceCtorEq, frTs, frT, klTs, klT, frL, ownT, intT, O.adds, ownA, evO.bslRows, rowsA, over, fillA, Nat.reduceMul, klL]
        rw [wrap_succ i (by omega)]
      · have hit' : ¬ (i : Int) = (t : Int) := by omega
        obtain ⟨r1, r2⟩ := hm.rest i hit hi
        obtain ⟨z, hz⟩ : ∃ z, n.ns[i]? = some z := ⟨_, List.getElem?_eq_getElem r1⟩
        have hz' := mapGet encN hz
        have hz2 := mapGet encN (r2.trans hz)
        have hnge : ¬ (i : Int) ≥ (n.ns.length : Int) := by omega
        have hlt2 : (i : Int) < (n.ns.length : Int) := by omega
        have c7 := One_ok (b := z) (hn.nd z (List.mem_of_getElem? hz))
        rw [bool_t rfl] at c7
        simp only [encN] at hz' hz2 c7
        simp only [F8b0, e2, e5, e6, e8, s2, s5, hlt, hlt2, hge, hnge, hit', hz', hz2, c7, false_iff, true_iff, RB_t, RB_f, RB_b, List.getElem?_cons_zero, List.getElem?_cons_succ, List.set_cons_succ, frV, klV, Nat.reduceLT, Nat.reduceSub, eqCells, encT, encN, encP, encA, allP, allA, allN, spN, Nat.reduceBEq, Int.toNat_natCast, evI_wr, wrOk, keysT, keysA, ne_eq, not_false_eq_true, fxa, fxc, if_true, if_false, ite_self, spS, LQ_norm, LQ_exit, LQ_ret, evO, evR, cellsT, ldCells, mkT, lenA, binPV, Env.init, resVs, resV, resT, Nat.reduceEqDiff, Nat.reduceAdd, Nat.reduceLeDiff, reduceCtorEq, frTs, frT, klTs, klT, frL, ownT, intT, O.adds, ownA, evO.bslRows, rowsA, over, fillA, Nat.reduceMul, klL]
        rw [wrap_succ i (by omega)]
    · rintro e σ ⟨e2, e5, e6, e8, s2, s5⟩
      have hlt : ¬ ((a.ns.length : Nat) : Int) < (a.ns.length : Int) := by omega
      simp only [encT, List.map_cons, List.map_nil] at s2 s5
      simp only [F8b0, e2, e5, e6, e8, s2, s5, hlt, c5, c6, false_iff, true_iff, RB_t, RB_f, RB_b, List.getElem?_cons_zero, List.getElem?_cons_succ, List.set_cons_succ, frV, klV, Nat.reduceLT, Nat.reduceSub, eqCells, encT, encN, encP, encA, allP, allA, allN, spN, Nat.reduceBEq, Int.toNat_natCast, evI_wr, wrOk, keysT, keysA, ne_eq, not_false_eq_true, fxa, fxc, if_true, if_false, ite_self, spS, LQ_norm, LQ_exit, LQ_ret, evO, evR, cellsT, ldCells, mkT, lenA, binPV, Env.init, resVs, resV, resT, Nat.reduceEqDiff, Nat.reduceAdd, Nat.reduceLeDiff, reduceCtorEq, frTs, frT, klTs, klT, frL, ownT, intT, O.adds, ownA, evO.bslRows, rowsA, over, fillA, Nat.reduceMul, klL]
end Go.Proofs.Ytgdaanehmdgmeaa
