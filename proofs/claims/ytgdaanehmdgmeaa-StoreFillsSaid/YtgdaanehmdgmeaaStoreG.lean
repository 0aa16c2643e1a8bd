/- The law StoreFills, as the evaluator has it. -/
import Derived.Test.YtgdaanehmdgmeaaStoreF
set_option linter.unusedSimpArgs false
set_option linter.unusedVariables false
set_option maxHeartbeats 4000000
set_option maxRecDepth 10000
namespace Go.Proofs.Ytgdaanehmdgmeaa
open Go.Fx

/-- a new net with so many nodes more -/
def fill (most : Int) (x : Nd) (j : Nat) : Nt := ⟨rootN :: failN :: List.replicate j x.fresh, most⟩
theorem usedL_rep {y : Nd} (hk : y.k ≠ 0) : ∀ j, usedL (List.replicate j y) = j
  | 0 => rfl
  | j + 1 => by rw [List.replicate_succ, usedL_cons, if_neg hk, usedL_rep hk j]; omega
theorem fill_used {most : Int} {x : Nd} (hk : x.k ≠ 0) (j : Nat) : (fill most x j).used = j + 2 := by
  show usedL (rootN :: failN :: List.replicate j x.fresh) = _
  rw [usedL_cons, usedL_cons, usedL_rep (y := x.fresh) hk, if_neg (by decide), if_neg (by decide)]; omega
theorem fill_free {most : Int} {x : Nd} (hk : x.k ≠ 0) (j : Nat) : (fill most x j).ns.findIdx? isFree = none := by
  rw [List.findIdx?_eq_none_iff]
  intro y hy
  rcases List.mem_cons.1 hy with rfl | hy
  · rfl
  rcases List.mem_cons.1 hy with rfl | hy
  · rfl
  rw [List.eq_of_mem_replicate hy]
  have : x.fresh.k ≠ 0 := hk
  simpa [isFree] using this
theorem fill_make {most : Int} {x : Nd} (hm : x.may) (hk : 2 ≤ x.k) (j : Nat) (h : (j : Int) + 2 < most) : makeR (fill most x j) x = (fill most x (j + 1), ((j + 2 : Nat) : Int), 0) := by
  have hk0 : x.k ≠ 0 := by omega
  unfold makeR
  rw [bool_t hm, if_neg (by simp; omega), fill_used hk0, if_neg (by show ¬ ((j : Int) + 2 ≥ most); omega)]
  unfold Nt.make Nt.at
  rw [fill_free hk0]
  simp [fill, List.replicate_succ']; omega
theorem fill_full {most : Int} {x : Nd} (hm : x.may) (hk : 2 ≤ x.k) (j : Nat) (h : (j : Int) + 2 = most) : makeR (fill most x j) x = (fill most x j, 0, 121) := by
  have hk0 : x.k ≠ 0 := by omega
  unfold makeR
  rw [bool_t hm, if_neg (by simp; omega), fill_used hk0, if_pos (by show (j : Int) + 2 ≥ most; omega)]
theorem fill_back {most : Int} {x : Nd} (hk : 2 ≤ x.k) (j : Nat) : freeR (fill most x (j + 1)) ((j + 2 : Nat) : Int) = (fill most x j, 0) := by
  have hfk : x.fresh.k = x.k := rfl
  have hget : (fill most x (j + 1)).ns[j + 2]? = some x.fresh := by
    show (rootN :: failN :: List.replicate (j + 1) x.fresh)[j + 2]? = some x.fresh
    simp
  have hlen : (fill most x (j + 1)).ns.length = j + 3 := by simp [fill]
  have hnd : (fill most x (j + 1)).nd ((j + 2 : Nat) : Int) = x.fresh := by unfold Nt.nd; rw [Int.toNat_natCast]; exact getD_of hget
  unfold freeR
  rw [hnd, if_pos ⟨by omega, by omega, by rw [hfk]; omega⟩]
  congr 1
  unfold Nt.free
  have e : (fill most x (j + 1)).ns.set ((j + 2 : Nat) : Int).toNat zN = (fill most x j).ns ++ [zN] := by
    rw [Int.toNat_natCast]
    show (rootN :: failN :: List.replicate (j + 1) x.fresh).set (j + 2) zN = (rootN :: failN :: List.replicate j x.fresh) ++ [zN]
    rw [List.set_cons_succ, List.set_cons_succ, List.replicate_succ', List.set_append_right _ _ (by simp)]; simp
  rw [e]
  have hl2 : (fill most x j).ns.length = j + 2 := by simp [fill]
  have hlast : ((fill most x j).ns.getD (j + 1) zN).k ≠ 0 := by
    cases j with
    | zero => show failN.k ≠ 0; decide
    | succ j =>
      have : (fill most x (j + 1)).ns[j + 1 + 1]? = some x.fresh := by
        show (rootN :: failN :: List.replicate (j + 1) x.fresh)[j + 1 + 1]? = some x.fresh
        simp
      rw [getD_of this, hfk]; omega
  have t1 : tl ((fill most x j).ns ++ [zN]) (j + 2 + 1) = tl ((fill most x j).ns ++ [zN]) (j + 2) := by
    simp only [tl]; rw [if_pos]
    rw [List.getD_eq_getElem?_getD, List.getElem?_append_right (by omega)]; simp [hl2, isFree, zN]
  have t2 : tl ((fill most x j).ns ++ [zN]) (j + 2) = j + 2 := tl_full (by omega) (by
    rw [List.getD_eq_getElem?_getD, List.getElem?_append_left (by omega), ← List.getD_eq_getElem?_getD]; exact hlast)
  unfold trim
  rw [List.length_append, List.length_cons, List.length_nil, hl2, t1, t2]
  have : List.take (j + 2) ((fill most x j).ns ++ [zN]) = (fill most x j).ns := by rw [← hl2]; simp
  rw [this]; rfl
theorem fill_ok {most : Int} {x : Nd} (hmost : wf most) (hx : x.Ok) (j : Nat) (hj : j ≤ 100) : (fill most x j).Ok := by
  refine ⟨?_, hmost, fun y hy => ?_⟩
  · show (rootN :: failN :: List.replicate j x.fresh).length * 88 ≤ _
    simp only [List.length_cons, List.length_replicate]; omega
  · rcases List.mem_cons.1 hy with rfl | hy
    · exact rootN_ok
    rcases List.mem_cons.1 hy with rfl | hy
    · exact failN_ok
    rw [List.eq_of_mem_replicate hy]; exact fresh_ok hx
theorem newT_good {most : Int} (h : 2 ≤ most ∧ most ≤ 4000) : (newT most).Good := by
  refine ⟨by show 1 ≤ most; omega, h.2, by show (1 : Int) ≤ 2; omega, by show (2 : Int) ≤ most; omega, by show failN.k ≠ 0; decide, fun i x hx => ?_⟩
  match i, hx with
  | 0, hx =>
    have hx : some rootN = some x := hx
    rw [← Option.some.inj hx]
    refine ⟨⟨by decide, by decide, by decide, by decide, by decide, by decide, by decide, by decide, by decide, by decide, by decide, fun i a h => by simp [rootN] at h⟩, by decide, by decide, fun j q hq => ?_⟩
    match j, hq with
    | 0, hq =>
      have hq : some (⟨1, 0⟩ : Pt) = some q := hq
      rw [← Option.some.inj hq]
      exact ⟨by decide, rfl, rfl⟩
    | j + 1, hq => simp [rootN] at hq
  | 1, hx =>
    have hx : some failN = some x := hx
    rw [← Option.some.inj hx]
    refine ⟨⟨by decide, by decide, by decide, by decide, by decide, by decide, by decide, by decide, by decide, by decide, by decide, fun i a h => by simp [failN] at h⟩, by decide, by decide, fun j q hq => ?_⟩
    match j, hq with
    | 0, hq =>
      have hq : some (⟨0, 0⟩ : Pt) = some q := hq
      rw [← Option.some.inj hq]
      exact ⟨by decide, rfl, rfl⟩
    | j + 1, hq => simp [failN] at hq
  | i + 2, hx => simp [newT] at hx

theorem storeFills_law {most : Int} {x : Nd} (hmost : wf most) (hx : x.Ok) : eP S 10 [.a (.i .i64 most), .g (encN x)] = some (.a (.b true)) := by
  have f0 := fixed12_ok
  have a3 := RNode_ok hx
  refine x_fn (orcS (by decide)) (fc := F10) rfl rfl ?_
  by_cases h1 : most < 2
  · simp only [F10, f0, h1, false_iff, true_iff, RB_t, RB_f, RB_b, List.getElem?_cons_zero, List.getElem?_cons_succ, List.set_cons_succ, frV, klV, Nat.reduceLT, Nat.reduceSub, eqCells, encT, encN, encP, encA, allP, allA, allN, spN, Nat.reduceBEq, Int.toNat_natCast, evI_wr, wrOk, keysT, keysA, ne_eq, not_false_eq_true, fxa, fxc, if_true, if_false, ite_self, spS, LQ_norm, LQ_exit, LQ_ret, evO, evR, cellsT, ldCells, mkT, lenA, binPV, Env.init, resVs, resV, resT, Nat.reduceEqDiff, Nat.reduceAdd, Nat.reduceLeDiff, reduceCtorEq, frTs, frT, klTs, klT, frL, ownT, intT, O.adds, ownA, evO.bslRows, rowsA, over, fillA, Nat.reduceMul, klL]
  by_cases h2 : most > 40
  · simp only [F10, f0, h1, h2, false_iff, true_iff, RB_t, RB_f, RB_b, List.getElem?_cons_zero, List.getElem?_cons_succ, List.set_cons_succ, frV, klV, Nat.reduceLT, Nat.reduceSub, eqCells, encT, encN, encP, encA, allP, allA, allN, spN, Nat.reduceBEq, Int.toNat_natCast, evI_wr, wrOk, keysT, keysA, ne_eq, not_false_eq_true, fxa, fxc, if_true, if_false, ite_self, spS, LQ_norm, LQ_exit, LQ_ret, evO, evR, cellsT, ldCells, mkT, lenA, binPV, Env.init, resVs, resV, resT, Nat.reduceEqDiff, Nat.reduceAdd, Nat.reduceLeDiff, reduceCtorEq, frTs, frT, klTs, klT, frL, ownT, intT, O.adds, ownA, evO.bslRows, rowsA, over, fillA, Nat.reduceMul, klL]
  by_cases h5 : x.k < 2
  · simp only [F10, f0, h1, h2, h5, false_iff, true_iff, RB_t, RB_f, RB_b, List.getElem?_cons_zero, List.getElem?_cons_succ, List.set_cons_succ, frV, klV, Nat.reduceLT, Nat.reduceSub, eqCells, encT, encN, encP, encA, allP, allA, allN, spN, Nat.reduceBEq, Int.toNat_natCast, evI_wr, wrOk, keysT, keysA, ne_eq, not_false_eq_true, fxa, fxc, if_true, if_false, ite_self, spS, LQ_norm, LQ_exit, LQ_ret, evO, evR, cellsT, ldCells, mkT, lenA, binPV, Env.init, resVs, resV, resT, Nat.reduceEqDiff, Nat.reduceAdd, Nat.reduceLeDiff, reduceCtorEq, frTs, frT, klTs, klT, frL, ownT, intT, O.adds, ownA, evO.bslRows, rowsA, over, fillA, Nat.reduceMul, klL]
  by_cases h3 : (x.to.length : Int) > 20
  · simp only [F10, f0, h1, h2, h3, h5, false_iff, true_iff, RB_t, RB_f, RB_b, List.getElem?_cons_zero, List.getElem?_cons_succ, List.set_cons_succ, frV, klV, Nat.reduceLT, Nat.reduceSub, eqCells, encT, encN, encP, encA, allP, allA, allN, spN, Nat.reduceBEq, Int.toNat_natCast, evI_wr, wrOk, keysT, keysA, ne_eq, not_false_eq_true, fxa, fxc, if_true, if_false, ite_self, spS, LQ_norm, LQ_exit, LQ_ret, evO, evR, cellsT, ldCells, mkT, lenA, binPV, Env.init, resVs, resV, resT, Nat.reduceEqDiff, Nat.reduceAdd, Nat.reduceLeDiff, reduceCtorEq, frTs, frT, klTs, klT, frL, ownT, intT, O.adds, ownA, evO.bslRows, rowsA, over, fillA, Nat.reduceMul, klL]
  by_cases h4 : (x.al.length : Int) > 20
  · simp only [F10, f0, h1, h2, h3, h4, h5, false_iff, true_iff, RB_t, RB_f, RB_b, List.getElem?_cons_zero, List.getElem?_cons_succ, List.set_cons_succ, frV, klV, Nat.reduceLT, Nat.reduceSub, eqCells, encT, encN, encP, encA, allP, allA, allN, spN, Nat.reduceBEq, Int.toNat_natCast, evI_wr, wrOk, keysT, keysA, ne_eq, not_false_eq_true, fxa, fxc, if_true, if_false, ite_self, spS, LQ_norm, LQ_exit, LQ_ret, evO, evR, cellsT, ldCells, mkT, lenA, binPV, Env.init, resVs, resV, resT, Nat.reduceEqDiff, Nat.reduceAdd, Nat.reduceLeDiff, reduceCtorEq, frTs, frT, klTs, klT, frL, ownT, intT, O.adds, ownA, evO.bslRows, rowsA, over, fillA, Nat.reduceMul, klL]
  by_cases h6 : x.may
  case neg =>
    rw [bool_f h6] at a3
    simp only [encN] at a3
    simp only [F10, f0, a3, h1, h2, h3, h4, h5, false_iff, true_iff, RB_t, RB_f, RB_b, List.getElem?_cons_zero, List.getElem?_cons_succ, List.set_cons_succ, frV, klV, Nat.reduceLT, Nat.reduceSub, eqCells, encT, encN, encP, encA, allP, allA, allN, spN, Nat.reduceBEq, Int.toNat_natCast, evI_wr, wrOk, keysT, keysA, ne_eq, not_false_eq_true, fxa, fxc, if_true, if_false, ite_self, spS, LQ_norm, LQ_exit, LQ_ret, evO, evR, cellsT, ldCells, mkT, lenA, binPV, Env.init, resVs, resV, resT, Nat.reduceEqDiff, Nat.reduceAdd, Nat.reduceLeDiff, reduceCtorEq, frTs, frT, klTs, klT, frL, ownT, intT, O.adds, ownA, evO.bslRows, rowsA, over, fillA, Nat.reduceMul, klL]
  rw [bool_t h6] at a3
  have hk : 2 ≤ x.k := by omega
  have c1 := sNew_ok most
  have e1 : newR most = (fill most x 0, 0) := by unfold newR; rw [if_pos ⟨by omega, by omega⟩]; rfl
  rw [e1] at c1
  obtain ⟨N, hN⟩ : ∃ N : Nat, most = N + 2 := ⟨(most - 2).toNat, by omega⟩
  have hN38 : N ≤ 38 := by omega
  simp only [encTE, encT, encN] at a3 c1
  simp only [F10, f0, a3, c1, h1, h2, h3, h4, h5, false_iff, true_iff, RB_t, RB_f, RB_b, List.getElem?_cons_zero, List.getElem?_cons_succ, List.set_cons_succ, frV, klV, Nat.reduceLT, Nat.reduceSub, eqCells, encT, encN, encP, encA, allP, allA, allN, spN, Nat.reduceBEq, Int.toNat_natCast, evI_wr, wrOk, keysT, keysA, ne_eq, not_false_eq_true, fxa, fxc, if_true, if_false, ite_self, spS, LQ_norm, LQ_exit, LQ_ret, evO, evR, cellsT, ldCells, mkT, lenA, binPV, Env.init, resVs, resV, resT, Nat.reduceEqDiff, Nat.reduceAdd, Nat.reduceLeDiff, reduceCtorEq, frTs, frT, klTs, klT, frL, ownT, intT, O.adds, ownA, evO.bslRows, rowsA, over, fillA, Nat.reduceMul, klL]
  refine loop_nat N (fun i e σ => e 0 = .a (.p (.i .i64 most)) ∧ e 3 = .a (.ptr (3, 0) 0 0) ∧ e 5 = .a (.ptr (5, 1) 0 0) ∧ e 7 = .a (.p (.i .i64 ((i + 2 : Nat) : Int))) ∧ σ.bs (3, 0) = some (.var ((encN x).map .p)) ∧ σ.bs (5, 1) = some (.var ((encT (fill most x i)).map .p))) (i0 := 0) (Nat.zero_le _) ?_ ?_ ?_
  · refine ⟨?_, ?_, ?_, ?_, ?_, ?_⟩ <;> simp only [false_iff, true_iff, RB_t, RB_f, RB_b, List.getElem?_cons_zero, List.getElem?_cons_succ, List.set_cons_succ, frV, klV, Nat.reduceLT, Nat.reduceSub, eqCells, encT, encN, encP, encA, allP, allA, allN, spN, Nat.reduceBEq, Int.toNat_natCast, evI_wr, wrOk, keysT, keysA, ne_eq, not_false_eq_true, fxa, fxc, if_true, if_false, ite_self, spS, LQ_norm, LQ_exit, LQ_ret, evO, evR, cellsT, ldCells, mkT, lenA, binPV, Env.init, resVs, resV, resT, Nat.reduceEqDiff, Nat.reduceAdd, Nat.reduceLeDiff, reduceCtorEq, frTs, frT, klTs, klT, frL, ownT, intT, O.adds, ownA, evO.bslRows, rowsA, over, fillA, Nat.reduceMul, klL]
    all_goals rfl
  · rintro i e σ hi ⟨e0, e3, e5, e7, s3, s5⟩
    have hlt : ((i + 2 : Nat) : Int) < most := by omega
    have c2 := sMake_ok (fill_ok hmost hx i (by omega)) (by simp [fill]; omega) hx
    rw [fill_make h6 hk i (by omega)] at c2
    have c3 := sUsed_ok (fill_ok hmost hx (i + 1) (by omega))
    rw [fill_used (by omega)] at c3
    have hw : IntKind.i64.wrap (((i + 2 : Nat) : Int) + 1) = ((i + 1 + 2 : Nat) : Int) := by rw [wrap_in _ (by omega)]; omega
    have hw2 : ((i + 1 : Nat) : Int) + 2 = ((i + 1 + 2 : Nat) : Int) := by omega
    rw [hw2] at c3
    simp only [encTIE, encT, encN, List.map_cons, List.map_nil] at s3 s5 c2 c3
    simp only [F10b0, e0, e3, e5, e7, s3, s5, hlt, c2, c3, hw, false_iff, true_iff, RB_t, RB_f, RB_b, List.getElem?_cons_zero, List.getElem?_cons_succ, List.set_cons_succ, frV, klV, Nat.reduceLT, Nat.reduceSub, eqCells, encT, encN, encP, encA, allP, allA, allN, spN, Nat.reduceBEq, Int.toNat_natCast, evI_wr, wrOk, keysT, keysA, ne_eq, not_false_eq_true, fxa, fxc, if_true, if_false, ite_self, spS, LQ_norm, LQ_exit, LQ_ret, evO, evR, cellsT, ldCells, mkT, lenA, binPV, Env.init, resVs, resV, resT, Nat.reduceEqDiff, Nat.reduceAdd, Nat.reduceLeDiff, reduceCtorEq, frTs, frT, klTs, klT, frL, ownT, intT, O.adds, ownA, evO.bslRows, rowsA, over, fillA, Nat.reduceMul, klL]
  · rintro e σ ⟨e0, e3, e5, e7, s3, s5⟩
    have hlt : ¬ ((N + 2 : Nat) : Int) < most := by omega
    have c2 := sMake_ok (fill_ok hmost hx N (by omega)) (by simp [fill]; omega) hx
    rw [fill_full h6 hk N (by omega)] at c2
    have c4 := sMake_ok (x := ⟨1, 0, 0, [], [], []⟩) (fill_ok hmost hx N (by omega)) (by simp [fill]; omega) ⟨by decide, by decide, by decide, by decide, by decide, by decide, by decide, by decide⟩
    have e4 : makeR (fill most x N) ⟨1, 0, 0, [], [], []⟩ = (fill most x N, 0, 122) := by unfold makeR; rw [if_pos (.inl (.inr rfl))]
    rw [e4] at c4
    have hw0 : IntKind.i64.wrap (most - 1) = ((N + 1 : Nat) : Int) := by rw [wrap_in _ (by omega)]; omega
    simp only [encTIE, encT, encN, List.map_cons, List.map_nil] at s3 s5 c2 c4
    simp only [F10b0, e0, e3, e5, e7, s3, s5, hlt, c2, c4, hw0, false_iff, true_iff, RB_t, RB_f, RB_b, List.getElem?_cons_zero, List.getElem?_cons_succ, List.set_cons_succ, frV, klV, Nat.reduceLT, Nat.reduceSub, eqCells, encT, encN, encP, encA, allP, allA, allN, spN, Nat.reduceBEq, Int.toNat_natCast, evI_wr, wrOk, keysT, keysA, ne_eq, not_false_eq_true, fxa, fxc, if_true, if_false, ite_self, spS, LQ_norm, LQ_exit, LQ_ret, evO, evR, cellsT, ldCells, mkT, lenA, binPV, Env.init, resVs, resV, resT, Nat.reduceEqDiff, Nat.reduceAdd, Nat.reduceLeDiff, reduceCtorEq, frTs, frT, klTs, klT, frL, ownT, intT, O.adds, ownA, evO.bslRows, rowsA, over, fillA, Nat.reduceMul, klL]
    refine loop_nat N (fun q e σ => e 5 = .a (.ptr (5, 1) 0 0) ∧ e 13 = .a (.p (.i .i64 121)) ∧ e 16 = .a (.p (.i .i64 122)) ∧ e 17 = .a (.p (.i .i64 ((N + 1 - q : Nat) : Int))) ∧ σ.bs (5, 1) = some (.var ((encT (fill most x (N - q))).map .p))) (i0 := 0) (Nat.zero_le _) ?_ ?_ ?_
    · refine ⟨?_, ?_, ?_, ?_, ?_⟩ <;> simp only [e0, e3, e5, e7, s3, s5, Nat.sub_zero, false_iff, true_iff, RB_t, RB_f, RB_b, List.getElem?_cons_zero, List.getElem?_cons_succ, List.set_cons_succ, frV, klV, Nat.reduceLT, Nat.reduceSub, eqCells, encT, encN, encP, encA, allP, allA, allN, spN, Nat.reduceBEq, Int.toNat_natCast, evI_wr, wrOk, keysT, keysA, ne_eq, not_false_eq_true, fxa, fxc, if_true, if_false, ite_self, spS, LQ_norm, LQ_exit, LQ_ret, evO, evR, cellsT, ldCells, mkT, lenA, binPV, Env.init, resVs, resV, resT, Nat.reduceEqDiff, Nat.reduceAdd, Nat.reduceLeDiff, reduceCtorEq, frTs, frT, klTs, klT, frL, ownT, intT, O.adds, ownA, evO.bslRows, rowsA, over, fillA, Nat.reduceMul, klL]
    · rintro q e σ hq ⟨e5, e13, e16, e17, s5⟩
      obtain ⟨j, hj⟩ : ∃ j, N - q = j + 1 := ⟨N - q - 1, by omega⟩
      have hj2 : N - (q + 1) = j := by omega
      have hj3 : N + 1 - q = j + 2 := by omega
      have hj4 : N + 1 - (q + 1) = j + 1 := by omega
      rw [hj] at s5
      rw [hj3] at e17
      rw [hj2, hj4]
      have c5 := sFree_ok (fill_ok hmost hx (j + 1) (by omega)) (by simp [fill]; omega) ((j + 2 : Nat) : Int)
      rw [fill_back hk j] at c5
      have hge : ((j + 2 : Nat) : Int) ≥ 2 := by omega
      have hw : IntKind.i64.wrap (((j + 2 : Nat) : Int) - 1) = ((j + 1 : Nat) : Int) := by rw [wrap_in _ (by omega)]; omega
      have hln : ((fill most x j).ns.length : Int) = ((j + 2 : Nat) : Int) := by simp [fill]; omega
      simp only [encTE, encT, List.map_cons, List.map_nil] at s5 c5
      simp only [F10b1, e5, e13, e16, e17, s5, hge, c5, hw, hln, false_iff, true_iff, RB_t, RB_f, RB_b, List.getElem?_cons_zero, List.getElem?_cons_succ, List.set_cons_succ, frV, klV, Nat.reduceLT, Nat.reduceSub, eqCells, encT, encN, encP, encA, allP, allA, allN, spN, Nat.reduceBEq, Int.toNat_natCast, evI_wr, wrOk, keysT, keysA, ne_eq, not_false_eq_true, fxa, fxc, if_true, if_false, ite_self, spS, LQ_norm, LQ_exit, LQ_ret, evO, evR, cellsT, ldCells, mkT, lenA, binPV, Env.init, resVs, resV, resT, Nat.reduceEqDiff, Nat.reduceAdd, Nat.reduceLeDiff, reduceCtorEq, frTs, frT, klTs, klT, frL, ownT, intT, O.adds, ownA, evO.bslRows, rowsA, over, fillA, Nat.reduceMul, klL]
    · rintro e σ ⟨e5, e13, e16, e17, s5⟩
      rw [Nat.sub_self] at s5
      have hge : ¬ ((N + 1 - N : Nat) : Int) ≥ 2 := by omega
      have c6 := sCheck_ok (n := fill most x 0) (newT_ok hmost)
      rw [bool_t (P := (fill most x 0).Good) (newT_good ⟨by omega, by omega⟩), if_pos rfl] at c6
      have c7 := sUsed_ok (fill_ok hmost hx 0 (by omega))
      rw [fill_used (by omega)] at c7
      simp only [encT, List.map_cons, List.map_nil] at s5 c6 c7
      simp only [F10b1, e5, e13, e16, e17, s5, hge, c6, c7, false_iff, true_iff, RB_t, RB_f, RB_b, List.getElem?_cons_zero, List.getElem?_cons_succ, List.set_cons_succ, frV, klV, Nat.reduceLT, Nat.reduceSub, eqCells, encT, encN, encP, encA, allP, allA, allN, spN, Nat.reduceBEq, Int.toNat_natCast, evI_wr, wrOk, keysT, keysA, ne_eq, not_false_eq_true, fxa, fxc, if_true, if_false, ite_self, spS, LQ_norm, LQ_exit, LQ_ret, evO, evR, cellsT, ldCells, mkT, lenA, binPV, Env.init, resVs, resV, resT, Nat.reduceEqDiff, Nat.reduceAdd, Nat.reduceLeDiff, reduceCtorEq, frTs, frT, klTs, klT, frL, ownT, intT, O.adds, ownA, evO.bslRows, rowsA, over, fillA, Nat.reduceMul, klL]
      rfl
end Go.Proofs.Ytgdaanehmdgmeaa
