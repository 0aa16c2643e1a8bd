/- The law StorePorts, as the evaluator has it. -/
import Derived.Test.YtgdaanehmdgmeaaStore5
set_option linter.unusedSimpArgs false
set_option linter.unusedVariables false
set_option maxHeartbeats 4000000
set_option maxRecDepth 10000
namespace Go.Proofs.Ytgdaanehmdgmeaa
open Go.Fx

theorem fixed12_ok : eP S 27 [] = some (.a (.b true)) := (eP_some S).2 ⟨40, by kernel_rfl⟩

instance (i : Int) : Decidable (wf i) := by unfold wf; infer_instance
theorem wf_nat {n : Nat} (h : n ≤ 9223372036854775807) : wf (n : Int) := by unfold wf; omega
theorem rootN_ok : rootN.Ok := ⟨by decide, by decide, by decide, by decide, by decide, by decide, by decide, by decide⟩
theorem failN_ok : failN.Ok := ⟨by decide, by decide, by decide, by decide, by decide, by decide, by decide, by decide⟩
theorem newT_ok {k : Int} (hk : wf k) : (newT k).Ok := ⟨by show 2 * 88 ≤ 140737488355328; decide, hk, fun x hx => by
  simp only [newT, List.mem_cons, List.not_mem_nil, or_false] at hx
  rcases hx with rfl | rfl
  · exact rootN_ok
  · exact failN_ok⟩
theorem fresh_ok {x : Nd} (hx : x.Ok) : x.fresh.Ok := by
  have hp := ports_b hx
  refine ⟨hx.k, hx.lv, hx.n, hx.s, hx.al, ?_, hx.ap, fun p h => ?_⟩
  · simp only [Nd.fresh, List.length_replicate]; omega
  · have := List.eq_of_mem_replicate h; rw [this]; decide
theorem fresh_ports {x : Nd} (hx : x.Ok) : x.fresh.ports = x.ports := by
  have hp := ports_b hx
  by_cases h8 : x.k = 8
  · have e2 : x.fresh.ports = x.fresh.to.length := by
      have h8' : x.fresh.k = 8 := h8
      unfold Nd.ports; rw [h8']; simp
    rw [e2]; simp only [Nd.fresh, List.length_replicate]; omega
  · unfold Nd.ports Nd.fresh; simp only [h8, if_false]
theorem may_ports {x : Nd} (h : x.may) (hk : 2 ≤ x.k) : 1 ≤ x.ports := by
  have h0 := h.k0
  have h1 := h.k1
  have h2 := h.to8
  unfold Nd.ports
  repeat' split
  all_goals omega
theorem make_new {x : Nd} (hm : x.may) (hk : 2 ≤ x.k) : makeR (newT 9) x = (⟨[rootN, failN, x.fresh], 9⟩, 2, 0) := by
  unfold makeR
  rw [bool_t hm, if_neg (by simp; omega)]
  rfl

theorem storePorts_law {x : Nd} (hx : x.Ok) : eP S 12 [.g (encN x)] = some (.a (.b true)) := by
  have f0 := fixed12_ok
  have a1 := RNode_ok hx
  refine x_fn (orcS (by decide)) (fc := F12) rfl rfl ?_
  by_cases h1 : (x.to.length : Int) > 20
  · simp only [F12, f0, h1, false_iff, true_iff, RB_t, RB_f, RB_b, List.getElem?_cons_zero, List.getElem?_cons_succ, List.set_cons_succ, frV, klV, Nat.reduceLT, Nat.reduceSub, eqCells, encT, encN, encP, encA, allP, allA, allN, spN, Nat.reduceBEq, Int.toNat_natCast, evI_wr, wrOk, keysT, keysA, ne_eq, not_false_eq_true, fxa, fxc, if_true, if_false, ite_self, spS, LQ_norm, LQ_exit, LQ_ret, evO, evR, cellsT, ldCells, mkT, lenA, binPV, Env.init, resVs, resV, resT, Nat.reduceEqDiff, Nat.reduceAdd, Nat.reduceLeDiff, reduceCtorEq, frTs, frT, klTs, klT, frL, ownT, intT, O.adds, ownA, evO.bslRows, rowsA, over, fillA, Nat.reduceMul, klL]
  by_cases h2 : (x.al.length : Int) > 20
  · simp only [F12, f0, h1, h2, false_iff, true_iff, RB_t, RB_f, RB_b, List.getElem?_cons_zero, List.getElem?_cons_succ, List.set_cons_succ, frV, klV, Nat.reduceLT, Nat.reduceSub, eqCells, encT, encN, encP, encA, allP, allA, allN, spN, Nat.reduceBEq, Int.toNat_natCast, evI_wr, wrOk, keysT, keysA, ne_eq, not_false_eq_true, fxa, fxc, if_true, if_false, ite_self, spS, LQ_norm, LQ_exit, LQ_ret, evO, evR, cellsT, ldCells, mkT, lenA, binPV, Env.init, resVs, resV, resT, Nat.reduceEqDiff, Nat.reduceAdd, Nat.reduceLeDiff, reduceCtorEq, frTs, frT, klTs, klT, frL, ownT, intT, O.adds, ownA, evO.bslRows, rowsA, over, fillA, Nat.reduceMul, klL]
  by_cases h3 : x.k < 2
  · simp only [F12, f0, h1, h2, h3, false_iff, true_iff, RB_t, RB_f, RB_b, List.getElem?_cons_zero, List.getElem?_cons_succ, List.set_cons_succ, frV, klV, Nat.reduceLT, Nat.reduceSub, eqCells, encT, encN, encP, encA, allP, allA, allN, spN, Nat.reduceBEq, Int.toNat_natCast, evI_wr, wrOk, keysT, keysA, ne_eq, not_false_eq_true, fxa, fxc, if_true, if_false, ite_self, spS, LQ_norm, LQ_exit, LQ_ret, evO, evR, cellsT, ldCells, mkT, lenA, binPV, Env.init, resVs, resV, resT, Nat.reduceEqDiff, Nat.reduceAdd, Nat.reduceLeDiff, reduceCtorEq, frTs, frT, klTs, klT, frL, ownT, intT, O.adds, ownA, evO.bslRows, rowsA, over, fillA, Nat.reduceMul, klL]
  by_cases h4 : x.may
  case neg =>
    rw [bool_f h4] at a1
    simp only [encN] at a1
    simp only [F12, f0, h1, h2, h3, a1, false_iff, true_iff, RB_t, RB_f, RB_b, List.getElem?_cons_zero, List.getElem?_cons_succ, List.set_cons_succ, frV, klV, Nat.reduceLT, Nat.reduceSub, eqCells, encT, encN, encP, encA, allP, allA, allN, spN, Nat.reduceBEq, Int.toNat_natCast, evI_wr, wrOk, keysT, keysA, ne_eq, not_false_eq_true, fxa, fxc, if_true, if_false, ite_self, spS, LQ_norm, LQ_exit, LQ_ret, evO, evR, cellsT, ldCells, mkT, lenA, binPV, Env.init, resVs, resV, resT, Nat.reduceEqDiff, Nat.reduceAdd, Nat.reduceLeDiff, reduceCtorEq, frTs, frT, klTs, klT, frL, ownT, intT, O.adds, ownA, evO.bslRows, rowsA, over, fillA, Nat.reduceMul, klL]
  rw [bool_t h4] at a1
  have c1 := sNew_ok 9
  have hk : 2 ≤ x.k := by omega
  have e1 : newR 9 = (newT 9, 0) := rfl
  rw [e1] at c1
  have c2 := sMake_ok (n := newT 9) (newT_ok (by decide)) (by decide) hx
  rw [make_new h4 hk] at c2
  have c3 := sPorts_ok hx
  have c4 := sPorts_ok (x := { x with lv := 0, n := 0 }) ⟨hx.k, (by decide : wf 0), (by decide : wf 0), hx.s, hx.al, hx.to, hx.ap, hx.tp⟩
  have e4 : Nd.ports { x with lv := 0, n := 0 } = x.ports := rfl
  have c5 := sPorts_ok (fresh_ok hx)
  rw [fresh_ports hx] at c5
  rw [e4] at c4
  have hp := ports_b hx
  have hp1 := may_ports h4 hk
  obtain ⟨N, hN⟩ : ∃ N : Nat, x.ports = N := ⟨x.ports.toNat, by omega⟩
  have hfr : x.fresh = ⟨x.k, x.lv, x.n, x.s, x.al, List.replicate N zP⟩ := by unfold Nd.fresh; rw [hN]; rfl
  rw [hfr] at c2 c5
  rw [hN] at c3 c4 c5 hp hp1
  have hNge : (N : Int) ≥ 1 := hp1
  have hz : newT 9 = ⟨[rootN, failN], 9⟩ := rfl
  have hrep : (List.replicate N zP).map encP = List.replicate N [.i .i64 0, .i .i64 0] := by rw [List.map_replicate]; rfl
  rw [hz] at c1 c2
  simp only [encTE, encTIE, encT, encN, rootN, failN, hrep, encP, List.map_cons, List.map_nil] at a1 c1 c2 c3 c4 c5
  simp only [F12, f0, h1, h2, h3, a1, c1, c2, Int.cast_ofNat_Int, Int.reduceEq, Int.reduceLT, Int.reduceLE, Int.reduceToNat, false_iff, true_iff, RB_t, RB_f, RB_b, List.getElem?_cons_zero, List.getElem?_cons_succ, List.set_cons_succ, frV, klV, Nat.reduceLT, Nat.reduceSub, eqCells, encT, encN, encP, encA, allP, allA, allN, spN, Nat.reduceBEq, Int.toNat_natCast, evI_wr, wrOk, keysT, keysA, ne_eq, not_false_eq_true, fxa, fxc, if_true, if_false, ite_self, spS, LQ_norm, LQ_exit, LQ_ret, evO, evR, cellsT, ldCells, mkT, lenA, binPV, Env.init, resVs, resV, resT, Nat.reduceEqDiff, Nat.reduceAdd, Nat.reduceLeDiff, reduceCtorEq, frTs, frT, klTs, klT, frL, ownT, intT, O.adds, ownA, evO.bslRows, rowsA, over, fillA, Nat.reduceMul, klL]
  have hlN : (List.replicate N [PV.i .i64 0, PV.i .i64 0]).length = N := List.length_replicate
  refine loop_nat N (fun i e σ => e 1 = .a (.ptr (1, 0) 0 0) ∧ e 8 = .a (.ptr (8, 3) 0 0) ∧ e 9 = .a (.p (.i .i64 (i : Nat))) ∧ σ.bs (1, 0) = some (.var ((encN x).map .p)) ∧
    σ.bs (8, 3) = some (.var [.p (.i .i64 x.k), .p (.i .i64 x.lv), .p (.i .i64 x.n), .p (.s x.s), .p (.l (x.al.map encA)), .p (.l (List.replicate N [.i .i64 0, .i .i64 0]))])) (i0 := 0) (Nat.zero_le _) ?_ ?_ ?_
  · refine ⟨?_, ?_, ?_, ?_, ?_⟩ <;> simp only [false_iff, true_iff, RB_t, RB_f, RB_b, List.getElem?_cons_zero, List.getElem?_cons_succ, List.set_cons_succ, frV, klV, Nat.reduceLT, Nat.reduceSub, eqCells, encT, encN, encP, encA, allP, allA, allN, spN, Nat.reduceBEq, Int.toNat_natCast, evI_wr, wrOk, keysT, keysA, ne_eq, not_false_eq_true, fxa, fxc, if_true, if_false, ite_self, spS, LQ_norm, LQ_exit, LQ_ret, evO, evR, cellsT, ldCells, mkT, lenA, binPV, Env.init, resVs, resV, resT, Nat.reduceEqDiff, Nat.reduceAdd, Nat.reduceLeDiff, reduceCtorEq, frTs, frT, klTs, klT, frL, ownT, intT, O.adds, ownA, evO.bslRows, rowsA, over, fillA, Nat.reduceMul, klL]
    all_goals rfl
  · rintro i e σ hi ⟨e1, e8, e9, s1, s8⟩
    have hlt : ((i : Nat) : Int) < (N : Int) := by omega
    have hge : (0 : Int) ≤ ((i : Nat) : Int) := by omega
    have hg : (List.replicate N [PV.i .i64 0, PV.i .i64 0])[i]? = some [PV.i .i64 0, PV.i .i64 0] := by rw [List.getElem?_replicate, if_pos hi]
    have hal2 : ((List.replicate N [PV.i .i64 0, PV.i .i64 0]).all fun r => decide (r.length = 2)) = true := by simp
    simp only [encN, List.map_cons, List.map_nil] at s1
    simp only [F12b0, e1, e8, e9, s1, s8, hlt, hge, hg, hlN, hal2, false_iff, true_iff, RB_t, RB_f, RB_b, List.getElem?_cons_zero, List.getElem?_cons_succ, List.set_cons_succ, frV, klV, Nat.reduceLT, Nat.reduceSub, eqCells, encT, encN, encP, encA, allP, allA, allN, spN, Nat.reduceBEq, Int.toNat_natCast, evI_wr, wrOk, keysT, keysA, ne_eq, not_false_eq_true, fxa, fxc, if_true, if_false, ite_self, spS, LQ_norm, LQ_exit, LQ_ret, evO, evR, cellsT, ldCells, mkT, lenA, binPV, Env.init, resVs, resV, resT, Nat.reduceEqDiff, Nat.reduceAdd, Nat.reduceLeDiff, reduceCtorEq, frTs, frT, klTs, klT, frL, ownT, intT, O.adds, ownA, evO.bslRows, rowsA, over, fillA, Nat.reduceMul, klL]
    rw [wrap_succ i (by omega)]
  · rintro e σ ⟨e1, e8, e9, s1, s8⟩
    have hlt : ¬ ((N : Nat) : Int) < (N : Int) := by omega
    simp only [encN, List.map_cons, List.map_nil] at s1
    simp only [F12b0, e1, e8, e9, s1, s8, hlt, hlN, c3, c4, c5, hNge, false_iff, true_iff, RB_t, RB_f, RB_b, List.getElem?_cons_zero, List.getElem?_cons_succ, List.set_cons_succ, frV, klV, Nat.reduceLT, Nat.reduceSub, eqCells, encT, encN, encP, encA, allP, allA, allN, spN, Nat.reduceBEq, Int.toNat_natCast, evI_wr, wrOk, keysT, keysA, ne_eq, not_false_eq_true, fxa, fxc, if_true, if_false, ite_self, spS, LQ_norm, LQ_exit, LQ_ret, evO, evR, cellsT, ldCells, mkT, lenA, binPV, Env.init, resVs, resV, resT, Nat.reduceEqDiff, Nat.reduceAdd, Nat.reduceLeDiff, reduceCtorEq, frTs, frT, klTs, klT, frL, ownT, intT, O.adds, ownA, evO.bslRows, rowsA, over, fillA, Nat.reduceMul, klL]
end Go.Proofs.Ytgdaanehmdgmeaa
