/- The law SubstTells, as the evaluator has it: true of all arguments. -/
import Derived.Test.YtlgekplmbmkcmaaSmall
set_option linter.unusedSimpArgs false
set_option linter.unusedVariables false
namespace Go.Proofs.Ytlgekplmbmkcmaa
open Go.Fx

theorem fixed_ok : eP S 17 [] = some (.a (.b true)) := (eP_some S).2 ⟨40, by kernel_rfl⟩

mutual
theorem same_refl : ∀ t : T, same t t = true
  | .mk k n s l => by simp [same, same_reflL l]
theorem same_reflL : ∀ l : List T, sameL l l = true
  | [] => rfl
  | t :: l => by simp [sameL, same_refl t, same_reflL l]
end

theorem wf_w (x : Int) : (Lit.int .i64 (w x)).wf = true := by
  simp only [w, IntKind.wrap_i64, Lit.wf, IntKind.min, IntKind.max, IntKind.bits, IntKind.signed, Bool.and_eq_true, decide_eq_true_eq]
  rw [if_pos trivial, if_pos trivial]; omega

theorem Ok_up (b : Int) {t : T} (ht : T.Ok t) : ∀ f : Int, T.Ok (up b f t) := by
  induction ht with
  | mk k n s l hk hn hs hl h ih =>
    intro f
    unfold up
    split
    · split
      · exact .mk k _ s l hk (wf_w _) hs hl h
      · exact .mk k n s l hk hn hs hl h
    · rw [upL_map]
      refine .mk k n s _ hk hn hs (by simpa using hl) fun t ht => ?_
      obtain ⟨u, hu, rfl⟩ := List.mem_map.1 ht
      exact ih u hu _

theorem Ok_put (p : Int) {u : T} (hu : T.Ok u) {t : T} (ht : T.Ok t) : ∀ b : Int, T.Ok (put p u t b) := by
  induction ht with
  | mk k n s l hk hn hs hl h ih =>
    intro b
    unfold put
    split
    · split
      · exact Ok_up b hu 0
      · split
        · exact .mk k _ s l hk (wf_w _) hs hl h
        · exact .mk k n s l hk hn hs hl h
    · rw [putL_map]
      refine .mk k n s _ hk hn hs (by simpa using hl) fun t ht => ?_
      obtain ⟨v, hv, rfl⟩ := List.mem_map.1 ht
      exact ih v hv _

theorem usesW (l : List T) (q a : Int) (h : w a = a) : w (usesL l q a) = usesL l q a := by
  have := usesL_acc 0 l q a
  rw [Int.zero_add, Int.zero_add, h] at this
  exact this
theorem uses_w (t : T) (q : Int) : w (uses t q) = uses t q := by
  obtain ⟨k, n, s, l⟩ := t
  unfold uses
  split
  · split <;> decide
  · exact usesW l _ 0 (by decide)

theorem substTells_law {t u : T} (ht : T.Ok t) (hu : T.Ok u) (b k : Int) (hb : -9223372036854775808 ≤ b ∧ b ≤ 9223372036854775807) (hk : -9223372036854775808 ≤ k ∧ k ≤ 9223372036854775807) :
    eP S 3 [.g (enc t), .g (enc u), .g [.i .i64 b, .i .i64 k]] = some (.a (.b true)) := by
  have a1 := small_ok ht 200
  have a2 := small_ok hu 200
  have a3 := tame_ok ht
  have a4 := tame_ok hu
  have a5 := fixed_ok
  have a6 := up_ok ht b k
  have a7 := subUp_ok ht b k hk
  have a8 := put_ok ht hu k
  have a9 := subPut_ok ht hu k
  have a10 := uses_ok ht k
  have a11 := subUses_ok ht k hk
  have a12 := same_ok (Ok_up b ht k) (up b k t)
  have a13 := same_ok (Ok_put k hu ht 0) (put k u t 0)
  rw [same_refl] at a12 a13
  rw [uses_w] at a11
  refine x_fn (orcS 3) (fc := F3) rfl rfl ?_
  simp only [F3, enc_len, enc_takep, enc_flat, a1, a2, a3, a4, a5, a6, a7, a8, a9, a10, a11, a12, a13, Int.cast_ofNat_Int, Int.reduceLE, Int.reduceLT, Int.reduceToNat, Int.reduceAdd, Int.reduceSub, Int.reduceNeg, x_seq, x_reg, x_skip, x_exit, x_ret, x_block, x_if, wpC_t, wpC_f, wpI_cons, wpI_nil, wpX_some, evI_any, evI_rd, evI_ad, evI_g, evG_u, evG_b, evG_tt, evG_ff, evG_tf, evG_ft, evO, evR, ev_t, ev_c, ev_f, putD_some, putD_none, put_at, cellsT, ldCells, mkT, lenA, binPV, add_bs, add_clk, add_ls, put_bs, put_clk, put_ls, kill_bs, kill_clk, kill_ls, empty_clk, empty_bs, Env.init, seqQ_norm, seqQ_exit, seqQ_ret, blkQ_norm, blkQ_exit, blkQ_ret, loopQ_norm, loopQ_exit, loopQ_ret, retP_ret, retP_norm, retE_ret, retE_norm, retS_ret, retS_norm, wpO_some, frA_fn, klA_p, klA_nil, klA_own, resVs, resV, resT, Option.bind_some, Option.bind_none, Option.map_some, List.getD_cons_zero, List.getD_cons_succ, List.getD_nil, List.length_cons, List.length_nil, List.length_map, List.map_cons, List.map_nil, List.drop_zero, List.drop_succ_cons, List.take_succ_cons, List.take_zero, List.drop_nil, List.take_nil, Nat.reduceEqDiff, Nat.reduceAdd, Nat.reduceLeDiff, Nat.zero_add, Nat.add_zero, Prod.mk.injEq, and_true, true_and, and_false, false_and, and_self, if_true, if_false, ite_true, ite_false, Bool.not_true, Bool.not_false, Bool.not_eq_true', reduceCtorEq, decide_true, decide_false, frTs, frT, frL_p, spS, ofPT_a, ofPT_g, ofPT_t, flat_i, flat_b, flat_s, flat_l, flat_g, flatp_i, flatp_b, flatp_s, flatp_l, klTs, klT, Bool.and_false, Bool.false_and, frL, frA_p, frA_nil, frA_own, ownT, intT, Bool.or_true, Bool.true_or, Bool.false_eq_true, frL_p, klL_p, ownT_p, O.adds, List.all_cons, List.all_nil, List.any_cons, List.any_nil, ownA, evO.bslRows, List.replicate_succ, List.replicate_zero, List.set_cons_zero, rowsA, over, List.cons_append, List.nil_append, List.append_nil, fillA, Bool.and_self, Bool.and_true, Bool.true_and, Bool.or_self, Bool.or_false, Bool.false_or, Nat.reduceMul, Nat.one_mul, Nat.lt_add_one, klL, Nat.le_refl, ite_self]
  iterate 8
    all_goals try (refine wpX_bsplit (fun h => ?_) (fun h => ?_) <;> simp only [h, enc_len, enc_takep, enc_flat, a1, a2, a3, a4, a5, a6, a7, a8, a9, a10, a11, a12, a13, Int.cast_ofNat_Int, Int.reduceLE, Int.reduceLT, Int.reduceToNat, Int.reduceAdd, Int.reduceSub, Int.reduceNeg, x_seq, x_reg, x_skip, x_exit, x_ret, x_block, x_if, wpC_t, wpC_f, wpI_cons, wpI_nil, wpX_some, evI_any, evI_rd, evI_ad, evI_g, evG_u, evG_b, evG_tt, evG_ff, evG_tf, evG_ft, evO, evR, ev_t, ev_c, ev_f, putD_some, putD_none, put_at, cellsT, ldCells, mkT, lenA, binPV, add_bs, add_clk, add_ls, put_bs, put_clk, put_ls, kill_bs, kill_clk, kill_ls, empty_clk, empty_bs, Env.init, seqQ_norm, seqQ_exit, seqQ_ret, blkQ_norm, blkQ_exit, blkQ_ret, loopQ_norm, loopQ_exit, loopQ_ret, retP_ret, retP_norm, retE_ret, retE_norm, retS_ret, retS_norm, wpO_some, frA_fn, klA_p, klA_nil, klA_own, resVs, resV, resT, Option.bind_some, Option.bind_none, Option.map_some, List.getD_cons_zero, List.getD_cons_succ, List.getD_nil, List.length_cons, List.length_nil, List.length_map, List.map_cons, List.map_nil, List.drop_zero, List.drop_succ_cons, List.take_succ_cons, List.take_zero, List.drop_nil, List.take_nil, Nat.reduceEqDiff, Nat.reduceAdd, Nat.reduceLeDiff, Nat.zero_add, Nat.add_zero, Prod.mk.injEq, and_true, true_and, and_false, false_and, and_self, if_true, if_false, ite_true, ite_false, Bool.not_true, Bool.not_false, Bool.not_eq_true', reduceCtorEq, decide_true, decide_false, frTs, frT, frL_p, spS, ofPT_a, ofPT_g, ofPT_t, flat_i, flat_b, flat_s, flat_l, flat_g, flatp_i, flatp_b, flatp_s, flatp_l, klTs, klT, Bool.and_false, Bool.false_and, frL, frA_p, frA_nil, frA_own, ownT, intT, Bool.or_true, Bool.true_or, Bool.false_eq_true, frL_p, klL_p, ownT_p, O.adds, List.all_cons, List.all_nil, List.any_cons, List.any_nil, ownA, evO.bslRows, List.replicate_succ, List.replicate_zero, List.set_cons_zero, rowsA, over, List.cons_append, List.nil_append, List.append_nil, fillA, Bool.and_self, Bool.and_true, Bool.true_and, Bool.or_self, Bool.or_false, Bool.false_or, Nat.reduceMul, Nat.one_mul, Nat.lt_add_one, klL, Nat.le_refl, ite_self])
  refine wpC_split (fun h => ?_) (fun h => ?_) <;> simp only [h, enc_len, enc_takep, enc_flat, a1, a2, a3, a4, a5, a6, a7, a8, a9, a10, a11, a12, a13, Int.cast_ofNat_Int, Int.reduceLE, Int.reduceLT, Int.reduceToNat, Int.reduceAdd, Int.reduceSub, Int.reduceNeg, x_seq, x_reg, x_skip, x_exit, x_ret, x_block, x_if, wpC_t, wpC_f, wpI_cons, wpI_nil, wpX_some, evI_any, evI_rd, evI_ad, evI_g, evG_u, evG_b, evG_tt, evG_ff, evG_tf, evG_ft, evO, evR, ev_t, ev_c, ev_f, putD_some, putD_none, put_at, cellsT, ldCells, mkT, lenA, binPV, add_bs, add_clk, add_ls, put_bs, put_clk, put_ls, kill_bs, kill_clk, kill_ls, empty_clk, empty_bs, Env.init, seqQ_norm, seqQ_exit, seqQ_ret, blkQ_norm, blkQ_exit, blkQ_ret, loopQ_norm, loopQ_exit, loopQ_ret, retP_ret, retP_norm, retE_ret, retE_norm, retS_ret, retS_norm, wpO_some, frA_fn, klA_p, klA_nil, klA_own, resVs, resV, resT, Option.bind_some, Option.bind_none, Option.map_some, List.getD_cons_zero, List.getD_cons_succ, List.getD_nil, List.length_cons, List.length_nil, List.length_map, List.map_cons, List.map_nil, List.drop_zero, List.drop_succ_cons, List.take_succ_cons, List.take_zero, List.drop_nil, List.take_nil, Nat.reduceEqDiff, Nat.reduceAdd, Nat.reduceLeDiff, Nat.zero_add, Nat.add_zero, Prod.mk.injEq, and_true, true_and, and_false, false_and, and_self, if_true, if_false, ite_true, ite_false, Bool.not_true, Bool.not_false, Bool.not_eq_true', reduceCtorEq, decide_true, decide_false, frTs, frT, frL_p, spS, ofPT_a, ofPT_g, ofPT_t, flat_i, flat_b, flat_s, flat_l, flat_g, flatp_i, flatp_b, flatp_s, flatp_l, klTs, klT, Bool.and_false, Bool.false_and, frL, frA_p, frA_nil, frA_own, ownT, intT, Bool.or_true, Bool.true_or, Bool.false_eq_true, frL_p, klL_p, ownT_p, O.adds, List.all_cons, List.all_nil, List.any_cons, List.any_nil, ownA, evO.bslRows, List.replicate_succ, List.replicate_zero, List.set_cons_zero, rowsA, over, List.cons_append, List.nil_append, List.append_nil, fillA, Bool.and_self, Bool.and_true, Bool.true_and, Bool.or_self, Bool.or_false, Bool.false_or, Nat.reduceMul, Nat.one_mul, Nat.lt_add_one, klL, Nat.le_refl, ite_self]

end Go.Proofs.Ytlgekplmbmkcmaa
