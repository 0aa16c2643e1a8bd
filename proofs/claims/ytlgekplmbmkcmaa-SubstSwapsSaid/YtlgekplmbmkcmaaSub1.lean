/- Moving up, by the program's own walk: the same as by the document's answer. -/
import Derived.Test.YtlgekplmbmkcmaaTurn
set_option linter.unusedSimpArgs false
set_option linter.unusedVariables false
namespace Go.Proofs.Ytlgekplmbmkcmaa
open Go.Fx

theorem w_left (x y : Int) : w (w x + y) = w (x + y) := by simp only [w, IntKind.wrap_i64]; omega
theorem w_right (x y : Int) : w (x + w y) = w (x + y) := by simp only [w, IntKind.wrap_i64]; omega
theorem w_id (x : Int) (h : -9223372036854775808 ≤ x ∧ x ≤ 9223372036854775807) : w x = x := wrap_in x h

def T.moved (v : T) (b : Int) : T := .mk v.k (w (v.n + b)) v.s v.l

theorem copied_ok (v : T) (b : Int) : eP S 53 [.g (enc v), .a (.i .i64 b)] = some (.g (enc (v.moved b))) := by
  obtain ⟨k, n, s, l⟩ := v
  refine x_fn (orcS 53) (fc := F53) rfl rfl ?_
  simp only [F53, enc, encL_map, T.moved, T.k, T.n, T.s, T.l, x_seq, x_reg, x_skip, x_exit, x_ret, x_block, x_if, wpC_t, wpC_f, wpI_cons, wpI_nil, wpX_some, evI_any, evI_rd, evI_ad, evI_g, evG_u, evG_b, evG_tt, evG_ff, evG_tf, evG_ft, evO, evR, ev_t, ev_c, ev_f, putD_some, putD_none, put_at, cellsT, ldCells, mkT, lenA, binPV, add_bs, add_clk, add_ls, put_bs, put_clk, put_ls, kill_bs, kill_clk, kill_ls, empty_clk, empty_bs, Env.init, seqQ_norm, seqQ_exit, seqQ_ret, blkQ_norm, blkQ_exit, blkQ_ret, loopQ_norm, loopQ_exit, loopQ_ret, retP_ret, retP_norm, retE_ret, retE_norm, retS_ret, retS_norm, wpO_some, frA_fn, klA_p, klA_nil, klA_own, resVs, resV, resT, Option.bind_some, Option.bind_none, Option.map_some, List.getD_cons_zero, List.getD_cons_succ, List.getD_nil, List.length_cons, List.length_nil, List.length_map, List.map_cons, List.map_nil, List.drop_zero, List.drop_succ_cons, List.take_succ_cons, List.take_zero, List.drop_nil, List.take_nil, Nat.reduceEqDiff, Nat.reduceAdd, Nat.reduceLeDiff, Nat.zero_add, Nat.add_zero, Prod.mk.injEq, and_true, true_and, and_false, false_and, and_self, if_true, if_false, ite_true, ite_false, Bool.not_true, Bool.not_false, Bool.not_eq_true', reduceCtorEq, decide_true, decide_false, frTs, frT, frL_p, spS, ofPT_a, ofPT_g, ofPT_t, flat_i, flat_b, flat_s, flat_l, flat_g, flatp_i, flatp_b, flatp_s, flatp_l, klTs, klT, Bool.and_false, Bool.false_and, frL, frA_p, frA_nil, frA_own, ownT, intT, Bool.or_true, Bool.true_or, Bool.false_eq_true, frL_p, klL_p, ownT_p, O.adds, List.all_cons, List.all_nil, List.any_cons, List.any_nil, ownA, evO.bslRows, List.replicate_succ, List.replicate_zero, List.set_cons_zero, rowsA, over, List.cons_append, List.nil_append, List.append_nil, fillA, Bool.and_self, Bool.and_true, Bool.true_and, Bool.or_self, Bool.or_false, Bool.false_or, Nat.reduceMul, Nat.one_mul, Nat.lt_add_one, klL, Nat.le_refl, ite_self]

def stepUp (b f : Int) (a : Unit) (v : T) (q : Int) : T × Unit := (if v.n ≥ w (f + q) then v.moved b else v, a)

def RUp (b f : Int) (_ : Unit) (σ : St) : Prop := σ.bs (5, 2) = some (.var [.p (.i .i64 f)]) ∧ σ.bs (4, 1) = some (.var [.p (.i .i64 b)])

theorem cloUp (b f : Int) : Clo (stepUp b f) 3 52 [(5, 2), (4, 1)] (RUp b f) where
  ne := by simp
  stable a σ σ' h hs := ⟨by rw [hs _ (by simp)]; exact h.1, by rw [hs _ (by simp)]; exact h.2⟩
  call a v q σ hv hok hR hc := by
    obtain ⟨h5, h4⟩ := hR
    obtain ⟨k, n, s, l⟩ := v
    have hcp := copied_ok (.mk k n s l) b
    simp only [enc, encL_map] at hcp
    have hne : ∀ s : Key, s.2 < σ.clk → ∀ d k, ¬ s = (d, σ.clk + k) := by rintro s hs d k rfl; simp at hs; omega
    have hne0 : ∀ s : Key, s.2 < σ.clk → ∀ d, ¬ s = (d, σ.clk) := by rintro s hs d rfl; simp at hs
    have hc1 : ¬ 1 = σ.clk := by omega
    have hc2 : ¬ 2 = σ.clk := by omega
    refine x_fnS (fc := F52) rfl rfl ?_
    simp only [F52, enc, encL_map, h4, h5, x_seq, x_reg, x_skip, x_exit, x_ret, x_block, x_if, wpC_t, wpC_f, wpI_cons, wpI_nil, wpX_some, evI_any, evI_rd, evI_ad, evI_g, evG_u, evG_b, evG_tt, evG_ff, evG_tf, evG_ft, evO, evR, ev_t, ev_c, ev_f, putD_some, putD_none, put_at, cellsT, ldCells, mkT, lenA, binPV, add_bs, add_clk, add_ls, put_bs, put_clk, put_ls, kill_bs, kill_clk, kill_ls, empty_clk, empty_bs, Env.init, seqQ_norm, seqQ_exit, seqQ_ret, blkQ_norm, blkQ_exit, blkQ_ret, loopQ_norm, loopQ_exit, loopQ_ret, retP_ret, retP_norm, retE_ret, retE_norm, retS_ret, retS_norm, wpO_some, frA_fn, klA_p, klA_nil, klA_own, resVs, resV, resT, Option.bind_some, Option.bind_none, Option.map_some, List.getD_cons_zero, List.getD_cons_succ, List.getD_nil, List.length_cons, List.length_nil, List.length_map, List.map_cons, List.map_nil, List.drop_zero, List.drop_succ_cons, List.take_succ_cons, List.take_zero, List.drop_nil, List.take_nil, Nat.reduceEqDiff, Nat.reduceAdd, Nat.reduceLeDiff, Nat.zero_add, Nat.add_zero, Prod.mk.injEq, and_true, true_and, and_false, false_and, and_self, if_true, if_false, ite_true, ite_false, Bool.not_true, Bool.not_false, Bool.not_eq_true', reduceCtorEq, decide_true, decide_false, frTs, frT, frL_p, spS, ofPT_a, ofPT_g, ofPT_t, flat_i, flat_b, flat_s, flat_l, flat_g, flatp_i, flatp_b, flatp_s, flatp_l, klTs, klT, Bool.and_false, Bool.false_and, frL, frA_p, frA_nil, frA_own, ownT, intT, Bool.or_true, Bool.true_or, Bool.false_eq_true, frL_p, klL_p, ownT_p, O.adds, List.all_cons, List.all_nil, List.any_cons, List.any_nil, ownA, evO.bslRows, List.replicate_succ, List.replicate_zero, List.set_cons_zero, rowsA, over, List.cons_append, List.nil_append, List.append_nil, fillA, Bool.and_self, Bool.and_true, Bool.true_and, Bool.or_self, Bool.or_false, Bool.false_or, Nat.reduceMul, Nat.one_mul, Nat.lt_add_one, klL, Nat.le_refl, ite_self]
    refine wpC_split (fun h1 => ?_) (fun h1 => ?_)
    · have e : stepUp b f a (.mk k n s l) q = (.mk k (w (n + b)) s l, a) := by
        have : n ≥ w (f + q) := by simpa using h1
        show ((if n ≥ w (f + q) then T.moved (.mk k n s l) b else T.mk k n s l), a) = _
        rw [if_pos this]; rfl
      rw [e]
      simp only [h1, h4, h5, hc1, hc2, hcp, enc, encL_map, T.moved, T.k, T.n, T.s, T.l, x_seq, x_reg, x_skip, x_exit, x_ret, x_block, x_if, wpC_t, wpC_f, wpI_cons, wpI_nil, wpX_some, evI_any, evI_rd, evI_ad, evI_g, evG_u, evG_b, evG_tt, evG_ff, evG_tf, evG_ft, evO, evR, ev_t, ev_c, ev_f, putD_some, putD_none, put_at, cellsT, ldCells, mkT, lenA, binPV, add_bs, add_clk, add_ls, put_bs, put_clk, put_ls, kill_bs, kill_clk, kill_ls, empty_clk, empty_bs, Env.init, seqQ_norm, seqQ_exit, seqQ_ret, blkQ_norm, blkQ_exit, blkQ_ret, loopQ_norm, loopQ_exit, loopQ_ret, retP_ret, retP_norm, retE_ret, retE_norm, retS_ret, retS_norm, wpO_some, frA_fn, klA_p, klA_nil, klA_own, resVs, resV, resT, Option.bind_some, Option.bind_none, Option.map_some, List.getD_cons_zero, List.getD_cons_succ, List.getD_nil, List.length_cons, List.length_nil, List.length_map, List.map_cons, List.map_nil, List.drop_zero, List.drop_succ_cons, List.take_succ_cons, List.take_zero, List.drop_nil, List.take_nil, Nat.reduceEqDiff, Nat.reduceAdd, Nat.reduceLeDiff, Nat.zero_add, Nat.add_zero, Prod.mk.injEq, and_true, true_and, and_false, false_and, and_self, if_true, if_false, ite_true, ite_false, Bool.not_true, Bool.not_false, Bool.not_eq_true', reduceCtorEq, decide_true, decide_false, frTs, frT, frL_p, spS, ofPT_a, ofPT_g, ofPT_t, flat_i, flat_b, flat_s, flat_l, flat_g, flatp_i, flatp_b, flatp_s, flatp_l, klTs, klT, Bool.and_false, Bool.false_and, frL, frA_p, frA_nil, frA_own, ownT, intT, Bool.or_true, Bool.true_or, Bool.false_eq_true, frL_p, klL_p, ownT_p, O.adds, List.all_cons, List.all_nil, List.any_cons, List.any_nil, ownA, evO.bslRows, List.replicate_succ, List.replicate_zero, List.set_cons_zero, rowsA, over, List.cons_append, List.nil_append, List.append_nil, fillA, Bool.and_self, Bool.and_true, Bool.true_and, Bool.or_self, Bool.or_false, Bool.false_or, Nat.reduceMul, Nat.one_mul, Nat.lt_add_one, klL, Nat.le_refl, ite_self]
      refine ⟨⟨_, rfl, rfl, by simp [keysA]⟩, ⟨?_, ?_⟩, ?_, ?_, fun s' h1 h2 => ?_⟩
      · simp only [put_bs, add_bs, add_clk, hne (5, 2) (by simp; omega), hne0 (5, 2) (by simp; omega), if_false]; exact h5
      · simp only [put_bs, add_bs, add_clk, hne (4, 1) (by simp; omega), hne0 (4, 1) (by simp; omega), if_false]; exact h4
      · simp only [put_clk, add_clk]; omega
      · rfl
      · simp only [put_bs, add_bs, add_clk, hne s' h2, hne0 s' h2, if_false]
    · have e : stepUp b f a (.mk k n s l) q = (.mk k n s l, a) := by
        have : ¬ n ≥ w (f + q) := by simpa using h1
        show ((if n ≥ w (f + q) then T.moved (.mk k n s l) b else T.mk k n s l), a) = _
        rw [if_neg this]
      rw [e]
      simp only [h1, h4, h5, hc1, hc2, enc, encL_map, T.moved, T.k, T.n, T.s, T.l, x_seq, x_reg, x_skip, x_exit, x_ret, x_block, x_if, wpC_t, wpC_f, wpI_cons, wpI_nil, wpX_some, evI_any, evI_rd, evI_ad, evI_g, evG_u, evG_b, evG_tt, evG_ff, evG_tf, evG_ft, evO, evR, ev_t, ev_c, ev_f, putD_some, putD_none, put_at, cellsT, ldCells, mkT, lenA, binPV, add_bs, add_clk, add_ls, put_bs, put_clk, put_ls, kill_bs, kill_clk, kill_ls, empty_clk, empty_bs, Env.init, seqQ_norm, seqQ_exit, seqQ_ret, blkQ_norm, blkQ_exit, blkQ_ret, loopQ_norm, loopQ_exit, loopQ_ret, retP_ret, retP_norm, retE_ret, retE_norm, retS_ret, retS_norm, wpO_some, frA_fn, klA_p, klA_nil, klA_own, resVs, resV, resT, Option.bind_some, Option.bind_none, Option.map_some, List.getD_cons_zero, List.getD_cons_succ, List.getD_nil, List.length_cons, List.length_nil, List.length_map, List.map_cons, List.map_nil, List.drop_zero, List.drop_succ_cons, List.take_succ_cons, List.take_zero, List.drop_nil, List.take_nil, Nat.reduceEqDiff, Nat.reduceAdd, Nat.reduceLeDiff, Nat.zero_add, Nat.add_zero, Prod.mk.injEq, and_true, true_and, and_false, false_and, and_self, if_true, if_false, ite_true, ite_false, Bool.not_true, Bool.not_false, Bool.not_eq_true', reduceCtorEq, decide_true, decide_false, frTs, frT, frL_p, spS, ofPT_a, ofPT_g, ofPT_t, flat_i, flat_b, flat_s, flat_l, flat_g, flatp_i, flatp_b, flatp_s, flatp_l, klTs, klT, Bool.and_false, Bool.false_and, frL, frA_p, frA_nil, frA_own, ownT, intT, Bool.or_true, Bool.true_or, Bool.false_eq_true, frL_p, klL_p, ownT_p, O.adds, List.all_cons, List.all_nil, List.any_cons, List.any_nil, ownA, evO.bslRows, List.replicate_succ, List.replicate_zero, List.set_cons_zero, rowsA, over, List.cons_append, List.nil_append, List.append_nil, fillA, Bool.and_self, Bool.and_true, Bool.true_and, Bool.or_self, Bool.or_false, Bool.false_or, Nat.reduceMul, Nat.one_mul, Nat.lt_add_one, klL, Nat.le_refl, ite_self]
      refine ⟨⟨_, rfl, rfl, by simp [keysA]⟩, ⟨?_, ?_⟩, ?_, ?_, fun s' h1 h2 => ?_⟩
      · simp only [put_bs, add_bs, add_clk, hne (5, 2) (by simp; omega), hne0 (5, 2) (by simp; omega), if_false]; exact h5
      · simp only [put_bs, add_bs, add_clk, hne (4, 1) (by simp; omega), hne0 (4, 1) (by simp; omega), if_false]; exact h4
      · simp only [put_clk, add_clk]; omega
      · rfl
      · simp only [put_bs, add_bs, add_clk, hne s' h2, hne0 s' h2, if_false]

mutual
theorem turn_up (b f : Int) : ∀ (t : T) (q : Int), (turn (stepUp b f) t q ()).1 = up b (w (f + q)) t
  | .mk k n s l, q => by
    unfold turn up
    split
    · rename_i hk
      show (if n ≥ w (f + q) then T.moved (.mk k n s l) b else T.mk k n s l) = _
      rfl
    · rename_i hk
      have hm : w (w (f + q) + T.more (.mk k n s l)) = w (f + (if k = 2 then w (q + 1) else if k = 6 then w (q + n) else q)) := by
        show w (w (f + q) + (if k = 2 then 1 else if k = 6 then n else 0)) = _
        by_cases h2 : k = 2
        · rw [if_pos h2, if_pos h2, w_left, w_right]; congr 1; omega
        · rw [if_neg h2, if_neg h2]
          by_cases h6 : k = 6
          · rw [if_pos h6, if_pos h6, w_left, w_right]; congr 1; omega
          · rw [if_neg h6, if_neg h6, Int.add_zero, w_id (w (f + q)) (by simp only [w, IntKind.wrap_i64]; omega)]
      simp only [hm, turn_upL b f l]
theorem turn_upL (b f : Int) : ∀ (l : List T) (q : Int), (turnL (stepUp b f) l q ()).1 = upL b (w (f + q)) l
  | [], q => rfl
  | t :: l, q => by simp only [turnL, upL, turn_up b f t, turn_upL b f l]
end

theorem subUp_ok {t : T} (ht : T.Ok t) (b f : Int) (hf : -9223372036854775808 ≤ f ∧ f ≤ 9223372036854775807) : eP S 19 [.g (enc t), .a (.i .i64 b), .a (.i .i64 f)] = some (.g (enc (up b f t))) := by
  have hlem := turn_up b f t 0
  rw [Int.add_zero, w_id f hf] at hlem
  refine x_fn (orcS 19) (fc := F19) rfl rfl ?_
  obtain ⟨tv, σ2, hcall, ⟨X, rfl, hX, hkk⟩, hR2, hG1, hG2, hG3⟩ := turn_ok (cloUp b f) ht () 0 ((((St.empty.add 3 (.var ((enc t).map .p))).add 4 (.var [.p (.i .i64 b)])).add 5 (.var [.p (.i .i64 f)])).add 6 (.var [.p (.i .i64 0), .p (.i .i64 0), .p (.s []), .nil]))
    ⟨by simp [add_bs, add_clk, empty_clk], by simp [add_bs, add_clk, empty_clk]⟩ (by simp [add_clk, empty_clk])
  have h6 := hG3 (6, 3) (by simp) (by simp [add_clk, empty_clk])
  simp only [x_seq, x_reg, x_skip, x_exit, x_ret, x_block, x_if, wpC_t, wpC_f, wpI_cons, wpI_nil, wpX_some, evI_any, evI_rd, evI_ad, evI_g, evG_u, evG_b, evG_tt, evG_ff, evG_tf, evG_ft, evO, evR, ev_t, ev_c, ev_f, putD_some, putD_none, put_at, cellsT, ldCells, mkT, lenA, binPV, add_bs, add_clk, add_ls, put_bs, put_clk, put_ls, kill_bs, kill_clk, kill_ls, empty_clk, empty_bs, Env.init, seqQ_norm, seqQ_exit, seqQ_ret, blkQ_norm, blkQ_exit, blkQ_ret, loopQ_norm, loopQ_exit, loopQ_ret, retP_ret, retP_norm, retE_ret, retE_norm, retS_ret, retS_norm, wpO_some, frA_fn, klA_p, klA_nil, klA_own, resVs, resV, resT, Option.bind_some, Option.bind_none, Option.map_some, List.getD_cons_zero, List.getD_cons_succ, List.getD_nil, List.length_cons, List.length_nil, List.length_map, List.map_cons, List.map_nil, List.drop_zero, List.drop_succ_cons, List.take_succ_cons, List.take_zero, List.drop_nil, List.take_nil, Nat.reduceEqDiff, Nat.reduceAdd, Nat.reduceLeDiff, Nat.zero_add, Nat.add_zero, Prod.mk.injEq, and_true, true_and, and_false, false_and, and_self, if_true, if_false, ite_true, ite_false, Bool.not_true, Bool.not_false, Bool.not_eq_true', reduceCtorEq, decide_true, decide_false, frTs, frT, frL_p, spS, ofPT_a, ofPT_g, ofPT_t, flat_i, flat_b, flat_s, flat_l, flat_g, flatp_i, flatp_b, flatp_s, flatp_l, klTs, klT, Bool.and_false, Bool.false_and, frL, frA_p, frA_nil, frA_own, ownT, intT, Bool.or_true, Bool.true_or, Bool.false_eq_true, frL_p, klL_p, ownT_p, O.adds, List.all_cons, List.all_nil, List.any_cons, List.any_nil, ownA, evO.bslRows, List.replicate_succ, List.replicate_zero, List.set_cons_zero, rowsA, over, List.cons_append, List.nil_append, List.append_nil, fillA, Bool.and_self, Bool.and_true, Bool.true_and, Bool.or_self, Bool.or_false, Bool.false_or, Nat.reduceMul, Nat.one_mul, Nat.lt_add_one, klL, Nat.le_refl, ite_self] at h6
  simp only [F19, enc_len, enc_takep, capsOf, x_seq, x_reg, x_skip, x_exit, x_ret, x_block, x_if, wpC_t, wpC_f, wpI_cons, wpI_nil, wpX_some, evI_any, evI_rd, evI_ad, evI_g, evG_u, evG_b, evG_tt, evG_ff, evG_tf, evG_ft, evO, evR, ev_t, ev_c, ev_f, putD_some, putD_none, put_at, cellsT, ldCells, mkT, lenA, binPV, add_bs, add_clk, add_ls, put_bs, put_clk, put_ls, kill_bs, kill_clk, kill_ls, empty_clk, empty_bs, Env.init, seqQ_norm, seqQ_exit, seqQ_ret, blkQ_norm, blkQ_exit, blkQ_ret, loopQ_norm, loopQ_exit, loopQ_ret, retP_ret, retP_norm, retE_ret, retE_norm, retS_ret, retS_norm, wpO_some, frA_fn, klA_p, klA_nil, klA_own, resVs, resV, resT, Option.bind_some, Option.bind_none, Option.map_some, List.getD_cons_zero, List.getD_cons_succ, List.getD_nil, List.length_cons, List.length_nil, List.length_map, List.map_cons, List.map_nil, List.drop_zero, List.drop_succ_cons, List.take_succ_cons, List.take_zero, List.drop_nil, List.take_nil, Nat.reduceEqDiff, Nat.reduceAdd, Nat.reduceLeDiff, Nat.zero_add, Nat.add_zero, Prod.mk.injEq, and_true, true_and, and_false, false_and, and_self, if_true, if_false, ite_true, ite_false, Bool.not_true, Bool.not_false, Bool.not_eq_true', reduceCtorEq, decide_true, decide_false, frTs, frT, frL_p, spS, ofPT_a, ofPT_g, ofPT_t, flat_i, flat_b, flat_s, flat_l, flat_g, flatp_i, flatp_b, flatp_s, flatp_l, klTs, klT, Bool.and_false, Bool.false_and, frL, frA_p, frA_nil, frA_own, ownT, intT, Bool.or_true, Bool.true_or, Bool.false_eq_true, frL_p, klL_p, ownT_p, O.adds, List.all_cons, List.all_nil, List.any_cons, List.any_nil, ownA, evO.bslRows, List.replicate_succ, List.replicate_zero, List.set_cons_zero, rowsA, over, List.cons_append, List.nil_append, List.append_nil, fillA, Bool.and_self, Bool.and_true, Bool.true_and, Bool.or_self, Bool.or_false, Bool.false_or, Nat.reduceMul, Nat.one_mul, Nat.lt_add_one, klL, Nat.le_refl, ite_self]
  simp only [hcall, h6, frA_put_var h6, hX, hlem, x_seq, x_reg, x_skip, x_exit, x_ret, x_block, x_if, wpC_t, wpC_f, wpI_cons, wpI_nil, wpX_some, evI_any, evI_rd, evI_ad, evI_g, evG_u, evG_b, evG_tt, evG_ff, evG_tf, evG_ft, evO, evR, ev_t, ev_c, ev_f, putD_some, putD_none, put_at, cellsT, ldCells, mkT, lenA, binPV, add_bs, add_clk, add_ls, put_bs, put_clk, put_ls, kill_bs, kill_clk, kill_ls, empty_clk, empty_bs, Env.init, seqQ_norm, seqQ_exit, seqQ_ret, blkQ_norm, blkQ_exit, blkQ_ret, loopQ_norm, loopQ_exit, loopQ_ret, retP_ret, retP_norm, retE_ret, retE_norm, retS_ret, retS_norm, wpO_some, frA_fn, klA_p, klA_nil, klA_own, resVs, resV, resT, Option.bind_some, Option.bind_none, Option.map_some, List.getD_cons_zero, List.getD_cons_succ, List.getD_nil, List.length_cons, List.length_nil, List.length_map, List.map_cons, List.map_nil, List.drop_zero, List.drop_succ_cons, List.take_succ_cons, List.take_zero, List.drop_nil, List.take_nil, Nat.reduceEqDiff, Nat.reduceAdd, Nat.reduceLeDiff, Nat.zero_add, Nat.add_zero, Prod.mk.injEq, and_true, true_and, and_false, false_and, and_self, if_true, if_false, ite_true, ite_false, Bool.not_true, Bool.not_false, Bool.not_eq_true', reduceCtorEq, decide_true, decide_false, frTs, frT, frL_p, spS, ofPT_a, ofPT_g, ofPT_t, flat_i, flat_b, flat_s, flat_l, flat_g, flatp_i, flatp_b, flatp_s, flatp_l, klTs, klT, Bool.and_false, Bool.false_and, frL, frA_p, frA_nil, frA_own, ownT, intT, Bool.or_true, Bool.true_or, Bool.false_eq_true, frL_p, klL_p, ownT_p, O.adds, List.all_cons, List.all_nil, List.any_cons, List.any_nil, ownA, evO.bslRows, List.replicate_succ, List.replicate_zero, List.set_cons_zero, rowsA, over, List.cons_append, List.nil_append, List.append_nil, fillA, Bool.and_self, Bool.and_true, Bool.true_and, Bool.or_self, Bool.or_false, Bool.false_or, Nat.reduceMul, Nat.one_mul, Nat.lt_add_one, klL, Nat.le_refl, ite_self]
  rw [enc_eq]

end Go.Proofs.Ytlgekplmbmkcmaa
