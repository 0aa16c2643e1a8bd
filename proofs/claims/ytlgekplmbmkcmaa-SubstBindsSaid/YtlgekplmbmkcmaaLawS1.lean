/- The laws SubstSwaps, SubstUses, SubstUps, SubstBinds, as the evaluator has them: true of all arguments. -/
import Derived.Test.YtlgekplmbmkcmaaDeb2
set_option linter.unusedSimpArgs false
set_option linter.unusedVariables false
namespace Go.Proofs.Ytlgekplmbmkcmaa
open Go.Fx

theorem May_ok {t : T} (ht : T.Ok t) (f : Int) : eP S 27 [.g (enc t), .a (.i .i64 f)] = some (.a (.b (may t f false))) := by
  have h := may_ok ht f false
  refine x_fn (orcS 27) (fc := F27) rfl rfl ?_
  simp only [F27, enc_len, enc_takep, enc_flat, h, x_seq, x_reg, x_skip, x_exit, x_ret, x_block, x_if, wpC_t, wpC_f, wpI_cons, wpI_nil, wpX_some, evI_any, evI_rd, evI_ad, evI_g, evG_u, evG_b, evG_tt, evG_ff, evG_tf, evG_ft, evO, evR, ev_t, ev_c, ev_f, putD_some, putD_none, put_at, cellsT, ldCells, mkT, lenA, binPV, add_bs, add_clk, add_ls, put_bs, put_clk, put_ls, kill_bs, kill_clk, kill_ls, empty_clk, empty_bs, Env.init, seqQ_norm, seqQ_exit, seqQ_ret, blkQ_norm, blkQ_exit, blkQ_ret, loopQ_norm, loopQ_exit, loopQ_ret, retP_ret, retP_norm, retE_ret, retE_norm, retS_ret, retS_norm, wpO_some, frA_fn, klA_p, klA_nil, klA_own, resVs, resV, resT, Option.bind_some, Option.bind_none, Option.map_some, List.getD_cons_zero, List.getD_cons_succ, List.getD_nil, List.length_cons, List.length_nil, List.length_map, List.map_cons, List.map_nil, List.drop_zero, List.drop_succ_cons, List.take_succ_cons, List.take_zero, List.drop_nil, List.take_nil, Nat.reduceEqDiff, Nat.reduceAdd, Nat.reduceLeDiff, Nat.zero_add, Nat.add_zero, Prod.mk.injEq, and_true, true_and, and_false, false_and, and_self, if_true, if_false, ite_true, ite_false, Bool.not_true, Bool.not_false, Bool.not_eq_true', reduceCtorEq, decide_true, decide_false, frTs, frT, frL_p, spS, ofPT_a, ofPT_g, ofPT_t, flat_i, flat_b, flat_s, flat_l, flat_g, flatp_i, flatp_b, flatp_s, flatp_l, klTs, klT, Bool.and_false, Bool.false_and, frL, frA_p, frA_nil, frA_own, ownT, intT, Bool.or_true, Bool.true_or, Bool.false_eq_true, frL_p, klL_p, ownT_p, O.adds, List.all_cons, List.all_nil, List.any_cons, List.any_nil, ownA, evO.bslRows, List.replicate_succ, List.replicate_zero, List.set_cons_zero, rowsA, over, List.cons_append, List.nil_append, List.append_nil, fillA, Bool.and_self, Bool.and_true, Bool.true_and, Bool.or_self, Bool.or_false, Bool.false_or, Nat.reduceMul, Nat.one_mul, Nat.lt_add_one, klL, Nat.le_refl, ite_self]

theorem same_of {x y : T} (h : x = y) : same x y = true := by rw [h]; exact same_refl y

/-- what is known of an argument of a law -/
theorem arg_V {t : T} {x f : Int} (hx : x ≤ 1099511627776) (hs : small t x = true) (hm : may t f false = true) (hf : 0 ≤ f) (hf2 : f ≤ 1000) : V t f 600 := may_V hm (small_all hx hs).1 hf (by omega)

theorem V_sput {u : T} {f p : Int} {E : Nat} (hu : V u (f - 1) E) (hp : 0 ≤ p) (hf : p < f) (hE : 1 ≤ E) : ∀ n, 0 ≤ n → n < f → V (sput p u 0 n) (f - 1) E := by
  intro n h0 hn
  unfold sput
  split
  · exact V_ren hu (fun j h0 hj => by omega) (by omega)
  · split
    · exact V_var (by omega) (by omega) hE
    · exact V_var (by omega) (by omega) hE

theorem ren_zero {t : T} {f : Int} {D : Nat} (h : V t f D) : ren (· + 0) t = t := ren_id h fun n _ _ => by omega

/-- put into terms of at most 5 or so free variables, at most so deep -/
theorem put0 {t u : T} {g h p : Int} {D E : Nat} (ht : V t g D) (hu : V u h E) (hg : 0 ≤ g ∧ g ≤ 5000) (hh : 0 ≤ h ∧ h ≤ 5000) (hp : 0 ≤ p ∧ p ≤ 5000) (hD : D ≤ 5000) (hE : E ≤ 5000) (b : Int) (hb : 0 ≤ b ∧ b ≤ 5000) : put p u t b = sub (sput p u b) t :=
  put_sub hu hp.1 hh.1 ht hb.1 (by omega) (by omega) (by omega)
theorem up0 {t : T} {g b f : Int} {D : Nat} (ht : V t g D) (hg : 0 ≤ g ∧ g ≤ 5000) (hb : 0 ≤ b ∧ b ≤ 5000) (hf : 0 ≤ f ∧ f ≤ 5000) (hD : D ≤ 5000) : up b f t = ren (fun n => if n ≥ f then n + b else n) t := up_ren ht hf.1 hb.1 (by omega) (by omega)
theorem upz {t : T} {g b : Int} {D : Nat} (ht : V t g D) (hg : 0 ≤ g ∧ g ≤ 5000) (hb : 0 ≤ b ∧ b ≤ 5000) (hD : D ≤ 5000) : up b 0 t = ren (· + b) t := up0_ren ht hb.1 (by omega) hg.1

theorem swaps_plain {a b c : T} {D : Nat} (ha : V a 5 D) (hb : V b 5 D) (hc : V c 5 D) (hD : D ≤ 1000) (h1 : 1 ≤ D) :
    put 0 c (put 0 b a 0) 0 = put 0 (put 0 c b 0) (put 1 (up 1 0 c) a 0) 0 ∧ put 0 b (up 1 0 a) 0 = a ∧ put 2 b (up 1 2 a) 0 = a ∧ up 0 0 a = a := by
  have ha' : V a 6 D := V_mono ha (by omega) (Nat.le_refl _)
  have hb' : V b 6 D := V_mono hb (by omega) (Nat.le_refl _)
  have hc' : V c 6 D := V_mono hc (by omega) (Nat.le_refl _)
  have e1 := put0 ha hb (by omega) (by omega) (p := 0) (by omega) (by omega) (by omega) 0 (by omega)
  have v1 : V (sub (sput 0 b 0) a) 5 (D + D) := V_sub ha (g := 5) (E := D) (fun n h0 hn => V_mono (V_sput (f := 6) (p := 0) hb (by omega) (by omega) h1 n h0 (by omega)) (by omega) (Nat.le_refl _)) (by omega) h1
  have e2 := put0 v1 hc (by omega) (by omega) (p := 0) (by omega) (by omega) (by omega) 0 (by omega)
  have e3 := upz hc (b := 1) (by omega) (by omega) (by omega)
  have v3 : V (ren (· + 1) c) 6 D := V_ren hc (fun n h0 hn => by omega) (by omega)
  have e4 := put0 ha v3 (by omega) (by omega) (p := 1) (by omega) (by omega) (by omega) 0 (by omega)
  have v4 : V (sub (sput 1 (ren (· + 1) c) 0) a) 6 (D + D) := V_sub ha (g := 6) (E := D) (fun n h0 hn => V_sput (f := 7) (p := 1) v3 (by omega) (by omega) h1 n h0 (by omega)) (by omega) h1
  have e5 := put0 hb hc (by omega) (by omega) (p := 0) (by omega) (by omega) (by omega) 0 (by omega)
  have v5 : V (sub (sput 0 c 0) b) 5 (D + D) := V_sub hb (g := 5) (E := D) (fun n h0 hn => V_mono (V_sput (f := 6) (p := 0) hc (by omega) (by omega) h1 n h0 (by omega)) (by omega) (Nat.le_refl _)) (by omega) h1
  have e6 := put0 v4 v5 (by omega) (by omega) (p := 0) (by omega) (by omega) (by omega) 0 (by omega)
  have e7 := upz ha (b := 1) (by omega) (by omega) (by omega)
  have v7 : V (ren (· + 1) a) 6 D := V_ren ha (fun n h0 hn => by omega) (by omega)
  have e8 := put0 v7 hb (by omega) (by omega) (p := 0) (by omega) (by omega) (by omega) 0 (by omega)
  have e9 := up0 ha (b := 1) (f := 2) (by omega) (by omega) (by omega) (by omega)
  have v9 : V (ren (fun n => if n ≥ 2 then n + 1 else n) a) 6 D := V_ren ha (fun n h0 hn => by split <;> omega) (by omega)
  have e10 := put0 v9 hb (by omega) (by omega) (p := 2) (by omega) (by omega) (by omega) 0 (by omega)
  have e11 := upz ha (b := 0) (by omega) (by omega) (by omega)
  refine ⟨?_, ?_, ?_, ?_⟩
  · rw [e1, e2, e3, e4, e5, e6]
    rw [sub_sub ha (g := 5) (h := 5) (E := D) (H := D) (fun n h0 hn => V_mono (V_sput (f := 6) (p := 0) hb (by omega) (by omega) h1 n h0 (by omega)) (by omega) (Nat.le_refl _)) (fun n h0 hn => V_mono (V_sput (f := 6) (p := 0) hc (by omega) (by omega) h1 n h0 (by omega)) (by omega) (Nat.le_refl _)) (by omega) (by omega) h1 h1]
    rw [sub_sub ha (g := 6) (h := 5) (E := D) (H := D + D) (fun n h0 hn => V_sput (f := 7) (p := 1) v3 (by omega) (by omega) h1 n h0 (by omega)) (fun n h0 hn => V_sput (f := 6) (p := 0) v5 (by omega) (by omega) (by omega) n h0 (by omega)) (by omega) (by omega) h1 (by omega)]
    refine sub_ext ha fun n h0 hn => ?_
    by_cases n0 : n = 0
    · subst n0
      have x1 : sput 0 b 0 0 = b := by unfold sput; rw [if_pos (by omega)]; exact ren_zero hb
      have x2 : sput 1 (ren (· + 1) c) 0 0 = var 0 := by unfold sput; rw [if_neg (by omega), if_neg (by omega)]
      have x3 : sput 0 (sub (sput 0 c 0) b) 0 0 = sub (sput 0 c 0) b := by unfold sput; rw [if_pos (by omega)]; exact ren_zero v5
      simp only [x1, x2, sub_v, x3]
    · by_cases n1 : n = 1
      · subst n1
        have x1 : sput 0 b 0 1 = var 0 := by unfold sput; rw [if_neg (by omega), if_pos (by omega)]; rfl
        have x2 : sput 0 c 0 0 = c := by unfold sput; rw [if_pos (by omega)]; exact ren_zero hc
        have x3 : sput 1 (ren (· + 1) c) 0 1 = ren (· + 1) c := by unfold sput; rw [if_pos (by omega)]; exact ren_zero v3
        simp only [x1, sub_v, x2, x3]
        rw [sub_ren hc (fun n h0 hn => by omega)]
        refine (sub_id hc fun n h0 hn => ?_).symm
        unfold sput; rw [if_neg (by omega), if_pos (by omega)]; congr 1; omega
      · have x1 : sput 0 b 0 n = var (n - 1) := by unfold sput; rw [if_neg (by omega), if_pos (by omega)]
        have x2 : sput 0 c 0 (n - 1) = var (n - 1 - 1) := by unfold sput; rw [if_neg (by omega), if_pos (by omega)]
        have x3 : sput 1 (ren (· + 1) c) 0 n = var (n - 1) := by unfold sput; rw [if_neg (by omega), if_pos (by omega)]
        have x4 : sput 0 (sub (sput 0 c 0) b) 0 (n - 1) = var (n - 1 - 1) := by unfold sput; rw [if_neg (by omega), if_pos (by omega)]
        simp only [x1, sub_v, x2, x3, x4]
  · rw [e7, e8, sub_ren ha (fun n h0 hn => by omega)]
    refine sub_id ha fun n h0 hn => ?_
    unfold sput; rw [if_neg (by omega), if_pos (by omega)]; congr 1; omega
  · rw [e9, e10, sub_ren ha (fun n h0 hn => by split <;> omega)]
    refine sub_id ha fun n h0 hn => ?_
    unfold sput
    by_cases h2 : n ≥ 2
    · simp only [h2, if_true]; rw [if_neg (by omega), if_pos (by omega)]; congr 1; omega
    · simp only [h2, if_false]; rw [if_neg (by omega), if_neg (by omega)]
  · rw [e11]; exact ren_zero ha

theorem substSwaps_law {a b c : T} (ha : T.Ok a) (hb : T.Ok b) (hc : T.Ok c) : eP S 5 [.g (enc a), .g (enc b), .g (enc c)] = some (.a (.b true)) := by
  have a1 := small_ok ha 60
  have a2 := small_ok hb 60
  have a3 := small_ok hc 60
  have b1 := May_ok ha 5
  have b2 := May_ok hb 5
  have b3 := May_ok hc 5
  have f0 := fixed_ok
  refine x_fn (orcS 5) (fc := F5) rfl rfl ?_
  cases h1 : small a 60 with
  | false => simp only [F5, enc_len, enc_takep, enc_flat, a1, h1, f0, Int.cast_ofNat_Int, Int.reduceLE, Int.reduceLT, Int.reduceToNat, Int.reduceAdd, Int.reduceSub, Int.reduceNeg, x_seq, x_reg, x_skip, x_exit, x_ret, x_block, x_if, wpC_t, wpC_f, wpI_cons, wpI_nil, wpX_some, evI_any, evI_rd, evI_ad, evI_g, evG_u, evG_b, evG_tt, evG_ff, evG_tf, evG_ft, evO, evR, ev_t, ev_c, ev_f, putD_some, putD_none, put_at, cellsT, ldCells, mkT, lenA, binPV, add_bs, add_clk, add_ls, put_bs, put_clk, put_ls, kill_bs, kill_clk, kill_ls, empty_clk, empty_bs, Env.init, seqQ_norm, seqQ_exit, seqQ_ret, blkQ_norm, blkQ_exit, blkQ_ret, loopQ_norm, loopQ_exit, loopQ_ret, retP_ret, retP_norm, retE_ret, retE_norm, retS_ret, retS_norm, wpO_some, frA_fn, klA_p, klA_nil, klA_own, resVs, resV, resT, Option.bind_some, Option.bind_none, Option.map_some, List.getD_cons_zero, List.getD_cons_succ, List.getD_nil, List.length_cons, List.length_nil, List.length_map, List.map_cons, List.map_nil, List.drop_zero, List.drop_succ_cons, List.take_succ_cons, List.take_zero, List.drop_nil, List.take_nil, Nat.reduceEqDiff, Nat.reduceAdd, Nat.reduceLeDiff, Nat.zero_add, Nat.add_zero, Prod.mk.injEq, and_true, true_and, and_false, false_and, and_self, if_true, if_false, ite_true, ite_false, Bool.not_true, Bool.not_false, Bool.not_eq_true', reduceCtorEq, decide_true, decide_false, frTs, frT, frL_p, spS, ofPT_a, ofPT_g, ofPT_t, flat_i, flat_b, flat_s, flat_l, flat_g, flatp_i, flatp_b, flatp_s, flatp_l, klTs, klT, Bool.and_false, Bool.false_and, frL, frA_p, frA_nil, frA_own, ownT, intT, Bool.or_true, Bool.true_or, Bool.false_eq_true, frL_p, klL_p, ownT_p, O.adds, List.all_cons, List.all_nil, List.any_cons, List.any_nil, ownA, evO.bslRows, List.replicate_succ, List.replicate_zero, List.set_cons_zero, rowsA, over, List.cons_append, List.nil_append, List.append_nil, fillA, Bool.and_self, Bool.and_true, Bool.true_and, Bool.or_self, Bool.or_false, Bool.false_or, Nat.reduceMul, Nat.one_mul, Nat.lt_add_one, klL, Nat.le_refl, ite_self]
  | true =>
  cases h2 : small b 60 with
  | false => simp only [F5, enc_len, enc_takep, enc_flat, a1, a2, h1, h2, f0, Int.cast_ofNat_Int, Int.reduceLE, Int.reduceLT, Int.reduceToNat, Int.reduceAdd, Int.reduceSub, Int.reduceNeg, x_seq, x_reg, x_skip, x_exit, x_ret, x_block, x_if, wpC_t, wpC_f, wpI_cons, wpI_nil, wpX_some, evI_any, evI_rd, evI_ad, evI_g, evG_u, evG_b, evG_tt, evG_ff, evG_tf, evG_ft, evO, evR, ev_t, ev_c, ev_f, putD_some, putD_none, put_at, cellsT, ldCells, mkT, lenA, binPV, add_bs, add_clk, add_ls, put_bs, put_clk, put_ls, kill_bs, kill_clk, kill_ls, empty_clk, empty_bs, Env.init, seqQ_norm, seqQ_exit, seqQ_ret, blkQ_norm, blkQ_exit, blkQ_ret, loopQ_norm, loopQ_exit, loopQ_ret, retP_ret, retP_norm, retE_ret, retE_norm, retS_ret, retS_norm, wpO_some, frA_fn, klA_p, klA_nil, klA_own, resVs, resV, resT, Option.bind_some, Option.bind_none, Option.map_some, List.getD_cons_zero, List.getD_cons_succ, List.getD_nil, List.length_cons, List.length_nil, List.length_map, List.map_cons, List.map_nil, List.drop_zero, List.drop_succ_cons, List.take_succ_cons, List.take_zero, List.drop_nil, List.take_nil, Nat.reduceEqDiff, Nat.reduceAdd, Nat.reduceLeDiff, Nat.zero_add, Nat.add_zero, Prod.mk.injEq, and_true, true_and, and_false, false_and, and_self, if_true, if_false, ite_true, ite_false, Bool.not_true, Bool.not_false, Bool.not_eq_true', reduceCtorEq, decide_true, decide_false, frTs, frT, frL_p, spS, ofPT_a, ofPT_g, ofPT_t, flat_i, flat_b, flat_s, flat_l, flat_g, flatp_i, flatp_b, flatp_s, flatp_l, klTs, klT, Bool.and_false, Bool.false_and, frL, frA_p, frA_nil, frA_own, ownT, intT, Bool.or_true, Bool.true_or, Bool.false_eq_true, frL_p, klL_p, ownT_p, O.adds, List.all_cons, List.all_nil, List.any_cons, List.any_nil, ownA, evO.bslRows, List.replicate_succ, List.replicate_zero, List.set_cons_zero, rowsA, over, List.cons_append, List.nil_append, List.append_nil, fillA, Bool.and_self, Bool.and_true, Bool.true_and, Bool.or_self, Bool.or_false, Bool.false_or, Nat.reduceMul, Nat.one_mul, Nat.lt_add_one, klL, Nat.le_refl, ite_self]
  | true =>
  cases h3 : small c 60 with
  | false => simp only [F5, enc_len, enc_takep, enc_flat, a1, a2, a3, h1, h2, h3, f0, Int.cast_ofNat_Int, Int.reduceLE, Int.reduceLT, Int.reduceToNat, Int.reduceAdd, Int.reduceSub, Int.reduceNeg, x_seq, x_reg, x_skip, x_exit, x_ret, x_block, x_if, wpC_t, wpC_f, wpI_cons, wpI_nil, wpX_some, evI_any, evI_rd, evI_ad, evI_g, evG_u, evG_b, evG_tt, evG_ff, evG_tf, evG_ft, evO, evR, ev_t, ev_c, ev_f, putD_some, putD_none, put_at, cellsT, ldCells, mkT, lenA, binPV, add_bs, add_clk, add_ls, put_bs, put_clk, put_ls, kill_bs, kill_clk, kill_ls, empty_clk, empty_bs, Env.init, seqQ_norm, seqQ_exit, seqQ_ret, blkQ_norm, blkQ_exit, blkQ_ret, loopQ_norm, loopQ_exit, loopQ_ret, retP_ret, retP_norm, retE_ret, retE_norm, retS_ret, retS_norm, wpO_some, frA_fn, klA_p, klA_nil, klA_own, resVs, resV, resT, Option.bind_some, Option.bind_none, Option.map_some, List.getD_cons_zero, List.getD_cons_succ, List.getD_nil, List.length_cons, List.length_nil, List.length_map, List.map_cons, List.map_nil, List.drop_zero, List.drop_succ_cons, List.take_succ_cons, List.take_zero, List.drop_nil, List.take_nil, Nat.reduceEqDiff, Nat.reduceAdd, Nat.reduceLeDiff, Nat.zero_add, Nat.add_zero, Prod.mk.injEq, and_true, true_and, and_false, false_and, and_self, if_true, if_false, ite_true, ite_false, Bool.not_true, Bool.not_false, Bool.not_eq_true', reduceCtorEq, decide_true, decide_false, frTs, frT, frL_p, spS, ofPT_a, ofPT_g, ofPT_t, flat_i, flat_b, flat_s, flat_l, flat_g, flatp_i, flatp_b, flatp_s, flatp_l, klTs, klT, Bool.and_false, Bool.false_and, frL, frA_p, frA_nil, frA_own, ownT, intT, Bool.or_true, Bool.true_or, Bool.false_eq_true, frL_p, klL_p, ownT_p, O.adds, List.all_cons, List.all_nil, List.any_cons, List.any_nil, ownA, evO.bslRows, List.replicate_succ, List.replicate_zero, List.set_cons_zero, rowsA, over, List.cons_append, List.nil_append, List.append_nil, fillA, Bool.and_self, Bool.and_true, Bool.true_and, Bool.or_self, Bool.or_false, Bool.false_or, Nat.reduceMul, Nat.one_mul, Nat.lt_add_one, klL, Nat.le_refl, ite_self]
  | true =>
  cases h4 : may a 5 false with
  | false => simp only [F5, enc_len, enc_takep, enc_flat, a1, a2, a3, b1, h1, h2, h3, h4, f0, Int.cast_ofNat_Int, Int.reduceLE, Int.reduceLT, Int.reduceToNat, Int.reduceAdd, Int.reduceSub, Int.reduceNeg, x_seq, x_reg, x_skip, x_exit, x_ret, x_block, x_if, wpC_t, wpC_f, wpI_cons, wpI_nil, wpX_some, evI_any, evI_rd, evI_ad, evI_g, evG_u, evG_b, evG_tt, evG_ff, evG_tf, evG_ft, evO, evR, ev_t, ev_c, ev_f, putD_some, putD_none, put_at, cellsT, ldCells, mkT, lenA, binPV, add_bs, add_clk, add_ls, put_bs, put_clk, put_ls, kill_bs, kill_clk, kill_ls, empty_clk, empty_bs, Env.init, seqQ_norm, seqQ_exit, seqQ_ret, blkQ_norm, blkQ_exit, blkQ_ret, loopQ_norm, loopQ_exit, loopQ_ret, retP_ret, retP_norm, retE_ret, retE_norm, retS_ret, retS_norm, wpO_some, frA_fn, klA_p, klA_nil, klA_own, resVs, resV, resT, Option.bind_some, Option.bind_none, Option.map_some, List.getD_cons_zero, List.getD_cons_succ, List.getD_nil, List.length_cons, List.length_nil, List.length_map, List.map_cons, List.map_nil, List.drop_zero, List.drop_succ_cons, List.take_succ_cons, List.take_zero, List.drop_nil, List.take_nil, Nat.reduceEqDiff, Nat.reduceAdd, Nat.reduceLeDiff, Nat.zero_add, Nat.add_zero, Prod.mk.injEq, and_true, true_and, and_false, false_and, and_self, if_true, if_false, ite_true, ite_false, Bool.not_true, Bool.not_false, Bool.not_eq_true', reduceCtorEq, decide_true, decide_false, frTs, frT, frL_p, spS, ofPT_a, ofPT_g, ofPT_t, flat_i, flat_b, flat_s, flat_l, flat_g, flatp_i, flatp_b, flatp_s, flatp_l, klTs, klT, Bool.and_false, Bool.false_and, frL, frA_p, frA_nil, frA_own, ownT, intT, Bool.or_true, Bool.true_or, Bool.false_eq_true, frL_p, klL_p, ownT_p, O.adds, List.all_cons, List.all_nil, List.any_cons, List.any_nil, ownA, evO.bslRows, List.replicate_succ, List.replicate_zero, List.set_cons_zero, rowsA, over, List.cons_append, List.nil_append, List.append_nil, fillA, Bool.and_self, Bool.and_true, Bool.true_and, Bool.or_self, Bool.or_false, Bool.false_or, Nat.reduceMul, Nat.one_mul, Nat.lt_add_one, klL, Nat.le_refl, ite_self]
  | true =>
  cases h5 : may b 5 false with
  | false => simp only [F5, enc_len, enc_takep, enc_flat, a1, a2, a3, b1, b2, h1, h2, h3, h4, h5, f0, Int.cast_ofNat_Int, Int.reduceLE, Int.reduceLT, Int.reduceToNat, Int.reduceAdd, Int.reduceSub, Int.reduceNeg, x_seq, x_reg, x_skip, x_exit, x_ret, x_block, x_if, wpC_t, wpC_f, wpI_cons, wpI_nil, wpX_some, evI_any, evI_rd, evI_ad, evI_g, evG_u, evG_b, evG_tt, evG_ff, evG_tf, evG_ft, evO, evR, ev_t, ev_c, ev_f, putD_some, putD_none, put_at, cellsT, ldCells, mkT, lenA, binPV, add_bs, add_clk, add_ls, put_bs, put_clk, put_ls, kill_bs, kill_clk, kill_ls, empty_clk, empty_bs, Env.init, seqQ_norm, seqQ_exit, seqQ_ret, blkQ_norm, blkQ_exit, blkQ_ret, loopQ_norm, loopQ_exit, loopQ_ret, retP_ret, retP_norm, retE_ret, retE_norm, retS_ret, retS_norm, wpO_some, frA_fn, klA_p, klA_nil, klA_own, resVs, resV, resT, Option.bind_some, Option.bind_none, Option.map_some, List.getD_cons_zero, List.getD_cons_succ, List.getD_nil, List.length_cons, List.length_nil, List.length_map, List.map_cons, List.map_nil, List.drop_zero, List.drop_succ_cons, List.take_succ_cons, List.take_zero, List.drop_nil, List.take_nil, Nat.reduceEqDiff, Nat.reduceAdd, Nat.reduceLeDiff, Nat.zero_add, Nat.add_zero, Prod.mk.injEq, and_true, true_and, and_false, false_and, and_self, if_true, if_false, ite_true, ite_false, Bool.not_true, Bool.not_false, Bool.not_eq_true', reduceCtorEq, decide_true, decide_false, frTs, frT, frL_p, spS, ofPT_a, ofPT_g, ofPT_t, flat_i, flat_b, flat_s, flat_l, flat_g, flatp_i, flatp_b, flatp_s, flatp_l, klTs, klT, Bool.and_false, Bool.false_and, frL, frA_p, frA_nil, frA_own, ownT, intT, Bool.or_true, Bool.true_or, Bool.false_eq_true, frL_p, klL_p, ownT_p, O.adds, List.all_cons, List.all_nil, List.any_cons, List.any_nil, ownA, evO.bslRows, List.replicate_succ, List.replicate_zero, List.set_cons_zero, rowsA, over, List.cons_append, List.nil_append, List.append_nil, fillA, Bool.and_self, Bool.and_true, Bool.true_and, Bool.or_self, Bool.or_false, Bool.false_or, Nat.reduceMul, Nat.one_mul, Nat.lt_add_one, klL, Nat.le_refl, ite_self]
  | true =>
  cases h6 : may c 5 false with
  | false => simp only [F5, enc_len, enc_takep, enc_flat, a1, a2, a3, b1, b2, b3, h1, h2, h3, h4, h5, h6, f0, Int.cast_ofNat_Int, Int.reduceLE, Int.reduceLT, Int.reduceToNat, Int.reduceAdd, Int.reduceSub, Int.reduceNeg, x_seq, x_reg, x_skip, x_exit, x_ret, x_block, x_if, wpC_t, wpC_f, wpI_cons, wpI_nil, wpX_some, evI_any, evI_rd, evI_ad, evI_g, evG_u, evG_b, evG_tt, evG_ff, evG_tf, evG_ft, evO, evR, ev_t, ev_c, ev_f, putD_some, putD_none, put_at, cellsT, ldCells, mkT, lenA, binPV, add_bs, add_clk, add_ls, put_bs, put_clk, put_ls, kill_bs, kill_clk, kill_ls, empty_clk, empty_bs, Env.init, seqQ_norm, seqQ_exit, seqQ_ret, blkQ_norm, blkQ_exit, blkQ_ret, loopQ_norm, loopQ_exit, loopQ_ret, retP_ret, retP_norm, retE_ret, retE_norm, retS_ret, retS_norm, wpO_some, frA_fn, klA_p, klA_nil, klA_own, resVs, resV, resT, Option.bind_some, Option.bind_none, Option.map_some, List.getD_cons_zero, List.getD_cons_succ, List.getD_nil, List.length_cons, List.length_nil, List.length_map, List.map_cons, List.map_nil, List.drop_zero, List.drop_succ_cons, List.take_succ_cons, List.take_zero, List.drop_nil, List.take_nil, Nat.reduceEqDiff, Nat.reduceAdd, Nat.reduceLeDiff, Nat.zero_add, Nat.add_zero, Prod.mk.injEq, and_true, true_and, and_false, false_and, and_self, if_true, if_false, ite_true, ite_false, Bool.not_true, Bool.not_false, Bool.not_eq_true', reduceCtorEq, decide_true, decide_false, frTs, frT, frL_p, spS, ofPT_a, ofPT_g, ofPT_t, flat_i, flat_b, flat_s, flat_l, flat_g, flatp_i, flatp_b, flatp_s, flatp_l, klTs, klT, Bool.and_false, Bool.false_and, frL, frA_p, frA_nil, frA_own, ownT, intT, Bool.or_true, Bool.true_or, Bool.false_eq_true, frL_p, klL_p, ownT_p, O.adds, List.all_cons, List.all_nil, List.any_cons, List.any_nil, ownA, evO.bslRows, List.replicate_succ, List.replicate_zero, List.set_cons_zero, rowsA, over, List.cons_append, List.nil_append, List.append_nil, fillA, Bool.and_self, Bool.and_true, Bool.true_and, Bool.or_self, Bool.or_false, Bool.false_or, Nat.reduceMul, Nat.one_mul, Nat.lt_add_one, klL, Nat.le_refl, ite_self]
  | true =>
  obtain ⟨p1, p2, p3, p4⟩ := swaps_plain (arg_V (by omega) h1 h4 (by omega) (by omega)) (arg_V (by omega) h2 h5 (by omega) (by omega)) (arg_V (by omega) h3 h6 (by omega) (by omega)) (by omega) (by omega)
  have c1 := subPut_ok ha hb 0
  have c2 := subPut_ok (Ok_put 0 hb ha 0) hc 0
  have c3 := subUp_ok hc 1 0 (by omega)
  have c4 := subPut_ok ha (Ok_up 1 hc 0) 1
  have c5 := subPut_ok hb hc 0
  have c6 := subPut_ok (Ok_put 1 (Ok_up 1 hc 0) ha 0) (Ok_put 0 hc hb 0) 0
  have c7 := same_ok (Ok_put 0 hc (Ok_put 0 hb ha 0) 0) (put 0 (put 0 c b 0) (put 1 (up 1 0 c) a 0) 0)
  have c8 := subUp_ok ha 1 0 (by omega)
  have c9 := subPut_ok (Ok_up 1 ha 0) hb 0
  have c10 := same_ok (Ok_put 0 hb (Ok_up 1 ha 0) 0) a
  have c11 := subUp_ok ha 1 2 (by omega)
  have c12 := subPut_ok (Ok_up 1 ha 2) hb 2
  have c13 := same_ok (Ok_put 2 hb (Ok_up 1 ha 2) 0) a
  have c14 := subUp_ok ha 0 0 (by omega)
  have c15 := same_ok (Ok_up 0 ha 0) a
  rw [same_of p1] at c7
  rw [same_of p2] at c10
  rw [same_of p3] at c13
  rw [same_of p4] at c15
  simp only [F5, enc_len, enc_takep, enc_flat, a1, a2, a3, b1, b2, b3, h1, h2, h3, h4, h5, h6, f0, c1, c2, c3, c4, c5, c6, c7, c8, c9, c10, c11, c12, c13, c14, c15, Int.cast_ofNat_Int, Int.reduceLE, Int.reduceLT, Int.reduceToNat, Int.reduceAdd, Int.reduceSub, Int.reduceNeg, x_seq, x_reg, x_skip, x_exit, x_ret, x_block, x_if, wpC_t, wpC_f, wpI_cons, wpI_nil, wpX_some, evI_any, evI_rd, evI_ad, evI_g, evG_u, evG_b, evG_tt, evG_ff, evG_tf, evG_ft, evO, evR, ev_t, ev_c, ev_f, putD_some, putD_none, put_at, cellsT, ldCells, mkT, lenA, binPV, add_bs, add_clk, add_ls, put_bs, put_clk, put_ls, kill_bs, kill_clk, kill_ls, empty_clk, empty_bs, Env.init, seqQ_norm, seqQ_exit, seqQ_ret, blkQ_norm, blkQ_exit, blkQ_ret, loopQ_norm, loopQ_exit, loopQ_ret, retP_ret, retP_norm, retE_ret, retE_norm, retS_ret, retS_norm, wpO_some, frA_fn, klA_p, klA_nil, klA_own, resVs, resV, resT, Option.bind_some, Option.bind_none, Option.map_some, List.getD_cons_zero, List.getD_cons_succ, List.getD_nil, List.length_cons, List.length_nil, List.length_map, List.map_cons, List.map_nil, List.drop_zero, List.drop_succ_cons, List.take_succ_cons, List.take_zero, List.drop_nil, List.take_nil, Nat.reduceEqDiff, Nat.reduceAdd, Nat.reduceLeDiff, Nat.zero_add, Nat.add_zero, Prod.mk.injEq, and_true, true_and, and_false, false_and, and_self, if_true, if_false, ite_true, ite_false, Bool.not_true, Bool.not_false, Bool.not_eq_true', reduceCtorEq, decide_true, decide_false, frTs, frT, frL_p, spS, ofPT_a, ofPT_g, ofPT_t, flat_i, flat_b, flat_s, flat_l, flat_g, flatp_i, flatp_b, flatp_s, flatp_l, klTs, klT, Bool.and_false, Bool.false_and, frL, frA_p, frA_nil, frA_own, ownT, intT, Bool.or_true, Bool.true_or, Bool.false_eq_true, frL_p, klL_p, ownT_p, O.adds, List.all_cons, List.all_nil, List.any_cons, List.any_nil, ownA, evO.bslRows, List.replicate_succ, List.replicate_zero, List.set_cons_zero, rowsA, over, List.cons_append, List.nil_append, List.append_nil, fillA, Bool.and_self, Bool.and_true, Bool.true_and, Bool.or_self, Bool.or_false, Bool.false_or, Nat.reduceMul, Nat.one_mul, Nat.lt_add_one, klL, Nat.le_refl, ite_self]

end Go.Proofs.Ytlgekplmbmkcmaa
