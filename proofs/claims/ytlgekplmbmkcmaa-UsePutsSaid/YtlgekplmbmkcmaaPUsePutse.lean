/- Part 5 of what is proved for the law UsePuts: it returns true,whatever the input. No condition. -/
import Derived.Test.YtlgekplmbmkcmaaChecked
import Derived.Test.YtlgekplmbmkcmaaRows
import Derived.Test.YtlgekplmbmkcmaaPUsePutsd
section
set_option linter.unusedSimpArgs false
set_option linter.unusedVariables false
namespace Go.Proofs.Ytlgekplmbmkcmaa
open Go.Fx
noncomputable def con (s : List UInt8) : Bool := if h : s.length ≤ reachBytes then Classical.choose (Classical.choose_spec (con_ex s h)).2 else false
theorem con_ok (s : List UInt8) (h : s.length ≤ reachBytes) : eP S 84 [.a (.s s)] = some (.a (.b (con s))) := by
  have h1 := (Classical.choose_spec (con_ex s h)).1
  have h2 := Classical.choose_spec (Classical.choose_spec (con_ex s h)).2
  have h3 : con s = Classical.choose (Classical.choose_spec (con_ex s h)).2 := dif_pos h
  rw [h3,← h2]; exact h1
def isOp (s : List UInt8) : Bool := decide (s = [43]) || decide (s = [45]) || decide (s = [42]) || decide (s = [47]) || decide (s = [60]) || decide (s = [61,61])
noncomputable def headC (k n : Int) (s : List UInt8) (len : Int) (free : Int) (alt : Bool) : Bool :=
  if alt then decide (k = 6) && con s && decide (n ≥ 0) && decide (n ≤ 8) && decide (len = 1)
  else if k = 1 then decide (s = []) && decide (len = 0) && decide (n ≥ 0) && decide (n < free)
  else if k = 2 then decide (s = []) && decide (n = 0) && decide (len = 1)
  else if k = 3 then decide (s = []) && decide (n = 0) && decide (len = 2)
  else if k = 4 then con s && decide (n = 0) && decide (len ≤ 8)
  else if k = 5 then decide (s = []) && decide (n = 0) && decide (len ≥ 2) && decide (len ≤ 9)
  else if k = 7 then decide (s = []) && decide (len = 0)
  else if k = 8 then isOp s && decide (n = 0) && decide (len = 2)
  else if k = 9 then decide (s = []) && decide (n = 0) && decide (len = 0)
  else false
noncomputable def head (t : T) (free : Int) (alt : Bool) : Bool := headC t.k t.n t.s t.l.length free alt
def HeadM (free : Int) (alt : Bool) (k n : Int) (s : List UInt8) (l : List T) (e : Env) (σ : St) : Prop :=
  e 1 = .a (.p (.i .i64 free)) ∧ e 2 = .a (.p (.b alt)) ∧ e 3 = .a (.ptr (3,0) 0 0) ∧ σ.bs (3,0) = some (.var [.p (.i .i64 k),.p (.i .i64 n),.p (.s s),.p (.l (l.map enc))])
theorem head_ok {t : T} (ht : T.Ok t) (free : Int) (alt : Bool) : eP S 70 [.g (enc t),.a (.i .i64 free),.a (.b alt)] = some (.a (.b (head t free alt))) := by
  cases ht with
  | mk k n s l hk hn hs hl h =>
    have hc := con_ok s hs
    have e0 : head (.mk k n s l) free alt = headC k n s l.length free alt := rfl
    rw [e0]
    refine x_fn (orcS 70) (fc := F70) rfl rfl ?_
    unfold F70
    simp only [enc,encL_map,List.map_cons,List.map_nil,ofPT_g,ofPT_a]
    refine x_cut (HeadM free alt k n s l) ?_ fun e σ hM => ?_
    · simp only [x_seq,x_reg,x_skip,x_exit,x_ret,x_block,x_if,wpC_t,wpC_f,wpI_cons,wpI_nil,wpX_some,evI_any,evI_rd,evI_ad,evI_g,evG_u,evG_b,evG_tt,evG_ff,evG_tf,evG_ft,evO,evR,ev_t,ev_c,ev_f,putD_some,putD_none,put_at,cellsT,ldCells,mkT,lenA,binPV,add_bs,add_clk,add_ls,put_bs,put_clk,put_ls,kill_bs,kill_clk,kill_ls,empty_clk,empty_bs,Env.init,seqQ_norm,seqQ_exit,seqQ_ret,blkQ_norm,blkQ_exit,blkQ_ret,loopQ_norm,loopQ_exit,loopQ_ret,retP_ret,retP_norm,retE_ret,retE_norm,retS_ret,retS_norm,wpO_some,frA_fn,klA_p,klA_nil,klA_own,resVs,resV,resT,Option.bind_some,Option.bind_none,Option.map_some,List.getD_cons_zero,List.getD_cons_succ,List.getD_nil,List.length_cons,List.length_nil,List.length_map,List.map_cons,List.map_nil,List.drop_zero,List.drop_succ_cons,List.take_succ_cons,List.take_zero,List.drop_nil,List.take_nil,Nat.reduceEqDiff,Nat.reduceAdd,Nat.reduceLeDiff,Nat.zero_add,Nat.add_zero,Prod.mk.injEq,and_true,true_and,and_false,false_and,and_self,if_true,if_false,ite_true,ite_false,Bool.not_true,Bool.not_false,Bool.not_eq_true',reduceCtorEq,decide_true,decide_false,frTs,frT,frL_p,spS,ofPT_a,ofPT_g,ofPT_t,flat_i,flat_b,flat_s,flat_l,flat_g,flatp_i,flatp_b,flatp_s,flatp_l,klTs,klT,Bool.and_false,Bool.false_and,frL,frA_p,frA_nil,frA_own,ownT,intT,Bool.or_true,Bool.true_or,Bool.false_eq_true,frL_p,klL_p,ownT_p,O.adds,List.all_cons,List.all_nil,List.any_cons,List.any_nil,ownA,evO.bslRows,List.replicate_succ,List.replicate_zero,List.set_cons_zero,rowsA,over,List.cons_append,List.nil_append,List.append_nil,fillA,Bool.and_self,Bool.and_true,Bool.true_and,Bool.or_self,Bool.or_false,Bool.false_or,Nat.reduceMul,Nat.one_mul,Nat.lt_add_one,klL,Nat.le_refl,ite_self,Nat.reduceBEq]
      exact ⟨by simp only [x_seq,x_reg,x_skip,x_exit,x_ret,x_block,x_if,wpC_t,wpC_f,wpI_cons,wpI_nil,wpX_some,evI_any,evI_rd,evI_ad,evI_g,evG_u,evG_b,evG_tt,evG_ff,evG_tf,evG_ft,evO,evR,ev_t,ev_c,ev_f,putD_some,putD_none,put_at,cellsT,ldCells,mkT,lenA,binPV,add_bs,add_clk,add_ls,put_bs,put_clk,put_ls,kill_bs,kill_clk,kill_ls,empty_clk,empty_bs,Env.init,seqQ_norm,seqQ_exit,seqQ_ret,blkQ_norm,blkQ_exit,blkQ_ret,loopQ_norm,loopQ_exit,loopQ_ret,retP_ret,retP_norm,retE_ret,retE_norm,retS_ret,retS_norm,wpO_some,frA_fn,klA_p,klA_nil,klA_own,resVs,resV,resT,Option.bind_some,Option.bind_none,Option.map_some,List.getD_cons_zero,List.getD_cons_succ,List.getD_nil,List.length_cons,List.length_nil,List.length_map,List.map_cons,List.map_nil,List.drop_zero,List.drop_succ_cons,List.take_succ_cons,List.take_zero,List.drop_nil,List.take_nil,Nat.reduceEqDiff,Nat.reduceAdd,Nat.reduceLeDiff,Nat.zero_add,Nat.add_zero,Prod.mk.injEq,and_true,true_and,and_false,false_and,and_self,if_true,if_false,ite_true,ite_false,Bool.not_true,Bool.not_false,Bool.not_eq_true',reduceCtorEq,decide_true,decide_false,frTs,frT,frL_p,spS,ofPT_a,ofPT_g,ofPT_t,flat_i,flat_b,flat_s,flat_l,flat_g,flatp_i,flatp_b,flatp_s,flatp_l,klTs,klT,Bool.and_false,Bool.false_and,frL,frA_p,frA_nil,frA_own,ownT,intT,Bool.or_true,Bool.true_or,Bool.false_eq_true,frL_p,klL_p,ownT_p,O.adds,List.all_cons,List.all_nil,List.any_cons,List.any_nil,ownA,evO.bslRows,List.replicate_succ,List.replicate_zero,List.set_cons_zero,rowsA,over,List.cons_append,List.nil_append,List.append_nil,fillA,Bool.and_self,Bool.and_true,Bool.true_and,Bool.or_self,Bool.or_false,Bool.false_or,Nat.reduceMul,Nat.one_mul,Nat.lt_add_one,klL,Nat.le_refl,ite_self,Nat.reduceBEq],by simp only [x_seq,x_reg,x_skip,x_exit,x_ret,x_block,x_if,wpC_t,wpC_f,wpI_cons,wpI_nil,wpX_some,evI_any,evI_rd,evI_ad,evI_g,evG_u,evG_b,evG_tt,evG_ff,evG_tf,evG_ft,evO,evR,ev_t,ev_c,ev_f,putD_some,putD_none,put_at,cellsT,ldCells,mkT,lenA,binPV,add_bs,add_clk,add_ls,put_bs,put_clk,put_ls,kill_bs,kill_clk,kill_ls,empty_clk,empty_bs,Env.init,seqQ_norm,seqQ_exit,seqQ_ret,blkQ_norm,blkQ_exit,blkQ_ret,loopQ_norm,loopQ_exit,loopQ_ret,retP_ret,retP_norm,retE_ret,retE_norm,retS_ret,retS_norm,wpO_some,frA_fn,klA_p,klA_nil,klA_own,resVs,resV,resT,Option.bind_some,Option.bind_none,Option.map_some,List.getD_cons_zero,List.getD_cons_succ,List.getD_nil,List.length_cons,List.length_nil,List.length_map,List.map_cons,List.map_nil,List.drop_zero,List.drop_succ_cons,List.take_succ_cons,List.take_zero,List.drop_nil,List.take_nil,Nat.reduceEqDiff,Nat.reduceAdd,Nat.reduceLeDiff,Nat.zero_add,Nat.add_zero,Prod.mk.injEq,and_true,true_and,and_false,false_and,and_self,if_true,if_false,ite_true,ite_false,Bool.not_true,Bool.not_false,Bool.not_eq_true',reduceCtorEq,decide_true,decide_false,frTs,frT,frL_p,spS,ofPT_a,ofPT_g,ofPT_t,flat_i,flat_b,flat_s,flat_l,flat_g,flatp_i,flatp_b,flatp_s,flatp_l,klTs,klT,Bool.and_false,Bool.false_and,frL,frA_p,frA_nil,frA_own,ownT,intT,Bool.or_true,Bool.true_or,Bool.false_eq_true,frL_p,klL_p,ownT_p,O.adds,List.all_cons,List.all_nil,List.any_cons,List.any_nil,ownA,evO.bslRows,List.replicate_succ,List.replicate_zero,List.set_cons_zero,rowsA,over,List.cons_append,List.nil_append,List.append_nil,fillA,Bool.and_self,Bool.and_true,Bool.true_and,Bool.or_self,Bool.or_false,Bool.false_or,Nat.reduceMul,Nat.one_mul,Nat.lt_add_one,klL,Nat.le_refl,ite_self,Nat.reduceBEq],by simp only [x_seq,x_reg,x_skip,x_exit,x_ret,x_block,x_if,wpC_t,wpC_f,wpI_cons,wpI_nil,wpX_some,evI_any,evI_rd,evI_ad,evI_g,evG_u,evG_b,evG_tt,evG_ff,evG_tf,evG_ft,evO,evR,ev_t,ev_c,ev_f,putD_some,putD_none,put_at,cellsT,ldCells,mkT,lenA,binPV,add_bs,add_clk,add_ls,put_bs,put_clk,put_ls,kill_bs,kill_clk,kill_ls,empty_clk,empty_bs,Env.init,seqQ_norm,seqQ_exit,seqQ_ret,blkQ_norm,blkQ_exit,blkQ_ret,loopQ_norm,loopQ_exit,loopQ_ret,retP_ret,retP_norm,retE_ret,retE_norm,retS_ret,retS_norm,wpO_some,frA_fn,klA_p,klA_nil,klA_own,resVs,resV,resT,Option.bind_some,Option.bind_none,Option.map_some,List.getD_cons_zero,List.getD_cons_succ,List.getD_nil,List.length_cons,List.length_nil,List.length_map,List.map_cons,List.map_nil,List.drop_zero,List.drop_succ_cons,List.take_succ_cons,List.take_zero,List.drop_nil,List.take_nil,Nat.reduceEqDiff,Nat.reduceAdd,Nat.reduceLeDiff,Nat.zero_add,Nat.add_zero,Prod.mk.injEq,and_true,true_and,and_false,false_and,and_self,if_true,if_false,ite_true,ite_false,Bool.not_true,Bool.not_false,Bool.not_eq_true',reduceCtorEq,decide_true,decide_false,frTs,frT,frL_p,spS,ofPT_a,ofPT_g,ofPT_t,flat_i,flat_b,flat_s,flat_l,flat_g,flatp_i,flatp_b,flatp_s,flatp_l,klTs,klT,Bool.and_false,Bool.false_and,frL,frA_p,frA_nil,frA_own,ownT,intT,Bool.or_true,Bool.true_or,Bool.false_eq_true,frL_p,klL_p,ownT_p,O.adds,List.all_cons,List.all_nil,List.any_cons,List.any_nil,ownA,evO.bslRows,List.replicate_succ,List.replicate_zero,List.set_cons_zero,rowsA,over,List.cons_append,List.nil_append,List.append_nil,fillA,Bool.and_self,Bool.and_true,Bool.true_and,Bool.or_self,Bool.or_false,Bool.false_or,Nat.reduceMul,Nat.one_mul,Nat.lt_add_one,klL,Nat.le_refl,ite_self,Nat.reduceBEq],by simp only [x_seq,x_reg,x_skip,x_exit,x_ret,x_block,x_if,wpC_t,wpC_f,wpI_cons,wpI_nil,wpX_some,evI_any,evI_rd,evI_ad,evI_g,evG_u,evG_b,evG_tt,evG_ff,evG_tf,evG_ft,evO,evR,ev_t,ev_c,ev_f,putD_some,putD_none,put_at,cellsT,ldCells,mkT,lenA,binPV,add_bs,add_clk,add_ls,put_bs,put_clk,put_ls,kill_bs,kill_clk,kill_ls,empty_clk,empty_bs,Env.init,seqQ_norm,seqQ_exit,seqQ_ret,blkQ_norm,blkQ_exit,blkQ_ret,loopQ_norm,loopQ_exit,loopQ_ret,retP_ret,retP_norm,retE_ret,retE_norm,retS_ret,retS_norm,wpO_some,frA_fn,klA_p,klA_nil,klA_own,resVs,resV,resT,Option.bind_some,Option.bind_none,Option.map_some,List.getD_cons_zero,List.getD_cons_succ,List.getD_nil,List.length_cons,List.length_nil,List.length_map,List.map_cons,List.map_nil,List.drop_zero,List.drop_succ_cons,List.take_succ_cons,List.take_zero,List.drop_nil,List.take_nil,Nat.reduceEqDiff,Nat.reduceAdd,Nat.reduceLeDiff,Nat.zero_add,Nat.add_zero,Prod.mk.injEq,and_true,true_and,and_false,false_and,and_self,if_true,if_false,ite_true,ite_false,Bool.not_true,Bool.not_false,Bool.not_eq_true',reduceCtorEq,decide_true,decide_false,frTs,frT,frL_p,spS,ofPT_a,ofPT_g,ofPT_t,flat_i,flat_b,flat_s,flat_l,flat_g,flatp_i,flatp_b,flatp_s,flatp_l,klTs,klT,Bool.and_false,Bool.false_and,frL,frA_p,frA_nil,frA_own,ownT,intT,Bool.or_true,Bool.true_or,Bool.false_eq_true,frL_p,klL_p,ownT_p,O.adds,List.all_cons,List.all_nil,List.any_cons,List.any_nil,ownA,evO.bslRows,List.replicate_succ,List.replicate_zero,List.set_cons_zero,rowsA,over,List.cons_append,List.nil_append,List.append_nil,fillA,Bool.and_self,Bool.and_true,Bool.true_and,Bool.or_self,Bool.or_false,Bool.false_or,Nat.reduceMul,Nat.one_mul,Nat.lt_add_one,klL,Nat.le_refl,ite_self,Nat.reduceBEq]⟩
    obtain ⟨e1,e2,e3,h3⟩ := hM
    refine x_cut (fun e σ => HeadM free alt k n s l e σ ∧ e 7 = .a (.p (.i .i64 l.length))) ?_ fun e' σ' hM => ?_
    · simp only [e1,e2,e3,h3,x_seq,x_reg,x_skip,x_exit,x_ret,x_block,x_if,wpC_t,wpC_f,wpI_cons,wpI_nil,wpX_some,evI_any,evI_rd,evI_ad,evI_g,evG_u,evG_b,evG_tt,evG_ff,evG_tf,evG_ft,evO,evR,ev_t,ev_c,ev_f,putD_some,putD_none,put_at,cellsT,ldCells,mkT,lenA,binPV,add_bs,add_clk,add_ls,put_bs,put_clk,put_ls,kill_bs,kill_clk,kill_ls,empty_clk,empty_bs,Env.init,seqQ_norm,seqQ_exit,seqQ_ret,blkQ_norm,blkQ_exit,blkQ_ret,loopQ_norm,loopQ_exit,loopQ_ret,retP_ret,retP_norm,retE_ret,retE_norm,retS_ret,retS_norm,wpO_some,frA_fn,klA_p,klA_nil,klA_own,resVs,resV,resT,Option.bind_some,Option.bind_none,Option.map_some,List.getD_cons_zero,List.getD_cons_succ,List.getD_nil,List.length_cons,List.length_nil,List.length_map,List.map_cons,List.map_nil,List.drop_zero,List.drop_succ_cons,List.take_succ_cons,List.take_zero,List.drop_nil,List.take_nil,Nat.reduceEqDiff,Nat.reduceAdd,Nat.reduceLeDiff,Nat.zero_add,Nat.add_zero,Prod.mk.injEq,and_true,true_and,and_false,false_and,and_self,if_true,if_false,ite_true,ite_false,Bool.not_true,Bool.not_false,Bool.not_eq_true',reduceCtorEq,decide_true,decide_false,frTs,frT,frL_p,spS,ofPT_a,ofPT_g,ofPT_t,flat_i,flat_b,flat_s,flat_l,flat_g,flatp_i,flatp_b,flatp_s,flatp_l,klTs,klT,Bool.and_false,Bool.false_and,frL,frA_p,frA_nil,frA_own,ownT,intT,Bool.or_true,Bool.true_or,Bool.false_eq_true,frL_p,klL_p,ownT_p,O.adds,List.all_cons,List.all_nil,List.any_cons,List.any_nil,ownA,evO.bslRows,List.replicate_succ,List.replicate_zero,List.set_cons_zero,rowsA,over,List.cons_append,List.nil_append,List.append_nil,fillA,Bool.and_self,Bool.and_true,Bool.true_and,Bool.or_self,Bool.or_false,Bool.false_or,Nat.reduceMul,Nat.one_mul,Nat.lt_add_one,klL,Nat.le_refl,ite_self,Nat.reduceBEq]
      exact ⟨by simp only [e1,x_seq,x_reg,x_skip,x_exit,x_ret,x_block,x_if,wpC_t,wpC_f,wpI_cons,wpI_nil,wpX_some,evI_any,evI_rd,evI_ad,evI_g,evG_u,evG_b,evG_tt,evG_ff,evG_tf,evG_ft,evO,evR,ev_t,ev_c,ev_f,putD_some,putD_none,put_at,cellsT,ldCells,mkT,lenA,binPV,add_bs,add_clk,add_ls,put_bs,put_clk,put_ls,kill_bs,kill_clk,kill_ls,empty_clk,empty_bs,Env.init,seqQ_norm,seqQ_exit,seqQ_ret,blkQ_norm,blkQ_exit,blkQ_ret,loopQ_norm,loopQ_exit,loopQ_ret,retP_ret,retP_norm,retE_ret,retE_norm,retS_ret,retS_norm,wpO_some,frA_fn,klA_p,klA_nil,klA_own,resVs,resV,resT,Option.bind_some,Option.bind_none,Option.map_some,List.getD_cons_zero,List.getD_cons_succ,List.getD_nil,List.length_cons,List.length_nil,List.length_map,List.map_cons,List.map_nil,List.drop_zero,List.drop_succ_cons,List.take_succ_cons,List.take_zero,List.drop_nil,List.take_nil,Nat.reduceEqDiff,Nat.reduceAdd,Nat.reduceLeDiff,Nat.zero_add,Nat.add_zero,Prod.mk.injEq,and_true,true_and,and_false,false_and,and_self,if_true,if_false,ite_true,ite_false,Bool.not_true,Bool.not_false,Bool.not_eq_true',reduceCtorEq,decide_true,decide_false,frTs,frT,frL_p,spS,ofPT_a,ofPT_g,ofPT_t,flat_i,flat_b,flat_s,flat_l,flat_g,flatp_i,flatp_b,flatp_s,flatp_l,klTs,klT,Bool.and_false,Bool.false_and,frL,frA_p,frA_nil,frA_own,ownT,intT,Bool.or_true,Bool.true_or,Bool.false_eq_true,frL_p,klL_p,ownT_p,O.adds,List.all_cons,List.all_nil,List.any_cons,List.any_nil,ownA,evO.bslRows,List.replicate_succ,List.replicate_zero,List.set_cons_zero,rowsA,over,List.cons_append,List.nil_append,List.append_nil,fillA,Bool.and_self,Bool.and_true,Bool.true_and,Bool.or_self,Bool.or_false,Bool.false_or,Nat.reduceMul,Nat.one_mul,Nat.lt_add_one,klL,Nat.le_refl,ite_self,Nat.reduceBEq],by simp only [e2,x_seq,x_reg,x_skip,x_exit,x_ret,x_block,x_if,wpC_t,wpC_f,wpI_cons,wpI_nil,wpX_some,evI_any,evI_rd,evI_ad,evI_g,evG_u,evG_b,evG_tt,evG_ff,evG_tf,evG_ft,evO,evR,ev_t,ev_c,ev_f,putD_some,putD_none,put_at,cellsT,ldCells,mkT,lenA,binPV,add_bs,add_clk,add_ls,put_bs,put_clk,put_ls,kill_bs,kill_clk,kill_ls,empty_clk,empty_bs,Env.init,seqQ_norm,seqQ_exit,seqQ_ret,blkQ_norm,blkQ_exit,blkQ_ret,loopQ_norm,loopQ_exit,loopQ_ret,retP_ret,retP_norm,retE_ret,retE_norm,retS_ret,retS_norm,wpO_some,frA_fn,klA_p,klA_nil,klA_own,resVs,resV,resT,Option.bind_some,Option.bind_none,Option.map_some,List.getD_cons_zero,List.getD_cons_succ,List.getD_nil,List.length_cons,List.length_nil,List.length_map,List.map_cons,List.map_nil,List.drop_zero,List.drop_succ_cons,List.take_succ_cons,List.take_zero,List.drop_nil,List.take_nil,Nat.reduceEqDiff,Nat.reduceAdd,Nat.reduceLeDiff,Nat.zero_add,Nat.add_zero,Prod.mk.injEq,and_true,true_and,and_false,false_and,and_self,if_true,if_false,ite_true,ite_false,Bool.not_true,Bool.not_false,Bool.not_eq_true',reduceCtorEq,decide_true,decide_false,frTs,frT,frL_p,spS,ofPT_a,ofPT_g,ofPT_t,flat_i,flat_b,flat_s,flat_l,flat_g,flatp_i,flatp_b,flatp_s,flatp_l,klTs,klT,Bool.and_false,Bool.false_and,frL,frA_p,frA_nil,frA_own,ownT,intT,Bool.or_true,Bool.true_or,Bool.false_eq_true,frL_p,klL_p,ownT_p,O.adds,List.all_cons,List.all_nil,List.any_cons,List.any_nil,ownA,evO.bslRows,List.replicate_succ,List.replicate_zero,List.set_cons_zero,rowsA,over,List.cons_append,List.nil_append,List.append_nil,fillA,Bool.and_self,Bool.and_true,Bool.true_and,Bool.or_self,Bool.or_false,Bool.false_or,Nat.reduceMul,Nat.one_mul,Nat.lt_add_one,klL,Nat.le_refl,ite_self,Nat.reduceBEq],by simp only [e3,x_seq,x_reg,x_skip,x_exit,x_ret,x_block,x_if,wpC_t,wpC_f,wpI_cons,wpI_nil,wpX_some,evI_any,evI_rd,evI_ad,evI_g,evG_u,evG_b,evG_tt,evG_ff,evG_tf,evG_ft,evO,evR,ev_t,ev_c,ev_f,putD_some,putD_none,put_at,cellsT,ldCells,mkT,lenA,binPV,add_bs,add_clk,add_ls,put_bs,put_clk,put_ls,kill_bs,kill_clk,kill_ls,empty_clk,empty_bs,Env.init,seqQ_norm,seqQ_exit,seqQ_ret,blkQ_norm,blkQ_exit,blkQ_ret,loopQ_norm,loopQ_exit,loopQ_ret,retP_ret,retP_norm,retE_ret,retE_norm,retS_ret,retS_norm,wpO_some,frA_fn,klA_p,klA_nil,klA_own,resVs,resV,resT,Option.bind_some,Option.bind_none,Option.map_some,List.getD_cons_zero,List.getD_cons_succ,List.getD_nil,List.length_cons,List.length_nil,List.length_map,List.map_cons,List.map_nil,List.drop_zero,List.drop_succ_cons,List.take_succ_cons,List.take_zero,List.drop_nil,List.take_nil,Nat.reduceEqDiff,Nat.reduceAdd,Nat.reduceLeDiff,Nat.zero_add,Nat.add_zero,Prod.mk.injEq,and_true,true_and,and_false,false_and,and_self,if_true,if_false,ite_true,ite_false,Bool.not_true,Bool.not_false,Bool.not_eq_true',reduceCtorEq,decide_true,decide_false,frTs,frT,frL_p,spS,ofPT_a,ofPT_g,ofPT_t,flat_i,flat_b,flat_s,flat_l,flat_g,flatp_i,flatp_b,flatp_s,flatp_l,klTs,klT,Bool.and_false,Bool.false_and,frL,frA_p,frA_nil,frA_own,ownT,intT,Bool.or_true,Bool.true_or,Bool.false_eq_true,frL_p,klL_p,ownT_p,O.adds,List.all_cons,List.all_nil,List.any_cons,List.any_nil,ownA,evO.bslRows,List.replicate_succ,List.replicate_zero,List.set_cons_zero,rowsA,over,List.cons_append,List.nil_append,List.append_nil,fillA,Bool.and_self,Bool.and_true,Bool.true_and,Bool.or_self,Bool.or_false,Bool.false_or,Nat.reduceMul,Nat.one_mul,Nat.lt_add_one,klL,Nat.le_refl,ite_self,Nat.reduceBEq],by simp only [h3,x_seq,x_reg,x_skip,x_exit,x_ret,x_block,x_if,wpC_t,wpC_f,wpI_cons,wpI_nil,wpX_some,evI_any,evI_rd,evI_ad,evI_g,evG_u,evG_b,evG_tt,evG_ff,evG_tf,evG_ft,evO,evR,ev_t,ev_c,ev_f,putD_some,putD_none,put_at,cellsT,ldCells,mkT,lenA,binPV,add_bs,add_clk,add_ls,put_bs,put_clk,put_ls,kill_bs,kill_clk,kill_ls,empty_clk,empty_bs,Env.init,seqQ_norm,seqQ_exit,seqQ_ret,blkQ_norm,blkQ_exit,blkQ_ret,loopQ_norm,loopQ_exit,loopQ_ret,retP_ret,retP_norm,retE_ret,retE_norm,retS_ret,retS_norm,wpO_some,frA_fn,klA_p,klA_nil,klA_own,resVs,resV,resT,Option.bind_some,Option.bind_none,Option.map_some,List.getD_cons_zero,List.getD_cons_succ,List.getD_nil,List.length_cons,List.length_nil,List.length_map,List.map_cons,List.map_nil,List.drop_zero,List.drop_succ_cons,List.take_succ_cons,List.take_zero,List.drop_nil,List.take_nil,Nat.reduceEqDiff,Nat.reduceAdd,Nat.reduceLeDiff,Nat.zero_add,Nat.add_zero,Prod.mk.injEq,and_true,true_and,and_false,false_and,and_self,if_true,if_false,ite_true,ite_false,Bool.not_true,Bool.not_false,Bool.not_eq_true',reduceCtorEq,decide_true,decide_false,frTs,frT,frL_p,spS,ofPT_a,ofPT_g,ofPT_t,flat_i,flat_b,flat_s,flat_l,flat_g,flatp_i,flatp_b,flatp_s,flatp_l,klTs,klT,Bool.and_false,Bool.false_and,frL,frA_p,frA_nil,frA_own,ownT,intT,Bool.or_true,Bool.true_or,Bool.false_eq_true,frL_p,klL_p,ownT_p,O.adds,List.all_cons,List.all_nil,List.any_cons,List.any_nil,ownA,evO.bslRows,List.replicate_succ,List.replicate_zero,List.set_cons_zero,rowsA,over,List.cons_append,List.nil_append,List.append_nil,fillA,Bool.and_self,Bool.and_true,Bool.true_and,Bool.or_self,Bool.or_false,Bool.false_or,Nat.reduceMul,Nat.one_mul,Nat.lt_add_one,klL,Nat.le_refl,ite_self,Nat.reduceBEq]⟩
    clear e1 e2 e3 h3
    obtain ⟨⟨e1,e2,e3,h3⟩,e7⟩ := hM
    refine x_cut (fun e σ => HeadM free alt k n s l e σ ∧ e 7 = .a (.p (.i .i64 l.length)) ∧ e 8 = .a (.p (.b (isOp s)))) ?_ fun e'' σ'' hM => ?_
    · simp only [e1,e2,e3,e7,h3,x_seq,x_reg,x_skip,x_exit,x_ret,x_block,x_if,wpC_t,wpC_f,wpI_cons,wpI_nil,wpX_some,evI_any,evI_rd,evI_ad,evI_g,evG_u,evG_b,evG_tt,evG_ff,evG_tf,evG_ft,evO,evR,ev_t,ev_c,ev_f,putD_some,putD_none,put_at,cellsT,ldCells,mkT,lenA,binPV,add_bs,add_clk,add_ls,put_bs,put_clk,put_ls,kill_bs,kill_clk,kill_ls,empty_clk,empty_bs,Env.init,seqQ_norm,seqQ_exit,seqQ_ret,blkQ_norm,blkQ_exit,blkQ_ret,loopQ_norm,loopQ_exit,loopQ_ret,retP_ret,retP_norm,retE_ret,retE_norm,retS_ret,retS_norm,wpO_some,frA_fn,klA_p,klA_nil,klA_own,resVs,resV,resT,Option.bind_some,Option.bind_none,Option.map_some,List.getD_cons_zero,List.getD_cons_succ,List.getD_nil,List.length_cons,List.length_nil,List.length_map,List.map_cons,List.map_nil,List.drop_zero,List.drop_succ_cons,List.take_succ_cons,List.take_zero,List.drop_nil,List.take_nil,Nat.reduceEqDiff,Nat.reduceAdd,Nat.reduceLeDiff,Nat.zero_add,Nat.add_zero,Prod.mk.injEq,and_true,true_and,and_false,false_and,and_self,if_true,if_false,ite_true,ite_false,Bool.not_true,Bool.not_false,Bool.not_eq_true',reduceCtorEq,decide_true,decide_false,frTs,frT,frL_p,spS,ofPT_a,ofPT_g,ofPT_t,flat_i,flat_b,flat_s,flat_l,flat_g,flatp_i,flatp_b,flatp_s,flatp_l,klTs,klT,Bool.and_false,Bool.false_and,frL,frA_p,frA_nil,frA_own,ownT,intT,Bool.or_true,Bool.true_or,Bool.false_eq_true,frL_p,klL_p,ownT_p,O.adds,List.all_cons,List.all_nil,List.any_cons,List.any_nil,ownA,evO.bslRows,List.replicate_succ,List.replicate_zero,List.set_cons_zero,rowsA,over,List.cons_append,List.nil_append,List.append_nil,fillA,Bool.and_self,Bool.and_true,Bool.true_and,Bool.or_self,Bool.or_false,Bool.false_or,Nat.reduceMul,Nat.one_mul,Nat.lt_add_one,klL,Nat.le_refl,ite_self,Nat.reduceBEq]
      iterate 5
        all_goals try (refine wpX_bsplit (fun h => ?_) (fun h => ?_) <;> simp only [h,e1,e2,e3,e7,h3,x_seq,x_reg,x_skip,x_exit,x_ret,x_block,x_if,wpC_t,wpC_f,wpI_cons,wpI_nil,wpX_some,evI_any,evI_rd,evI_ad,evI_g,evG_u,evG_b,evG_tt,evG_ff,evG_tf,evG_ft,evO,evR,ev_t,ev_c,ev_f,putD_some,putD_none,put_at,cellsT,ldCells,mkT,lenA,binPV,add_bs,add_clk,add_ls,put_bs,put_clk,put_ls,kill_bs,kill_clk,kill_ls,empty_clk,empty_bs,Env.init,seqQ_norm,seqQ_exit,seqQ_ret,blkQ_norm,blkQ_exit,blkQ_ret,loopQ_norm,loopQ_exit,loopQ_ret,retP_ret,retP_norm,retE_ret,retE_norm,retS_ret,retS_norm,wpO_some,frA_fn,klA_p,klA_nil,klA_own,resVs,resV,resT,Option.bind_some,Option.bind_none,Option.map_some,List.getD_cons_zero,List.getD_cons_succ,List.getD_nil,List.length_cons,List.length_nil,List.length_map,List.map_cons,List.map_nil,List.drop_zero,List.drop_succ_cons,List.take_succ_cons,List.take_zero,List.drop_nil,List.take_nil,Nat.reduceEqDiff,Nat.reduceAdd,Nat.reduceLeDiff,Nat.zero_add,Nat.add_zero,Prod.mk.injEq,and_true,true_and,and_false,false_and,and_self,if_true,if_false,ite_true,ite_false,Bool.not_true,Bool.not_false,Bool.not_eq_true',reduceCtorEq,decide_true,decide_false,frTs,frT,frL_p,spS,ofPT_a,ofPT_g,ofPT_t,flat_i,flat_b,flat_s,flat_l,flat_g,flatp_i,flatp_b,flatp_s,flatp_l,klTs,klT,Bool.and_false,Bool.false_and,frL,frA_p,frA_nil,frA_own,ownT,intT,Bool.or_true,Bool.true_or,Bool.false_eq_true,frL_p,klL_p,ownT_p,O.adds,List.all_cons,List.all_nil,List.any_cons,List.any_nil,ownA,evO.bslRows,List.replicate_succ,List.replicate_zero,List.set_cons_zero,rowsA,over,List.cons_append,List.nil_append,List.append_nil,fillA,Bool.and_self,Bool.and_true,Bool.true_and,Bool.or_self,Bool.or_false,Bool.false_or,Nat.reduceMul,Nat.one_mul,Nat.lt_add_one,klL,Nat.le_refl,ite_self,Nat.reduceBEq])
      all_goals refine ⟨⟨by simp only [e1,x_seq,x_reg,x_skip,x_exit,x_ret,x_block,x_if,wpC_t,wpC_f,wpI_cons,wpI_nil,wpX_some,evI_any,evI_rd,evI_ad,evI_g,evG_u,evG_b,evG_tt,evG_ff,evG_tf,evG_ft,evO,evR,ev_t,ev_c,ev_f,putD_some,putD_none,put_at,cellsT,ldCells,mkT,lenA,binPV,add_bs,add_clk,add_ls,put_bs,put_clk,put_ls,kill_bs,kill_clk,kill_ls,empty_clk,empty_bs,Env.init,seqQ_norm,seqQ_exit,seqQ_ret,blkQ_norm,blkQ_exit,blkQ_ret,loopQ_norm,loopQ_exit,loopQ_ret,retP_ret,retP_norm,retE_ret,retE_norm,retS_ret,retS_norm,wpO_some,frA_fn,klA_p,klA_nil,klA_own,resVs,resV,resT,Option.bind_some,Option.bind_none,Option.map_some,List.getD_cons_zero,List.getD_cons_succ,List.getD_nil,List.length_cons,List.length_nil,List.length_map,List.map_cons,List.map_nil,List.drop_zero,List.drop_succ_cons,List.take_succ_cons,List.take_zero,List.drop_nil,List.take_nil,Nat.reduceEqDiff,Nat.reduceAdd,Nat.reduceLeDiff,Nat.zero_add,Nat.add_zero,Prod.mk.injEq,and_true,true_and,and_false,false_and,and_self,if_true,if_false,ite_true,ite_false,Bool.not_true,Bool.not_false,Bool.not_eq_true',reduceCtorEq,decide_true,decide_false,frTs,frT,frL_p,spS,ofPT_a,ofPT_g,ofPT_t,flat_i,flat_b,flat_s,flat_l,flat_g,flatp_i,flatp_b,flatp_s,flatp_l,klTs,klT,Bool.and_false,Bool.false_and,frL,frA_p,frA_nil,frA_own,ownT,intT,Bool.or_true,Bool.true_or,Bool.false_eq_true,frL_p,klL_p,ownT_p,O.adds,List.all_cons,List.all_nil,List.any_cons,List.any_nil,ownA,evO.bslRows,List.replicate_succ,List.replicate_zero,List.set_cons_zero,rowsA,over,List.cons_append,List.nil_append,List.append_nil,fillA,Bool.and_self,Bool.and_true,Bool.true_and,Bool.or_self,Bool.or_false,Bool.false_or,Nat.reduceMul,Nat.one_mul,Nat.lt_add_one,klL,Nat.le_refl,ite_self,Nat.reduceBEq],by simp only [e2,x_seq,x_reg,x_skip,x_exit,x_ret,x_block,x_if,wpC_t,wpC_f,wpI_cons,wpI_nil,wpX_some,evI_any,evI_rd,evI_ad,evI_g,evG_u,evG_b,evG_tt,evG_ff,evG_tf,evG_ft,evO,evR,ev_t,ev_c,ev_f,putD_some,putD_none,put_at,cellsT,ldCells,mkT,lenA,binPV,add_bs,add_clk,add_ls,put_bs,put_clk,put_ls,kill_bs,kill_clk,kill_ls,empty_clk,empty_bs,Env.init,seqQ_norm,seqQ_exit,seqQ_ret,blkQ_norm,blkQ_exit,blkQ_ret,loopQ_norm,loopQ_exit,loopQ_ret,retP_ret,retP_norm,retE_ret,retE_norm,retS_ret,retS_norm,wpO_some,frA_fn,klA_p,klA_nil,klA_own,resVs,resV,resT,Option.bind_some,Option.bind_none,Option.map_some,List.getD_cons_zero,List.getD_cons_succ,List.getD_nil,List.length_cons,List.length_nil,List.length_map,List.map_cons,List.map_nil,List.drop_zero,List.drop_succ_cons,List.take_succ_cons,List.take_zero,List.drop_nil,List.take_nil,Nat.reduceEqDiff,Nat.reduceAdd,Nat.reduceLeDiff,Nat.zero_add,Nat.add_zero,Prod.mk.injEq,and_true,true_and,and_false,false_and,and_self,if_true,if_false,ite_true,ite_false,Bool.not_true,Bool.not_false,Bool.not_eq_true',reduceCtorEq,decide_true,decide_false,frTs,frT,frL_p,spS,ofPT_a,ofPT_g,ofPT_t,flat_i,flat_b,flat_s,flat_l,flat_g,flatp_i,flatp_b,flatp_s,flatp_l,klTs,klT,Bool.and_false,Bool.false_and,frL,frA_p,frA_nil,frA_own,ownT,intT,Bool.or_true,Bool.true_or,Bool.false_eq_true,frL_p,klL_p,ownT_p,O.adds,List.all_cons,List.all_nil,List.any_cons,List.any_nil,ownA,evO.bslRows,List.replicate_succ,List.replicate_zero,List.set_cons_zero,rowsA,over,List.cons_append,List.nil_append,List.append_nil,fillA,Bool.and_self,Bool.and_true,Bool.true_and,Bool.or_self,Bool.or_false,Bool.false_or,Nat.reduceMul,Nat.one_mul,Nat.lt_add_one,klL,Nat.le_refl,ite_self,Nat.reduceBEq],by simp only [e3,x_seq,x_reg,x_skip,x_exit,x_ret,x_block,x_if,wpC_t,wpC_f,wpI_cons,wpI_nil,wpX_some,evI_any,evI_rd,evI_ad,evI_g,evG_u,evG_b,evG_tt,evG_ff,evG_tf,evG_ft,evO,evR,ev_t,ev_c,ev_f,putD_some,putD_none,put_at,cellsT,ldCells,mkT,lenA,binPV,add_bs,add_clk,add_ls,put_bs,put_clk,put_ls,kill_bs,kill_clk,kill_ls,empty_clk,empty_bs,Env.init,seqQ_norm,seqQ_exit,seqQ_ret,blkQ_norm,blkQ_exit,blkQ_ret,loopQ_norm,loopQ_exit,loopQ_ret,retP_ret,retP_norm,retE_ret,retE_norm,retS_ret,retS_norm,wpO_some,frA_fn,klA_p,klA_nil,klA_own,resVs,resV,resT,Option.bind_some,Option.bind_none,Option.map_some,List.getD_cons_zero,List.getD_cons_succ,List.getD_nil,List.length_cons,List.length_nil,List.length_map,List.map_cons,List.map_nil,List.drop_zero,List.drop_succ_cons,List.take_succ_cons,List.take_zero,List.drop_nil,List.take_nil,Nat.reduceEqDiff,Nat.reduceAdd,Nat.reduceLeDiff,Nat.zero_add,Nat.add_zero,Prod.mk.injEq,and_true,true_and,and_false,false_and,and_self,if_true,if_false,ite_true,ite_false,Bool.not_true,Bool.not_false,Bool.not_eq_true',reduceCtorEq,decide_true,decide_false,frTs,frT,frL_p,spS,ofPT_a,ofPT_g,ofPT_t,flat_i,flat_b,flat_s,flat_l,flat_g,flatp_i,flatp_b,flatp_s,flatp_l,klTs,klT,Bool.and_false,Bool.false_and,frL,frA_p,frA_nil,frA_own,ownT,intT,Bool.or_true,Bool.true_or,Bool.false_eq_true,frL_p,klL_p,ownT_p,O.adds,List.all_cons,List.all_nil,List.any_cons,List.any_nil,ownA,evO.bslRows,List.replicate_succ,List.replicate_zero,List.set_cons_zero,rowsA,over,List.cons_append,List.nil_append,List.append_nil,fillA,Bool.and_self,Bool.and_true,Bool.true_and,Bool.or_self,Bool.or_false,Bool.false_or,Nat.reduceMul,Nat.one_mul,Nat.lt_add_one,klL,Nat.le_refl,ite_self,Nat.reduceBEq],by simp only [h3,x_seq,x_reg,x_skip,x_exit,x_ret,x_block,x_if,wpC_t,wpC_f,wpI_cons,wpI_nil,wpX_some,evI_any,evI_rd,evI_ad,evI_g,evG_u,evG_b,evG_tt,evG_ff,evG_tf,evG_ft,evO,evR,ev_t,ev_c,ev_f,putD_some,putD_none,put_at,cellsT,ldCells,mkT,lenA,binPV,add_bs,add_clk,add_ls,put_bs,put_clk,put_ls,kill_bs,kill_clk,kill_ls,empty_clk,empty_bs,Env.init,seqQ_norm,seqQ_exit,seqQ_ret,blkQ_norm,blkQ_exit,blkQ_ret,loopQ_norm,loopQ_exit,loopQ_ret,retP_ret,retP_norm,retE_ret,retE_norm,retS_ret,retS_norm,wpO_some,frA_fn,klA_p,klA_nil,klA_own,resVs,resV,resT,Option.bind_some,Option.bind_none,Option.map_some,List.getD_cons_zero,List.getD_cons_succ,List.getD_nil,List.length_cons,List.length_nil,List.length_map,List.map_cons,List.map_nil,List.drop_zero,List.drop_succ_cons,List.take_succ_cons,List.take_zero,List.drop_nil,List.take_nil,Nat.reduceEqDiff,Nat.reduceAdd,Nat.reduceLeDiff,Nat.zero_add,Nat.add_zero,Prod.mk.injEq,and_true,true_and,and_false,false_and,and_self,if_true,if_false,ite_true,ite_false,Bool.not_true,Bool.not_false,Bool.not_eq_true',reduceCtorEq,decide_true,decide_false,frTs,frT,frL_p,spS,ofPT_a,ofPT_g,ofPT_t,flat_i,flat_b,flat_s,flat_l,flat_g,flatp_i,flatp_b,flatp_s,flatp_l,klTs,klT,Bool.and_false,Bool.false_and,frL,frA_p,frA_nil,frA_own,ownT,intT,Bool.or_true,Bool.true_or,Bool.false_eq_true,frL_p,klL_p,ownT_p,O.adds,List.all_cons,List.all_nil,List.any_cons,List.any_nil,ownA,evO.bslRows,List.replicate_succ,List.replicate_zero,List.set_cons_zero,rowsA,over,List.cons_append,List.nil_append,List.append_nil,fillA,Bool.and_self,Bool.and_true,Bool.true_and,Bool.or_self,Bool.or_false,Bool.false_or,Nat.reduceMul,Nat.one_mul,Nat.lt_add_one,klL,Nat.le_refl,ite_self,Nat.reduceBEq]⟩,?_⟩
      all_goals simp only [isOp, *,x_seq,x_reg,x_skip,x_exit,x_ret,x_block,x_if,wpC_t,wpC_f,wpI_cons,wpI_nil,wpX_some,evI_any,evI_rd,evI_ad,evI_g,evG_u,evG_b,evG_tt,evG_ff,evG_tf,evG_ft,evO,evR,ev_t,ev_c,ev_f,putD_some,putD_none,put_at,cellsT,ldCells,mkT,lenA,binPV,add_bs,add_clk,add_ls,put_bs,put_clk,put_ls,kill_bs,kill_clk,kill_ls,empty_clk,empty_bs,Env.init,seqQ_norm,seqQ_exit,seqQ_ret,blkQ_norm,blkQ_exit,blkQ_ret,loopQ_norm,loopQ_exit,loopQ_ret,retP_ret,retP_norm,retE_ret,retE_norm,retS_ret,retS_norm,wpO_some,frA_fn,klA_p,klA_nil,klA_own,resVs,resV,resT,Option.bind_some,Option.bind_none,Option.map_some,List.getD_cons_zero,List.getD_cons_succ,List.getD_nil,List.length_cons,List.length_nil,List.length_map,List.map_cons,List.map_nil,List.drop_zero,List.drop_succ_cons,List.take_succ_cons,List.take_zero,List.drop_nil,List.take_nil,Nat.reduceEqDiff,Nat.reduceAdd,Nat.reduceLeDiff,Nat.zero_add,Nat.add_zero,Prod.mk.injEq,and_true,true_and,and_false,false_and,and_self,if_true,if_false,ite_true,ite_false,Bool.not_true,Bool.not_false,Bool.not_eq_true',reduceCtorEq,decide_true,decide_false,frTs,frT,frL_p,spS,ofPT_a,ofPT_g,ofPT_t,flat_i,flat_b,flat_s,flat_l,flat_g,flatp_i,flatp_b,flatp_s,flatp_l,klTs,klT,Bool.and_false,Bool.false_and,frL,frA_p,frA_nil,frA_own,ownT,intT,Bool.or_true,Bool.true_or,Bool.false_eq_true,frL_p,klL_p,ownT_p,O.adds,List.all_cons,List.all_nil,List.any_cons,List.any_nil,ownA,evO.bslRows,List.replicate_succ,List.replicate_zero,List.set_cons_zero,rowsA,over,List.cons_append,List.nil_append,List.append_nil,fillA,Bool.and_self,Bool.and_true,Bool.true_and,Bool.or_self,Bool.or_false,Bool.false_or,Nat.reduceMul,Nat.one_mul,Nat.lt_add_one,klL,Nat.le_refl,ite_self,Nat.reduceBEq]
    clear e1 e2 e3 e7 h3
    obtain ⟨⟨e1,e2,e3,h3⟩,e7,e8⟩ := hM
    refine x_cut (fun e σ => HeadM free alt k n s l e σ ∧ e 7 = .a (.p (.i .i64 l.length)) ∧ e 8 = .a (.p (.b (isOp s))) ∧ e 9 = .a (.p (.b (decide (s = []) && decide (n = 0))))) ?_ fun e3' σ3' hM => ?_
    · simp only [e1,e2,e3,e7,e8,h3,x_seq,x_reg,x_skip,x_exit,x_ret,x_block,x_if,wpC_t,wpC_f,wpI_cons,wpI_nil,wpX_some,evI_any,evI_rd,evI_ad,evI_g,evG_u,evG_b,evG_tt,evG_ff,evG_tf,evG_ft,evO,evR,ev_t,ev_c,ev_f,putD_some,putD_none,put_at,cellsT,ldCells,mkT,lenA,binPV,add_bs,add_clk,add_ls,put_bs,put_clk,put_ls,kill_bs,kill_clk,kill_ls,empty_clk,empty_bs,Env.init,seqQ_norm,seqQ_exit,seqQ_ret,blkQ_norm,blkQ_exit,blkQ_ret,loopQ_norm,loopQ_exit,loopQ_ret,retP_ret,retP_norm,retE_ret,retE_norm,retS_ret,retS_norm,wpO_some,frA_fn,klA_p,klA_nil,klA_own,resVs,resV,resT,Option.bind_some,Option.bind_none,Option.map_some,List.getD_cons_zero,List.getD_cons_succ,List.getD_nil,List.length_cons,List.length_nil,List.length_map,List.map_cons,List.map_nil,List.drop_zero,List.drop_succ_cons,List.take_succ_cons,List.take_zero,List.drop_nil,List.take_nil,Nat.reduceEqDiff,Nat.reduceAdd,Nat.reduceLeDiff,Nat.zero_add,Nat.add_zero,Prod.mk.injEq,and_true,true_and,and_false,false_and,and_self,if_true,if_false,ite_true,ite_false,Bool.not_true,Bool.not_false,Bool.not_eq_true',reduceCtorEq,decide_true,decide_false,frTs,frT,frL_p,spS,ofPT_a,ofPT_g,ofPT_t,flat_i,flat_b,flat_s,flat_l,flat_g,flatp_i,flatp_b,flatp_s,flatp_l,klTs,klT,Bool.and_false,Bool.false_and,frL,frA_p,frA_nil,frA_own,ownT,intT,Bool.or_true,Bool.true_or,Bool.false_eq_true,frL_p,klL_p,ownT_p,O.adds,List.all_cons,List.all_nil,List.any_cons,List.any_nil,ownA,evO.bslRows,List.replicate_succ,List.replicate_zero,List.set_cons_zero,rowsA,over,List.cons_append,List.nil_append,List.append_nil,fillA,Bool.and_self,Bool.and_true,Bool.true_and,Bool.or_self,Bool.or_false,Bool.false_or,Nat.reduceMul,Nat.one_mul,Nat.lt_add_one,klL,Nat.le_refl,ite_self,Nat.reduceBEq]
      refine wpX_bsplit (fun h => ?_) (fun h => ?_) <;> simp only [h,e1,e2,e3,e7,e8,h3,x_seq,x_reg,x_skip,x_exit,x_ret,x_block,x_if,wpC_t,wpC_f,wpI_cons,wpI_nil,wpX_some,evI_any,evI_rd,evI_ad,evI_g,evG_u,evG_b,evG_tt,evG_ff,evG_tf,evG_ft,evO,evR,ev_t,ev_c,ev_f,putD_some,putD_none,put_at,cellsT,ldCells,mkT,lenA,binPV,add_bs,add_clk,add_ls,put_bs,put_clk,put_ls,kill_bs,kill_clk,kill_ls,empty_clk,empty_bs,Env.init,seqQ_norm,seqQ_exit,seqQ_ret,blkQ_norm,blkQ_exit,blkQ_ret,loopQ_norm,loopQ_exit,loopQ_ret,retP_ret,retP_norm,retE_ret,retE_norm,retS_ret,retS_norm,wpO_some,frA_fn,klA_p,klA_nil,klA_own,resVs,resV,resT,Option.bind_some,Option.bind_none,Option.map_some,List.getD_cons_zero,List.getD_cons_succ,List.getD_nil,List.length_cons,List.length_nil,List.length_map,List.map_cons,List.map_nil,List.drop_zero,List.drop_succ_cons,List.take_succ_cons,List.take_zero,List.drop_nil,List.take_nil,Nat.reduceEqDiff,Nat.reduceAdd,Nat.reduceLeDiff,Nat.zero_add,Nat.add_zero,Prod.mk.injEq,and_true,true_and,and_false,false_and,and_self,if_true,if_false,ite_true,ite_false,Bool.not_true,Bool.not_false,Bool.not_eq_true',reduceCtorEq,decide_true,decide_false,frTs,frT,frL_p,spS,ofPT_a,ofPT_g,ofPT_t,flat_i,flat_b,flat_s,flat_l,flat_g,flatp_i,flatp_b,flatp_s,flatp_l,klTs,klT,Bool.and_false,Bool.false_and,frL,frA_p,frA_nil,frA_own,ownT,intT,Bool.or_true,Bool.true_or,Bool.false_eq_true,frL_p,klL_p,ownT_p,O.adds,List.all_cons,List.all_nil,List.any_cons,List.any_nil,ownA,evO.bslRows,List.replicate_succ,List.replicate_zero,List.set_cons_zero,rowsA,over,List.cons_append,List.nil_append,List.append_nil,fillA,Bool.and_self,Bool.and_true,Bool.true_and,Bool.or_self,Bool.or_false,Bool.false_or,Nat.reduceMul,Nat.one_mul,Nat.lt_add_one,klL,Nat.le_refl,ite_self,Nat.reduceBEq]
      all_goals refine ⟨by simp only [e1,x_seq,x_reg,x_skip,x_exit,x_ret,x_block,x_if,wpC_t,wpC_f,wpI_cons,wpI_nil,wpX_some,evI_any,evI_rd,evI_ad,evI_g,evG_u,evG_b,evG_tt,evG_ff,evG_tf,evG_ft,evO,evR,ev_t,ev_c,ev_f,putD_some,putD_none,put_at,cellsT,ldCells,mkT,lenA,binPV,add_bs,add_clk,add_ls,put_bs,put_clk,put_ls,kill_bs,kill_clk,kill_ls,empty_clk,empty_bs,Env.init,seqQ_norm,seqQ_exit,seqQ_ret,blkQ_norm,blkQ_exit,blkQ_ret,loopQ_norm,loopQ_exit,loopQ_ret,retP_ret,retP_norm,retE_ret,retE_norm,retS_ret,retS_norm,wpO_some,frA_fn,klA_p,klA_nil,klA_own,resVs,resV,resT,Option.bind_some,Option.bind_none,Option.map_some,List.getD_cons_zero,List.getD_cons_succ,List.getD_nil,List.length_cons,List.length_nil,List.length_map,List.map_cons,List.map_nil,List.drop_zero,List.drop_succ_cons,List.take_succ_cons,List.take_zero,List.drop_nil,List.take_nil,Nat.reduceEqDiff,Nat.reduceAdd,Nat.reduceLeDiff,Nat.zero_add,Nat.add_zero,Prod.mk.injEq,and_true,true_and,and_false,false_and,and_self,if_true,if_false,ite_true,ite_false,Bool.not_true,Bool.not_false,Bool.not_eq_true',reduceCtorEq,decide_true,decide_false,frTs,frT,frL_p,spS,ofPT_a,ofPT_g,ofPT_t,flat_i,flat_b,flat_s,flat_l,flat_g,flatp_i,flatp_b,flatp_s,flatp_l,klTs,klT,Bool.and_false,Bool.false_and,frL,frA_p,frA_nil,frA_own,ownT,intT,Bool.or_true,Bool.true_or,Bool.false_eq_true,frL_p,klL_p,ownT_p,O.adds,List.all_cons,List.all_nil,List.any_cons,List.any_nil,ownA,evO.bslRows,List.replicate_succ,List.replicate_zero,List.set_cons_zero,rowsA,over,List.cons_append,List.nil_append,List.append_nil,fillA,Bool.and_self,Bool.and_true,Bool.true_and,Bool.or_self,Bool.or_false,Bool.false_or,Nat.reduceMul,Nat.one_mul,Nat.lt_add_one,klL,Nat.le_refl,ite_self,Nat.reduceBEq],by simp only [e2,x_seq,x_reg,x_skip,x_exit,x_ret,x_block,x_if,wpC_t,wpC_f,wpI_cons,wpI_nil,wpX_some,evI_any,evI_rd,evI_ad,evI_g,evG_u,evG_b,evG_tt,evG_ff,evG_tf,evG_ft,evO,evR,ev_t,ev_c,ev_f,putD_some,putD_none,put_at,cellsT,ldCells,mkT,lenA,binPV,add_bs,add_clk,add_ls,put_bs,put_clk,put_ls,kill_bs,kill_clk,kill_ls,empty_clk,empty_bs,Env.init,seqQ_norm,seqQ_exit,seqQ_ret,blkQ_norm,blkQ_exit,blkQ_ret,loopQ_norm,loopQ_exit,loopQ_ret,retP_ret,retP_norm,retE_ret,retE_norm,retS_ret,retS_norm,wpO_some,frA_fn,klA_p,klA_nil,klA_own,resVs,resV,resT,Option.bind_some,Option.bind_none,Option.map_some,List.getD_cons_zero,List.getD_cons_succ,List.getD_nil,List.length_cons,List.length_nil,List.length_map,List.map_cons,List.map_nil,List.drop_zero,List.drop_succ_cons,List.take_succ_cons,List.take_zero,List.drop_nil,List.take_nil,Nat.reduceEqDiff,Nat.reduceAdd,Nat.reduceLeDiff,Nat.zero_add,Nat.add_zero,Prod.mk.injEq,and_true,true_and,and_false,false_and,and_self,if_true,if_false,ite_true,ite_false,Bool.not_true,Bool.not_false,Bool.not_eq_true',reduceCtorEq,decide_true,decide_false,frTs,frT,frL_p,spS,ofPT_a,ofPT_g,ofPT_t,flat_i,flat_b,flat_s,flat_l,flat_g,flatp_i,flatp_b,flatp_s,flatp_l,klTs,klT,Bool.and_false,Bool.false_and,frL,frA_p,frA_nil,frA_own,ownT,intT,Bool.or_true,Bool.true_or,Bool.false_eq_true,frL_p,klL_p,ownT_p,O.adds,List.all_cons,List.all_nil,List.any_cons,List.any_nil,ownA,evO.bslRows,List.replicate_succ,List.replicate_zero,List.set_cons_zero,rowsA,over,List.cons_append,List.nil_append,List.append_nil,fillA,Bool.and_self,Bool.and_true,Bool.true_and,Bool.or_self,Bool.or_false,Bool.false_or,Nat.reduceMul,Nat.one_mul,Nat.lt_add_one,klL,Nat.le_refl,ite_self,Nat.reduceBEq],by simp only [e3,x_seq,x_reg,x_skip,x_exit,x_ret,x_block,x_if,wpC_t,wpC_f,wpI_cons,wpI_nil,wpX_some,evI_any,evI_rd,evI_ad,evI_g,evG_u,evG_b,evG_tt,evG_ff,evG_tf,evG_ft,evO,evR,ev_t,ev_c,ev_f,putD_some,putD_none,put_at,cellsT,ldCells,mkT,lenA,binPV,add_bs,add_clk,add_ls,put_bs,put_clk,put_ls,kill_bs,kill_clk,kill_ls,empty_clk,empty_bs,Env.init,seqQ_norm,seqQ_exit,seqQ_ret,blkQ_norm,blkQ_exit,blkQ_ret,loopQ_norm,loopQ_exit,loopQ_ret,retP_ret,retP_norm,retE_ret,retE_norm,retS_ret,retS_norm,wpO_some,frA_fn,klA_p,klA_nil,klA_own,resVs,resV,resT,Option.bind_some,Option.bind_none,Option.map_some,List.getD_cons_zero,List.getD_cons_succ,List.getD_nil,List.length_cons,List.length_nil,List.length_map,List.map_cons,List.map_nil,List.drop_zero,List.drop_succ_cons,List.take_succ_cons,List.take_zero,List.drop_nil,List.take_nil,Nat.reduceEqDiff,Nat.reduceAdd,Nat.reduceLeDiff,Nat.zero_add,Nat.add_zero,Prod.mk.injEq,and_true,true_and,and_false,false_and,and_self,if_true,if_false,ite_true,ite_false,Bool.not_true,Bool.not_false,Bool.not_eq_true',reduceCtorEq,decide_true,decide_false,frTs,frT,frL_p,spS,ofPT_a,ofPT_g,ofPT_t,flat_i,flat_b,flat_s,flat_l,flat_g,flatp_i,flatp_b,flatp_s,flatp_l,klTs,klT,Bool.and_false,Bool.false_and,frL,frA_p,frA_nil,frA_own,ownT,intT,Bool.or_true,Bool.true_or,Bool.false_eq_true,frL_p,klL_p,ownT_p,O.adds,List.all_cons,List.all_nil,List.any_cons,List.any_nil,ownA,evO.bslRows,List.replicate_succ,List.replicate_zero,List.set_cons_zero,rowsA,over,List.cons_append,List.nil_append,List.append_nil,fillA,Bool.and_self,Bool.and_true,Bool.true_and,Bool.or_self,Bool.or_false,Bool.false_or,Nat.reduceMul,Nat.one_mul,Nat.lt_add_one,klL,Nat.le_refl,ite_self,Nat.reduceBEq],by simp only [h3,x_seq,x_reg,x_skip,x_exit,x_ret,x_block,x_if,wpC_t,wpC_f,wpI_cons,wpI_nil,wpX_some,evI_any,evI_rd,evI_ad,evI_g,evG_u,evG_b,evG_tt,evG_ff,evG_tf,evG_ft,evO,evR,ev_t,ev_c,ev_f,putD_some,putD_none,put_at,cellsT,ldCells,mkT,lenA,binPV,add_bs,add_clk,add_ls,put_bs,put_clk,put_ls,kill_bs,kill_clk,kill_ls,empty_clk,empty_bs,Env.init,seqQ_norm,seqQ_exit,seqQ_ret,blkQ_norm,blkQ_exit,blkQ_ret,loopQ_norm,loopQ_exit,loopQ_ret,retP_ret,retP_norm,retE_ret,retE_norm,retS_ret,retS_norm,wpO_some,frA_fn,klA_p,klA_nil,klA_own,resVs,resV,resT,Option.bind_some,Option.bind_none,Option.map_some,List.getD_cons_zero,List.getD_cons_succ,List.getD_nil,List.length_cons,List.length_nil,List.length_map,List.map_cons,List.map_nil,List.drop_zero,List.drop_succ_cons,List.take_succ_cons,List.take_zero,List.drop_nil,List.take_nil,Nat.reduceEqDiff,Nat.reduceAdd,Nat.reduceLeDiff,Nat.zero_add,Nat.add_zero,Prod.mk.injEq,and_true,true_and,and_false,false_and,and_self,if_true,if_false,ite_true,ite_false,Bool.not_true,Bool.not_false,Bool.not_eq_true',reduceCtorEq,decide_true,decide_false,frTs,frT,frL_p,spS,ofPT_a,ofPT_g,ofPT_t,flat_i,flat_b,flat_s,flat_l,flat_g,flatp_i,flatp_b,flatp_s,flatp_l,klTs,klT,Bool.and_false,Bool.false_and,frL,frA_p,frA_nil,frA_own,ownT,intT,Bool.or_true,Bool.true_or,Bool.false_eq_true,frL_p,klL_p,ownT_p,O.adds,List.all_cons,List.all_nil,List.any_cons,List.any_nil,ownA,evO.bslRows,List.replicate_succ,List.replicate_zero,List.set_cons_zero,rowsA,over,List.cons_append,List.nil_append,List.append_nil,fillA,Bool.and_self,Bool.and_true,Bool.true_and,Bool.or_self,Bool.or_false,Bool.false_or,Nat.reduceMul,Nat.one_mul,Nat.lt_add_one,klL,Nat.le_refl,ite_self,Nat.reduceBEq]⟩
    clear e1 e2 e3 e7 e8 h3
    obtain ⟨⟨e1,e2,e3,h3⟩,e7,e8,e9⟩ := hM
    cases alt with
    | true =>
      simp only [e1,e2,e3,e7,e8,e9,h3,hc,x_seq,x_reg,x_skip,x_exit,x_ret,x_block,x_if,wpC_t,wpC_f,wpI_cons,wpI_nil,wpX_some,evI_any,evI_rd,evI_ad,evI_g,evG_u,evG_b,evG_tt,evG_ff,evG_tf,evG_ft,evO,evR,ev_t,ev_c,ev_f,putD_some,putD_none,put_at,cellsT,ldCells,mkT,lenA,binPV,add_bs,add_clk,add_ls,put_bs,put_clk,put_ls,kill_bs,kill_clk,kill_ls,empty_clk,empty_bs,Env.init,seqQ_norm,seqQ_exit,seqQ_ret,blkQ_norm,blkQ_exit,blkQ_ret,loopQ_norm,loopQ_exit,loopQ_ret,retP_ret,retP_norm,retE_ret,retE_norm,retS_ret,retS_norm,wpO_some,frA_fn,klA_p,klA_nil,klA_own,resVs,resV,resT,Option.bind_some,Option.bind_none,Option.map_some,List.getD_cons_zero,List.getD_cons_succ,List.getD_nil,List.length_cons,List.length_nil,List.length_map,List.map_cons,List.map_nil,List.drop_zero,List.drop_succ_cons,List.take_succ_cons,List.take_zero,List.drop_nil,List.take_nil,Nat.reduceEqDiff,Nat.reduceAdd,Nat.reduceLeDiff,Nat.zero_add,Nat.add_zero,Prod.mk.injEq,and_true,true_and,and_false,false_and,and_self,if_true,if_false,ite_true,ite_false,Bool.not_true,Bool.not_false,Bool.not_eq_true',reduceCtorEq,decide_true,decide_false,frTs,frT,frL_p,spS,ofPT_a,ofPT_g,ofPT_t,flat_i,flat_b,flat_s,flat_l,flat_g,flatp_i,flatp_b,flatp_s,flatp_l,klTs,klT,Bool.and_false,Bool.false_and,frL,frA_p,frA_nil,frA_own,ownT,intT,Bool.or_true,Bool.true_or,Bool.false_eq_true,frL_p,klL_p,ownT_p,O.adds,List.all_cons,List.all_nil,List.any_cons,List.any_nil,ownA,evO.bslRows,List.replicate_succ,List.replicate_zero,List.set_cons_zero,rowsA,over,List.cons_append,List.nil_append,List.append_nil,fillA,Bool.and_self,Bool.and_true,Bool.true_and,Bool.or_self,Bool.or_false,Bool.false_or,Nat.reduceMul,Nat.one_mul,Nat.lt_add_one,klL,Nat.le_refl,ite_self,Nat.reduceBEq]
      iterate 5
        all_goals try (refine wpX_bsplit (fun h => ?_) (fun h => ?_) <;> simp only [h,e1,e2,e3,e7,e8,e9,h3,hc,x_seq,x_reg,x_skip,x_exit,x_ret,x_block,x_if,wpC_t,wpC_f,wpI_cons,wpI_nil,wpX_some,evI_any,evI_rd,evI_ad,evI_g,evG_u,evG_b,evG_tt,evG_ff,evG_tf,evG_ft,evO,evR,ev_t,ev_c,ev_f,putD_some,putD_none,put_at,cellsT,ldCells,mkT,lenA,binPV,add_bs,add_clk,add_ls,put_bs,put_clk,put_ls,kill_bs,kill_clk,kill_ls,empty_clk,empty_bs,Env.init,seqQ_norm,seqQ_exit,seqQ_ret,blkQ_norm,blkQ_exit,blkQ_ret,loopQ_norm,loopQ_exit,loopQ_ret,retP_ret,retP_norm,retE_ret,retE_norm,retS_ret,retS_norm,wpO_some,frA_fn,klA_p,klA_nil,klA_own,resVs,resV,resT,Option.bind_some,Option.bind_none,Option.map_some,List.getD_cons_zero,List.getD_cons_succ,List.getD_nil,List.length_cons,List.length_nil,List.length_map,List.map_cons,List.map_nil,List.drop_zero,List.drop_succ_cons,List.take_succ_cons,List.take_zero,List.drop_nil,List.take_nil,Nat.reduceEqDiff,Nat.reduceAdd,Nat.reduceLeDiff,Nat.zero_add,Nat.add_zero,Prod.mk.injEq,and_true,true_and,and_false,false_and,and_self,if_true,if_false,ite_true,ite_false,Bool.not_true,Bool.not_false,Bool.not_eq_true',reduceCtorEq,decide_true,decide_false,frTs,frT,frL_p,spS,ofPT_a,ofPT_g,ofPT_t,flat_i,flat_b,flat_s,flat_l,flat_g,flatp_i,flatp_b,flatp_s,flatp_l,klTs,klT,Bool.and_false,Bool.false_and,frL,frA_p,frA_nil,frA_own,ownT,intT,Bool.or_true,Bool.true_or,Bool.false_eq_true,frL_p,klL_p,ownT_p,O.adds,List.all_cons,List.all_nil,List.any_cons,List.any_nil,ownA,evO.bslRows,List.replicate_succ,List.replicate_zero,List.set_cons_zero,rowsA,over,List.cons_append,List.nil_append,List.append_nil,fillA,Bool.and_self,Bool.and_true,Bool.true_and,Bool.or_self,Bool.or_false,Bool.false_or,Nat.reduceMul,Nat.one_mul,Nat.lt_add_one,klL,Nat.le_refl,ite_self,Nat.reduceBEq])
      all_goals clear e1 e2 e3 e7 e8 e9 h3 hc hl hs hk hn
      all_goals simp only [Bool.not_eq_false',Bool.not_eq_true',Bool.not_false,Bool.not_true,decide_eq_true_eq,decide_eq_false_iff_not,Int.natCast_inj] at *
      all_goals (refine congrArg (fun z => some (PT.a (PV.b z))) (Bool.eq_iff_iff.2 ?_); simp_all [headC] <;> omega)
    | false =>
      simp only [e1,e2,e3,e7,e8,e9,h3,hc,x_seq,x_reg,x_skip,x_exit,x_ret,x_block,x_if,wpC_t,wpC_f,wpI_cons,wpI_nil,wpX_some,evI_any,evI_rd,evI_ad,evI_g,evG_u,evG_b,evG_tt,evG_ff,evG_tf,evG_ft,evO,evR,ev_t,ev_c,ev_f,putD_some,putD_none,put_at,cellsT,ldCells,mkT,lenA,binPV,add_bs,add_clk,add_ls,put_bs,put_clk,put_ls,kill_bs,kill_clk,kill_ls,empty_clk,empty_bs,Env.init,seqQ_norm,seqQ_exit,seqQ_ret,blkQ_norm,blkQ_exit,blkQ_ret,loopQ_norm,loopQ_exit,loopQ_ret,retP_ret,retP_norm,retE_ret,retE_norm,retS_ret,retS_norm,wpO_some,frA_fn,klA_p,klA_nil,klA_own,resVs,resV,resT,Option.bind_some,Option.bind_none,Option.map_some,List.getD_cons_zero,List.getD_cons_succ,List.getD_nil,List.length_cons,List.length_nil,List.length_map,List.map_cons,List.map_nil,List.drop_zero,List.drop_succ_cons,List.take_succ_cons,List.take_zero,List.drop_nil,List.take_nil,Nat.reduceEqDiff,Nat.reduceAdd,Nat.reduceLeDiff,Nat.zero_add,Nat.add_zero,Prod.mk.injEq,and_true,true_and,and_false,false_and,and_self,if_true,if_false,ite_true,ite_false,Bool.not_true,Bool.not_false,Bool.not_eq_true',reduceCtorEq,decide_true,decide_false,frTs,frT,frL_p,spS,ofPT_a,ofPT_g,ofPT_t,flat_i,flat_b,flat_s,flat_l,flat_g,flatp_i,flatp_b,flatp_s,flatp_l,klTs,klT,Bool.and_false,Bool.false_and,frL,frA_p,frA_nil,frA_own,ownT,intT,Bool.or_true,Bool.true_or,Bool.false_eq_true,frL_p,klL_p,ownT_p,O.adds,List.all_cons,List.all_nil,List.any_cons,List.any_nil,ownA,evO.bslRows,List.replicate_succ,List.replicate_zero,List.set_cons_zero,rowsA,over,List.cons_append,List.nil_append,List.append_nil,fillA,Bool.and_self,Bool.and_true,Bool.true_and,Bool.or_self,Bool.or_false,Bool.false_or,Nat.reduceMul,Nat.one_mul,Nat.lt_add_one,klL,Nat.le_refl,ite_self,Nat.reduceBEq]
      iterate 12
        all_goals try (first
          | (refine wpX_bsplit (fun h => ?_) (fun h => ?_) <;> simp only [h,e1,e2,e3,e7,e8,e9,h3,hc,x_seq,x_reg,x_skip,x_exit,x_ret,x_block,x_if,wpC_t,wpC_f,wpI_cons,wpI_nil,wpX_some,evI_any,evI_rd,evI_ad,evI_g,evG_u,evG_b,evG_tt,evG_ff,evG_tf,evG_ft,evO,evR,ev_t,ev_c,ev_f,putD_some,putD_none,put_at,cellsT,ldCells,mkT,lenA,binPV,add_bs,add_clk,add_ls,put_bs,put_clk,put_ls,kill_bs,kill_clk,kill_ls,empty_clk,empty_bs,Env.init,seqQ_norm,seqQ_exit,seqQ_ret,blkQ_norm,blkQ_exit,blkQ_ret,loopQ_norm,loopQ_exit,loopQ_ret,retP_ret,retP_norm,retE_ret,retE_norm,retS_ret,retS_norm,wpO_some,frA_fn,klA_p,klA_nil,klA_own,resVs,resV,resT,Option.bind_some,Option.bind_none,Option.map_some,List.getD_cons_zero,List.getD_cons_succ,List.getD_nil,List.length_cons,List.length_nil,List.length_map,List.map_cons,List.map_nil,List.drop_zero,List.drop_succ_cons,List.take_succ_cons,List.take_zero,List.drop_nil,List.take_nil,Nat.reduceEqDiff,Nat.reduceAdd,Nat.reduceLeDiff,Nat.zero_add,Nat.add_zero,Prod.mk.injEq,and_true,true_and,and_false,false_and,and_self,if_true,if_false,ite_true,ite_false,Bool.not_true,Bool.not_false,Bool.not_eq_true',reduceCtorEq,decide_true,decide_false,frTs,frT,frL_p,spS,ofPT_a,ofPT_g,ofPT_t,flat_i,flat_b,flat_s,flat_l,flat_g,flatp_i,flatp_b,flatp_s,flatp_l,klTs,klT,Bool.and_false,Bool.false_and,frL,frA_p,frA_nil,frA_own,ownT,intT,Bool.or_true,Bool.true_or,Bool.false_eq_true,frL_p,klL_p,ownT_p,O.adds,List.all_cons,List.all_nil,List.any_cons,List.any_nil,ownA,evO.bslRows,List.replicate_succ,List.replicate_zero,List.set_cons_zero,rowsA,over,List.cons_append,List.nil_append,List.append_nil,fillA,Bool.and_self,Bool.and_true,Bool.true_and,Bool.or_self,Bool.or_false,Bool.false_or,Nat.reduceMul,Nat.one_mul,Nat.lt_add_one,klL,Nat.le_refl,ite_self,Nat.reduceBEq])
          | (refine wpC_split (fun h => ?_) (fun h => ?_) <;> simp only [h,e1,e2,e3,e7,e8,e9,h3,hc,x_seq,x_reg,x_skip,x_exit,x_ret,x_block,x_if,wpC_t,wpC_f,wpI_cons,wpI_nil,wpX_some,evI_any,evI_rd,evI_ad,evI_g,evG_u,evG_b,evG_tt,evG_ff,evG_tf,evG_ft,evO,evR,ev_t,ev_c,ev_f,putD_some,putD_none,put_at,cellsT,ldCells,mkT,lenA,binPV,add_bs,add_clk,add_ls,put_bs,put_clk,put_ls,kill_bs,kill_clk,kill_ls,empty_clk,empty_bs,Env.init,seqQ_norm,seqQ_exit,seqQ_ret,blkQ_norm,blkQ_exit,blkQ_ret,loopQ_norm,loopQ_exit,loopQ_ret,retP_ret,retP_norm,retE_ret,retE_norm,retS_ret,retS_norm,wpO_some,frA_fn,klA_p,klA_nil,klA_own,resVs,resV,resT,Option.bind_some,Option.bind_none,Option.map_some,List.getD_cons_zero,List.getD_cons_succ,List.getD_nil,List.length_cons,List.length_nil,List.length_map,List.map_cons,List.map_nil,List.drop_zero,List.drop_succ_cons,List.take_succ_cons,List.take_zero,List.drop_nil,List.take_nil,Nat.reduceEqDiff,Nat.reduceAdd,Nat.reduceLeDiff,Nat.zero_add,Nat.add_zero,Prod.mk.injEq,and_true,true_and,and_false,false_and,and_self,if_true,if_false,ite_true,ite_false,Bool.not_true,Bool.not_false,Bool.not_eq_true',reduceCtorEq,decide_true,decide_false,frTs,frT,frL_p,spS,ofPT_a,ofPT_g,ofPT_t,flat_i,flat_b,flat_s,flat_l,flat_g,flatp_i,flatp_b,flatp_s,flatp_l,klTs,klT,Bool.and_false,Bool.false_and,frL,frA_p,frA_nil,frA_own,ownT,intT,Bool.or_true,Bool.true_or,Bool.false_eq_true,frL_p,klL_p,ownT_p,O.adds,List.all_cons,List.all_nil,List.any_cons,List.any_nil,ownA,evO.bslRows,List.replicate_succ,List.replicate_zero,List.set_cons_zero,rowsA,over,List.cons_append,List.nil_append,List.append_nil,fillA,Bool.and_self,Bool.and_true,Bool.true_and,Bool.or_self,Bool.or_false,Bool.false_or,Nat.reduceMul,Nat.one_mul,Nat.lt_add_one,klL,Nat.le_refl,ite_self,Nat.reduceBEq]))
      all_goals clear e1 e2 e3 e7 e8 e9 h3 hc hl hs hk hn
      all_goals simp only [Bool.not_eq_false',Bool.not_eq_true',Bool.not_false,Bool.not_true,decide_eq_true_eq,decide_eq_false_iff_not,Int.natCast_inj] at *
      all_goals (refine congrArg (fun z => some (PT.a (PV.b z))) (Bool.eq_iff_iff.2 ?_); simp_all [headC] <;> omega)
end Go.Proofs.Ytlgekplmbmkcmaa
end
section
set_option linter.unusedSimpArgs false
set_option linter.unusedVariables false
namespace Go.Proofs.Ytlgekplmbmkcmaa
open Go.Fx
def dup (l : List T) (i : Nat) (s : List UInt8) : Bool := ((l.take i).drop 1).any fun u => decide (u.s = s)
mutual
noncomputable def may : T → Int → Bool → Bool
  | .mk k n s l,free,alt => if free < 0 then false else if head (.mk k n s l) free alt then mayL k l l 0 (if k = 2 then w (free + 1) else if k = 6 then w (free + n) else free) else false
noncomputable def mayL (k : Int) (all : List T) : List T → Nat → Int → Bool
  | [],_,_ => true
  | t :: r,i,free => may t free (decide (k = 5) && decide ((i : Int) > 0)) && !(decide (k = 5) && dup all i t.s) && mayL k all r (i + 1) free
end
theorem loop60b (t : T) (hl : t.l.length * 56 ≤ reachBytes) (i : Nat) (x : T) (hi : i < t.l.length) (hx : t.l[i]? = some x) (Q : Ex → Env → St → Prop) :
    ∀ (m : Nat) (j : Nat) (e : Env) (σ : St),m + j = max i j → 1 ≤ j →
      e 3 = .a (.ptr (3,0) 0 0) → e 7 = .a (.p (.i .i64 (i : Nat))) → e 8 = .a (.p (.i .i64 (j : Nat))) → σ.bs (3,0) = some (.var [.p (.i .i64 t.k),.p (.i .i64 t.n),.p (.s t.s),.p (.l (t.l.map enc))]) →
      ((decide (t.k = 5) && ((t.l.take i).drop j).any fun u => decide (u.s = x.s)) = false → ∀ e',e' 1 = e 1 → e' 3 = e 3 → e' 7 = e 7 → Q (.exit 2) e' σ) →
      ((decide (t.k = 5) && ((t.l.take i).drop j).any fun u => decide (u.s = x.s)) = true → ∀ e',e' 6 = .a (.p (.b false)) → Q .ret e' σ) → wp S false (.loop F60b1) e σ Q := by
  intro m
  induction m with
  | zero =>
    intro j e σ hm hj e3 e7 e8 h3 hQ hR
    have hlt : ¬ ((j : Int) < (i : Int)) := by omega
    rw [x_loop,F60b1]
    simp only [e3,e7,e8,h3,hlt,x_seq,x_reg,x_skip,x_exit,x_ret,x_block,x_if,wpC_t,wpC_f,wpI_cons,wpI_nil,wpX_some,evI_any,evI_rd,evI_ad,evI_g,evG_u,evG_b,evG_tt,evG_ff,evG_tf,evG_ft,evO,evR,ev_t,ev_c,ev_f,putD_some,putD_none,put_at,cellsT,ldCells,mkT,lenA,binPV,add_bs,add_clk,add_ls,put_bs,put_clk,put_ls,kill_bs,kill_clk,kill_ls,empty_clk,empty_bs,Env.init,seqQ_norm,seqQ_exit,seqQ_ret,blkQ_norm,blkQ_exit,blkQ_ret,loopQ_norm,loopQ_exit,loopQ_ret,retP_ret,retP_norm,retE_ret,retE_norm,retS_ret,retS_norm,wpO_some,frA_fn,klA_p,klA_nil,klA_own,resVs,resV,resT,Option.bind_some,Option.bind_none,Option.map_some,List.getD_cons_zero,List.getD_cons_succ,List.getD_nil,List.length_cons,List.length_nil,List.length_map,List.map_cons,List.map_nil,List.drop_zero,List.drop_succ_cons,List.take_succ_cons,List.take_zero,List.drop_nil,List.take_nil,Nat.reduceEqDiff,Nat.reduceAdd,Nat.reduceLeDiff,Nat.zero_add,Nat.add_zero,Prod.mk.injEq,and_true,true_and,and_false,false_and,and_self,if_true,if_false,ite_true,ite_false,Bool.not_true,Bool.not_false,Bool.not_eq_true',reduceCtorEq,decide_true,decide_false,frTs,frT,frL_p,spS,ofPT_a,ofPT_g,ofPT_t,flat_i,flat_b,flat_s,flat_l,flat_g,flatp_i,flatp_b,flatp_s,flatp_l,klTs,klT,Bool.and_false,Bool.false_and,frL,frA_p,frA_nil,frA_own,ownT,intT,Bool.or_true,Bool.true_or,Bool.false_eq_true,frL_p,klL_p,ownT_p,O.adds,List.all_cons,List.all_nil,List.any_cons,List.any_nil,ownA,evO.bslRows,List.replicate_succ,List.replicate_zero,List.set_cons_zero,rowsA,over,List.cons_append,List.nil_append,List.append_nil,fillA,Bool.and_self,Bool.and_true,Bool.true_and,Bool.or_self,Bool.or_false,Bool.false_or,Nat.reduceMul,Nat.one_mul,Nat.lt_add_one,klL,Nat.le_refl,ite_self,Nat.reduceBEq]
    refine hQ ?_ _ ?_ ?_ ?_
    · rw [List.drop_eq_nil_of_le (by simp; omega)]; simp
    all_goals simp only [x_seq,x_reg,x_skip,x_exit,x_ret,x_block,x_if,wpC_t,wpC_f,wpI_cons,wpI_nil,wpX_some,evI_any,evI_rd,evI_ad,evI_g,evG_u,evG_b,evG_tt,evG_ff,evG_tf,evG_ft,evO,evR,ev_t,ev_c,ev_f,putD_some,putD_none,put_at,cellsT,ldCells,mkT,lenA,binPV,add_bs,add_clk,add_ls,put_bs,put_clk,put_ls,kill_bs,kill_clk,kill_ls,empty_clk,empty_bs,Env.init,seqQ_norm,seqQ_exit,seqQ_ret,blkQ_norm,blkQ_exit,blkQ_ret,loopQ_norm,loopQ_exit,loopQ_ret,retP_ret,retP_norm,retE_ret,retE_norm,retS_ret,retS_norm,wpO_some,frA_fn,klA_p,klA_nil,klA_own,resVs,resV,resT,Option.bind_some,Option.bind_none,Option.map_some,List.getD_cons_zero,List.getD_cons_succ,List.getD_nil,List.length_cons,List.length_nil,List.length_map,List.map_cons,List.map_nil,List.drop_zero,List.drop_succ_cons,List.take_succ_cons,List.take_zero,List.drop_nil,List.take_nil,Nat.reduceEqDiff,Nat.reduceAdd,Nat.reduceLeDiff,Nat.zero_add,Nat.add_zero,Prod.mk.injEq,and_true,true_and,and_false,false_and,and_self,if_true,if_false,ite_true,ite_false,Bool.not_true,Bool.not_false,Bool.not_eq_true',reduceCtorEq,decide_true,decide_false,frTs,frT,frL_p,spS,ofPT_a,ofPT_g,ofPT_t,flat_i,flat_b,flat_s,flat_l,flat_g,flatp_i,flatp_b,flatp_s,flatp_l,klTs,klT,Bool.and_false,Bool.false_and,frL,frA_p,frA_nil,frA_own,ownT,intT,Bool.or_true,Bool.true_or,Bool.false_eq_true,frL_p,klL_p,ownT_p,O.adds,List.all_cons,List.all_nil,List.any_cons,List.any_nil,ownA,evO.bslRows,List.replicate_succ,List.replicate_zero,List.set_cons_zero,rowsA,over,List.cons_append,List.nil_append,List.append_nil,fillA,Bool.and_self,Bool.and_true,Bool.true_and,Bool.or_self,Bool.or_false,Bool.false_or,Nat.reduceMul,Nat.one_mul,Nat.lt_add_one,klL,Nat.le_refl,ite_self,Nat.reduceBEq]
  | succ m ih =>
    intro j e σ hm hj e3 e7 e8 h3 hQ hR
    have hlt : ((j : Int) < (i : Int)) := by omega
    have h0 : (0 : Int) ≤ (j : Int) := by omega
    have h0' : (0 : Int) ≤ (i : Int) := by omega
    have hlt2 : ((j : Int) < (t.l.length : Int)) := by omega
    have hlt3 : ((i : Int) < (t.l.length : Int)) := by omega
    obtain ⟨y,hy⟩ : ∃ y,t.l[j]? = some y := ⟨_,List.getElem?_eq_getElem (by omega)⟩
    have hx' : (t.l.map enc)[i]? = some (enc x) := by simp [hx]
    have hy' : (t.l.map enc)[j]? = some (enc y) := by simp [hy]
    have hlb : t.l.length < 9223372036854775807 := by simp only [reachBytes] at hl; omega
    have hdr : (t.l.take i).drop j = y :: (t.l.take i).drop (j + 1) := by
      rw [List.drop_eq_getElem_cons (by simp; omega)]
      congr 1
      rw [List.getElem_take]
      rw [List.getElem?_eq_getElem (by omega)] at hy
      exact Option.some.inj hy
    rw [hdr,List.any_cons] at hQ hR
    have hxe : ∀ z : T,enc z = [.i .i64 z.k,.i .i64 z.n,.s z.s,.l (z.l.map enc)] := enc_eq
    rw [x_loop,F60b1]
    simp only [e3,e7,e8,h3,hlt,x_seq,x_reg,x_skip,x_exit,x_ret,x_block,x_if,wpC_t,wpC_f,wpI_cons,wpI_nil,wpX_some,evI_any,evI_rd,evI_ad,evI_g,evG_u,evG_b,evG_tt,evG_ff,evG_tf,evG_ft,evO,evR,ev_t,ev_c,ev_f,putD_some,putD_none,put_at,cellsT,ldCells,mkT,lenA,binPV,add_bs,add_clk,add_ls,put_bs,put_clk,put_ls,kill_bs,kill_clk,kill_ls,empty_clk,empty_bs,Env.init,seqQ_norm,seqQ_exit,seqQ_ret,blkQ_norm,blkQ_exit,blkQ_ret,loopQ_norm,loopQ_exit,loopQ_ret,retP_ret,retP_norm,retE_ret,retE_norm,retS_ret,retS_norm,wpO_some,frA_fn,klA_p,klA_nil,klA_own,resVs,resV,resT,Option.bind_some,Option.bind_none,Option.map_some,List.getD_cons_zero,List.getD_cons_succ,List.getD_nil,List.length_cons,List.length_nil,List.length_map,List.map_cons,List.map_nil,List.drop_zero,List.drop_succ_cons,List.take_succ_cons,List.take_zero,List.drop_nil,List.take_nil,Nat.reduceEqDiff,Nat.reduceAdd,Nat.reduceLeDiff,Nat.zero_add,Nat.add_zero,Prod.mk.injEq,and_true,true_and,and_false,false_and,and_self,if_true,if_false,ite_true,ite_false,Bool.not_true,Bool.not_false,Bool.not_eq_true',reduceCtorEq,decide_true,decide_false,frTs,frT,frL_p,spS,ofPT_a,ofPT_g,ofPT_t,flat_i,flat_b,flat_s,flat_l,flat_g,flatp_i,flatp_b,flatp_s,flatp_l,klTs,klT,Bool.and_false,Bool.false_and,frL,frA_p,frA_nil,frA_own,ownT,intT,Bool.or_true,Bool.true_or,Bool.false_eq_true,frL_p,klL_p,ownT_p,O.adds,List.all_cons,List.all_nil,List.any_cons,List.any_nil,ownA,evO.bslRows,List.replicate_succ,List.replicate_zero,List.set_cons_zero,rowsA,over,List.cons_append,List.nil_append,List.append_nil,fillA,Bool.and_self,Bool.and_true,Bool.true_and,Bool.or_self,Bool.or_false,Bool.false_or,Nat.reduceMul,Nat.one_mul,Nat.lt_add_one,klL,Nat.le_refl,ite_self,Nat.reduceBEq]
    refine wpC_split (fun h1 => ?_) (fun h1 => ?_)
    · simp only [e3,e7,e8,h3,h1,hlt2,hlt3,h0,h0',Int.toNat_natCast,hx',hy',enc_len,enc_all,hxe,x_seq,x_reg,x_skip,x_exit,x_ret,x_block,x_if,wpC_t,wpC_f,wpI_cons,wpI_nil,wpX_some,evI_any,evI_rd,evI_ad,evI_g,evG_u,evG_b,evG_tt,evG_ff,evG_tf,evG_ft,evO,evR,ev_t,ev_c,ev_f,putD_some,putD_none,put_at,cellsT,ldCells,mkT,lenA,binPV,add_bs,add_clk,add_ls,put_bs,put_clk,put_ls,kill_bs,kill_clk,kill_ls,empty_clk,empty_bs,Env.init,seqQ_norm,seqQ_exit,seqQ_ret,blkQ_norm,blkQ_exit,blkQ_ret,loopQ_norm,loopQ_exit,loopQ_ret,retP_ret,retP_norm,retE_ret,retE_norm,retS_ret,retS_norm,wpO_some,frA_fn,klA_p,klA_nil,klA_own,resVs,resV,resT,Option.bind_some,Option.bind_none,Option.map_some,List.getD_cons_zero,List.getD_cons_succ,List.getD_nil,List.length_cons,List.length_nil,List.length_map,List.map_cons,List.map_nil,List.drop_zero,List.drop_succ_cons,List.take_succ_cons,List.take_zero,List.drop_nil,List.take_nil,Nat.reduceEqDiff,Nat.reduceAdd,Nat.reduceLeDiff,Nat.zero_add,Nat.add_zero,Prod.mk.injEq,and_true,true_and,and_false,false_and,and_self,if_true,if_false,ite_true,ite_false,Bool.not_true,Bool.not_false,Bool.not_eq_true',reduceCtorEq,decide_true,decide_false,frTs,frT,frL_p,spS,ofPT_a,ofPT_g,ofPT_t,flat_i,flat_b,flat_s,flat_l,flat_g,flatp_i,flatp_b,flatp_s,flatp_l,klTs,klT,Bool.and_false,Bool.false_and,frL,frA_p,frA_nil,frA_own,ownT,intT,Bool.or_true,Bool.true_or,Bool.false_eq_true,frL_p,klL_p,ownT_p,O.adds,List.all_cons,List.all_nil,List.any_cons,List.any_nil,ownA,evO.bslRows,List.replicate_succ,List.replicate_zero,List.set_cons_zero,rowsA,over,List.cons_append,List.nil_append,List.append_nil,fillA,Bool.and_self,Bool.and_true,Bool.true_and,Bool.or_self,Bool.or_false,Bool.false_or,Nat.reduceMul,Nat.one_mul,Nat.lt_add_one,klL,Nat.le_refl,ite_self,Nat.reduceBEq]
      simp only [h1,Bool.true_and] at hQ hR ih
      refine wpC_split (fun h2 => ?_) (fun h2 => ?_)
      · simp only [h2,x_seq,x_reg,x_skip,x_exit,x_ret,x_block,x_if,wpC_t,wpC_f,wpI_cons,wpI_nil,wpX_some,evI_any,evI_rd,evI_ad,evI_g,evG_u,evG_b,evG_tt,evG_ff,evG_tf,evG_ft,evO,evR,ev_t,ev_c,ev_f,putD_some,putD_none,put_at,cellsT,ldCells,mkT,lenA,binPV,add_bs,add_clk,add_ls,put_bs,put_clk,put_ls,kill_bs,kill_clk,kill_ls,empty_clk,empty_bs,Env.init,seqQ_norm,seqQ_exit,seqQ_ret,blkQ_norm,blkQ_exit,blkQ_ret,loopQ_norm,loopQ_exit,loopQ_ret,retP_ret,retP_norm,retE_ret,retE_norm,retS_ret,retS_norm,wpO_some,frA_fn,klA_p,klA_nil,klA_own,resVs,resV,resT,Option.bind_some,Option.bind_none,Option.map_some,List.getD_cons_zero,List.getD_cons_succ,List.getD_nil,List.length_cons,List.length_nil,List.length_map,List.map_cons,List.map_nil,List.drop_zero,List.drop_succ_cons,List.take_succ_cons,List.take_zero,List.drop_nil,List.take_nil,Nat.reduceEqDiff,Nat.reduceAdd,Nat.reduceLeDiff,Nat.zero_add,Nat.add_zero,Prod.mk.injEq,and_true,true_and,and_false,false_and,and_self,if_true,if_false,ite_true,ite_false,Bool.not_true,Bool.not_false,Bool.not_eq_true',reduceCtorEq,decide_true,decide_false,frTs,frT,frL_p,spS,ofPT_a,ofPT_g,ofPT_t,flat_i,flat_b,flat_s,flat_l,flat_g,flatp_i,flatp_b,flatp_s,flatp_l,klTs,klT,Bool.and_false,Bool.false_and,frL,frA_p,frA_nil,frA_own,ownT,intT,Bool.or_true,Bool.true_or,Bool.false_eq_true,frL_p,klL_p,ownT_p,O.adds,List.all_cons,List.all_nil,List.any_cons,List.any_nil,ownA,evO.bslRows,List.replicate_succ,List.replicate_zero,List.set_cons_zero,rowsA,over,List.cons_append,List.nil_append,List.append_nil,fillA,Bool.and_self,Bool.and_true,Bool.true_and,Bool.or_self,Bool.or_false,Bool.false_or,Nat.reduceMul,Nat.one_mul,Nat.lt_add_one,klL,Nat.le_refl,ite_self,Nat.reduceBEq]
        exact hR (by simp only [h2,Bool.true_or]) _ (by simp only [x_seq,x_reg,x_skip,x_exit,x_ret,x_block,x_if,wpC_t,wpC_f,wpI_cons,wpI_nil,wpX_some,evI_any,evI_rd,evI_ad,evI_g,evG_u,evG_b,evG_tt,evG_ff,evG_tf,evG_ft,evO,evR,ev_t,ev_c,ev_f,putD_some,putD_none,put_at,cellsT,ldCells,mkT,lenA,binPV,add_bs,add_clk,add_ls,put_bs,put_clk,put_ls,kill_bs,kill_clk,kill_ls,empty_clk,empty_bs,Env.init,seqQ_norm,seqQ_exit,seqQ_ret,blkQ_norm,blkQ_exit,blkQ_ret,loopQ_norm,loopQ_exit,loopQ_ret,retP_ret,retP_norm,retE_ret,retE_norm,retS_ret,retS_norm,wpO_some,frA_fn,klA_p,klA_nil,klA_own,resVs,resV,resT,Option.bind_some,Option.bind_none,Option.map_some,List.getD_cons_zero,List.getD_cons_succ,List.getD_nil,List.length_cons,List.length_nil,List.length_map,List.map_cons,List.map_nil,List.drop_zero,List.drop_succ_cons,List.take_succ_cons,List.take_zero,List.drop_nil,List.take_nil,Nat.reduceEqDiff,Nat.reduceAdd,Nat.reduceLeDiff,Nat.zero_add,Nat.add_zero,Prod.mk.injEq,and_true,true_and,and_false,false_and,and_self,if_true,if_false,ite_true,ite_false,Bool.not_true,Bool.not_false,Bool.not_eq_true',reduceCtorEq,decide_true,decide_false,frTs,frT,frL_p,spS,ofPT_a,ofPT_g,ofPT_t,flat_i,flat_b,flat_s,flat_l,flat_g,flatp_i,flatp_b,flatp_s,flatp_l,klTs,klT,Bool.and_false,Bool.false_and,frL,frA_p,frA_nil,frA_own,ownT,intT,Bool.or_true,Bool.true_or,Bool.false_eq_true,frL_p,klL_p,ownT_p,O.adds,List.all_cons,List.all_nil,List.any_cons,List.any_nil,ownA,evO.bslRows,List.replicate_succ,List.replicate_zero,List.set_cons_zero,rowsA,over,List.cons_append,List.nil_append,List.append_nil,fillA,Bool.and_self,Bool.and_true,Bool.true_and,Bool.or_self,Bool.or_false,Bool.false_or,Nat.reduceMul,Nat.one_mul,Nat.lt_add_one,klL,Nat.le_refl,ite_self,Nat.reduceBEq])
      · simp only [e3,e7,e8,h3,h2,x_seq,x_reg,x_skip,x_exit,x_ret,x_block,x_if,wpC_t,wpC_f,wpI_cons,wpI_nil,wpX_some,evI_any,evI_rd,evI_ad,evI_g,evG_u,evG_b,evG_tt,evG_ff,evG_tf,evG_ft,evO,evR,ev_t,ev_c,ev_f,putD_some,putD_none,put_at,cellsT,ldCells,mkT,lenA,binPV,add_bs,add_clk,add_ls,put_bs,put_clk,put_ls,kill_bs,kill_clk,kill_ls,empty_clk,empty_bs,Env.init,seqQ_norm,seqQ_exit,seqQ_ret,blkQ_norm,blkQ_exit,blkQ_ret,loopQ_norm,loopQ_exit,loopQ_ret,retP_ret,retP_norm,retE_ret,retE_norm,retS_ret,retS_norm,wpO_some,frA_fn,klA_p,klA_nil,klA_own,resVs,resV,resT,Option.bind_some,Option.bind_none,Option.map_some,List.getD_cons_zero,List.getD_cons_succ,List.getD_nil,List.length_cons,List.length_nil,List.length_map,List.map_cons,List.map_nil,List.drop_zero,List.drop_succ_cons,List.take_succ_cons,List.take_zero,List.drop_nil,List.take_nil,Nat.reduceEqDiff,Nat.reduceAdd,Nat.reduceLeDiff,Nat.zero_add,Nat.add_zero,Prod.mk.injEq,and_true,true_and,and_false,false_and,and_self,if_true,if_false,ite_true,ite_false,Bool.not_true,Bool.not_false,Bool.not_eq_true',reduceCtorEq,decide_true,decide_false,frTs,frT,frL_p,spS,ofPT_a,ofPT_g,ofPT_t,flat_i,flat_b,flat_s,flat_l,flat_g,flatp_i,flatp_b,flatp_s,flatp_l,klTs,klT,Bool.and_false,Bool.false_and,frL,frA_p,frA_nil,frA_own,ownT,intT,Bool.or_true,Bool.true_or,Bool.false_eq_true,frL_p,klL_p,ownT_p,O.adds,List.all_cons,List.all_nil,List.any_cons,List.any_nil,ownA,evO.bslRows,List.replicate_succ,List.replicate_zero,List.set_cons_zero,rowsA,over,List.cons_append,List.nil_append,List.append_nil,fillA,Bool.and_self,Bool.and_true,Bool.true_and,Bool.or_self,Bool.or_false,Bool.false_or,Nat.reduceMul,Nat.one_mul,Nat.lt_add_one,klL,Nat.le_refl,ite_self,Nat.reduceBEq]
        refine ih (j + 1) _ σ (by omega) (by omega) ?_ ?_ ?_ h3 ?_ ?_
        all_goals try simp only [e3,e7,e8,x_seq,x_reg,x_skip,x_exit,x_ret,x_block,x_if,wpC_t,wpC_f,wpI_cons,wpI_nil,wpX_some,evI_any,evI_rd,evI_ad,evI_g,evG_u,evG_b,evG_tt,evG_ff,evG_tf,evG_ft,evO,evR,ev_t,ev_c,ev_f,putD_some,putD_none,put_at,cellsT,ldCells,mkT,lenA,binPV,add_bs,add_clk,add_ls,put_bs,put_clk,put_ls,kill_bs,kill_clk,kill_ls,empty_clk,empty_bs,Env.init,seqQ_norm,seqQ_exit,seqQ_ret,blkQ_norm,blkQ_exit,blkQ_ret,loopQ_norm,loopQ_exit,loopQ_ret,retP_ret,retP_norm,retE_ret,retE_norm,retS_ret,retS_norm,wpO_some,frA_fn,klA_p,klA_nil,klA_own,resVs,resV,resT,Option.bind_some,Option.bind_none,Option.map_some,List.getD_cons_zero,List.getD_cons_succ,List.getD_nil,List.length_cons,List.length_nil,List.length_map,List.map_cons,List.map_nil,List.drop_zero,List.drop_succ_cons,List.take_succ_cons,List.take_zero,List.drop_nil,List.take_nil,Nat.reduceEqDiff,Nat.reduceAdd,Nat.reduceLeDiff,Nat.zero_add,Nat.add_zero,Prod.mk.injEq,and_true,true_and,and_false,false_and,and_self,if_true,if_false,ite_true,ite_false,Bool.not_true,Bool.not_false,Bool.not_eq_true',reduceCtorEq,decide_true,decide_false,frTs,frT,frL_p,spS,ofPT_a,ofPT_g,ofPT_t,flat_i,flat_b,flat_s,flat_l,flat_g,flatp_i,flatp_b,flatp_s,flatp_l,klTs,klT,Bool.and_false,Bool.false_and,frL,frA_p,frA_nil,frA_own,ownT,intT,Bool.or_true,Bool.true_or,Bool.false_eq_true,frL_p,klL_p,ownT_p,O.adds,List.all_cons,List.all_nil,List.any_cons,List.any_nil,ownA,evO.bslRows,List.replicate_succ,List.replicate_zero,List.set_cons_zero,rowsA,over,List.cons_append,List.nil_append,List.append_nil,fillA,Bool.and_self,Bool.and_true,Bool.true_and,Bool.or_self,Bool.or_false,Bool.false_or,Nat.reduceMul,Nat.one_mul,Nat.lt_add_one,klL,Nat.le_refl,ite_self,Nat.reduceBEq]
        · rw [wrap_succ j (by omega)]
        · intro hf e' f1 f3 f7
          exact hQ (by rw [h2,Bool.false_or,hf]) e' f1 (f3.trans e3.symm) (f7.trans e7.symm)
        · intro hf; exact hR (by rw [h2,Bool.false_or,hf])
    · simp only [h1,x_seq,x_reg,x_skip,x_exit,x_ret,x_block,x_if,wpC_t,wpC_f,wpI_cons,wpI_nil,wpX_some,evI_any,evI_rd,evI_ad,evI_g,evG_u,evG_b,evG_tt,evG_ff,evG_tf,evG_ft,evO,evR,ev_t,ev_c,ev_f,putD_some,putD_none,put_at,cellsT,ldCells,mkT,lenA,binPV,add_bs,add_clk,add_ls,put_bs,put_clk,put_ls,kill_bs,kill_clk,kill_ls,empty_clk,empty_bs,Env.init,seqQ_norm,seqQ_exit,seqQ_ret,blkQ_norm,blkQ_exit,blkQ_ret,loopQ_norm,loopQ_exit,loopQ_ret,retP_ret,retP_norm,retE_ret,retE_norm,retS_ret,retS_norm,wpO_some,frA_fn,klA_p,klA_nil,klA_own,resVs,resV,resT,Option.bind_some,Option.bind_none,Option.map_some,List.getD_cons_zero,List.getD_cons_succ,List.getD_nil,List.length_cons,List.length_nil,List.length_map,List.map_cons,List.map_nil,List.drop_zero,List.drop_succ_cons,List.take_succ_cons,List.take_zero,List.drop_nil,List.take_nil,Nat.reduceEqDiff,Nat.reduceAdd,Nat.reduceLeDiff,Nat.zero_add,Nat.add_zero,Prod.mk.injEq,and_true,true_and,and_false,false_and,and_self,if_true,if_false,ite_true,ite_false,Bool.not_true,Bool.not_false,Bool.not_eq_true',reduceCtorEq,decide_true,decide_false,frTs,frT,frL_p,spS,ofPT_a,ofPT_g,ofPT_t,flat_i,flat_b,flat_s,flat_l,flat_g,flatp_i,flatp_b,flatp_s,flatp_l,klTs,klT,Bool.and_false,Bool.false_and,frL,frA_p,frA_nil,frA_own,ownT,intT,Bool.or_true,Bool.true_or,Bool.false_eq_true,frL_p,klL_p,ownT_p,O.adds,List.all_cons,List.all_nil,List.any_cons,List.any_nil,ownA,evO.bslRows,List.replicate_succ,List.replicate_zero,List.set_cons_zero,rowsA,over,List.cons_append,List.nil_append,List.append_nil,fillA,Bool.and_self,Bool.and_true,Bool.true_and,Bool.or_self,Bool.or_false,Bool.false_or,Nat.reduceMul,Nat.one_mul,Nat.lt_add_one,klL,Nat.le_refl,ite_self,Nat.reduceBEq]
      refine hQ (by simp only [h1,Bool.false_and]) _ ?_ ?_ ?_
      all_goals simp only [x_seq,x_reg,x_skip,x_exit,x_ret,x_block,x_if,wpC_t,wpC_f,wpI_cons,wpI_nil,wpX_some,evI_any,evI_rd,evI_ad,evI_g,evG_u,evG_b,evG_tt,evG_ff,evG_tf,evG_ft,evO,evR,ev_t,ev_c,ev_f,putD_some,putD_none,put_at,cellsT,ldCells,mkT,lenA,binPV,add_bs,add_clk,add_ls,put_bs,put_clk,put_ls,kill_bs,kill_clk,kill_ls,empty_clk,empty_bs,Env.init,seqQ_norm,seqQ_exit,seqQ_ret,blkQ_norm,blkQ_exit,blkQ_ret,loopQ_norm,loopQ_exit,loopQ_ret,retP_ret,retP_norm,retE_ret,retE_norm,retS_ret,retS_norm,wpO_some,frA_fn,klA_p,klA_nil,klA_own,resVs,resV,resT,Option.bind_some,Option.bind_none,Option.map_some,List.getD_cons_zero,List.getD_cons_succ,List.getD_nil,List.length_cons,List.length_nil,List.length_map,List.map_cons,List.map_nil,List.drop_zero,List.drop_succ_cons,List.take_succ_cons,List.take_zero,List.drop_nil,List.take_nil,Nat.reduceEqDiff,Nat.reduceAdd,Nat.reduceLeDiff,Nat.zero_add,Nat.add_zero,Prod.mk.injEq,and_true,true_and,and_false,false_and,and_self,if_true,if_false,ite_true,ite_false,Bool.not_true,Bool.not_false,Bool.not_eq_true',reduceCtorEq,decide_true,decide_false,frTs,frT,frL_p,spS,ofPT_a,ofPT_g,ofPT_t,flat_i,flat_b,flat_s,flat_l,flat_g,flatp_i,flatp_b,flatp_s,flatp_l,klTs,klT,Bool.and_false,Bool.false_and,frL,frA_p,frA_nil,frA_own,ownT,intT,Bool.or_true,Bool.true_or,Bool.false_eq_true,frL_p,klL_p,ownT_p,O.adds,List.all_cons,List.all_nil,List.any_cons,List.any_nil,ownA,evO.bslRows,List.replicate_succ,List.replicate_zero,List.set_cons_zero,rowsA,over,List.cons_append,List.nil_append,List.append_nil,fillA,Bool.and_self,Bool.and_true,Bool.true_and,Bool.or_self,Bool.or_false,Bool.false_or,Nat.reduceMul,Nat.one_mul,Nat.lt_add_one,klL,Nat.le_refl,ite_self,Nat.reduceBEq]
theorem loop60 (t : T) (free : Int) (hl : t.l.length * 56 ≤ reachBytes) (Q : Ex → Env → St → Prop) :
    ∀ (rem : List T) (i : Nat) (e : Env) (σ : St),t.l.drop i = rem → i + rem.length = t.l.length → (∀ u,u ∈ rem → ∀ f a,eP S 60 [.g (enc u),.a (.i .i64 f),.a (.b a)] = some (.a (.b (may u f a)))) →
      e 1 = .a (.p (.i .i64 free)) → e 3 = .a (.ptr (3,0) 0 0) → e 7 = .a (.p (.i .i64 (i : Nat))) → σ.bs (3,0) = some (.var [.p (.i .i64 t.k),.p (.i .i64 t.n),.p (.s t.s),.p (.l (t.l.map enc))]) →
      (mayL t.k t.l rem i free = true → ∀ e',Q (.exit 0) e' σ) → (mayL t.k t.l rem i free = false → ∀ e',e' 6 = .a (.p (.b false)) → Q .ret e' σ) → wp S false (.loop F60b0) e σ Q := by
  intro rem
  induction rem with
  | nil =>
    intro i e σ hd hi hu e1 e3 e7 h3 hQ hR
    have hlt : ¬ ((i : Int) < (t.l.length : Int)) := by simp at hi; omega
    rw [x_loop,F60b0]
    simp only [e1,e3,e7,h3,hlt,x_seq,x_reg,x_skip,x_exit,x_ret,x_block,x_if,wpC_t,wpC_f,wpI_cons,wpI_nil,wpX_some,evI_any,evI_rd,evI_ad,evI_g,evG_u,evG_b,evG_tt,evG_ff,evG_tf,evG_ft,evO,evR,ev_t,ev_c,ev_f,putD_some,putD_none,put_at,cellsT,ldCells,mkT,lenA,binPV,add_bs,add_clk,add_ls,put_bs,put_clk,put_ls,kill_bs,kill_clk,kill_ls,empty_clk,empty_bs,Env.init,seqQ_norm,seqQ_exit,seqQ_ret,blkQ_norm,blkQ_exit,blkQ_ret,loopQ_norm,loopQ_exit,loopQ_ret,retP_ret,retP_norm,retE_ret,retE_norm,retS_ret,retS_norm,wpO_some,frA_fn,klA_p,klA_nil,klA_own,resVs,resV,resT,Option.bind_some,Option.bind_none,Option.map_some,List.getD_cons_zero,List.getD_cons_succ,List.getD_nil,List.length_cons,List.length_nil,List.length_map,List.map_cons,List.map_nil,List.drop_zero,List.drop_succ_cons,List.take_succ_cons,List.take_zero,List.drop_nil,List.take_nil,Nat.reduceEqDiff,Nat.reduceAdd,Nat.reduceLeDiff,Nat.zero_add,Nat.add_zero,Prod.mk.injEq,and_true,true_and,and_false,false_and,and_self,if_true,if_false,ite_true,ite_false,Bool.not_true,Bool.not_false,Bool.not_eq_true',reduceCtorEq,decide_true,decide_false,frTs,frT,frL_p,spS,ofPT_a,ofPT_g,ofPT_t,flat_i,flat_b,flat_s,flat_l,flat_g,flatp_i,flatp_b,flatp_s,flatp_l,klTs,klT,Bool.and_false,Bool.false_and,frL,frA_p,frA_nil,frA_own,ownT,intT,Bool.or_true,Bool.true_or,Bool.false_eq_true,frL_p,klL_p,ownT_p,O.adds,List.all_cons,List.all_nil,List.any_cons,List.any_nil,ownA,evO.bslRows,List.replicate_succ,List.replicate_zero,List.set_cons_zero,rowsA,over,List.cons_append,List.nil_append,List.append_nil,fillA,Bool.and_self,Bool.and_true,Bool.true_and,Bool.or_self,Bool.or_false,Bool.false_or,Nat.reduceMul,Nat.one_mul,Nat.lt_add_one,klL,Nat.le_refl,ite_self,Nat.reduceBEq]
    exact hQ rfl _
  | cons x rem ih =>
    intro i e σ hd hi hu e1 e3 e7 h3 hQ hR
    simp only [List.length_cons] at hi
    have hlt : ((i : Int) < (t.l.length : Int)) := by omega
    have h0 : (0 : Int) ≤ (i : Int) := by omega
    have hx : t.l[i]? = some x := by rw [← List.head?_drop,hd]; rfl
    have hx' : (t.l.map enc)[i]? = some (enc x) := by simp [hx]
    have hux := hu x (by simp)
    have hlb : t.l.length < 9223372036854775807 := by simp only [reachBytes] at hl; omega
    have e0 : mayL t.k t.l (x :: rem) i free = (may x free (decide (t.k = 5) && decide ((i : Int) > 0)) && !(decide (t.k = 5) && dup t.l i x.s) && mayL t.k t.l rem (i + 1) free) := rfl
    rw [e0] at hQ hR
    rw [x_loop,F60b0]
    simp only [e1,e3,e7,h3,hlt,h0,Int.toNat_natCast,hx',enc_len,enc_all,enc_take,enc_takep,hux,x_seq,x_reg,x_skip,x_exit,x_ret,x_block,x_if,wpC_t,wpC_f,wpI_cons,wpI_nil,wpX_some,evI_any,evI_rd,evI_ad,evI_g,evG_u,evG_b,evG_tt,evG_ff,evG_tf,evG_ft,evO,evR,ev_t,ev_c,ev_f,putD_some,putD_none,put_at,cellsT,ldCells,mkT,lenA,binPV,add_bs,add_clk,add_ls,put_bs,put_clk,put_ls,kill_bs,kill_clk,kill_ls,empty_clk,empty_bs,Env.init,seqQ_norm,seqQ_exit,seqQ_ret,blkQ_norm,blkQ_exit,blkQ_ret,loopQ_norm,loopQ_exit,loopQ_ret,retP_ret,retP_norm,retE_ret,retE_norm,retS_ret,retS_norm,wpO_some,frA_fn,klA_p,klA_nil,klA_own,resVs,resV,resT,Option.bind_some,Option.bind_none,Option.map_some,List.getD_cons_zero,List.getD_cons_succ,List.getD_nil,List.length_cons,List.length_nil,List.length_map,List.map_cons,List.map_nil,List.drop_zero,List.drop_succ_cons,List.take_succ_cons,List.take_zero,List.drop_nil,List.take_nil,Nat.reduceEqDiff,Nat.reduceAdd,Nat.reduceLeDiff,Nat.zero_add,Nat.add_zero,Prod.mk.injEq,and_true,true_and,and_false,false_and,and_self,if_true,if_false,ite_true,ite_false,Bool.not_true,Bool.not_false,Bool.not_eq_true',reduceCtorEq,decide_true,decide_false,frTs,frT,frL_p,spS,ofPT_a,ofPT_g,ofPT_t,flat_i,flat_b,flat_s,flat_l,flat_g,flatp_i,flatp_b,flatp_s,flatp_l,klTs,klT,Bool.and_false,Bool.false_and,frL,frA_p,frA_nil,frA_own,ownT,intT,Bool.or_true,Bool.true_or,Bool.false_eq_true,frL_p,klL_p,ownT_p,O.adds,List.all_cons,List.all_nil,List.any_cons,List.any_nil,ownA,evO.bslRows,List.replicate_succ,List.replicate_zero,List.set_cons_zero,rowsA,over,List.cons_append,List.nil_append,List.append_nil,fillA,Bool.and_self,Bool.and_true,Bool.true_and,Bool.or_self,Bool.or_false,Bool.false_or,Nat.reduceMul,Nat.one_mul,Nat.lt_add_one,klL,Nat.le_refl,ite_self,Nat.reduceBEq]
    have fin : ∀ (b : Bool),(decide (t.k = 5) && decide ((i : Int) > 0)) = b → ∀ (e : Env),e 1 = .a (.p (.i .i64 free)) → e 3 = .a (.ptr (3,0) 0 0) → e 7 = .a (.p (.i .i64 (i : Nat))) →
        (may x free b = false → ∀ e',e' 6 = .a (.p (.b false)) → Q .ret e' σ) → True := fun _ _ _ _ _ _ _ => trivial
    have step : ∀ (e : Env),may x free (decide (t.k = 5) && decide ((i : Int) > 0)) = true → e 1 = .a (.p (.i .i64 free)) → e 3 = .a (.ptr (3,0) 0 0) → e 7 = .a (.p (.i .i64 (i : Nat))) → e 8 = .a (.p (.i .i64 1)) →
        wp S false (.loop F60b1) e σ (blkQ 2 (blkQ 1 (seqQ S false (.reg [⟨some 35,none,.mv (.t 7),.any⟩,⟨some 36,none,.bin .add (.t 35) (.c (.a (.p (.i .i64 1)))),.any⟩,⟨some 7,none,.mv (.t 36),.any⟩]) (loopQ S false F60b0 Q)))) := by
      intro e hm e1 e3 e7 e8
      refine loop60b t hl i x (by omega) hx _ (max i 1 - 1) 1 e σ (by omega) (by omega) e3 e7 e8 h3 (fun hf e' f1 f3 f7 => ?_) (fun hf e' he' => ?_)
      · rw [e1] at f1; rw [e3] at f3; rw [e7] at f7
        simp only [f1,f3,f7,x_seq,x_reg,x_skip,x_exit,x_ret,x_block,x_if,wpC_t,wpC_f,wpI_cons,wpI_nil,wpX_some,evI_any,evI_rd,evI_ad,evI_g,evG_u,evG_b,evG_tt,evG_ff,evG_tf,evG_ft,evO,evR,ev_t,ev_c,ev_f,putD_some,putD_none,put_at,cellsT,ldCells,mkT,lenA,binPV,add_bs,add_clk,add_ls,put_bs,put_clk,put_ls,kill_bs,kill_clk,kill_ls,empty_clk,empty_bs,Env.init,seqQ_norm,seqQ_exit,seqQ_ret,blkQ_norm,blkQ_exit,blkQ_ret,loopQ_norm,loopQ_exit,loopQ_ret,retP_ret,retP_norm,retE_ret,retE_norm,retS_ret,retS_norm,wpO_some,frA_fn,klA_p,klA_nil,klA_own,resVs,resV,resT,Option.bind_some,Option.bind_none,Option.map_some,List.getD_cons_zero,List.getD_cons_succ,List.getD_nil,List.length_cons,List.length_nil,List.length_map,List.map_cons,List.map_nil,List.drop_zero,List.drop_succ_cons,List.take_succ_cons,List.take_zero,List.drop_nil,List.take_nil,Nat.reduceEqDiff,Nat.reduceAdd,Nat.reduceLeDiff,Nat.zero_add,Nat.add_zero,Prod.mk.injEq,and_true,true_and,and_false,false_and,and_self,if_true,if_false,ite_true,ite_false,Bool.not_true,Bool.not_false,Bool.not_eq_true',reduceCtorEq,decide_true,decide_false,frTs,frT,frL_p,spS,ofPT_a,ofPT_g,ofPT_t,flat_i,flat_b,flat_s,flat_l,flat_g,flatp_i,flatp_b,flatp_s,flatp_l,klTs,klT,Bool.and_false,Bool.false_and,frL,frA_p,frA_nil,frA_own,ownT,intT,Bool.or_true,Bool.true_or,Bool.false_eq_true,frL_p,klL_p,ownT_p,O.adds,List.all_cons,List.all_nil,List.any_cons,List.any_nil,ownA,evO.bslRows,List.replicate_succ,List.replicate_zero,List.set_cons_zero,rowsA,over,List.cons_append,List.nil_append,List.append_nil,fillA,Bool.and_self,Bool.and_true,Bool.true_and,Bool.or_self,Bool.or_false,Bool.false_or,Nat.reduceMul,Nat.one_mul,Nat.lt_add_one,klL,Nat.le_refl,ite_self,Nat.reduceBEq]
        refine ih (i + 1) _ σ (by rw [← List.drop_drop,hd]; rfl) (by omega) (fun u hu' => hu u (by simp [hu'])) ?_ ?_ ?_ h3 ?_ ?_
        all_goals try simp only [f1,f3,f7,x_seq,x_reg,x_skip,x_exit,x_ret,x_block,x_if,wpC_t,wpC_f,wpI_cons,wpI_nil,wpX_some,evI_any,evI_rd,evI_ad,evI_g,evG_u,evG_b,evG_tt,evG_ff,evG_tf,evG_ft,evO,evR,ev_t,ev_c,ev_f,putD_some,putD_none,put_at,cellsT,ldCells,mkT,lenA,binPV,add_bs,add_clk,add_ls,put_bs,put_clk,put_ls,kill_bs,kill_clk,kill_ls,empty_clk,empty_bs,Env.init,seqQ_norm,seqQ_exit,seqQ_ret,blkQ_norm,blkQ_exit,blkQ_ret,loopQ_norm,loopQ_exit,loopQ_ret,retP_ret,retP_norm,retE_ret,retE_norm,retS_ret,retS_norm,wpO_some,frA_fn,klA_p,klA_nil,klA_own,resVs,resV,resT,Option.bind_some,Option.bind_none,Option.map_some,List.getD_cons_zero,List.getD_cons_succ,List.getD_nil,List.length_cons,List.length_nil,List.length_map,List.map_cons,List.map_nil,List.drop_zero,List.drop_succ_cons,List.take_succ_cons,List.take_zero,List.drop_nil,List.take_nil,Nat.reduceEqDiff,Nat.reduceAdd,Nat.reduceLeDiff,Nat.zero_add,Nat.add_zero,Prod.mk.injEq,and_true,true_and,and_false,false_and,and_self,if_true,if_false,ite_true,ite_false,Bool.not_true,Bool.not_false,Bool.not_eq_true',reduceCtorEq,decide_true,decide_false,frTs,frT,frL_p,spS,ofPT_a,ofPT_g,ofPT_t,flat_i,flat_b,flat_s,flat_l,flat_g,flatp_i,flatp_b,flatp_s,flatp_l,klTs,klT,Bool.and_false,Bool.false_and,frL,frA_p,frA_nil,frA_own,ownT,intT,Bool.or_true,Bool.true_or,Bool.false_eq_true,frL_p,klL_p,ownT_p,O.adds,List.all_cons,List.all_nil,List.any_cons,List.any_nil,ownA,evO.bslRows,List.replicate_succ,List.replicate_zero,List.set_cons_zero,rowsA,over,List.cons_append,List.nil_append,List.append_nil,fillA,Bool.and_self,Bool.and_true,Bool.true_and,Bool.or_self,Bool.or_false,Bool.false_or,Nat.reduceMul,Nat.one_mul,Nat.lt_add_one,klL,Nat.le_refl,ite_self,Nat.reduceBEq]
        · rw [wrap_succ i (by omega)]
        · intro hm'; exact hQ (by rw [hm,dup,hf,hm']; rfl)
        · intro hm'; exact hR (by rw [hm,dup,hf,hm']; rfl)
      · simp only [he',x_seq,x_reg,x_skip,x_exit,x_ret,x_block,x_if,wpC_t,wpC_f,wpI_cons,wpI_nil,wpX_some,evI_any,evI_rd,evI_ad,evI_g,evG_u,evG_b,evG_tt,evG_ff,evG_tf,evG_ft,evO,evR,ev_t,ev_c,ev_f,putD_some,putD_none,put_at,cellsT,ldCells,mkT,lenA,binPV,add_bs,add_clk,add_ls,put_bs,put_clk,put_ls,kill_bs,kill_clk,kill_ls,empty_clk,empty_bs,Env.init,seqQ_norm,seqQ_exit,seqQ_ret,blkQ_norm,blkQ_exit,blkQ_ret,loopQ_norm,loopQ_exit,loopQ_ret,retP_ret,retP_norm,retE_ret,retE_norm,retS_ret,retS_norm,wpO_some,frA_fn,klA_p,klA_nil,klA_own,resVs,resV,resT,Option.bind_some,Option.bind_none,Option.map_some,List.getD_cons_zero,List.getD_cons_succ,List.getD_nil,List.length_cons,List.length_nil,List.length_map,List.map_cons,List.map_nil,List.drop_zero,List.drop_succ_cons,List.take_succ_cons,List.take_zero,List.drop_nil,List.take_nil,Nat.reduceEqDiff,Nat.reduceAdd,Nat.reduceLeDiff,Nat.zero_add,Nat.add_zero,Prod.mk.injEq,and_true,true_and,and_false,false_and,and_self,if_true,if_false,ite_true,ite_false,Bool.not_true,Bool.not_false,Bool.not_eq_true',reduceCtorEq,decide_true,decide_false,frTs,frT,frL_p,spS,ofPT_a,ofPT_g,ofPT_t,flat_i,flat_b,flat_s,flat_l,flat_g,flatp_i,flatp_b,flatp_s,flatp_l,klTs,klT,Bool.and_false,Bool.false_and,frL,frA_p,frA_nil,frA_own,ownT,intT,Bool.or_true,Bool.true_or,Bool.false_eq_true,frL_p,klL_p,ownT_p,O.adds,List.all_cons,List.all_nil,List.any_cons,List.any_nil,ownA,evO.bslRows,List.replicate_succ,List.replicate_zero,List.set_cons_zero,rowsA,over,List.cons_append,List.nil_append,List.append_nil,fillA,Bool.and_self,Bool.and_true,Bool.true_and,Bool.or_self,Bool.or_false,Bool.false_or,Nat.reduceMul,Nat.one_mul,Nat.lt_add_one,klL,Nat.le_refl,ite_self,Nat.reduceBEq]
        exact hR (by rw [hm,dup,hf]; rfl) _ he'
    refine wpX_bsplit (fun h1 => ?_) (fun h1 => ?_)
    all_goals try simp only [Bool.not_true] at h1
    all_goals simp only [h1,Bool.true_and,Bool.false_and] at step hQ hR ⊢
    all_goals simp only [e1,e3,e7,h3,h1,hlt,h0,Int.toNat_natCast,hx',enc_len,enc_all,enc_take,enc_takep,hux,x_seq,x_reg,x_skip,x_exit,x_ret,x_block,x_if,wpC_t,wpC_f,wpI_cons,wpI_nil,wpX_some,evI_any,evI_rd,evI_ad,evI_g,evG_u,evG_b,evG_tt,evG_ff,evG_tf,evG_ft,evO,evR,ev_t,ev_c,ev_f,putD_some,putD_none,put_at,cellsT,ldCells,mkT,lenA,binPV,add_bs,add_clk,add_ls,put_bs,put_clk,put_ls,kill_bs,kill_clk,kill_ls,empty_clk,empty_bs,Env.init,seqQ_norm,seqQ_exit,seqQ_ret,blkQ_norm,blkQ_exit,blkQ_ret,loopQ_norm,loopQ_exit,loopQ_ret,retP_ret,retP_norm,retE_ret,retE_norm,retS_ret,retS_norm,wpO_some,frA_fn,klA_p,klA_nil,klA_own,resVs,resV,resT,Option.bind_some,Option.bind_none,Option.map_some,List.getD_cons_zero,List.getD_cons_succ,List.getD_nil,List.length_cons,List.length_nil,List.length_map,List.map_cons,List.map_nil,List.drop_zero,List.drop_succ_cons,List.take_succ_cons,List.take_zero,List.drop_nil,List.take_nil,Nat.reduceEqDiff,Nat.reduceAdd,Nat.reduceLeDiff,Nat.zero_add,Nat.add_zero,Prod.mk.injEq,and_true,true_and,and_false,false_and,and_self,if_true,if_false,ite_true,ite_false,Bool.not_true,Bool.not_false,Bool.not_eq_true',reduceCtorEq,decide_true,decide_false,frTs,frT,frL_p,spS,ofPT_a,ofPT_g,ofPT_t,flat_i,flat_b,flat_s,flat_l,flat_g,flatp_i,flatp_b,flatp_s,flatp_l,klTs,klT,Bool.and_false,Bool.false_and,frL,frA_p,frA_nil,frA_own,ownT,intT,Bool.or_true,Bool.true_or,Bool.false_eq_true,frL_p,klL_p,ownT_p,O.adds,List.all_cons,List.all_nil,List.any_cons,List.any_nil,ownA,evO.bslRows,List.replicate_succ,List.replicate_zero,List.set_cons_zero,rowsA,over,List.cons_append,List.nil_append,List.append_nil,fillA,Bool.and_self,Bool.and_true,Bool.true_and,Bool.or_self,Bool.or_false,Bool.false_or,Nat.reduceMul,Nat.one_mul,Nat.lt_add_one,klL,Nat.le_refl,ite_self,Nat.reduceBEq]
    all_goals refine wpC_split (fun h2 => ?_) (fun h2 => ?_)
    all_goals simp only [Bool.not_eq_false',Bool.not_eq_true',Bool.not_false,Bool.not_true,decide_eq_true_eq,decide_eq_false_iff_not,Int.natCast_inj] at h2
    all_goals try (simp only [x_seq,x_reg,x_skip,x_exit,x_ret,x_block,x_if,wpC_t,wpC_f,wpI_cons,wpI_nil,wpX_some,evI_any,evI_rd,evI_ad,evI_g,evG_u,evG_b,evG_tt,evG_ff,evG_tf,evG_ft,evO,evR,ev_t,ev_c,ev_f,putD_some,putD_none,put_at,cellsT,ldCells,mkT,lenA,binPV,add_bs,add_clk,add_ls,put_bs,put_clk,put_ls,kill_bs,kill_clk,kill_ls,empty_clk,empty_bs,Env.init,seqQ_norm,seqQ_exit,seqQ_ret,blkQ_norm,blkQ_exit,blkQ_ret,loopQ_norm,loopQ_exit,loopQ_ret,retP_ret,retP_norm,retE_ret,retE_norm,retS_ret,retS_norm,wpO_some,frA_fn,klA_p,klA_nil,klA_own,resVs,resV,resT,Option.bind_some,Option.bind_none,Option.map_some,List.getD_cons_zero,List.getD_cons_succ,List.getD_nil,List.length_cons,List.length_nil,List.length_map,List.map_cons,List.map_nil,List.drop_zero,List.drop_succ_cons,List.take_succ_cons,List.take_zero,List.drop_nil,List.take_nil,Nat.reduceEqDiff,Nat.reduceAdd,Nat.reduceLeDiff,Nat.zero_add,Nat.add_zero,Prod.mk.injEq,and_true,true_and,and_false,false_and,and_self,if_true,if_false,ite_true,ite_false,Bool.not_true,Bool.not_false,Bool.not_eq_true',reduceCtorEq,decide_true,decide_false,frTs,frT,frL_p,spS,ofPT_a,ofPT_g,ofPT_t,flat_i,flat_b,flat_s,flat_l,flat_g,flatp_i,flatp_b,flatp_s,flatp_l,klTs,klT,Bool.and_false,Bool.false_and,frL,frA_p,frA_nil,frA_own,ownT,intT,Bool.or_true,Bool.true_or,Bool.false_eq_true,frL_p,klL_p,ownT_p,O.adds,List.all_cons,List.all_nil,List.any_cons,List.any_nil,ownA,evO.bslRows,List.replicate_succ,List.replicate_zero,List.set_cons_zero,rowsA,over,List.cons_append,List.nil_append,List.append_nil,fillA,Bool.and_self,Bool.and_true,Bool.true_and,Bool.or_self,Bool.or_false,Bool.false_or,Nat.reduceMul,Nat.one_mul,Nat.lt_add_one,klL,Nat.le_refl,ite_self,Nat.reduceBEq]; exact hR (by rw [h2]; rfl) _ (by simp only [x_seq,x_reg,x_skip,x_exit,x_ret,x_block,x_if,wpC_t,wpC_f,wpI_cons,wpI_nil,wpX_some,evI_any,evI_rd,evI_ad,evI_g,evG_u,evG_b,evG_tt,evG_ff,evG_tf,evG_ft,evO,evR,ev_t,ev_c,ev_f,putD_some,putD_none,put_at,cellsT,ldCells,mkT,lenA,binPV,add_bs,add_clk,add_ls,put_bs,put_clk,put_ls,kill_bs,kill_clk,kill_ls,empty_clk,empty_bs,Env.init,seqQ_norm,seqQ_exit,seqQ_ret,blkQ_norm,blkQ_exit,blkQ_ret,loopQ_norm,loopQ_exit,loopQ_ret,retP_ret,retP_norm,retE_ret,retE_norm,retS_ret,retS_norm,wpO_some,frA_fn,klA_p,klA_nil,klA_own,resVs,resV,resT,Option.bind_some,Option.bind_none,Option.map_some,List.getD_cons_zero,List.getD_cons_succ,List.getD_nil,List.length_cons,List.length_nil,List.length_map,List.map_cons,List.map_nil,List.drop_zero,List.drop_succ_cons,List.take_succ_cons,List.take_zero,List.drop_nil,List.take_nil,Nat.reduceEqDiff,Nat.reduceAdd,Nat.reduceLeDiff,Nat.zero_add,Nat.add_zero,Prod.mk.injEq,and_true,true_and,and_false,false_and,and_self,if_true,if_false,ite_true,ite_false,Bool.not_true,Bool.not_false,Bool.not_eq_true',reduceCtorEq,decide_true,decide_false,frTs,frT,frL_p,spS,ofPT_a,ofPT_g,ofPT_t,flat_i,flat_b,flat_s,flat_l,flat_g,flatp_i,flatp_b,flatp_s,flatp_l,klTs,klT,Bool.and_false,Bool.false_and,frL,frA_p,frA_nil,frA_own,ownT,intT,Bool.or_true,Bool.true_or,Bool.false_eq_true,frL_p,klL_p,ownT_p,O.adds,List.all_cons,List.all_nil,List.any_cons,List.any_nil,ownA,evO.bslRows,List.replicate_succ,List.replicate_zero,List.set_cons_zero,rowsA,over,List.cons_append,List.nil_append,List.append_nil,fillA,Bool.and_self,Bool.and_true,Bool.true_and,Bool.or_self,Bool.or_false,Bool.false_or,Nat.reduceMul,Nat.one_mul,Nat.lt_add_one,klL,Nat.le_refl,ite_self,Nat.reduceBEq]))
    all_goals simp only [x_seq,x_reg,x_skip,x_exit,x_ret,x_block,x_if,wpC_t,wpC_f,wpI_cons,wpI_nil,wpX_some,evI_any,evI_rd,evI_ad,evI_g,evG_u,evG_b,evG_tt,evG_ff,evG_tf,evG_ft,evO,evR,ev_t,ev_c,ev_f,putD_some,putD_none,put_at,cellsT,ldCells,mkT,lenA,binPV,add_bs,add_clk,add_ls,put_bs,put_clk,put_ls,kill_bs,kill_clk,kill_ls,empty_clk,empty_bs,Env.init,seqQ_norm,seqQ_exit,seqQ_ret,blkQ_norm,blkQ_exit,blkQ_ret,loopQ_norm,loopQ_exit,loopQ_ret,retP_ret,retP_norm,retE_ret,retE_norm,retS_ret,retS_norm,wpO_some,frA_fn,klA_p,klA_nil,klA_own,resVs,resV,resT,Option.bind_some,Option.bind_none,Option.map_some,List.getD_cons_zero,List.getD_cons_succ,List.getD_nil,List.length_cons,List.length_nil,List.length_map,List.map_cons,List.map_nil,List.drop_zero,List.drop_succ_cons,List.take_succ_cons,List.take_zero,List.drop_nil,List.take_nil,Nat.reduceEqDiff,Nat.reduceAdd,Nat.reduceLeDiff,Nat.zero_add,Nat.add_zero,Prod.mk.injEq,and_true,true_and,and_false,false_and,and_self,if_true,if_false,ite_true,ite_false,Bool.not_true,Bool.not_false,Bool.not_eq_true',reduceCtorEq,decide_true,decide_false,frTs,frT,frL_p,spS,ofPT_a,ofPT_g,ofPT_t,flat_i,flat_b,flat_s,flat_l,flat_g,flatp_i,flatp_b,flatp_s,flatp_l,klTs,klT,Bool.and_false,Bool.false_and,frL,frA_p,frA_nil,frA_own,ownT,intT,Bool.or_true,Bool.true_or,Bool.false_eq_true,frL_p,klL_p,ownT_p,O.adds,List.all_cons,List.all_nil,List.any_cons,List.any_nil,ownA,evO.bslRows,List.replicate_succ,List.replicate_zero,List.set_cons_zero,rowsA,over,List.cons_append,List.nil_append,List.append_nil,fillA,Bool.and_self,Bool.and_true,Bool.true_and,Bool.or_self,Bool.or_false,Bool.false_or,Nat.reduceMul,Nat.one_mul,Nat.lt_add_one,klL,Nat.le_refl,ite_self,Nat.reduceBEq]
    all_goals exact step _ h2 (by simp only [e1,x_seq,x_reg,x_skip,x_exit,x_ret,x_block,x_if,wpC_t,wpC_f,wpI_cons,wpI_nil,wpX_some,evI_any,evI_rd,evI_ad,evI_g,evG_u,evG_b,evG_tt,evG_ff,evG_tf,evG_ft,evO,evR,ev_t,ev_c,ev_f,putD_some,putD_none,put_at,cellsT,ldCells,mkT,lenA,binPV,add_bs,add_clk,add_ls,put_bs,put_clk,put_ls,kill_bs,kill_clk,kill_ls,empty_clk,empty_bs,Env.init,seqQ_norm,seqQ_exit,seqQ_ret,blkQ_norm,blkQ_exit,blkQ_ret,loopQ_norm,loopQ_exit,loopQ_ret,retP_ret,retP_norm,retE_ret,retE_norm,retS_ret,retS_norm,wpO_some,frA_fn,klA_p,klA_nil,klA_own,resVs,resV,resT,Option.bind_some,Option.bind_none,Option.map_some,List.getD_cons_zero,List.getD_cons_succ,List.getD_nil,List.length_cons,List.length_nil,List.length_map,List.map_cons,List.map_nil,List.drop_zero,List.drop_succ_cons,List.take_succ_cons,List.take_zero,List.drop_nil,List.take_nil,Nat.reduceEqDiff,Nat.reduceAdd,Nat.reduceLeDiff,Nat.zero_add,Nat.add_zero,Prod.mk.injEq,and_true,true_and,and_false,false_and,and_self,if_true,if_false,ite_true,ite_false,Bool.not_true,Bool.not_false,Bool.not_eq_true',reduceCtorEq,decide_true,decide_false,frTs,frT,frL_p,spS,ofPT_a,ofPT_g,ofPT_t,flat_i,flat_b,flat_s,flat_l,flat_g,flatp_i,flatp_b,flatp_s,flatp_l,klTs,klT,Bool.and_false,Bool.false_and,frL,frA_p,frA_nil,frA_own,ownT,intT,Bool.or_true,Bool.true_or,Bool.false_eq_true,frL_p,klL_p,ownT_p,O.adds,List.all_cons,List.all_nil,List.any_cons,List.any_nil,ownA,evO.bslRows,List.replicate_succ,List.replicate_zero,List.set_cons_zero,rowsA,over,List.cons_append,List.nil_append,List.append_nil,fillA,Bool.and_self,Bool.and_true,Bool.true_and,Bool.or_self,Bool.or_false,Bool.false_or,Nat.reduceMul,Nat.one_mul,Nat.lt_add_one,klL,Nat.le_refl,ite_self,Nat.reduceBEq]) (by simp only [e3,x_seq,x_reg,x_skip,x_exit,x_ret,x_block,x_if,wpC_t,wpC_f,wpI_cons,wpI_nil,wpX_some,evI_any,evI_rd,evI_ad,evI_g,evG_u,evG_b,evG_tt,evG_ff,evG_tf,evG_ft,evO,evR,ev_t,ev_c,ev_f,putD_some,putD_none,put_at,cellsT,ldCells,mkT,lenA,binPV,add_bs,add_clk,add_ls,put_bs,put_clk,put_ls,kill_bs,kill_clk,kill_ls,empty_clk,empty_bs,Env.init,seqQ_norm,seqQ_exit,seqQ_ret,blkQ_norm,blkQ_exit,blkQ_ret,loopQ_norm,loopQ_exit,loopQ_ret,retP_ret,retP_norm,retE_ret,retE_norm,retS_ret,retS_norm,wpO_some,frA_fn,klA_p,klA_nil,klA_own,resVs,resV,resT,Option.bind_some,Option.bind_none,Option.map_some,List.getD_cons_zero,List.getD_cons_succ,List.getD_nil,List.length_cons,List.length_nil,List.length_map,List.map_cons,List.map_nil,List.drop_zero,List.drop_succ_cons,List.take_succ_cons,List.take_zero,List.drop_nil,List.take_nil,Nat.reduceEqDiff,Nat.reduceAdd,Nat.reduceLeDiff,Nat.zero_add,Nat.add_zero,Prod.mk.injEq,and_true,true_and,and_false,false_and,and_self,if_true,if_false,ite_true,ite_false,Bool.not_true,Bool.not_false,Bool.not_eq_true',reduceCtorEq,decide_true,decide_false,frTs,frT,frL_p,spS,ofPT_a,ofPT_g,ofPT_t,flat_i,flat_b,flat_s,flat_l,flat_g,flatp_i,flatp_b,flatp_s,flatp_l,klTs,klT,Bool.and_false,Bool.false_and,frL,frA_p,frA_nil,frA_own,ownT,intT,Bool.or_true,Bool.true_or,Bool.false_eq_true,frL_p,klL_p,ownT_p,O.adds,List.all_cons,List.all_nil,List.any_cons,List.any_nil,ownA,evO.bslRows,List.replicate_succ,List.replicate_zero,List.set_cons_zero,rowsA,over,List.cons_append,List.nil_append,List.append_nil,fillA,Bool.and_self,Bool.and_true,Bool.true_and,Bool.or_self,Bool.or_false,Bool.false_or,Nat.reduceMul,Nat.one_mul,Nat.lt_add_one,klL,Nat.le_refl,ite_self,Nat.reduceBEq]) (by simp only [e7,x_seq,x_reg,x_skip,x_exit,x_ret,x_block,x_if,wpC_t,wpC_f,wpI_cons,wpI_nil,wpX_some,evI_any,evI_rd,evI_ad,evI_g,evG_u,evG_b,evG_tt,evG_ff,evG_tf,evG_ft,evO,evR,ev_t,ev_c,ev_f,putD_some,putD_none,put_at,cellsT,ldCells,mkT,lenA,binPV,add_bs,add_clk,add_ls,put_bs,put_clk,put_ls,kill_bs,kill_clk,kill_ls,empty_clk,empty_bs,Env.init,seqQ_norm,seqQ_exit,seqQ_ret,blkQ_norm,blkQ_exit,blkQ_ret,loopQ_norm,loopQ_exit,loopQ_ret,retP_ret,retP_norm,retE_ret,retE_norm,retS_ret,retS_norm,wpO_some,frA_fn,klA_p,klA_nil,klA_own,resVs,resV,resT,Option.bind_some,Option.bind_none,Option.map_some,List.getD_cons_zero,List.getD_cons_succ,List.getD_nil,List.length_cons,List.length_nil,List.length_map,List.map_cons,List.map_nil,List.drop_zero,List.drop_succ_cons,List.take_succ_cons,List.take_zero,List.drop_nil,List.take_nil,Nat.reduceEqDiff,Nat.reduceAdd,Nat.reduceLeDiff,Nat.zero_add,Nat.add_zero,Prod.mk.injEq,and_true,true_and,and_false,false_and,and_self,if_true,if_false,ite_true,ite_false,Bool.not_true,Bool.not_false,Bool.not_eq_true',reduceCtorEq,decide_true,decide_false,frTs,frT,frL_p,spS,ofPT_a,ofPT_g,ofPT_t,flat_i,flat_b,flat_s,flat_l,flat_g,flatp_i,flatp_b,flatp_s,flatp_l,klTs,klT,Bool.and_false,Bool.false_and,frL,frA_p,frA_nil,frA_own,ownT,intT,Bool.or_true,Bool.true_or,Bool.false_eq_true,frL_p,klL_p,ownT_p,O.adds,List.all_cons,List.all_nil,List.any_cons,List.any_nil,ownA,evO.bslRows,List.replicate_succ,List.replicate_zero,List.set_cons_zero,rowsA,over,List.cons_append,List.nil_append,List.append_nil,fillA,Bool.and_self,Bool.and_true,Bool.true_and,Bool.or_self,Bool.or_false,Bool.false_or,Nat.reduceMul,Nat.one_mul,Nat.lt_add_one,klL,Nat.le_refl,ite_self,Nat.reduceBEq]) (by simp only [x_seq,x_reg,x_skip,x_exit,x_ret,x_block,x_if,wpC_t,wpC_f,wpI_cons,wpI_nil,wpX_some,evI_any,evI_rd,evI_ad,evI_g,evG_u,evG_b,evG_tt,evG_ff,evG_tf,evG_ft,evO,evR,ev_t,ev_c,ev_f,putD_some,putD_none,put_at,cellsT,ldCells,mkT,lenA,binPV,add_bs,add_clk,add_ls,put_bs,put_clk,put_ls,kill_bs,kill_clk,kill_ls,empty_clk,empty_bs,Env.init,seqQ_norm,seqQ_exit,seqQ_ret,blkQ_norm,blkQ_exit,blkQ_ret,loopQ_norm,loopQ_exit,loopQ_ret,retP_ret,retP_norm,retE_ret,retE_norm,retS_ret,retS_norm,wpO_some,frA_fn,klA_p,klA_nil,klA_own,resVs,resV,resT,Option.bind_some,Option.bind_none,Option.map_some,List.getD_cons_zero,List.getD_cons_succ,List.getD_nil,List.length_cons,List.length_nil,List.length_map,List.map_cons,List.map_nil,List.drop_zero,List.drop_succ_cons,List.take_succ_cons,List.take_zero,List.drop_nil,List.take_nil,Nat.reduceEqDiff,Nat.reduceAdd,Nat.reduceLeDiff,Nat.zero_add,Nat.add_zero,Prod.mk.injEq,and_true,true_and,and_false,false_and,and_self,if_true,if_false,ite_true,ite_false,Bool.not_true,Bool.not_false,Bool.not_eq_true',reduceCtorEq,decide_true,decide_false,frTs,frT,frL_p,spS,ofPT_a,ofPT_g,ofPT_t,flat_i,flat_b,flat_s,flat_l,flat_g,flatp_i,flatp_b,flatp_s,flatp_l,klTs,klT,Bool.and_false,Bool.false_and,frL,frA_p,frA_nil,frA_own,ownT,intT,Bool.or_true,Bool.true_or,Bool.false_eq_true,frL_p,klL_p,ownT_p,O.adds,List.all_cons,List.all_nil,List.any_cons,List.any_nil,ownA,evO.bslRows,List.replicate_succ,List.replicate_zero,List.set_cons_zero,rowsA,over,List.cons_append,List.nil_append,List.append_nil,fillA,Bool.and_self,Bool.and_true,Bool.true_and,Bool.or_self,Bool.or_false,Bool.false_or,Nat.reduceMul,Nat.one_mul,Nat.lt_add_one,klL,Nat.le_refl,ite_self,Nat.reduceBEq])
theorem may_ok {t : T} (ht : T.Ok t) : ∀ (free : Int) (alt : Bool),eP S 60 [.g (enc t),.a (.i .i64 free),.a (.b alt)] = some (.a (.b (may t free alt))) := by
  induction ht with
  | mk k n s l hk hn hs hl h ih =>
    intro free alt
    have hh := head_ok (.mk k n s l hk hn hs hl h) free alt
    have e0 : may (.mk k n s l) free alt = if free < 0 then false else if head (.mk k n s l) free alt then mayL k l l 0 (if k = 2 then w (free + 1) else if k = 6 then w (free + n) else free) else false := rfl
    rw [e0]
    rw [enc,encL_map] at hh
    refine x_fn (orcS 60) (fc := F60) rfl rfl ?_
    simp only [F60,enc,encL_map,x_seq,x_reg,x_skip,x_exit,x_ret,x_block,x_if,wpC_t,wpC_f,wpI_cons,wpI_nil,wpX_some,evI_any,evI_rd,evI_ad,evI_g,evG_u,evG_b,evG_tt,evG_ff,evG_tf,evG_ft,evO,evR,ev_t,ev_c,ev_f,putD_some,putD_none,put_at,cellsT,ldCells,mkT,lenA,binPV,add_bs,add_clk,add_ls,put_bs,put_clk,put_ls,kill_bs,kill_clk,kill_ls,empty_clk,empty_bs,Env.init,seqQ_norm,seqQ_exit,seqQ_ret,blkQ_norm,blkQ_exit,blkQ_ret,loopQ_norm,loopQ_exit,loopQ_ret,retP_ret,retP_norm,retE_ret,retE_norm,retS_ret,retS_norm,wpO_some,frA_fn,klA_p,klA_nil,klA_own,resVs,resV,resT,Option.bind_some,Option.bind_none,Option.map_some,List.getD_cons_zero,List.getD_cons_succ,List.getD_nil,List.length_cons,List.length_nil,List.length_map,List.map_cons,List.map_nil,List.drop_zero,List.drop_succ_cons,List.take_succ_cons,List.take_zero,List.drop_nil,List.take_nil,Nat.reduceEqDiff,Nat.reduceAdd,Nat.reduceLeDiff,Nat.zero_add,Nat.add_zero,Prod.mk.injEq,and_true,true_and,and_false,false_and,and_self,if_true,if_false,ite_true,ite_false,Bool.not_true,Bool.not_false,Bool.not_eq_true',reduceCtorEq,decide_true,decide_false,frTs,frT,frL_p,spS,ofPT_a,ofPT_g,ofPT_t,flat_i,flat_b,flat_s,flat_l,flat_g,flatp_i,flatp_b,flatp_s,flatp_l,klTs,klT,Bool.and_false,Bool.false_and,frL,frA_p,frA_nil,frA_own,ownT,intT,Bool.or_true,Bool.true_or,Bool.false_eq_true,frL_p,klL_p,ownT_p,O.adds,List.all_cons,List.all_nil,List.any_cons,List.any_nil,ownA,evO.bslRows,List.replicate_succ,List.replicate_zero,List.set_cons_zero,rowsA,over,List.cons_append,List.nil_append,List.append_nil,fillA,Bool.and_self,Bool.and_true,Bool.true_and,Bool.or_self,Bool.or_false,Bool.false_or,Nat.reduceMul,Nat.one_mul,Nat.lt_add_one,klL,Nat.le_refl,ite_self,Nat.reduceBEq]
    have fin : ∀ (f : Int) (e : Env) (σ : St),e 1 = .a (.p (.i .i64 f)) → e 3 = .a (.ptr (3,0) 0 0) → e 7 = .a (.p (.i .i64 0)) → σ.bs (3,0) = some (.var [.p (.i .i64 k),.p (.i .i64 n),.p (.s s),.p (.l (l.map enc))]) →
        wp S false (.loop F60b0) e σ (blkQ 0 (seqQ S false ((C.reg [⟨some 6,none,.mv (.c (.a (.p (.b true)))),.any⟩]).seq C.ret) (RetP [Rs.tmp 6] (PT.a (PV.b (mayL k l l 0 f)))))) := by
      intro f e σ e1 e3 e7 h3
      refine loop60 (.mk k n s l) f hl _ l 0 e σ rfl (by simp [T.l]) (fun u hu => ih u hu) e1 e3 e7 h3 (fun hm e' => ?_) (fun hm e' he' => ?_)
      · simp only [T.k,T.l] at hm; simp only [hm,x_seq,x_reg,x_skip,x_exit,x_ret,x_block,x_if,wpC_t,wpC_f,wpI_cons,wpI_nil,wpX_some,evI_any,evI_rd,evI_ad,evI_g,evG_u,evG_b,evG_tt,evG_ff,evG_tf,evG_ft,evO,evR,ev_t,ev_c,ev_f,putD_some,putD_none,put_at,cellsT,ldCells,mkT,lenA,binPV,add_bs,add_clk,add_ls,put_bs,put_clk,put_ls,kill_bs,kill_clk,kill_ls,empty_clk,empty_bs,Env.init,seqQ_norm,seqQ_exit,seqQ_ret,blkQ_norm,blkQ_exit,blkQ_ret,loopQ_norm,loopQ_exit,loopQ_ret,retP_ret,retP_norm,retE_ret,retE_norm,retS_ret,retS_norm,wpO_some,frA_fn,klA_p,klA_nil,klA_own,resVs,resV,resT,Option.bind_some,Option.bind_none,Option.map_some,List.getD_cons_zero,List.getD_cons_succ,List.getD_nil,List.length_cons,List.length_nil,List.length_map,List.map_cons,List.map_nil,List.drop_zero,List.drop_succ_cons,List.take_succ_cons,List.take_zero,List.drop_nil,List.take_nil,Nat.reduceEqDiff,Nat.reduceAdd,Nat.reduceLeDiff,Nat.zero_add,Nat.add_zero,Prod.mk.injEq,and_true,true_and,and_false,false_and,and_self,if_true,if_false,ite_true,ite_false,Bool.not_true,Bool.not_false,Bool.not_eq_true',reduceCtorEq,decide_true,decide_false,frTs,frT,frL_p,spS,ofPT_a,ofPT_g,ofPT_t,flat_i,flat_b,flat_s,flat_l,flat_g,flatp_i,flatp_b,flatp_s,flatp_l,klTs,klT,Bool.and_false,Bool.false_and,frL,frA_p,frA_nil,frA_own,ownT,intT,Bool.or_true,Bool.true_or,Bool.false_eq_true,frL_p,klL_p,ownT_p,O.adds,List.all_cons,List.all_nil,List.any_cons,List.any_nil,ownA,evO.bslRows,List.replicate_succ,List.replicate_zero,List.set_cons_zero,rowsA,over,List.cons_append,List.nil_append,List.append_nil,fillA,Bool.and_self,Bool.and_true,Bool.true_and,Bool.or_self,Bool.or_false,Bool.false_or,Nat.reduceMul,Nat.one_mul,Nat.lt_add_one,klL,Nat.le_refl,ite_self,Nat.reduceBEq]
      · simp only [T.k,T.l] at hm; simp only [hm,he',x_seq,x_reg,x_skip,x_exit,x_ret,x_block,x_if,wpC_t,wpC_f,wpI_cons,wpI_nil,wpX_some,evI_any,evI_rd,evI_ad,evI_g,evG_u,evG_b,evG_tt,evG_ff,evG_tf,evG_ft,evO,evR,ev_t,ev_c,ev_f,putD_some,putD_none,put_at,cellsT,ldCells,mkT,lenA,binPV,add_bs,add_clk,add_ls,put_bs,put_clk,put_ls,kill_bs,kill_clk,kill_ls,empty_clk,empty_bs,Env.init,seqQ_norm,seqQ_exit,seqQ_ret,blkQ_norm,blkQ_exit,blkQ_ret,loopQ_norm,loopQ_exit,loopQ_ret,retP_ret,retP_norm,retE_ret,retE_norm,retS_ret,retS_norm,wpO_some,frA_fn,klA_p,klA_nil,klA_own,resVs,resV,resT,Option.bind_some,Option.bind_none,Option.map_some,List.getD_cons_zero,List.getD_cons_succ,List.getD_nil,List.length_cons,List.length_nil,List.length_map,List.map_cons,List.map_nil,List.drop_zero,List.drop_succ_cons,List.take_succ_cons,List.take_zero,List.drop_nil,List.take_nil,Nat.reduceEqDiff,Nat.reduceAdd,Nat.reduceLeDiff,Nat.zero_add,Nat.add_zero,Prod.mk.injEq,and_true,true_and,and_false,false_and,and_self,if_true,if_false,ite_true,ite_false,Bool.not_true,Bool.not_false,Bool.not_eq_true',reduceCtorEq,decide_true,decide_false,frTs,frT,frL_p,spS,ofPT_a,ofPT_g,ofPT_t,flat_i,flat_b,flat_s,flat_l,flat_g,flatp_i,flatp_b,flatp_s,flatp_l,klTs,klT,Bool.and_false,Bool.false_and,frL,frA_p,frA_nil,frA_own,ownT,intT,Bool.or_true,Bool.true_or,Bool.false_eq_true,frL_p,klL_p,ownT_p,O.adds,List.all_cons,List.all_nil,List.any_cons,List.any_nil,ownA,evO.bslRows,List.replicate_succ,List.replicate_zero,List.set_cons_zero,rowsA,over,List.cons_append,List.nil_append,List.append_nil,fillA,Bool.and_self,Bool.and_true,Bool.true_and,Bool.or_self,Bool.or_false,Bool.false_or,Nat.reduceMul,Nat.one_mul,Nat.lt_add_one,klL,Nat.le_refl,ite_self,Nat.reduceBEq]
    refine wpX_bsplit (fun h1 => ?_) (fun h1 => ?_)
    all_goals simp only [h1,hh,x_seq,x_reg,x_skip,x_exit,x_ret,x_block,x_if,wpC_t,wpC_f,wpI_cons,wpI_nil,wpX_some,evI_any,evI_rd,evI_ad,evI_g,evG_u,evG_b,evG_tt,evG_ff,evG_tf,evG_ft,evO,evR,ev_t,ev_c,ev_f,putD_some,putD_none,put_at,cellsT,ldCells,mkT,lenA,binPV,add_bs,add_clk,add_ls,put_bs,put_clk,put_ls,kill_bs,kill_clk,kill_ls,empty_clk,empty_bs,Env.init,seqQ_norm,seqQ_exit,seqQ_ret,blkQ_norm,blkQ_exit,blkQ_ret,loopQ_norm,loopQ_exit,loopQ_ret,retP_ret,retP_norm,retE_ret,retE_norm,retS_ret,retS_norm,wpO_some,frA_fn,klA_p,klA_nil,klA_own,resVs,resV,resT,Option.bind_some,Option.bind_none,Option.map_some,List.getD_cons_zero,List.getD_cons_succ,List.getD_nil,List.length_cons,List.length_nil,List.length_map,List.map_cons,List.map_nil,List.drop_zero,List.drop_succ_cons,List.take_succ_cons,List.take_zero,List.drop_nil,List.take_nil,Nat.reduceEqDiff,Nat.reduceAdd,Nat.reduceLeDiff,Nat.zero_add,Nat.add_zero,Prod.mk.injEq,and_true,true_and,and_false,false_and,and_self,if_true,if_false,ite_true,ite_false,Bool.not_true,Bool.not_false,Bool.not_eq_true',reduceCtorEq,decide_true,decide_false,frTs,frT,frL_p,spS,ofPT_a,ofPT_g,ofPT_t,flat_i,flat_b,flat_s,flat_l,flat_g,flatp_i,flatp_b,flatp_s,flatp_l,klTs,klT,Bool.and_false,Bool.false_and,frL,frA_p,frA_nil,frA_own,ownT,intT,Bool.or_true,Bool.true_or,Bool.false_eq_true,frL_p,klL_p,ownT_p,O.adds,List.all_cons,List.all_nil,List.any_cons,List.any_nil,ownA,evO.bslRows,List.replicate_succ,List.replicate_zero,List.set_cons_zero,rowsA,over,List.cons_append,List.nil_append,List.append_nil,fillA,Bool.and_self,Bool.and_true,Bool.true_and,Bool.or_self,Bool.or_false,Bool.false_or,Nat.reduceMul,Nat.one_mul,Nat.lt_add_one,klL,Nat.le_refl,ite_self,Nat.reduceBEq]
    · simp only [Bool.not_eq_false',Bool.not_eq_true',Bool.not_false,Bool.not_true,decide_eq_true_eq,decide_eq_false_iff_not,Int.natCast_inj] at h1
      rw [if_neg (by omega)]
      refine wpC_split (fun h2 => ?_) (fun h2 => ?_)
      · simp only [Bool.not_eq_false',Bool.not_eq_true',Bool.not_false,Bool.not_true,decide_eq_true_eq,decide_eq_false_iff_not,Int.natCast_inj] at h2; simp only [h2,x_seq,x_reg,x_skip,x_exit,x_ret,x_block,x_if,wpC_t,wpC_f,wpI_cons,wpI_nil,wpX_some,evI_any,evI_rd,evI_ad,evI_g,evG_u,evG_b,evG_tt,evG_ff,evG_tf,evG_ft,evO,evR,ev_t,ev_c,ev_f,putD_some,putD_none,put_at,cellsT,ldCells,mkT,lenA,binPV,add_bs,add_clk,add_ls,put_bs,put_clk,put_ls,kill_bs,kill_clk,kill_ls,empty_clk,empty_bs,Env.init,seqQ_norm,seqQ_exit,seqQ_ret,blkQ_norm,blkQ_exit,blkQ_ret,loopQ_norm,loopQ_exit,loopQ_ret,retP_ret,retP_norm,retE_ret,retE_norm,retS_ret,retS_norm,wpO_some,frA_fn,klA_p,klA_nil,klA_own,resVs,resV,resT,Option.bind_some,Option.bind_none,Option.map_some,List.getD_cons_zero,List.getD_cons_succ,List.getD_nil,List.length_cons,List.length_nil,List.length_map,List.map_cons,List.map_nil,List.drop_zero,List.drop_succ_cons,List.take_succ_cons,List.take_zero,List.drop_nil,List.take_nil,Nat.reduceEqDiff,Nat.reduceAdd,Nat.reduceLeDiff,Nat.zero_add,Nat.add_zero,Prod.mk.injEq,and_true,true_and,and_false,false_and,and_self,if_true,if_false,ite_true,ite_false,Bool.not_true,Bool.not_false,Bool.not_eq_true',reduceCtorEq,decide_true,decide_false,frTs,frT,frL_p,spS,ofPT_a,ofPT_g,ofPT_t,flat_i,flat_b,flat_s,flat_l,flat_g,flatp_i,flatp_b,flatp_s,flatp_l,klTs,klT,Bool.and_false,Bool.false_and,frL,frA_p,frA_nil,frA_own,ownT,intT,Bool.or_true,Bool.true_or,Bool.false_eq_true,frL_p,klL_p,ownT_p,O.adds,List.all_cons,List.all_nil,List.any_cons,List.any_nil,ownA,evO.bslRows,List.replicate_succ,List.replicate_zero,List.set_cons_zero,rowsA,over,List.cons_append,List.nil_append,List.append_nil,fillA,Bool.and_self,Bool.and_true,Bool.true_and,Bool.or_self,Bool.or_false,Bool.false_or,Nat.reduceMul,Nat.one_mul,Nat.lt_add_one,klL,Nat.le_refl,ite_self,Nat.reduceBEq]
      · simp only [Bool.not_eq_false',Bool.not_eq_true',Bool.not_false,Bool.not_true,decide_eq_true_eq,decide_eq_false_iff_not,Int.natCast_inj] at h2; simp only [h2,x_seq,x_reg,x_skip,x_exit,x_ret,x_block,x_if,wpC_t,wpC_f,wpI_cons,wpI_nil,wpX_some,evI_any,evI_rd,evI_ad,evI_g,evG_u,evG_b,evG_tt,evG_ff,evG_tf,evG_ft,evO,evR,ev_t,ev_c,ev_f,putD_some,putD_none,put_at,cellsT,ldCells,mkT,lenA,binPV,add_bs,add_clk,add_ls,put_bs,put_clk,put_ls,kill_bs,kill_clk,kill_ls,empty_clk,empty_bs,Env.init,seqQ_norm,seqQ_exit,seqQ_ret,blkQ_norm,blkQ_exit,blkQ_ret,loopQ_norm,loopQ_exit,loopQ_ret,retP_ret,retP_norm,retE_ret,retE_norm,retS_ret,retS_norm,wpO_some,frA_fn,klA_p,klA_nil,klA_own,resVs,resV,resT,Option.bind_some,Option.bind_none,Option.map_some,List.getD_cons_zero,List.getD_cons_succ,List.getD_nil,List.length_cons,List.length_nil,List.length_map,List.map_cons,List.map_nil,List.drop_zero,List.drop_succ_cons,List.take_succ_cons,List.take_zero,List.drop_nil,List.take_nil,Nat.reduceEqDiff,Nat.reduceAdd,Nat.reduceLeDiff,Nat.zero_add,Nat.add_zero,Prod.mk.injEq,and_true,true_and,and_false,false_and,and_self,if_true,if_false,ite_true,ite_false,Bool.not_true,Bool.not_false,Bool.not_eq_true',reduceCtorEq,decide_true,decide_false,frTs,frT,frL_p,spS,ofPT_a,ofPT_g,ofPT_t,flat_i,flat_b,flat_s,flat_l,flat_g,flatp_i,flatp_b,flatp_s,flatp_l,klTs,klT,Bool.and_false,Bool.false_and,frL,frA_p,frA_nil,frA_own,ownT,intT,Bool.or_true,Bool.true_or,Bool.false_eq_true,frL_p,klL_p,ownT_p,O.adds,List.all_cons,List.all_nil,List.any_cons,List.any_nil,ownA,evO.bslRows,List.replicate_succ,List.replicate_zero,List.set_cons_zero,rowsA,over,List.cons_append,List.nil_append,List.append_nil,fillA,Bool.and_self,Bool.and_true,Bool.true_and,Bool.or_self,Bool.or_false,Bool.false_or,Nat.reduceMul,Nat.one_mul,Nat.lt_add_one,klL,Nat.le_refl,ite_self,Nat.reduceBEq]
        refine wpC_split (fun h3 => ?_) (fun h3 => ?_)
        · simp only [Bool.not_eq_false',Bool.not_eq_true',Bool.not_false,Bool.not_true,decide_eq_true_eq,decide_eq_false_iff_not,Int.natCast_inj] at h3
          subst h3
          simp only [Int.reduceEq,x_seq,x_reg,x_skip,x_exit,x_ret,x_block,x_if,wpC_t,wpC_f,wpI_cons,wpI_nil,wpX_some,evI_any,evI_rd,evI_ad,evI_g,evG_u,evG_b,evG_tt,evG_ff,evG_tf,evG_ft,evO,evR,ev_t,ev_c,ev_f,putD_some,putD_none,put_at,cellsT,ldCells,mkT,lenA,binPV,add_bs,add_clk,add_ls,put_bs,put_clk,put_ls,kill_bs,kill_clk,kill_ls,empty_clk,empty_bs,Env.init,seqQ_norm,seqQ_exit,seqQ_ret,blkQ_norm,blkQ_exit,blkQ_ret,loopQ_norm,loopQ_exit,loopQ_ret,retP_ret,retP_norm,retE_ret,retE_norm,retS_ret,retS_norm,wpO_some,frA_fn,klA_p,klA_nil,klA_own,resVs,resV,resT,Option.bind_some,Option.bind_none,Option.map_some,List.getD_cons_zero,List.getD_cons_succ,List.getD_nil,List.length_cons,List.length_nil,List.length_map,List.map_cons,List.map_nil,List.drop_zero,List.drop_succ_cons,List.take_succ_cons,List.take_zero,List.drop_nil,List.take_nil,Nat.reduceEqDiff,Nat.reduceAdd,Nat.reduceLeDiff,Nat.zero_add,Nat.add_zero,Prod.mk.injEq,and_true,true_and,and_false,false_and,and_self,if_true,if_false,ite_true,ite_false,Bool.not_true,Bool.not_false,Bool.not_eq_true',reduceCtorEq,decide_true,decide_false,frTs,frT,frL_p,spS,ofPT_a,ofPT_g,ofPT_t,flat_i,flat_b,flat_s,flat_l,flat_g,flatp_i,flatp_b,flatp_s,flatp_l,klTs,klT,Bool.and_false,Bool.false_and,frL,frA_p,frA_nil,frA_own,ownT,intT,Bool.or_true,Bool.true_or,Bool.false_eq_true,frL_p,klL_p,ownT_p,O.adds,List.all_cons,List.all_nil,List.any_cons,List.any_nil,ownA,evO.bslRows,List.replicate_succ,List.replicate_zero,List.set_cons_zero,rowsA,over,List.cons_append,List.nil_append,List.append_nil,fillA,Bool.and_self,Bool.and_true,Bool.true_and,Bool.or_self,Bool.or_false,Bool.false_or,Nat.reduceMul,Nat.one_mul,Nat.lt_add_one,klL,Nat.le_refl,ite_self,Nat.reduceBEq]
          exact fin _ _ _ (by simp only [x_seq,x_reg,x_skip,x_exit,x_ret,x_block,x_if,wpC_t,wpC_f,wpI_cons,wpI_nil,wpX_some,evI_any,evI_rd,evI_ad,evI_g,evG_u,evG_b,evG_tt,evG_ff,evG_tf,evG_ft,evO,evR,ev_t,ev_c,ev_f,putD_some,putD_none,put_at,cellsT,ldCells,mkT,lenA,binPV,add_bs,add_clk,add_ls,put_bs,put_clk,put_ls,kill_bs,kill_clk,kill_ls,empty_clk,empty_bs,Env.init,seqQ_norm,seqQ_exit,seqQ_ret,blkQ_norm,blkQ_exit,blkQ_ret,loopQ_norm,loopQ_exit,loopQ_ret,retP_ret,retP_norm,retE_ret,retE_norm,retS_ret,retS_norm,wpO_some,frA_fn,klA_p,klA_nil,klA_own,resVs,resV,resT,Option.bind_some,Option.bind_none,Option.map_some,List.getD_cons_zero,List.getD_cons_succ,List.getD_nil,List.length_cons,List.length_nil,List.length_map,List.map_cons,List.map_nil,List.drop_zero,List.drop_succ_cons,List.take_succ_cons,List.take_zero,List.drop_nil,List.take_nil,Nat.reduceEqDiff,Nat.reduceAdd,Nat.reduceLeDiff,Nat.zero_add,Nat.add_zero,Prod.mk.injEq,and_true,true_and,and_false,false_and,and_self,if_true,if_false,ite_true,ite_false,Bool.not_true,Bool.not_false,Bool.not_eq_true',reduceCtorEq,decide_true,decide_false,frTs,frT,frL_p,spS,ofPT_a,ofPT_g,ofPT_t,flat_i,flat_b,flat_s,flat_l,flat_g,flatp_i,flatp_b,flatp_s,flatp_l,klTs,klT,Bool.and_false,Bool.false_and,frL,frA_p,frA_nil,frA_own,ownT,intT,Bool.or_true,Bool.true_or,Bool.false_eq_true,frL_p,klL_p,ownT_p,O.adds,List.all_cons,List.all_nil,List.any_cons,List.any_nil,ownA,evO.bslRows,List.replicate_succ,List.replicate_zero,List.set_cons_zero,rowsA,over,List.cons_append,List.nil_append,List.append_nil,fillA,Bool.and_self,Bool.and_true,Bool.true_and,Bool.or_self,Bool.or_false,Bool.false_or,Nat.reduceMul,Nat.one_mul,Nat.lt_add_one,klL,Nat.le_refl,ite_self,Nat.reduceBEq]) (by simp only [x_seq,x_reg,x_skip,x_exit,x_ret,x_block,x_if,wpC_t,wpC_f,wpI_cons,wpI_nil,wpX_some,evI_any,evI_rd,evI_ad,evI_g,evG_u,evG_b,evG_tt,evG_ff,evG_tf,evG_ft,evO,evR,ev_t,ev_c,ev_f,putD_some,putD_none,put_at,cellsT,ldCells,mkT,lenA,binPV,add_bs,add_clk,add_ls,put_bs,put_clk,put_ls,kill_bs,kill_clk,kill_ls,empty_clk,empty_bs,Env.init,seqQ_norm,seqQ_exit,seqQ_ret,blkQ_norm,blkQ_exit,blkQ_ret,loopQ_norm,loopQ_exit,loopQ_ret,retP_ret,retP_norm,retE_ret,retE_norm,retS_ret,retS_norm,wpO_some,frA_fn,klA_p,klA_nil,klA_own,resVs,resV,resT,Option.bind_some,Option.bind_none,Option.map_some,List.getD_cons_zero,List.getD_cons_succ,List.getD_nil,List.length_cons,List.length_nil,List.length_map,List.map_cons,List.map_nil,List.drop_zero,List.drop_succ_cons,List.take_succ_cons,List.take_zero,List.drop_nil,List.take_nil,Nat.reduceEqDiff,Nat.reduceAdd,Nat.reduceLeDiff,Nat.zero_add,Nat.add_zero,Prod.mk.injEq,and_true,true_and,and_false,false_and,and_self,if_true,if_false,ite_true,ite_false,Bool.not_true,Bool.not_false,Bool.not_eq_true',reduceCtorEq,decide_true,decide_false,frTs,frT,frL_p,spS,ofPT_a,ofPT_g,ofPT_t,flat_i,flat_b,flat_s,flat_l,flat_g,flatp_i,flatp_b,flatp_s,flatp_l,klTs,klT,Bool.and_false,Bool.false_and,frL,frA_p,frA_nil,frA_own,ownT,intT,Bool.or_true,Bool.true_or,Bool.false_eq_true,frL_p,klL_p,ownT_p,O.adds,List.all_cons,List.all_nil,List.any_cons,List.any_nil,ownA,evO.bslRows,List.replicate_succ,List.replicate_zero,List.set_cons_zero,rowsA,over,List.cons_append,List.nil_append,List.append_nil,fillA,Bool.and_self,Bool.and_true,Bool.true_and,Bool.or_self,Bool.or_false,Bool.false_or,Nat.reduceMul,Nat.one_mul,Nat.lt_add_one,klL,Nat.le_refl,ite_self,Nat.reduceBEq]) (by simp only [x_seq,x_reg,x_skip,x_exit,x_ret,x_block,x_if,wpC_t,wpC_f,wpI_cons,wpI_nil,wpX_some,evI_any,evI_rd,evI_ad,evI_g,evG_u,evG_b,evG_tt,evG_ff,evG_tf,evG_ft,evO,evR,ev_t,ev_c,ev_f,putD_some,putD_none,put_at,cellsT,ldCells,mkT,lenA,binPV,add_bs,add_clk,add_ls,put_bs,put_clk,put_ls,kill_bs,kill_clk,kill_ls,empty_clk,empty_bs,Env.init,seqQ_norm,seqQ_exit,seqQ_ret,blkQ_norm,blkQ_exit,blkQ_ret,loopQ_norm,loopQ_exit,loopQ_ret,retP_ret,retP_norm,retE_ret,retE_norm,retS_ret,retS_norm,wpO_some,frA_fn,klA_p,klA_nil,klA_own,resVs,resV,resT,Option.bind_some,Option.bind_none,Option.map_some,List.getD_cons_zero,List.getD_cons_succ,List.getD_nil,List.length_cons,List.length_nil,List.length_map,List.map_cons,List.map_nil,List.drop_zero,List.drop_succ_cons,List.take_succ_cons,List.take_zero,List.drop_nil,List.take_nil,Nat.reduceEqDiff,Nat.reduceAdd,Nat.reduceLeDiff,Nat.zero_add,Nat.add_zero,Prod.mk.injEq,and_true,true_and,and_false,false_and,and_self,if_true,if_false,ite_true,ite_false,Bool.not_true,Bool.not_false,Bool.not_eq_true',reduceCtorEq,decide_true,decide_false,frTs,frT,frL_p,spS,ofPT_a,ofPT_g,ofPT_t,flat_i,flat_b,flat_s,flat_l,flat_g,flatp_i,flatp_b,flatp_s,flatp_l,klTs,klT,Bool.and_false,Bool.false_and,frL,frA_p,frA_nil,frA_own,ownT,intT,Bool.or_true,Bool.true_or,Bool.false_eq_true,frL_p,klL_p,ownT_p,O.adds,List.all_cons,List.all_nil,List.any_cons,List.any_nil,ownA,evO.bslRows,List.replicate_succ,List.replicate_zero,List.set_cons_zero,rowsA,over,List.cons_append,List.nil_append,List.append_nil,fillA,Bool.and_self,Bool.and_true,Bool.true_and,Bool.or_self,Bool.or_false,Bool.false_or,Nat.reduceMul,Nat.one_mul,Nat.lt_add_one,klL,Nat.le_refl,ite_self,Nat.reduceBEq]) (by simp only [x_seq,x_reg,x_skip,x_exit,x_ret,x_block,x_if,wpC_t,wpC_f,wpI_cons,wpI_nil,wpX_some,evI_any,evI_rd,evI_ad,evI_g,evG_u,evG_b,evG_tt,evG_ff,evG_tf,evG_ft,evO,evR,ev_t,ev_c,ev_f,putD_some,putD_none,put_at,cellsT,ldCells,mkT,lenA,binPV,add_bs,add_clk,add_ls,put_bs,put_clk,put_ls,kill_bs,kill_clk,kill_ls,empty_clk,empty_bs,Env.init,seqQ_norm,seqQ_exit,seqQ_ret,blkQ_norm,blkQ_exit,blkQ_ret,loopQ_norm,loopQ_exit,loopQ_ret,retP_ret,retP_norm,retE_ret,retE_norm,retS_ret,retS_norm,wpO_some,frA_fn,klA_p,klA_nil,klA_own,resVs,resV,resT,Option.bind_some,Option.bind_none,Option.map_some,List.getD_cons_zero,List.getD_cons_succ,List.getD_nil,List.length_cons,List.length_nil,List.length_map,List.map_cons,List.map_nil,List.drop_zero,List.drop_succ_cons,List.take_succ_cons,List.take_zero,List.drop_nil,List.take_nil,Nat.reduceEqDiff,Nat.reduceAdd,Nat.reduceLeDiff,Nat.zero_add,Nat.add_zero,Prod.mk.injEq,and_true,true_and,and_false,false_and,and_self,if_true,if_false,ite_true,ite_false,Bool.not_true,Bool.not_false,Bool.not_eq_true',reduceCtorEq,decide_true,decide_false,frTs,frT,frL_p,spS,ofPT_a,ofPT_g,ofPT_t,flat_i,flat_b,flat_s,flat_l,flat_g,flatp_i,flatp_b,flatp_s,flatp_l,klTs,klT,Bool.and_false,Bool.false_and,frL,frA_p,frA_nil,frA_own,ownT,intT,Bool.or_true,Bool.true_or,Bool.false_eq_true,frL_p,klL_p,ownT_p,O.adds,List.all_cons,List.all_nil,List.any_cons,List.any_nil,ownA,evO.bslRows,List.replicate_succ,List.replicate_zero,List.set_cons_zero,rowsA,over,List.cons_append,List.nil_append,List.append_nil,fillA,Bool.and_self,Bool.and_true,Bool.true_and,Bool.or_self,Bool.or_false,Bool.false_or,Nat.reduceMul,Nat.one_mul,Nat.lt_add_one,klL,Nat.le_refl,ite_self,Nat.reduceBEq])
        · simp only [Bool.not_eq_false',Bool.not_eq_true',Bool.not_false,Bool.not_true,decide_eq_true_eq,decide_eq_false_iff_not,Int.natCast_inj] at h3
          rw [if_neg h3]
          simp only [x_seq,x_reg,x_skip,x_exit,x_ret,x_block,x_if,wpC_t,wpC_f,wpI_cons,wpI_nil,wpX_some,evI_any,evI_rd,evI_ad,evI_g,evG_u,evG_b,evG_tt,evG_ff,evG_tf,evG_ft,evO,evR,ev_t,ev_c,ev_f,putD_some,putD_none,put_at,cellsT,ldCells,mkT,lenA,binPV,add_bs,add_clk,add_ls,put_bs,put_clk,put_ls,kill_bs,kill_clk,kill_ls,empty_clk,empty_bs,Env.init,seqQ_norm,seqQ_exit,seqQ_ret,blkQ_norm,blkQ_exit,blkQ_ret,loopQ_norm,loopQ_exit,loopQ_ret,retP_ret,retP_norm,retE_ret,retE_norm,retS_ret,retS_norm,wpO_some,frA_fn,klA_p,klA_nil,klA_own,resVs,resV,resT,Option.bind_some,Option.bind_none,Option.map_some,List.getD_cons_zero,List.getD_cons_succ,List.getD_nil,List.length_cons,List.length_nil,List.length_map,List.map_cons,List.map_nil,List.drop_zero,List.drop_succ_cons,List.take_succ_cons,List.take_zero,List.drop_nil,List.take_nil,Nat.reduceEqDiff,Nat.reduceAdd,Nat.reduceLeDiff,Nat.zero_add,Nat.add_zero,Prod.mk.injEq,and_true,true_and,and_false,false_and,and_self,if_true,if_false,ite_true,ite_false,Bool.not_true,Bool.not_false,Bool.not_eq_true',reduceCtorEq,decide_true,decide_false,frTs,frT,frL_p,spS,ofPT_a,ofPT_g,ofPT_t,flat_i,flat_b,flat_s,flat_l,flat_g,flatp_i,flatp_b,flatp_s,flatp_l,klTs,klT,Bool.and_false,Bool.false_and,frL,frA_p,frA_nil,frA_own,ownT,intT,Bool.or_true,Bool.true_or,Bool.false_eq_true,frL_p,klL_p,ownT_p,O.adds,List.all_cons,List.all_nil,List.any_cons,List.any_nil,ownA,evO.bslRows,List.replicate_succ,List.replicate_zero,List.set_cons_zero,rowsA,over,List.cons_append,List.nil_append,List.append_nil,fillA,Bool.and_self,Bool.and_true,Bool.true_and,Bool.or_self,Bool.or_false,Bool.false_or,Nat.reduceMul,Nat.one_mul,Nat.lt_add_one,klL,Nat.le_refl,ite_self,Nat.reduceBEq]
          refine wpC_split (fun h4 => ?_) (fun h4 => ?_)
          · simp only [Bool.not_eq_false',Bool.not_eq_true',Bool.not_false,Bool.not_true,decide_eq_true_eq,decide_eq_false_iff_not,Int.natCast_inj] at h4
            rw [if_pos h4]
            simp only [x_seq,x_reg,x_skip,x_exit,x_ret,x_block,x_if,wpC_t,wpC_f,wpI_cons,wpI_nil,wpX_some,evI_any,evI_rd,evI_ad,evI_g,evG_u,evG_b,evG_tt,evG_ff,evG_tf,evG_ft,evO,evR,ev_t,ev_c,ev_f,putD_some,putD_none,put_at,cellsT,ldCells,mkT,lenA,binPV,add_bs,add_clk,add_ls,put_bs,put_clk,put_ls,kill_bs,kill_clk,kill_ls,empty_clk,empty_bs,Env.init,seqQ_norm,seqQ_exit,seqQ_ret,blkQ_norm,blkQ_exit,blkQ_ret,loopQ_norm,loopQ_exit,loopQ_ret,retP_ret,retP_norm,retE_ret,retE_norm,retS_ret,retS_norm,wpO_some,frA_fn,klA_p,klA_nil,klA_own,resVs,resV,resT,Option.bind_some,Option.bind_none,Option.map_some,List.getD_cons_zero,List.getD_cons_succ,List.getD_nil,List.length_cons,List.length_nil,List.length_map,List.map_cons,List.map_nil,List.drop_zero,List.drop_succ_cons,List.take_succ_cons,List.take_zero,List.drop_nil,List.take_nil,Nat.reduceEqDiff,Nat.reduceAdd,Nat.reduceLeDiff,Nat.zero_add,Nat.add_zero,Prod.mk.injEq,and_true,true_and,and_false,false_and,and_self,if_true,if_false,ite_true,ite_false,Bool.not_true,Bool.not_false,Bool.not_eq_true',reduceCtorEq,decide_true,decide_false,frTs,frT,frL_p,spS,ofPT_a,ofPT_g,ofPT_t,flat_i,flat_b,flat_s,flat_l,flat_g,flatp_i,flatp_b,flatp_s,flatp_l,klTs,klT,Bool.and_false,Bool.false_and,frL,frA_p,frA_nil,frA_own,ownT,intT,Bool.or_true,Bool.true_or,Bool.false_eq_true,frL_p,klL_p,ownT_p,O.adds,List.all_cons,List.all_nil,List.any_cons,List.any_nil,ownA,evO.bslRows,List.replicate_succ,List.replicate_zero,List.set_cons_zero,rowsA,over,List.cons_append,List.nil_append,List.append_nil,fillA,Bool.and_self,Bool.and_true,Bool.true_and,Bool.or_self,Bool.or_false,Bool.false_or,Nat.reduceMul,Nat.one_mul,Nat.lt_add_one,klL,Nat.le_refl,ite_self,Nat.reduceBEq]
            exact fin _ _ _ (by simp only [x_seq,x_reg,x_skip,x_exit,x_ret,x_block,x_if,wpC_t,wpC_f,wpI_cons,wpI_nil,wpX_some,evI_any,evI_rd,evI_ad,evI_g,evG_u,evG_b,evG_tt,evG_ff,evG_tf,evG_ft,evO,evR,ev_t,ev_c,ev_f,putD_some,putD_none,put_at,cellsT,ldCells,mkT,lenA,binPV,add_bs,add_clk,add_ls,put_bs,put_clk,put_ls,kill_bs,kill_clk,kill_ls,empty_clk,empty_bs,Env.init,seqQ_norm,seqQ_exit,seqQ_ret,blkQ_norm,blkQ_exit,blkQ_ret,loopQ_norm,loopQ_exit,loopQ_ret,retP_ret,retP_norm,retE_ret,retE_norm,retS_ret,retS_norm,wpO_some,frA_fn,klA_p,klA_nil,klA_own,resVs,resV,resT,Option.bind_some,Option.bind_none,Option.map_some,List.getD_cons_zero,List.getD_cons_succ,List.getD_nil,List.length_cons,List.length_nil,List.length_map,List.map_cons,List.map_nil,List.drop_zero,List.drop_succ_cons,List.take_succ_cons,List.take_zero,List.drop_nil,List.take_nil,Nat.reduceEqDiff,Nat.reduceAdd,Nat.reduceLeDiff,Nat.zero_add,Nat.add_zero,Prod.mk.injEq,and_true,true_and,and_false,false_and,and_self,if_true,if_false,ite_true,ite_false,Bool.not_true,Bool.not_false,Bool.not_eq_true',reduceCtorEq,decide_true,decide_false,frTs,frT,frL_p,spS,ofPT_a,ofPT_g,ofPT_t,flat_i,flat_b,flat_s,flat_l,flat_g,flatp_i,flatp_b,flatp_s,flatp_l,klTs,klT,Bool.and_false,Bool.false_and,frL,frA_p,frA_nil,frA_own,ownT,intT,Bool.or_true,Bool.true_or,Bool.false_eq_true,frL_p,klL_p,ownT_p,O.adds,List.all_cons,List.all_nil,List.any_cons,List.any_nil,ownA,evO.bslRows,List.replicate_succ,List.replicate_zero,List.set_cons_zero,rowsA,over,List.cons_append,List.nil_append,List.append_nil,fillA,Bool.and_self,Bool.and_true,Bool.true_and,Bool.or_self,Bool.or_false,Bool.false_or,Nat.reduceMul,Nat.one_mul,Nat.lt_add_one,klL,Nat.le_refl,ite_self,Nat.reduceBEq]) (by simp only [x_seq,x_reg,x_skip,x_exit,x_ret,x_block,x_if,wpC_t,wpC_f,wpI_cons,wpI_nil,wpX_some,evI_any,evI_rd,evI_ad,evI_g,evG_u,evG_b,evG_tt,evG_ff,evG_tf,evG_ft,evO,evR,ev_t,ev_c,ev_f,putD_some,putD_none,put_at,cellsT,ldCells,mkT,lenA,binPV,add_bs,add_clk,add_ls,put_bs,put_clk,put_ls,kill_bs,kill_clk,kill_ls,empty_clk,empty_bs,Env.init,seqQ_norm,seqQ_exit,seqQ_ret,blkQ_norm,blkQ_exit,blkQ_ret,loopQ_norm,loopQ_exit,loopQ_ret,retP_ret,retP_norm,retE_ret,retE_norm,retS_ret,retS_norm,wpO_some,frA_fn,klA_p,klA_nil,klA_own,resVs,resV,resT,Option.bind_some,Option.bind_none,Option.map_some,List.getD_cons_zero,List.getD_cons_succ,List.getD_nil,List.length_cons,List.length_nil,List.length_map,List.map_cons,List.map_nil,List.drop_zero,List.drop_succ_cons,List.take_succ_cons,List.take_zero,List.drop_nil,List.take_nil,Nat.reduceEqDiff,Nat.reduceAdd,Nat.reduceLeDiff,Nat.zero_add,Nat.add_zero,Prod.mk.injEq,and_true,true_and,and_false,false_and,and_self,if_true,if_false,ite_true,ite_false,Bool.not_true,Bool.not_false,Bool.not_eq_true',reduceCtorEq,decide_true,decide_false,frTs,frT,frL_p,spS,ofPT_a,ofPT_g,ofPT_t,flat_i,flat_b,flat_s,flat_l,flat_g,flatp_i,flatp_b,flatp_s,flatp_l,klTs,klT,Bool.and_false,Bool.false_and,frL,frA_p,frA_nil,frA_own,ownT,intT,Bool.or_true,Bool.true_or,Bool.false_eq_true,frL_p,klL_p,ownT_p,O.adds,List.all_cons,List.all_nil,List.any_cons,List.any_nil,ownA,evO.bslRows,List.replicate_succ,List.replicate_zero,List.set_cons_zero,rowsA,over,List.cons_append,List.nil_append,List.append_nil,fillA,Bool.and_self,Bool.and_true,Bool.true_and,Bool.or_self,Bool.or_false,Bool.false_or,Nat.reduceMul,Nat.one_mul,Nat.lt_add_one,klL,Nat.le_refl,ite_self,Nat.reduceBEq]) (by simp only [x_seq,x_reg,x_skip,x_exit,x_ret,x_block,x_if,wpC_t,wpC_f,wpI_cons,wpI_nil,wpX_some,evI_any,evI_rd,evI_ad,evI_g,evG_u,evG_b,evG_tt,evG_ff,evG_tf,evG_ft,evO,evR,ev_t,ev_c,ev_f,putD_some,putD_none,put_at,cellsT,ldCells,mkT,lenA,binPV,add_bs,add_clk,add_ls,put_bs,put_clk,put_ls,kill_bs,kill_clk,kill_ls,empty_clk,empty_bs,Env.init,seqQ_norm,seqQ_exit,seqQ_ret,blkQ_norm,blkQ_exit,blkQ_ret,loopQ_norm,loopQ_exit,loopQ_ret,retP_ret,retP_norm,retE_ret,retE_norm,retS_ret,retS_norm,wpO_some,frA_fn,klA_p,klA_nil,klA_own,resVs,resV,resT,Option.bind_some,Option.bind_none,Option.map_some,List.getD_cons_zero,List.getD_cons_succ,List.getD_nil,List.length_cons,List.length_nil,List.length_map,List.map_cons,List.map_nil,List.drop_zero,List.drop_succ_cons,List.take_succ_cons,List.take_zero,List.drop_nil,List.take_nil,Nat.reduceEqDiff,Nat.reduceAdd,Nat.reduceLeDiff,Nat.zero_add,Nat.add_zero,Prod.mk.injEq,and_true,true_and,and_false,false_and,and_self,if_true,if_false,ite_true,ite_false,Bool.not_true,Bool.not_false,Bool.not_eq_true',reduceCtorEq,decide_true,decide_false,frTs,frT,frL_p,spS,ofPT_a,ofPT_g,ofPT_t,flat_i,flat_b,flat_s,flat_l,flat_g,flatp_i,flatp_b,flatp_s,flatp_l,klTs,klT,Bool.and_false,Bool.false_and,frL,frA_p,frA_nil,frA_own,ownT,intT,Bool.or_true,Bool.true_or,Bool.false_eq_true,frL_p,klL_p,ownT_p,O.adds,List.all_cons,List.all_nil,List.any_cons,List.any_nil,ownA,evO.bslRows,List.replicate_succ,List.replicate_zero,List.set_cons_zero,rowsA,over,List.cons_append,List.nil_append,List.append_nil,fillA,Bool.and_self,Bool.and_true,Bool.true_and,Bool.or_self,Bool.or_false,Bool.false_or,Nat.reduceMul,Nat.one_mul,Nat.lt_add_one,klL,Nat.le_refl,ite_self,Nat.reduceBEq]) (by simp only [x_seq,x_reg,x_skip,x_exit,x_ret,x_block,x_if,wpC_t,wpC_f,wpI_cons,wpI_nil,wpX_some,evI_any,evI_rd,evI_ad,evI_g,evG_u,evG_b,evG_tt,evG_ff,evG_tf,evG_ft,evO,evR,ev_t,ev_c,ev_f,putD_some,putD_none,put_at,cellsT,ldCells,mkT,lenA,binPV,add_bs,add_clk,add_ls,put_bs,put_clk,put_ls,kill_bs,kill_clk,kill_ls,empty_clk,empty_bs,Env.init,seqQ_norm,seqQ_exit,seqQ_ret,blkQ_norm,blkQ_exit,blkQ_ret,loopQ_norm,loopQ_exit,loopQ_ret,retP_ret,retP_norm,retE_ret,retE_norm,retS_ret,retS_norm,wpO_some,frA_fn,klA_p,klA_nil,klA_own,resVs,resV,resT,Option.bind_some,Option.bind_none,Option.map_some,List.getD_cons_zero,List.getD_cons_succ,List.getD_nil,List.length_cons,List.length_nil,List.length_map,List.map_cons,List.map_nil,List.drop_zero,List.drop_succ_cons,List.take_succ_cons,List.take_zero,List.drop_nil,List.take_nil,Nat.reduceEqDiff,Nat.reduceAdd,Nat.reduceLeDiff,Nat.zero_add,Nat.add_zero,Prod.mk.injEq,and_true,true_and,and_false,false_and,and_self,if_true,if_false,ite_true,ite_false,Bool.not_true,Bool.not_false,Bool.not_eq_true',reduceCtorEq,decide_true,decide_false,frTs,frT,frL_p,spS,ofPT_a,ofPT_g,ofPT_t,flat_i,flat_b,flat_s,flat_l,flat_g,flatp_i,flatp_b,flatp_s,flatp_l,klTs,klT,Bool.and_false,Bool.false_and,frL,frA_p,frA_nil,frA_own,ownT,intT,Bool.or_true,Bool.true_or,Bool.false_eq_true,frL_p,klL_p,ownT_p,O.adds,List.all_cons,List.all_nil,List.any_cons,List.any_nil,ownA,evO.bslRows,List.replicate_succ,List.replicate_zero,List.set_cons_zero,rowsA,over,List.cons_append,List.nil_append,List.append_nil,fillA,Bool.and_self,Bool.and_true,Bool.true_and,Bool.or_self,Bool.or_false,Bool.false_or,Nat.reduceMul,Nat.one_mul,Nat.lt_add_one,klL,Nat.le_refl,ite_self,Nat.reduceBEq])
          · simp only [Bool.not_eq_false',Bool.not_eq_true',Bool.not_false,Bool.not_true,decide_eq_true_eq,decide_eq_false_iff_not,Int.natCast_inj] at h4
            rw [if_neg h4]
            simp only [x_seq,x_reg,x_skip,x_exit,x_ret,x_block,x_if,wpC_t,wpC_f,wpI_cons,wpI_nil,wpX_some,evI_any,evI_rd,evI_ad,evI_g,evG_u,evG_b,evG_tt,evG_ff,evG_tf,evG_ft,evO,evR,ev_t,ev_c,ev_f,putD_some,putD_none,put_at,cellsT,ldCells,mkT,lenA,binPV,add_bs,add_clk,add_ls,put_bs,put_clk,put_ls,kill_bs,kill_clk,kill_ls,empty_clk,empty_bs,Env.init,seqQ_norm,seqQ_exit,seqQ_ret,blkQ_norm,blkQ_exit,blkQ_ret,loopQ_norm,loopQ_exit,loopQ_ret,retP_ret,retP_norm,retE_ret,retE_norm,retS_ret,retS_norm,wpO_some,frA_fn,klA_p,klA_nil,klA_own,resVs,resV,resT,Option.bind_some,Option.bind_none,Option.map_some,List.getD_cons_zero,List.getD_cons_succ,List.getD_nil,List.length_cons,List.length_nil,List.length_map,List.map_cons,List.map_nil,List.drop_zero,List.drop_succ_cons,List.take_succ_cons,List.take_zero,List.drop_nil,List.take_nil,Nat.reduceEqDiff,Nat.reduceAdd,Nat.reduceLeDiff,Nat.zero_add,Nat.add_zero,Prod.mk.injEq,and_true,true_and,and_false,false_and,and_self,if_true,if_false,ite_true,ite_false,Bool.not_true,Bool.not_false,Bool.not_eq_true',reduceCtorEq,decide_true,decide_false,frTs,frT,frL_p,spS,ofPT_a,ofPT_g,ofPT_t,flat_i,flat_b,flat_s,flat_l,flat_g,flatp_i,flatp_b,flatp_s,flatp_l,klTs,klT,Bool.and_false,Bool.false_and,frL,frA_p,frA_nil,frA_own,ownT,intT,Bool.or_true,Bool.true_or,Bool.false_eq_true,frL_p,klL_p,ownT_p,O.adds,List.all_cons,List.all_nil,List.any_cons,List.any_nil,ownA,evO.bslRows,List.replicate_succ,List.replicate_zero,List.set_cons_zero,rowsA,over,List.cons_append,List.nil_append,List.append_nil,fillA,Bool.and_self,Bool.and_true,Bool.true_and,Bool.or_self,Bool.or_false,Bool.false_or,Nat.reduceMul,Nat.one_mul,Nat.lt_add_one,klL,Nat.le_refl,ite_self,Nat.reduceBEq]
            exact fin _ _ _ (by simp only [x_seq,x_reg,x_skip,x_exit,x_ret,x_block,x_if,wpC_t,wpC_f,wpI_cons,wpI_nil,wpX_some,evI_any,evI_rd,evI_ad,evI_g,evG_u,evG_b,evG_tt,evG_ff,evG_tf,evG_ft,evO,evR,ev_t,ev_c,ev_f,putD_some,putD_none,put_at,cellsT,ldCells,mkT,lenA,binPV,add_bs,add_clk,add_ls,put_bs,put_clk,put_ls,kill_bs,kill_clk,kill_ls,empty_clk,empty_bs,Env.init,seqQ_norm,seqQ_exit,seqQ_ret,blkQ_norm,blkQ_exit,blkQ_ret,loopQ_norm,loopQ_exit,loopQ_ret,retP_ret,retP_norm,retE_ret,retE_norm,retS_ret,retS_norm,wpO_some,frA_fn,klA_p,klA_nil,klA_own,resVs,resV,resT,Option.bind_some,Option.bind_none,Option.map_some,List.getD_cons_zero,List.getD_cons_succ,List.getD_nil,List.length_cons,List.length_nil,List.length_map,List.map_cons,List.map_nil,List.drop_zero,List.drop_succ_cons,List.take_succ_cons,List.take_zero,List.drop_nil,List.take_nil,Nat.reduceEqDiff,Nat.reduceAdd,Nat.reduceLeDiff,Nat.zero_add,Nat.add_zero,Prod.mk.injEq,and_true,true_and,and_false,false_and,and_self,if_true,if_false,ite_true,ite_false,Bool.not_true,Bool.not_false,Bool.not_eq_true',reduceCtorEq,decide_true,decide_false,frTs,frT,frL_p,spS,ofPT_a,ofPT_g,ofPT_t,flat_i,flat_b,flat_s,flat_l,flat_g,flatp_i,flatp_b,flatp_s,flatp_l,klTs,klT,Bool.and_false,Bool.false_and,frL,frA_p,frA_nil,frA_own,ownT,intT,Bool.or_true,Bool.true_or,Bool.false_eq_true,frL_p,klL_p,ownT_p,O.adds,List.all_cons,List.all_nil,List.any_cons,List.any_nil,ownA,evO.bslRows,List.replicate_succ,List.replicate_zero,List.set_cons_zero,rowsA,over,List.cons_append,List.nil_append,List.append_nil,fillA,Bool.and_self,Bool.and_true,Bool.true_and,Bool.or_self,Bool.or_false,Bool.false_or,Nat.reduceMul,Nat.one_mul,Nat.lt_add_one,klL,Nat.le_refl,ite_self,Nat.reduceBEq]) (by simp only [x_seq,x_reg,x_skip,x_exit,x_ret,x_block,x_if,wpC_t,wpC_f,wpI_cons,wpI_nil,wpX_some,evI_any,evI_rd,evI_ad,evI_g,evG_u,evG_b,evG_tt,evG_ff,evG_tf,evG_ft,evO,evR,ev_t,ev_c,ev_f,putD_some,putD_none,put_at,cellsT,ldCells,mkT,lenA,binPV,add_bs,add_clk,add_ls,put_bs,put_clk,put_ls,kill_bs,kill_clk,kill_ls,empty_clk,empty_bs,Env.init,seqQ_norm,seqQ_exit,seqQ_ret,blkQ_norm,blkQ_exit,blkQ_ret,loopQ_norm,loopQ_exit,loopQ_ret,retP_ret,retP_norm,retE_ret,retE_norm,retS_ret,retS_norm,wpO_some,frA_fn,klA_p,klA_nil,klA_own,resVs,resV,resT,Option.bind_some,Option.bind_none,Option.map_some,List.getD_cons_zero,List.getD_cons_succ,List.getD_nil,List.length_cons,List.length_nil,List.length_map,List.map_cons,List.map_nil,List.drop_zero,List.drop_succ_cons,List.take_succ_cons,List.take_zero,List.drop_nil,List.take_nil,Nat.reduceEqDiff,Nat.reduceAdd,Nat.reduceLeDiff,Nat.zero_add,Nat.add_zero,Prod.mk.injEq,and_true,true_and,and_false,false_and,and_self,if_true,if_false,ite_true,ite_false,Bool.not_true,Bool.not_false,Bool.not_eq_true',reduceCtorEq,decide_true,decide_false,frTs,frT,frL_p,spS,ofPT_a,ofPT_g,ofPT_t,flat_i,flat_b,flat_s,flat_l,flat_g,flatp_i,flatp_b,flatp_s,flatp_l,klTs,klT,Bool.and_false,Bool.false_and,frL,frA_p,frA_nil,frA_own,ownT,intT,Bool.or_true,Bool.true_or,Bool.false_eq_true,frL_p,klL_p,ownT_p,O.adds,List.all_cons,List.all_nil,List.any_cons,List.any_nil,ownA,evO.bslRows,List.replicate_succ,List.replicate_zero,List.set_cons_zero,rowsA,over,List.cons_append,List.nil_append,List.append_nil,fillA,Bool.and_self,Bool.and_true,Bool.true_and,Bool.or_self,Bool.or_false,Bool.false_or,Nat.reduceMul,Nat.one_mul,Nat.lt_add_one,klL,Nat.le_refl,ite_self,Nat.reduceBEq]) (by simp only [x_seq,x_reg,x_skip,x_exit,x_ret,x_block,x_if,wpC_t,wpC_f,wpI_cons,wpI_nil,wpX_some,evI_any,evI_rd,evI_ad,evI_g,evG_u,evG_b,evG_tt,evG_ff,evG_tf,evG_ft,evO,evR,ev_t,ev_c,ev_f,putD_some,putD_none,put_at,cellsT,ldCells,mkT,lenA,binPV,add_bs,add_clk,add_ls,put_bs,put_clk,put_ls,kill_bs,kill_clk,kill_ls,empty_clk,empty_bs,Env.init,seqQ_norm,seqQ_exit,seqQ_ret,blkQ_norm,blkQ_exit,blkQ_ret,loopQ_norm,loopQ_exit,loopQ_ret,retP_ret,retP_norm,retE_ret,retE_norm,retS_ret,retS_norm,wpO_some,frA_fn,klA_p,klA_nil,klA_own,resVs,resV,resT,Option.bind_some,Option.bind_none,Option.map_some,List.getD_cons_zero,List.getD_cons_succ,List.getD_nil,List.length_cons,List.length_nil,List.length_map,List.map_cons,List.map_nil,List.drop_zero,List.drop_succ_cons,List.take_succ_cons,List.take_zero,List.drop_nil,List.take_nil,Nat.reduceEqDiff,Nat.reduceAdd,Nat.reduceLeDiff,Nat.zero_add,Nat.add_zero,Prod.mk.injEq,and_true,true_and,and_false,false_and,and_self,if_true,if_false,ite_true,ite_false,Bool.not_true,Bool.not_false,Bool.not_eq_true',reduceCtorEq,decide_true,decide_false,frTs,frT,frL_p,spS,ofPT_a,ofPT_g,ofPT_t,flat_i,flat_b,flat_s,flat_l,flat_g,flatp_i,flatp_b,flatp_s,flatp_l,klTs,klT,Bool.and_false,Bool.false_and,frL,frA_p,frA_nil,frA_own,ownT,intT,Bool.or_true,Bool.true_or,Bool.false_eq_true,frL_p,klL_p,ownT_p,O.adds,List.all_cons,List.all_nil,List.any_cons,List.any_nil,ownA,evO.bslRows,List.replicate_succ,List.replicate_zero,List.set_cons_zero,rowsA,over,List.cons_append,List.nil_append,List.append_nil,fillA,Bool.and_self,Bool.and_true,Bool.true_and,Bool.or_self,Bool.or_false,Bool.false_or,Nat.reduceMul,Nat.one_mul,Nat.lt_add_one,klL,Nat.le_refl,ite_self,Nat.reduceBEq]) (by simp only [x_seq,x_reg,x_skip,x_exit,x_ret,x_block,x_if,wpC_t,wpC_f,wpI_cons,wpI_nil,wpX_some,evI_any,evI_rd,evI_ad,evI_g,evG_u,evG_b,evG_tt,evG_ff,evG_tf,evG_ft,evO,evR,ev_t,ev_c,ev_f,putD_some,putD_none,put_at,cellsT,ldCells,mkT,lenA,binPV,add_bs,add_clk,add_ls,put_bs,put_clk,put_ls,kill_bs,kill_clk,kill_ls,empty_clk,empty_bs,Env.init,seqQ_norm,seqQ_exit,seqQ_ret,blkQ_norm,blkQ_exit,blkQ_ret,loopQ_norm,loopQ_exit,loopQ_ret,retP_ret,retP_norm,retE_ret,retE_norm,retS_ret,retS_norm,wpO_some,frA_fn,klA_p,klA_nil,klA_own,resVs,resV,resT,Option.bind_some,Option.bind_none,Option.map_some,List.getD_cons_zero,List.getD_cons_succ,List.getD_nil,List.length_cons,List.length_nil,List.length_map,List.map_cons,List.map_nil,List.drop_zero,List.drop_succ_cons,List.take_succ_cons,List.take_zero,List.drop_nil,List.take_nil,Nat.reduceEqDiff,Nat.reduceAdd,Nat.reduceLeDiff,Nat.zero_add,Nat.add_zero,Prod.mk.injEq,and_true,true_and,and_false,false_and,and_self,if_true,if_false,ite_true,ite_false,Bool.not_true,Bool.not_false,Bool.not_eq_true',reduceCtorEq,decide_true,decide_false,frTs,frT,frL_p,spS,ofPT_a,ofPT_g,ofPT_t,flat_i,flat_b,flat_s,flat_l,flat_g,flatp_i,flatp_b,flatp_s,flatp_l,klTs,klT,Bool.and_false,Bool.false_and,frL,frA_p,frA_nil,frA_own,ownT,intT,Bool.or_true,Bool.true_or,Bool.false_eq_true,frL_p,klL_p,ownT_p,O.adds,List.all_cons,List.all_nil,List.any_cons,List.any_nil,ownA,evO.bslRows,List.replicate_succ,List.replicate_zero,List.set_cons_zero,rowsA,over,List.cons_append,List.nil_append,List.append_nil,fillA,Bool.and_self,Bool.and_true,Bool.true_and,Bool.or_self,Bool.or_false,Bool.false_or,Nat.reduceMul,Nat.one_mul,Nat.lt_add_one,klL,Nat.le_refl,ite_self,Nat.reduceBEq])
    · simp only [Bool.not_eq_false',Bool.not_eq_true',Bool.not_false,Bool.not_true,decide_eq_true_eq,decide_eq_false_iff_not,Int.natCast_inj] at h1
      rw [if_pos h1]
end Go.Proofs.Ytlgekplmbmkcmaa
end
section
set_option linter.unusedSimpArgs false
set_option linter.unusedVariables false
namespace Go.Proofs.Ytlgekplmbmkcmaa
open Go.Fx
mutual
def dep : T → Nat
  | .mk _ _ _ l => depL l + 1
def depL : List T → Nat
  | [] => 0
  | t :: r => max (dep t) (depL r)
end
theorem depL_mem {l : List T} {t : T} (h : t ∈ l) : dep t ≤ depL l := by
  induction l with
  | nil => simp at h
  | cons x l ih =>
    simp only [depL]
    rcases List.mem_cons.1 h with rfl | h
    · omega
    · have := ih h; omega
end Go.Proofs.Ytlgekplmbmkcmaa
end
section
set_option linter.unusedSimpArgs false
set_option linter.unusedVariables false
set_option maxHeartbeats 4000000
set_option maxRecDepth 10000
namespace Go.Proofs.Ytlgekplmbmkcmaa
open Go.Fx
theorem allI (l : List Int) : (l.map encI).all (fun r => decide (r.length = 1)) = true := by simp [encI]
theorem mapI {l : List Int} {i : Nat} {x : Int} (h : l[i]? = some x) : (l.map encI)[i]? = some [.i .i64 x] := by rw [List.getElem?_map,h]; rfl
theorem drop_consI {l : List Int} {i : Nat} {x : Int} (h : l[i]? = some x) : l.drop i = x :: l.drop (i + 1) := by
  obtain ⟨hi,rfl⟩ := List.getElem?_eq_some_iff.1 h
  rw [List.drop_eq_getElem_cons hi]
theorem Ints_ok {l m : List Int} (hl : l.length ≤ 1099511627776) : eP S 34 [.a (.l (l.map encI)),.a (.l (m.map encI))] = some (.a (.b (decide (l = m)))) := by
  refine x_fn (orcS _) (fc := F34) rfl rfl ?_
  by_cases hlm : l.length = m.length
  case neg =>
    have h1 : ¬ (l.length : Int) = (m.length : Int) := by omega
    have h2 : ¬ l = m := fun h => hlm (by rw [h])
    simp only [F34,h1,h2,List.length_map,spS,fxa,fxc,fxE,fxL,fxI,nxE,evO,evR,cellsT,ldCells,mkT,lenA,binPV,Env.init,resV,resT,frT,klT,ownT,intT,O.adds,ownA,rowsA,over,wrOk,keysT,keysA,ne_eq,if_true,if_false,ite_self,Nat.reduceLT,Nat.reduceSub,Nat.reduceBEq,Nat.reduceEqDiff,Nat.reduceAdd,Nat.reduceLeDiff,reduceCtorEq,Nat.reduceMul]
  have h1 : (l.length : Int) = (m.length : Int) := by omega
  simp only [F34,h1,List.length_map,spS,fxa,fxc,fxE,fxL,fxI,nxE,evO,evR,cellsT,ldCells,mkT,lenA,binPV,Env.init,resV,resT,frT,klT,ownT,intT,O.adds,ownA,rowsA,over,wrOk,keysT,keysA,ne_eq,if_true,if_false,ite_self,Nat.reduceLT,Nat.reduceSub,Nat.reduceBEq,Nat.reduceEqDiff,Nat.reduceAdd,Nat.reduceLeDiff,reduceCtorEq,Nat.reduceMul]
  refine loop_nat l.length (fun i e τ => e 0 = .a (.p (.l (l.map encI))) ∧ e 1 = .a (.p (.l (m.map encI))) ∧ e 5 = .a (.p (.i .i64 (i : Nat))) ∧ (l.drop i = m.drop i ↔ l = m)) (i0 := 0) (Nat.zero_le _) ⟨rfl,rfl,rfl,by simp⟩ ?_ ?_
  · rintro i e τ hi ⟨e0,e1,e5,hd⟩
    obtain ⟨x,hx⟩ : ∃ x,l[i]? = some x := ⟨_,List.getElem?_eq_getElem hi⟩
    obtain ⟨y,hy⟩ : ∃ y,m[i]? = some y := ⟨_,List.getElem?_eq_getElem (by omega)⟩
    have hx' := mapI hx
    have hy' := mapI hy
    have hlt : ((i : Nat) : Int) < (l.length : Int) := by omega
    have hlt2 : ((i : Nat) : Int) < (m.length : Int) := by omega
    have hge : (0 : Int) ≤ ((i : Nat) : Int) := by omega
    have hw := wrap_succ i (by omega)
    rw [drop_consI hx,drop_consI hy] at hd
    by_cases hxy : x = y
    · subst hxy
      simp only [List.cons.injEq,true_and] at hd
      simp only [F34b0,e0,e1,e5,hlt,hlt2,hge,hw,hx',hy',allI,Int.toNat_natCast,List.length_map,List.length_cons,List.length_nil,spS,fxa,fxc,fxE,fxL,fxI,nxE,evO,evR,cellsT,ldCells,mkT,lenA,binPV,Env.init,resV,resT,frT,klT,ownT,intT,O.adds,ownA,rowsA,over,wrOk,keysT,keysA,ne_eq,if_true,if_false,ite_self,Nat.reduceLT,Nat.reduceSub,Nat.reduceBEq,Nat.reduceEqDiff,Nat.reduceAdd,Nat.reduceLeDiff,reduceCtorEq,Nat.reduceMul]
      exact hd
    · have hne : ¬ l = m := fun h => hxy (by have := hd.2 h; simp only [List.cons.injEq] at this; exact this.1)
      simp only [F34b0,e0,e1,e5,hlt,hlt2,hge,hx',hy',hxy,hne,allI,Int.toNat_natCast,List.length_map,List.length_cons,List.length_nil,spS,fxa,fxc,fxE,fxL,fxI,nxE,evO,evR,cellsT,ldCells,mkT,lenA,binPV,Env.init,resV,resT,frT,klT,ownT,intT,O.adds,ownA,rowsA,over,wrOk,keysT,keysA,ne_eq,if_true,if_false,ite_self,Nat.reduceLT,Nat.reduceSub,Nat.reduceBEq,Nat.reduceEqDiff,Nat.reduceAdd,Nat.reduceLeDiff,reduceCtorEq,Nat.reduceMul]
  · rintro e τ ⟨e0,e1,e5,hd⟩
    obtain rfl : l = m := by
      apply hd.1
      rw [List.drop_length,hlm,List.drop_length]
    have hlt : ¬ ((l.length : Nat) : Int) < (l.length : Int) := by omega
    simp only [F34b0,e0,e1,e5,hlt,List.length_map,spS,fxa,fxc,fxE,fxL,fxI,nxE,evO,evR,cellsT,ldCells,mkT,lenA,binPV,Env.init,resV,resT,frT,klT,ownT,intT,O.adds,ownA,rowsA,over,wrOk,keysT,keysA,ne_eq,if_true,if_false,ite_self,Nat.reduceLT,Nat.reduceSub,Nat.reduceBEq,Nat.reduceEqDiff,Nat.reduceAdd,Nat.reduceLeDiff,reduceCtorEq,Nat.reduceMul]
theorem withL_len {n : Int} : ∀ (laid : Bool) (l : List Int),(withL n laid l).length ≤ l.length + 1
  | laid,[] => by unfold withL; split <;> simp
  | laid,x :: r => by
    have := withL_len (n := n) (laid || decide (x ≥ n)) r
    unfold withL
    cases laid with
    | true =>
      simp only [Bool.true_eq_false,false_and,if_false,List.nil_append,Bool.true_or,List.length_append,List.length_cons]
      have h2 : ∀ l : List Int,(withL n true l).length ≤ l.length := by
        intro l
        induction l with
        | nil => simp [withL]
        | cons y l ih =>
          simp only [withL,Bool.true_eq_false,false_and,if_false,List.nil_append,Bool.true_or,List.length_append,List.length_cons]
          split <;> simp <;> omega
      have := h2 r
      split <;> simp <;> omega
    | false =>
      have h2 : ∀ l : List Int,(withL n true l).length ≤ l.length := by
        intro l
        induction l with
        | nil => simp [withL]
        | cons y l ih =>
          simp only [withL,Bool.true_eq_false,false_and,if_false,List.nil_append,Bool.true_or,List.length_append,List.length_cons]
          split <;> simp <;> omega
      simp only [true_and,Bool.false_or,List.length_append,List.length_cons] at this ⊢
      by_cases h : x ≥ n
      · have h3 := h2 r
        simp only [h,if_true,decide_true,List.length_cons,List.length_nil]
        split <;> simp <;> omega
      · simp only [h,if_false,decide_false,List.length_nil] at this ⊢
        split <;> simp <;> omega
mutual
theorem refF_len : ∀ (t : T) (b : Int) (ks : List Int),(refF t b ks).length ≤ ks.length + vn t
  | .mk k n s l,b,ks => by
    unfold refF vn
    split
    · split
      · exact withL_len _ _
      · simp
    · exact refFL_len l _ ks
theorem refFL_len : ∀ (l : List T) (b : Int) (ks : List Int),(refFL l b ks).length ≤ ks.length + vnL l
  | [],b,ks => by simp [refFL,vnL]
  | t :: r,b,ks => by
    unfold refFL vnL
    have h1 := refF_len t b ks
    have h2 := refFL_len r b (refF t b ks)
    omega
end
end Go.Proofs.Ytlgekplmbmkcmaa
end
section
set_option linter.unusedSimpArgs false
set_option linter.unusedVariables false
set_option maxHeartbeats 4000000
set_option maxRecDepth 10000
namespace Go.Proofs.Ytlgekplmbmkcmaa
open Go.Fx
theorem w_eq {x y : Int} (h : ∃ k : Int,x = y + k * 18446744073709551616) : w x = w y := by
  obtain ⟨k,rfl⟩ := h
  simp only [w,IntKind.wrap_i64]; omega
theorem w_k (x : Int) : ∃ k : Int,w x = x + k * 18446744073709551616 := by
  simp only [w,IntKind.wrap_i64]
  exact ⟨-((x + 9223372036854775808) / 18446744073709551616),by omega⟩
def refN (t : T) : Nat := if t.k = 6 ∧ t.l.length ≠ 0 then (if t.n < 8 then t.n.toNat else 8) else 0
def refB (t : T) : List Int := (if t.k = 2 ∧ t.l.length ≠ 0 then [uses (t.l.getD 0 zT0) 0] else []) ++ (List.range (refN t)).map fun i : Nat => uses (t.l.getD 0 zT0) (w (w (t.n - 1) - (i : Int)))
theorem refB_eq (t : T) : refB t = useB t := by
  unfold refB useB
  by_cases h0 : t.l.length = 0
  · have hb : binds t = 0 := by unfold binds; rw [if_pos h0]
    have hr : refN t = 0 := by unfold refN; rw [if_neg (by rintro ⟨_,h⟩; exact h h0)]
    rw [hb,hr,if_neg (by rintro ⟨_,h⟩; exact h h0)]; rfl
  · by_cases h1 : t.k = 2
    · have hb : binds t = 1 := by unfold binds; rw [if_neg h0,if_pos h1]
      have hr : refN t = 0 := by unfold refN; rw [if_neg (by rintro ⟨h,_⟩; omega)]
      have hl : lastB t = 0 := by unfold lastB; rw [if_neg (by omega)]
      rw [hb,hr,hl,if_pos ⟨h1,h0⟩]
      have hw0 : w (0 + (((1 : Int).toNat : Int) - 1 - ((0 : Nat) : Int))) = 0 := by decide
      simp only [List.range_zero,List.map_nil,List.append_nil]
      show [_] = [w (uses (t.l.getD 0 zT0) (w (0 + (((1 : Int).toNat : Int) - 1 - ((0 : Nat) : Int)))))]
      rw [hw0,uses_w]
    · rw [if_neg (by rintro ⟨h,_⟩; exact h1 h)]
      by_cases h2 : t.k = 6
      · have hb : (binds t).toNat = refN t := by
          have hr : refN t = if t.n < 8 then t.n.toNat else 8 := by unfold refN; rw [if_pos ⟨h2,h0⟩]
          have hb0 : binds t = if 8 < (if 0 > t.n then 0 else t.n) then 8 else (if 0 > t.n then 0 else t.n) := by unfold binds; rw [if_neg h0,if_neg h1,if_pos h2]
          rw [hb0,hr]
          repeat' split
          all_goals first | rfl | omega
        rw [hb,List.nil_append]
        refine List.map_congr_left fun i hi => ?_
        have hi := List.mem_range.1 hi
        rw [uses_w]
        have hbi : binds t = (refN t : Int) := by have := binds_le t; omega
        have hl : lastB t = w (t.n - (refN t : Int)) := by unfold lastB; rw [if_pos h2,hbi]
        rw [hl]
        refine congrArg (uses _) (w_eq ?_)
        obtain ⟨a,ha⟩ := w_k (t.n - 1)
        obtain ⟨b,hb2⟩ := w_k (t.n - (refN t : Int))
        rw [ha,hb2]
        exact ⟨a - b,by rw [Int.sub_mul]; omega⟩
      · have hb : binds t = 0 := by unfold binds; rw [if_neg h0,if_neg h1,if_neg h2]
        have hr : refN t = 0 := by unfold refN; rw [if_neg (by rintro ⟨h,_⟩; exact h2 h)]
        rw [hb,hr]; rfl
end Go.Proofs.Ytlgekplmbmkcmaa
end
section
set_option linter.unusedSimpArgs false
set_option linter.unusedVariables false
set_option maxHeartbeats 4000000
set_option maxRecDepth 10000
namespace Go.Proofs.Ytlgekplmbmkcmaa
open Go.Fx
def rfanW (a n : Int) : Int := if n > 1 then w (a + w (n - 1)) else a
def rfansW (l : List Int) : Int := l.foldl rfanW 0
theorem take_succI {l : List Int} {i : Nat} {x : Int} (h : l[i]? = some x) : l.take (i + 1) = l.take i ++ [x] := by
  rw [List.take_add_one,h]; rfl
theorem depL_app : ∀ (l r : List T),depL (l ++ r) = max (depL l) (depL r)
  | [],r => by simp [depL]
  | t :: l,r => by simp only [List.cons_append,depL,depL_app l r,Nat.max_assoc]
theorem Depth_ok : ∀ {t : T},T.Ok t → dep t ≤ 1099511627776 → eP S 32 [.g (enc t)] = some (.a (.i .i64 (dep t : Nat))) := by
  intro t ht
  induction ht with
  | mk k n s l hk hn hs hl h ih =>
    intro hd
    simp only [dep] at hd
    refine x_fn (orcS _) (fc := F32) rfl rfl ?_
    simp only [F32,enc,encL_map,spS,fxa,fxc,fxE,fxL,fxI,nxE,evO,evR,cellsT,ldCells,mkT,lenA,binPV,Env.init,resV,resT,frT,klT,ownT,intT,O.adds,ownA,rowsA,over,wrOk,keysT,keysA,ne_eq,if_true,if_false,ite_self,Nat.reduceLT,Nat.reduceSub,Nat.reduceBEq,Nat.reduceEqDiff,Nat.reduceAdd,Nat.reduceLeDiff,reduceCtorEq,Nat.reduceMul]
    refine loop_nat l.length (fun i e τ => e 1 = .a (.ptr (1,0) 0 0) ∧ e 3 = .a (.p (.i .i64 (depL (l.take i) : Nat))) ∧ e 4 = .a (.p (.i .i64 (i : Nat))) ∧ τ.bs (1,0) = some (.var [.p (.i .i64 k),.p (.i .i64 n),.p (.s s),.p (.l (l.map enc))])) (i0 := 0) (Nat.zero_le _) ⟨rfl,rfl,rfl,rfl⟩ ?_ ?_
    · rintro i e τ hi ⟨e1,e3,e4,b1⟩
      obtain ⟨x,hx⟩ : ∃ x,l[i]? = some x := ⟨_,List.getElem?_eq_getElem hi⟩
      have hx' : (l.map enc)[i]? = some (enc x) := by simp [hx]
      have hxm := List.mem_of_getElem? hx
      have hlt : ((i : Nat) : Int) < (l.length : Int) := by omega
      have hge : (0 : Int) ≤ ((i : Nat) : Int) := by omega
      have hlb : i < 9223372036854775807 := by simp only [reachBytes] at hl; omega
      have hw := wrap_succ i hlb
      have c1 := ih x hxm (by have := depL_mem hxm; omega)
      have hs1 : depL (l.take (i + 1)) = max (depL (l.take i)) (dep x) := by rw [take_succT hx,depL_app]; simp [depL]
      rw [hs1]
      by_cases hm : (dep x : Int) > (depL (l.take i) : Int)
      · have : max (depL (l.take i)) (dep x) = dep x := by omega
        rw [this]
        simp only [F32b0,e1,e3,e4,b1,hlt,hge,hw,hx',hm,enc_len,enc_take,enc_all,c1,Int.toNat_natCast,List.length_map,spS,fxa,fxc,fxE,fxL,fxI,nxE,evO,evR,cellsT,ldCells,mkT,lenA,binPV,Env.init,resV,resT,frT,klT,ownT,intT,O.adds,ownA,rowsA,over,wrOk,keysT,keysA,ne_eq,if_true,if_false,ite_self,Nat.reduceLT,Nat.reduceSub,Nat.reduceBEq,Nat.reduceEqDiff,Nat.reduceAdd,Nat.reduceLeDiff,reduceCtorEq,Nat.reduceMul]
      · have : max (depL (l.take i)) (dep x) = depL (l.take i) := by omega
        rw [this]
        simp only [F32b0,e1,e3,e4,b1,hlt,hge,hw,hx',hm,enc_len,enc_take,enc_all,c1,Int.toNat_natCast,List.length_map,spS,fxa,fxc,fxE,fxL,fxI,nxE,evO,evR,cellsT,ldCells,mkT,lenA,binPV,Env.init,resV,resT,frT,klT,ownT,intT,O.adds,ownA,rowsA,over,wrOk,keysT,keysA,ne_eq,if_true,if_false,ite_self,Nat.reduceLT,Nat.reduceSub,Nat.reduceBEq,Nat.reduceEqDiff,Nat.reduceAdd,Nat.reduceLeDiff,reduceCtorEq,Nat.reduceMul]
    · rintro e τ ⟨e1,e3,e4,b1⟩
      have hlt : ¬ ((l.length : Nat) : Int) < (l.length : Int) := by omega
      have hw := wrap_succ (depL l) (by omega)
      rw [List.take_length] at e3
      simp only [F32b0,e1,e3,e4,b1,hlt,hw,dep,List.length_map,spS,fxa,fxc,fxE,fxL,fxI,nxE,evO,evR,cellsT,ldCells,mkT,lenA,binPV,Env.init,resV,resT,frT,klT,ownT,intT,O.adds,ownA,rowsA,over,wrOk,keysT,keysA,ne_eq,if_true,if_false,ite_self,Nat.reduceLT,Nat.reduceSub,Nat.reduceBEq,Nat.reduceEqDiff,Nat.reduceAdd,Nat.reduceLeDiff,reduceCtorEq,Nat.reduceMul]
mutual
def vars : T → Int
  | .mk k _ _ l => varsL l (if k = 1 then 1 else 0)
def varsL : List T → Int → Int
  | [],a => a
  | t :: r,a => varsL r (w (a + vars t))
end
theorem v11_ok (n : Int) : eP S 61 [.a (.i .i64 n)] = some (.g (enc (.mk 1 n [] []))) := by
  refine x_fn (orcS _) (fc := F61) rfl rfl ?_
  simp only [F61,enc,encL_map,List.map_nil,spS,fxa,fxc,fxE,fxL,fxI,nxE,evO,evR,cellsT,ldCells,mkT,lenA,binPV,Env.init,resV,resT,frT,klT,ownT,intT,O.adds,ownA,rowsA,over,wrOk,keysT,keysA,ne_eq,if_true,if_false,ite_self,Nat.reduceLT,Nat.reduceSub,Nat.reduceBEq,Nat.reduceEqDiff,Nat.reduceAdd,Nat.reduceLeDiff,reduceCtorEq,Nat.reduceMul]
theorem lam11_ok (t : T) : eP S 45 [.g (enc t)] = some (.g (enc (.mk 2 0 [] [t]))) := by
  have e0 : enc (.mk 2 0 [] [t]) = [.i .i64 2,.i .i64 0,.s [],.l [enc t]] := rfl
  rw [e0]
  refine x_fn (orcS _) (fc := F45) rfl rfl ?_
  simp only [F45,enc_len,enc_takep,x_seq,x_reg,x_skip,x_exit,x_ret,x_block,x_if,wpC_t,wpC_f,wpI_cons,wpI_nil,wpX_some,evI_any,evI_rd,evI_ad,evI_g,evG_u,evG_b,evG_tt,evG_ff,evG_tf,evG_ft,evO,evR,ev_t,ev_c,ev_f,putD_some,putD_none,put_at,cellsT,ldCells,mkT,lenA,binPV,add_bs,add_clk,add_ls,put_bs,put_clk,put_ls,kill_bs,kill_clk,kill_ls,empty_clk,empty_bs,Env.init,seqQ_norm,seqQ_exit,seqQ_ret,blkQ_norm,blkQ_exit,blkQ_ret,loopQ_norm,loopQ_exit,loopQ_ret,retP_ret,retP_norm,retE_ret,retE_norm,retS_ret,retS_norm,wpO_some,frA_fn,klA_p,klA_nil,klA_own,resVs,resV,resT,Option.bind_some,Option.bind_none,Option.map_some,List.getD_cons_zero,List.getD_cons_succ,List.getD_nil,List.length_cons,List.length_nil,List.length_map,List.map_cons,List.map_nil,List.drop_zero,List.drop_succ_cons,List.take_succ_cons,List.take_zero,List.drop_nil,List.take_nil,Nat.reduceEqDiff,Nat.reduceAdd,Nat.reduceLeDiff,Nat.zero_add,Nat.add_zero,Prod.mk.injEq,and_true,true_and,and_false,false_and,and_self,if_true,if_false,ite_true,ite_false,Bool.not_true,Bool.not_false,Bool.not_eq_true',reduceCtorEq,decide_true,decide_false,frTs,frT,frL_p,spS,ofPT_a,ofPT_g,ofPT_t,flat_i,flat_b,flat_s,flat_l,flat_g,flatp_i,flatp_b,flatp_s,flatp_l,klTs,klT,Bool.and_false,Bool.false_and,frL,frA_p,frA_nil,frA_own,ownT,intT,Bool.or_true,Bool.true_or,Bool.false_eq_true,frL_p,klL_p,ownT_p,O.adds,List.all_cons,List.all_nil,List.any_cons,List.any_nil,ownA,evO.bslRows,List.replicate_succ,List.replicate_zero,List.set_cons_zero,rowsA,over,List.cons_append,List.nil_append,List.append_nil,fillA,Bool.and_self,Bool.and_true,Bool.true_and,Bool.or_self,Bool.or_false,Bool.false_or,Nat.reduceMul,Nat.one_mul,Nat.lt_add_one,klL,Nat.le_refl,ite_self,Nat.reduceBEq]
theorem app11_ok (t u : T) : eP S 46 [.g (enc t),.g (enc u)] = some (.g (enc (.mk 3 0 [] [t,u]))) := by
  have e0 : enc (.mk 3 0 [] [t,u]) = [.i .i64 3,.i .i64 0,.s [],.l [enc t,enc u]] := rfl
  rw [e0]
  refine x_fn (orcS _) (fc := F46) rfl rfl ?_
  simp only [F46,enc_len,enc_takep,List.set_cons_succ,Nat.reduceLT,Int.cast_ofNat_Int,Int.reduceLE,Int.reduceLT,Int.reduceToNat,Int.reduceAdd,Int.reduceSub,Int.reduceNeg,x_seq,x_reg,x_skip,x_exit,x_ret,x_block,x_if,wpC_t,wpC_f,wpI_cons,wpI_nil,wpX_some,evI_any,evI_rd,evI_ad,evI_g,evG_u,evG_b,evG_tt,evG_ff,evG_tf,evG_ft,evO,evR,ev_t,ev_c,ev_f,putD_some,putD_none,put_at,cellsT,ldCells,mkT,lenA,binPV,add_bs,add_clk,add_ls,put_bs,put_clk,put_ls,kill_bs,kill_clk,kill_ls,empty_clk,empty_bs,Env.init,seqQ_norm,seqQ_exit,seqQ_ret,blkQ_norm,blkQ_exit,blkQ_ret,loopQ_norm,loopQ_exit,loopQ_ret,retP_ret,retP_norm,retE_ret,retE_norm,retS_ret,retS_norm,wpO_some,frA_fn,klA_p,klA_nil,klA_own,resVs,resV,resT,Option.bind_some,Option.bind_none,Option.map_some,List.getD_cons_zero,List.getD_cons_succ,List.getD_nil,List.length_cons,List.length_nil,List.length_map,List.map_cons,List.map_nil,List.drop_zero,List.drop_succ_cons,List.take_succ_cons,List.take_zero,List.drop_nil,List.take_nil,Nat.reduceEqDiff,Nat.reduceAdd,Nat.reduceLeDiff,Nat.zero_add,Nat.add_zero,Prod.mk.injEq,and_true,true_and,and_false,false_and,and_self,if_true,if_false,ite_true,ite_false,Bool.not_true,Bool.not_false,Bool.not_eq_true',reduceCtorEq,decide_true,decide_false,frTs,frT,frL_p,spS,ofPT_a,ofPT_g,ofPT_t,flat_i,flat_b,flat_s,flat_l,flat_g,flatp_i,flatp_b,flatp_s,flatp_l,klTs,klT,Bool.and_false,Bool.false_and,frL,frA_p,frA_nil,frA_own,ownT,intT,Bool.or_true,Bool.true_or,Bool.false_eq_true,frL_p,klL_p,ownT_p,O.adds,List.all_cons,List.all_nil,List.any_cons,List.any_nil,ownA,evO.bslRows,List.replicate_succ,List.replicate_zero,List.set_cons_zero,rowsA,over,List.cons_append,List.nil_append,List.append_nil,fillA,Bool.and_self,Bool.and_true,Bool.true_and,Bool.or_self,Bool.or_false,Bool.false_or,Nat.reduceMul,Nat.one_mul,Nat.lt_add_one,klL,Nat.le_refl,ite_self,Nat.reduceBEq]
end Go.Proofs.Ytlgekplmbmkcmaa
end
section
set_option linter.unusedSimpArgs false
set_option linter.unusedVariables false
namespace Go.Proofs.Ytlgekplmbmkcmaa
open Go.Fx
theorem T.ind {P : T → Prop} (h : ∀ k n s l,(∀ t,t ∈ l → P t) → P (.mk k n s l)) : ∀ t,P t := by
  intro t
  refine T.rec (motive_1 := P) (motive_2 := fun l => ∀ t,t ∈ l → P t) (fun k n s l ih => h k n s l ih) (by simp) (fun t l h1 h2 u hu => ?_) t
  rcases List.mem_cons.1 hu with rfl | hu
  · exact h1
  · exact h2 u hu
def var (n : Int) : T := .mk 1 n [] []
mutual

def V : T → Int → Nat → Prop
  | .mk k n s l,f,D => if k = 1 then 0 ≤ n ∧ n < f ∧ s = [] ∧ l = [] ∧ 1 ≤ D else 0 ≤ T.more (.mk k n s l) ∧ T.more (.mk k n s l) ≤ 8 ∧ 1 ≤ D ∧ VL l (f + T.more (.mk k n s l)) (D - 1)
def VL : List T → Int → Nat → Prop
  | [],_,_ => True
  | t :: r,f,D => V t f D ∧ VL r f D
end
theorem VL_all (l : List T) (f : Int) (D : Nat) : VL l f D ↔ ∀ t,t ∈ l → V t f D := by
  induction l with
  | nil => simp [VL]
  | cons t l ih => simp [VL,ih]
theorem V_mk (k n : Int) (s : List UInt8) (l : List T) (f : Int) (D : Nat) : V (.mk k n s l) f D ↔ if k = 1 then 0 ≤ n ∧ n < f ∧ s = [] ∧ l = [] ∧ 1 ≤ D else 0 ≤ T.more (.mk k n s l) ∧ T.more (.mk k n s l) ≤ 8 ∧ 1 ≤ D ∧ ∀ t,t ∈ l → V t (f + T.more (.mk k n s l)) (D - 1) := by
  rw [← VL_all]; rfl
theorem V_var {n f : Int} {D : Nat} (h0 : 0 ≤ n) (h : n < f) (hD : 1 ≤ D) : V (var n) f D := by unfold var; rw [V_mk,if_pos rfl]; exact ⟨h0,h,rfl,rfl,hD⟩
theorem V_mono {t : T} : ∀ {f g : Int} {D E : Nat},V t f D → f ≤ g → D ≤ E → V t g E := by
  induction t using T.ind with
  | h k n s l ih =>
    intro f g D E h hf hD
    rw [V_mk] at h ⊢
    split
    · rename_i hk; rw [if_pos hk] at h; exact ⟨h.1,by omega,h.2.2.1,h.2.2.2.1,by omega⟩
    · rename_i hk; rw [if_neg hk] at h
      exact ⟨h.1,h.2.1,by omega,fun t ht => ih t ht (h.2.2.2 t ht) (by omega) (by omega)⟩
def lr (m : Int) (r : Int → Int) : Int → Int := fun n => if n < m then n else r (n - m) + m
mutual
def ren (r : Int → Int) : T → T
  | .mk k n s l => if k = 1 then .mk k (r n) s l else .mk k n s (renL (lr (T.more (.mk k n s l)) r) l)
def renL (r : Int → Int) : List T → List T
  | [] => []
  | t :: l => ren r t :: renL r l
end
theorem renL_map (r : Int → Int) (l : List T) : renL r l = l.map (ren r) := by
  induction l with
  | nil => rfl
  | cons t l ih => simp [renL,ih]
theorem ren_mk (r : Int → Int) (k n : Int) (s : List UInt8) (l : List T) : ren r (.mk k n s l) = if k = 1 then .mk k (r n) s l else .mk k n s (l.map (ren (lr (T.more (.mk k n s l)) r))) := by rw [← renL_map]; rfl
def ls (m : Int) (σ : Int → T) : Int → T := fun n => if n < m then var n else ren (· + m) (σ (n - m))
mutual
def sub (σ : Int → T) : T → T
  | .mk k n s l => if k = 1 then σ n else .mk k n s (subL (ls (T.more (.mk k n s l)) σ) l)
def subL (σ : Int → T) : List T → List T
  | [] => []
  | t :: l => sub σ t :: subL σ l
end
theorem subL_map (σ : Int → T) (l : List T) : subL σ l = l.map (sub σ) := by
  induction l with
  | nil => rfl
  | cons t l ih => simp [subL,ih]
theorem sub_mk (σ : Int → T) (k n : Int) (s : List UInt8) (l : List T) : sub σ (.mk k n s l) = if k = 1 then σ n else .mk k n s (l.map (sub (ls (T.more (.mk k n s l)) σ))) := by rw [← subL_map]; rfl
theorem ren_v (r : Int → Int) (n : Int) : ren r (var n) = var (r n) := by unfold var; rw [ren_mk,if_pos rfl]
theorem map_ext {l : List T} {f g : T → T} (h : ∀ t,t ∈ l → f t = g t) : l.map f = l.map g := List.map_congr_left h
theorem ren_ext {t : T} : ∀ {f : Int} {D : Nat} {r q : Int → Int},V t f D → (∀ n,0 ≤ n → n < f → r n = q n) → ren r t = ren q t := by
  induction t using T.ind with
  | h k n s l ih =>
    intro f D r q h hr
    rw [V_mk] at h
    rw [ren_mk,ren_mk]
    split
    · rename_i hk; rw [if_pos hk] at h; rw [hr n h.1 h.2.1]
    · rename_i hk; rw [if_neg hk] at h
      congr 1
      refine map_ext fun t ht => ih t ht (h.2.2.2 t ht) fun m h0 hm => ?_
      unfold lr
      split
      · rfl
      · rw [hr _ (by omega) (by omega)]
theorem V_ren {t : T} : ∀ {f g : Int} {D : Nat} {r : Int → Int},V t f D → (∀ n,0 ≤ n → n < f → 0 ≤ r n ∧ r n < g) → 0 ≤ g → V (ren r t) g D := by
  induction t using T.ind with
  | h k n s l ih =>
    intro f g D r h hr hg
    rw [V_mk] at h
    rw [ren_mk]
    split
    · rename_i hk; rw [if_pos hk] at h; rw [V_mk,if_pos hk]; exact ⟨(hr n h.1 h.2.1).1,(hr n h.1 h.2.1).2,h.2.2⟩
    · rename_i hk; rw [if_neg hk] at h
      rw [V_mk,if_neg hk]
      refine ⟨h.1,h.2.1,h.2.2.1,fun t ht => ?_⟩
      obtain ⟨u,hu,rfl⟩ := List.mem_map.1 ht
      have e : T.more (.mk k n s (l.map (ren (lr (T.more (.mk k n s l)) r)))) = T.more (.mk k n s l) := rfl
      rw [e]
      refine ih u hu (h.2.2.2 u hu) (fun m h0 hm => ?_) (by omega)
      unfold lr
      split
      · exact ⟨h0,by omega⟩
      · have := hr (m - T.more (.mk k n s l)) (by omega) (by omega)
        exact ⟨by omega,by omega⟩
theorem ren_ren {t : T} : ∀ {f : Int} {D : Nat} {r q : Int → Int},V t f D → (∀ n,0 ≤ n → n < f → 0 ≤ r n) → ren q (ren r t) = ren (fun n => q (r n)) t := by
  induction t using T.ind with
  | h k n s l ih =>
    intro f D r q h hr
    rw [V_mk] at h
    rw [ren_mk,ren_mk]
    split
    · rename_i hk; rw [ren_mk,if_pos hk]
    · rename_i hk; rw [if_neg hk] at h
      rw [ren_mk,if_neg hk,List.map_map]
      have e : T.more (.mk k n s (l.map (ren (lr (T.more (.mk k n s l)) r)))) = T.more (.mk k n s l) := rfl
      rw [e]
      congr 1
      refine map_ext fun t ht => ?_
      have hV := h.2.2.2 t ht
      rw [Function.comp_apply,ih t ht hV (fun m h0 hm => ?_)]
      · refine ren_ext hV fun m h0 hm => ?_
        unfold lr
        by_cases h1 : m < T.more (.mk k n s l)
        · simp only [h1,if_true]
        · simp only [h1,if_false]
          have := hr (m - T.more (.mk k n s l)) (by omega) (by omega)
          rw [if_neg (by omega)]
          congr 2; omega
      · unfold lr
        split
        · exact h0
        · have := hr (m - T.more (.mk k n s l)) (by omega) (by omega)
          omega
theorem ren_id {t : T} : ∀ {f : Int} {D : Nat} {r : Int → Int},V t f D → (∀ n,0 ≤ n → n < f → r n = n) → ren r t = t := by
  induction t using T.ind with
  | h k n s l ih =>
    intro f D r h hr
    rw [V_mk] at h
    rw [ren_mk]
    split
    · rename_i hk; rw [if_pos hk] at h; rw [hr n h.1 h.2.1]
    · rename_i hk; rw [if_neg hk] at h
      congr 1
      conv => rhs; rw [← List.map_id l]
      refine map_ext fun t ht => ih t ht (h.2.2.2 t ht) fun m h0 hm => ?_
      unfold lr
      split
      · rfl
      · rw [hr _ (by omega) (by omega)]; omega
theorem sub_ext {t : T} : ∀ {f : Int} {D : Nat} {σ τ : Int → T},V t f D → (∀ n,0 ≤ n → n < f → σ n = τ n) → sub σ t = sub τ t := by
  induction t using T.ind with
  | h k n s l ih =>
    intro f D σ τ h hr
    rw [V_mk] at h
    rw [sub_mk,sub_mk]
    split
    · rename_i hk; rw [if_pos hk] at h; rw [hr n h.1 h.2.1]
    · rename_i hk; rw [if_neg hk] at h
      congr 1
      refine map_ext fun t ht => ih t ht (h.2.2.2 t ht) fun m h0 hm => ?_
      unfold ls
      split
      · rfl
      · rw [hr _ (by omega) (by omega)]
theorem V_ls {σ : Int → T} {f g m : Int} {E : Nat} (h : ∀ n,0 ≤ n → n < f → V (σ n) g E) (hg : 0 ≤ g) (hE : 1 ≤ E) (hm : 0 ≤ m) : ∀ n,0 ≤ n → n < f + m → V (ls m σ n) (g + m) E := by
  intro n h0 hn
  unfold ls
  split
  · exact V_var h0 (by omega) hE
  · exact V_ren (h _ (by omega) (by omega)) (fun j h0 hj => ⟨by omega,by omega⟩) (by omega)
theorem V_sub {t : T} : ∀ {f g : Int} {D E : Nat} {σ : Int → T},V t f D → (∀ n,0 ≤ n → n < f → V (σ n) g E) → 0 ≤ g → 1 ≤ E → V (sub σ t) g (D + E) := by
  induction t using T.ind with
  | h k n s l ih =>
    intro f g D E σ h hr hg hE
    rw [V_mk] at h
    rw [sub_mk]
    split
    · rename_i hk; rw [if_pos hk] at h; exact V_mono (hr n h.1 h.2.1) (by omega) (by omega)
    · rename_i hk; rw [if_neg hk] at h
      rw [V_mk,if_neg hk]
      refine ⟨h.1,h.2.1,by omega,fun t ht => ?_⟩
      obtain ⟨u,hu,rfl⟩ := List.mem_map.1 ht
      have e : T.more (.mk k n s (l.map (sub (ls (T.more (.mk k n s l)) σ)))) = T.more (.mk k n s l) := rfl
      rw [e]
      exact V_mono (ih u hu (h.2.2.2 u hu) (V_ls hr hg hE h.1) (by omega) hE) (by omega) (by omega)
theorem up_ren {t : T} : ∀ {g b f : Int} {D : Nat},V t g D → 0 ≤ f → 0 ≤ b → g + b + 8 * D ≤ 1152921504606846976 → f + 8 * D ≤ 1152921504606846976 → up b f t = ren (fun n => if n ≥ f then n + b else n) t := by
  induction t using T.ind with
  | h k n s l ih =>
    intro g b f D h hf hb h1 h2
    rw [V_mk] at h
    unfold up
    rw [ren_mk]
    split
    · rename_i hk; rw [if_pos hk] at h
      split
      · rw [w_id _ (by omega)]
      · rfl
    · rename_i hk; rw [if_neg hk] at h
      rw [upL_map,w_id _ (by omega)]
      congr 1
      refine map_ext fun t ht => ?_
      rw [ih t ht (h.2.2.2 t ht) (by omega) hb (by omega) (by omega)]
      refine ren_ext (h.2.2.2 t ht) fun m h0 hm => ?_
      unfold lr
      by_cases h3 : m < T.more (.mk k n s l)
      · rw [if_pos h3,if_neg (by omega)]
      · rw [if_neg h3]
        by_cases h4 : m ≥ f + T.more (.mk k n s l)
        · rw [if_pos h4]; show _ = (if m - T.more (.mk k n s l) ≥ f then m - T.more (.mk k n s l) + b else m - T.more (.mk k n s l)) + T.more (.mk k n s l); rw [if_pos (by omega)]; omega
        · rw [if_neg h4]; show _ = (if m - T.more (.mk k n s l) ≥ f then m - T.more (.mk k n s l) + b else m - T.more (.mk k n s l)) + T.more (.mk k n s l); rw [if_neg (by omega)]; omega
theorem up0_ren {t : T} {g b : Int} {D : Nat} (h : V t g D) (hb : 0 ≤ b) (h1 : g + b + 8 * D ≤ 1152921504606846976) (hg : 0 ≤ g) : up b 0 t = ren (· + b) t := by
  rw [up_ren h (by omega) hb h1 (by omega)]
  exact ren_ext h fun n h0 _ => by rw [if_pos h0]
def sput (p : Int) (u : T) (b : Int) : Int → T := fun n => if n = p + b then ren (· + b) u else if n > p + b then var (n - 1) else var n
theorem put_sub {t u : T} {p h : Int} {E : Nat} (hu : V u h E) (hp : 0 ≤ p) (hh : 0 ≤ h) : ∀ {g b : Int} {D : Nat},V t g D → 0 ≤ b → h + b + 8 * D + 8 * E ≤ 1152921504606846976 → g + 8 * D ≤ 1152921504606846976 → p + b + 8 * D ≤ 1152921504606846976 → put p u t b = sub (sput p u b) t := by
  induction t using T.ind with
  | h k n s l ih =>
    intro g b D hV hb h1 h2 h3
    rw [V_mk] at hV
    unfold put
    rw [sub_mk]
    split
    · rename_i hk; rw [if_pos hk] at hV
      unfold sput
      rw [w_id _ (by omega)]
      split
      · rw [up0_ren hu hb (by omega) hh]
      · split
        · rw [w_id _ (by omega)]; obtain ⟨_,_,rfl,rfl,_⟩ := hV; rw [hk]; rfl
        · obtain ⟨_,_,rfl,rfl,_⟩ := hV; rw [hk]; rfl
    · rename_i hk; rw [if_neg hk] at hV
      rw [putL_map,w_id _ (by omega)]
      congr 1
      refine map_ext fun t ht => ?_
      rw [ih t ht (hV.2.2.2 t ht) (by omega) (by omega) (by omega) (by omega)]
      refine sub_ext (hV.2.2.2 t ht) fun m h0 hm => ?_
      unfold ls sput
      by_cases h4 : m < T.more (.mk k n s l)
      · rw [if_pos h4,if_neg (by omega),if_neg (by omega)]
      · rw [if_neg h4]
        by_cases h5 : m = p + (b + T.more (.mk k n s l))
        · rw [if_pos h5,if_pos (by omega),ren_ren hu (by omega)]
          refine ren_ext hu fun j h0 hj => by omega
        · rw [if_neg h5,if_neg (c := m - T.more (.mk k n s l) = p + b) (by omega)]
          by_cases h6 : m > p + (b + T.more (.mk k n s l))
          · rw [if_pos h6,if_pos (by omega),ren_v]; congr 1; omega
          · rw [if_neg h6,if_neg (by omega),ren_v]; congr 1; omega
end Go.Proofs.Ytlgekplmbmkcmaa
end
section
set_option linter.unusedSimpArgs false
set_option linter.unusedVariables false
namespace Go.Proofs.Ytlgekplmbmkcmaa
open Go.Fx
mutual
def sizeZ : T → Int
  | .mk _ _ _ l => sizeLZ l + 1
def sizeLZ : List T → Int
  | [] => 0
  | t :: r => sizeZ t + sizeLZ r
end
theorem sizeLZ_pos {l : List T} (h : ∀ t,t ∈ l → 1 ≤ sizeZ t) : 0 ≤ sizeLZ l := by
  induction l with
  | nil => simp [sizeLZ]
  | cons t l ih => have := h t (by simp); have := ih fun u hu => h u (by simp [hu]); simp only [sizeLZ]; omega
theorem sizeZ_pos (t : T) : 1 ≤ sizeZ t := by
  induction t using T.ind with
  | h k n s l ih => have := sizeLZ_pos ih; simp only [sizeZ]; omega
theorem sizeLZ_nn (l : List T) : 0 ≤ sizeLZ l := sizeLZ_pos fun t _ => sizeZ_pos t
theorem sizeLZ_mem {l : List T} {t : T} (h : t ∈ l) : sizeZ t ≤ sizeLZ l := by
  induction l with
  | nil => simp at h
  | cons x l ih =>
    have := sizeLZ_nn l; have := sizeZ_pos x
    simp only [sizeLZ]
    rcases List.mem_cons.1 h with rfl | h
    · omega
    · have := ih h; omega
mutual
theorem few_all : ∀ (t : T) (x y : Int),x ≤ 1099511627776 → y ≤ 1000 → few t x y ≥ 0 → (dep t : Int) ≤ y ∧ few t x y = x - sizeZ t
  | .mk k n s l,x,y,hx,hy,h => by
    simp only [few] at h ⊢
    split at h
    · omega
    · rename_i h1
      split at h
      · omega
      · rename_i h2
        rw [if_neg h1,if_neg h2]
        rw [w_id _ (by omega),w_id _ (by omega)] at h ⊢
        obtain ⟨h3,h4⟩ := few_allL l (x - 1) (y - 1) (by omega) (by omega) (by omega) h
        simp only [dep,sizeZ]; omega
theorem few_allL : ∀ (l : List T) (x y : Int),x ≤ 1099511627776 → 0 ≤ y → y ≤ 1000 → fewL l x y ≥ 0 → (depL l : Int) ≤ y ∧ fewL l x y = x - sizeLZ l
  | [],x,y,hx,hy0,hy,h => by simp only [fewL,depL,sizeLZ]; omega
  | t :: l,x,y,hx,hy0,hy,h => by
    simp only [fewL] at h ⊢
    split at h
    · omega
    · rename_i h1
      rw [if_neg h1]
      obtain ⟨h3,h4⟩ := few_all t x y hx hy (by omega)
      have := sizeZ_pos t
      obtain ⟨h5,h6⟩ := few_allL l (few t x y) y (by omega) hy0 hy h
      simp only [depL,sizeLZ]; omega
end
theorem small_all {t : T} {x : Int} (hx : x ≤ 1099511627776) (h : small t x = true) : dep t ≤ 600 ∧ sizeZ t ≤ x := by
  unfold small at h
  obtain ⟨h1,h2⟩ := few_all t x 600 hx (by omega) (by simpa using h)
  have : few t x 600 ≥ 0 := by simpa using h
  omega
theorem sizeLZ_map (l : List T) (f : T → T) (h : ∀ t,t ∈ l → sizeZ (f t) = sizeZ t) : sizeLZ (l.map f) = sizeLZ l := by
  induction l with
  | nil => rfl
  | cons t l ih => simp only [List.map_cons,sizeLZ]; rw [h t (by simp),ih fun u hu => h u (by simp [hu])]
theorem size_ren (t : T) : ∀ r : Int → Int,sizeZ (ren r t) = sizeZ t := by
  induction t using T.ind with
  | h k n s l ih =>
    intro r
    rw [ren_mk]
    split
    · rfl
    · simp only [sizeZ]; rw [sizeLZ_map l _ fun t ht => ih t ht _]
mutual
def usesZ : T → Int → Int
  | .mk k n s l,q => if k = 1 then (if n = q then 1 else 0) else usesLZ l (q + T.more (.mk k n s l))
def usesLZ : List T → Int → Int
  | [],_ => 0
  | t :: r,q => usesZ t q + usesLZ r q
end
theorem usesLZ_b {l : List T} (h : ∀ t,t ∈ l → ∀ q,0 ≤ usesZ t q ∧ usesZ t q ≤ sizeZ t) (q : Int) : 0 ≤ usesLZ l q ∧ usesLZ l q ≤ sizeLZ l := by
  induction l with
  | nil => simp [usesLZ,sizeLZ]
  | cons t l ih => have := h t (by simp) q; have := ih fun u hu => h u (by simp [hu]); simp only [sizeLZ,usesLZ]; omega
theorem usesZ_b (t : T) : ∀ q,0 ≤ usesZ t q ∧ usesZ t q ≤ sizeZ t := by
  induction t using T.ind with
  | h k n s l ih =>
    intro q
    have := usesLZ_b ih (q + T.more (.mk k n s l))
    have := sizeLZ_nn l
    unfold usesZ; simp only [sizeZ]
    split
    · split <;> omega
    · omega
theorem usesL_Z {l : List T} {q : Int} (h : ∀ t,t ∈ l → uses t q = usesZ t q) : ∀ a,0 ≤ a → a + sizeLZ l ≤ 1152921504606846977 → usesL l q a = a + usesLZ l q := by
  induction l with
  | nil => intro a _ _; simp [usesL,usesLZ]
  | cons t l ih =>
    intro a ha hs
    have := usesZ_b t q
    have := sizeLZ_nn l
    simp only [sizeLZ] at hs
    simp only [usesL,usesLZ]
    rw [h t (by simp),w_id _ (by omega),ih (fun u hu => h u (by simp [hu])) _ (by omega) (by omega)]; omega
theorem uses_Z {t : T} : ∀ {f q : Int} {D : Nat},V t f D → -1000 ≤ q → q + 8 * D ≤ 1152921504606846976 → sizeZ t ≤ 1152921504606846976 → uses t q = usesZ t q := by
  induction t using T.ind with
  | h k n s l ih =>
    intro f q D h hq hb hs
    rw [V_mk] at h
    unfold uses usesZ
    split
    · rfl
    · rename_i hk; rw [if_neg hk] at h
      rw [w_id _ (by omega)]
      simp only [sizeZ] at hs
      rw [usesL_Z (q := q + T.more (.mk k n s l)) (fun t ht => ih t ht (h.2.2.2 t ht) (by omega) (by omega) (by have := sizeLZ_mem ht; omega)) 0 (by omega) (by omega)]
      omega
theorem usesLZ_zero {l : List T} {q : Int} (h : usesLZ l q = 0) : ∀ t,t ∈ l → usesZ t q = 0 := by
  induction l with
  | nil => simp
  | cons t l ih =>
    simp only [usesLZ] at h
    have := usesZ_b t q
    have := usesLZ_b (fun t _ => usesZ_b t) q (l := l)
    intro u hu
    rcases List.mem_cons.1 hu with rfl | hu
    · omega
    · exact ih (by omega) u hu
theorem size_sub {t : T} : ∀ {f q : Int} {D : Nat} {σ : Int → T} {z : Int},V t f D → 0 ≤ q → sizeZ (σ q) = z → (∀ n,0 ≤ n → n < f → n ≠ q → sizeZ (σ n) = 1) → sizeZ (sub σ t) = sizeZ t + usesZ t q * (z - 1) := by
  induction t using T.ind with
  | h k n s l ih =>
    intro f q D σ z h hq hz hr
    rw [V_mk] at h
    rw [sub_mk]
    unfold usesZ
    split
    · rename_i hk; rw [if_pos hk] at h
      obtain ⟨h0,h1,rfl,rfl,_⟩ := h
      by_cases e : n = q
      · rw [if_pos e,e,hz]; simp only [sizeZ,sizeLZ]; omega
      · rw [if_neg e,hr n h0 h1 e]; simp only [sizeZ,sizeLZ]; omega
    · rename_i hk; rw [if_neg hk] at h
      simp only [sizeZ]
      have : ∀ r : List T,(∀ t,t ∈ r → t ∈ l) → sizeLZ (r.map (sub (ls (T.more (.mk k n s l)) σ))) = sizeLZ r + usesLZ r (q + T.more (.mk k n s l)) * (z - 1) := by
        intro r
        induction r with
        | nil => intro _; simp [sizeLZ,usesLZ]
        | cons t r ihr =>
          intro hm
          have ht : t ∈ l := hm t (by simp)
          simp only [List.map_cons,sizeLZ,usesLZ]
          rw [ihr fun u hu => hm u (by simp [hu]),ih t ht (h.2.2.2 t ht) (q := q + T.more (.mk k n s l)) (z := z) (by omega) ?_ ?_,Int.add_mul]
          · omega
          · unfold ls
            rw [if_neg (by omega),size_ren]
            have : q + T.more (.mk k n s l) - T.more (.mk k n s l) = q := by omega
            rw [this,hz]
          · intro m h0 hm hne
            unfold ls
            split
            · rfl
            · rw [size_ren]; exact hr _ (by omega) (by omega) (by omega)
      rw [this l fun t ht => ht]; omega
theorem dep_mono {l : List T} {f : T → T} {d : Nat} (h : ∀ t,t ∈ l → dep (f t) ≤ d) : depL (l.map f) ≤ d := by
  induction l with
  | nil => simp [depL]
  | cons t l ih => have := h t (by simp); have := ih fun u hu => h u (by simp [hu]); simp only [List.map_cons,depL]; omega
theorem head_var {k n : Int} {s : List UInt8} {l : List T} {f : Int} {a : Bool} (h : head (.mk k n s l) f a = true) : (k = 1 → a = false ∧ 0 ≤ n ∧ n < f ∧ s = [] ∧ l = []) ∧ (k = 6 ↔ a = true) ∧ 0 ≤ T.more (.mk k n s l) ∧ T.more (.mk k n s l) ≤ 8 := by
  have e : head (.mk k n s l) f a = headC k n s l.length f a := rfl
  have em : T.more (.mk k n s l) = if k = 2 then 1 else if k = 6 then n else 0 := rfl
  rw [e] at h
  rw [em]
  unfold headC at h
  split at h
  · simp only [Bool.and_eq_true,decide_eq_true_eq] at h
    rename_i ha
    subst ha
    obtain ⟨⟨⟨⟨h1,h2⟩,h3⟩,h4⟩,h5⟩ := h
    subst h1
    simp; omega
  · rename_i ha
    have ha : a = false := by simpa using ha
    subst ha
    by_cases h1 : k = 1
    · subst h1
      simp at h
      simp
      exact ⟨h.1.2,h.2,h.1.1.1,h.1.1.2⟩
    · have h6 : k ≠ 6 := by
        rintro rfl
        simp at h
      simp [h1,h6]
      split <;> omega
theorem head_same {k n : Int} {s : List UInt8} {l l' : List T} {f g : Int} {a : Bool} (hk : k ≠ 1) (hl : l'.length = l.length) (h : head (.mk k n s l) f a = true) : head (.mk k n s l') g a = true := by
  have e : head (.mk k n s l) f a = headC k n s l.length f a := rfl
  have e' : head (.mk k n s l') g a = headC k n s l'.length g a := rfl
  rw [e] at h
  rw [e',hl]
  unfold headC at h ⊢
  rw [if_neg hk] at h ⊢
  exact h
theorem mayL_iff (k : Int) (all : List T) (free : Int) : ∀ (l : List T) (i : Nat),mayL k all l i free = true ↔ ∀ j t,l[j]? = some t → may t free (decide (k = 5) && decide (((i + j : Nat) : Int) > 0)) = true ∧ (k = 5 → dup all (i + j) t.s = false)
  | [],i => by simp [mayL]
  | t :: r,i => by
    simp only [mayL,Bool.and_eq_true]
    rw [mayL_iff k all free r (i + 1)]
    constructor
    · rintro ⟨⟨h1,h2⟩,h3⟩ j u hj
      cases j with
      | zero =>
        simp only [List.getElem?_cons_zero,Option.some.injEq] at hj
        subst hj
        refine ⟨by simpa using h1,fun hk => ?_⟩
        simpa [hk] using h2
      | succ j =>
        simp only [List.getElem?_cons_succ] at hj
        have := h3 j u hj
        rwa [show i + 1 + j = i + (j + 1) by omega] at this
    · intro h
      refine ⟨⟨?_,?_⟩,fun j u hj => ?_⟩
      · simpa using (h 0 t rfl).1
      · by_cases hk : k = 5
        · have := (h 0 t rfl).2 hk
          simp [hk]; simpa using this
        · simp [hk]
      · have := h (j + 1) u (by simpa using hj)
        rwa [show i + (j + 1) = i + 1 + j by omega] at this
theorem may_iff {k n : Int} {s : List UInt8} {l : List T} {f : Int} {a : Bool} (hf : 0 ≤ f) (hb : f + 8 ≤ 9223372036854775807) : may (.mk k n s l) f a = true ↔ head (.mk k n s l) f a = true ∧ ∀ j t,l[j]? = some t → may t (f + T.more (.mk k n s l)) (decide (k = 5) && decide (((j : Nat) : Int) > 0)) = true ∧ (k = 5 → dup l j t.s = false) := by
  have e : may (.mk k n s l) f a = if f < 0 then false else if head (.mk k n s l) f a then mayL k l l 0 (if k = 2 then w (f + 1) else if k = 6 then w (f + n) else f) else false := rfl
  rw [e,if_neg (by omega)]
  by_cases hh : head (.mk k n s l) f a = true
  · rw [if_pos hh,mayL_iff]
    have hm := (head_var hh).2.2
    have em : T.more (.mk k n s l) = if k = 2 then 1 else if k = 6 then n else 0 := rfl
    have hw : (if k = 2 then w (f + 1) else if k = 6 then w (f + n) else f) = f + T.more (.mk k n s l) := by
      rw [em] at hm ⊢
      split
      · rw [w_id _ (by omega)]
      · rename_i h2
        rw [if_neg h2] at hm
        split
        · rename_i h6; rw [if_pos h6] at hm; rw [w_id _ (by omega)]
        · omega
    rw [hw]
    simp only [hh,true_and,Nat.zero_add]
  · simp only [hh,if_false,false_and]; simp
theorem may_V {t : T} : ∀ {f : Int} {a : Bool} {D : Nat},may t f a = true → dep t ≤ D → 0 ≤ f → f + 8 * D ≤ 1152921504606846976 → V t f D := by
  induction t using T.ind with
  | h k n s l ih =>
    intro f a D h hd hf hb
    simp only [dep] at hd
    rw [may_iff hf (by omega)] at h
    obtain ⟨h1,h2⟩ := h
    obtain ⟨h3,h4,h5,h6⟩ := head_var h1
    rw [V_mk]
    split
    · rename_i hk; obtain ⟨_,h7,h8,h9,h10⟩ := h3 hk; exact ⟨h7,h8,h9,h10,by omega⟩
    · refine ⟨h5,h6,by omega,fun t ht => ?_⟩
      obtain ⟨j,hj⟩ := List.getElem?_of_mem ht
      exact ih t ht (h2 j t hj).1 (by have := depL_mem ht; omega) (by omega) (by omega)
theorem may_var {n f : Int} (h0 : 0 ≤ n) (h : n < f) : may (var n) f false = true := by
  have e : may (var n) f false = if f < 0 then false else if head (.mk 1 n [] []) f false then mayL 1 [] [] 0 (if (1 : Int) = 2 then w (f + 1) else if (1 : Int) = 6 then w (f + n) else f) else false := rfl
  rw [e,if_neg (by omega)]
  have e1 : head (.mk 1 n [] []) f false = headC 1 n [] 0 f false := rfl
  rw [e1,if_pos]
  · rfl
  · simp [headC,h0,h]
theorem dup_map {l : List T} {f : T → T} (h : ∀ j t,l[j]? = some t → 0 < j → (f t).s = t.s) (i : Nat) (s : List UInt8) (hi : i ≤ l.length) : dup (l.map f) i s = dup l i s := by
  unfold dup
  rw [← List.map_take,← List.map_drop,List.any_map,Bool.eq_iff_iff,List.any_eq_true,List.any_eq_true]
  have key : ∀ t,t ∈ (l.take i).drop 1 → (f t).s = t.s := by
    intro t ht
    obtain ⟨j,hj⟩ := List.getElem?_of_mem ht
    rw [List.getElem?_drop] at hj
    by_cases hji : 1 + j < i
    · rw [List.getElem?_take_of_lt hji] at hj
      exact h _ t hj (by omega)
    · rw [List.getElem?_take_eq_none (by omega)] at hj; cases hj
  exact ⟨fun ⟨t,ht,h1⟩ => ⟨t,ht,by rw [Function.comp_apply,key t ht] at h1; exact h1⟩,fun ⟨t,ht,h1⟩ => ⟨t,ht,by rw [Function.comp_apply,key t ht]; exact h1⟩⟩
theorem may_s {t : T} {f : Int} (hf : 0 ≤ f) (hb : f + 8 ≤ 9223372036854775807) (h : may t f true = true) : t.k = 6 := by
  obtain ⟨k,n,s,l⟩ := t
  rw [may_iff hf hb] at h
  exact (head_var h.1).2.1.2 rfl
theorem ren_s (t : T) (r : Int → Int) : (ren r t).s = t.s := by
  obtain ⟨k,n,s,l⟩ := t
  rw [ren_mk]; split <;> rfl
theorem sub_s {t : T} {σ : Int → T} (h : t.k = 6) : (sub σ t).s = t.s := by
  obtain ⟨k,n,s,l⟩ := t
  have h : k = 6 := h
  rw [sub_mk,if_neg (by omega)]; rfl
theorem may_ren {t : T} : ∀ {f g : Int} {D : Nat} {r : Int → Int} {a : Bool},may t f a = true → dep t ≤ D → (∀ n,0 ≤ n → n < f → 0 ≤ r n ∧ r n < g) → 0 ≤ f → 0 ≤ g → f + 8 * D ≤ 1152921504606846976 → g + 8 * D ≤ 1152921504606846976 → may (ren r t) g a = true := by
  induction t using T.ind with
  | h k n s l ih =>
    intro f g D r a h hd hr hf hg hb hb2
    simp only [dep] at hd
    rw [may_iff hf (by omega)] at h
    obtain ⟨h1,h2⟩ := h
    obtain ⟨h3,h4,h5,h6⟩ := head_var h1
    rw [ren_mk]
    split
    · rename_i hk; obtain ⟨rfl,h7,h8,rfl,rfl⟩ := h3 hk
      rw [hk]; exact may_var (hr n h7 h8).1 (hr n h7 h8).2
    · rename_i hk
      rw [may_iff hg (by omega)]
      refine ⟨head_same hk (by simp) h1,fun j t hj => ?_⟩
      rw [List.getElem?_map,Option.map_eq_some_iff] at hj
      obtain ⟨u,hu,rfl⟩ := hj
      obtain ⟨h7,h8⟩ := h2 j u hu
      have hm := List.mem_of_getElem? hu
      have hjl : j < l.length := (List.getElem?_eq_some_iff.1 hu).1
      have e : T.more (.mk k n s (l.map (ren (lr (T.more (.mk k n s l)) r)))) = T.more (.mk k n s l) := rfl
      rw [e]
      refine ⟨ih u hm h7 (D := D - 1) (by have := depL_mem hm; omega) (fun m h0 hm => ?_) (by omega) (by omega) (by omega) (by omega),fun hk5 => ?_⟩
      · unfold lr
        split
        · omega
        · have := hr (m - T.more (.mk k n s l)) (by omega) (by omega); omega
      · rw [dup_map (fun j t _ _ => ren_s t _) j _ (by omega),ren_s]; exact h8 hk5
theorem may_sub {t : T} : ∀ {f g : Int} {D E : Nat} {σ : Int → T} {a : Bool},may t f a = true → dep t ≤ D → (∀ n,0 ≤ n → n < f → may (σ n) g false = true ∧ dep (σ n) ≤ E) → 0 ≤ f → 0 ≤ g → f + 8 * D ≤ 1152921504606846976 → g + 8 * D + 8 * E ≤ 1152921504606846976 → 1 ≤ E → may (sub σ t) g a = true := by
  induction t using T.ind with
  | h k n s l ih =>
    intro f g D E σ a h hd hr hf hg hb hb2 hE
    simp only [dep] at hd
    rw [may_iff hf (by omega)] at h
    obtain ⟨h1,h2⟩ := h
    obtain ⟨h3,h4,h5,h6⟩ := head_var h1
    rw [sub_mk]
    split
    · rename_i hk; obtain ⟨rfl,h7,h8,rfl,rfl⟩ := h3 hk
      exact (hr n h7 h8).1
    · rename_i hk
      rw [may_iff hg (by omega)]
      refine ⟨head_same hk (by simp) h1,fun j t hj => ?_⟩
      rw [List.getElem?_map,Option.map_eq_some_iff] at hj
      obtain ⟨u,hu,rfl⟩ := hj
      obtain ⟨h7,h8⟩ := h2 j u hu
      have hm := List.mem_of_getElem? hu
      have hjl : j < l.length := (List.getElem?_eq_some_iff.1 hu).1
      have e : T.more (.mk k n s (l.map (sub (ls (T.more (.mk k n s l)) σ)))) = T.more (.mk k n s l) := rfl
      rw [e]
      refine ⟨ih u hm h7 (D := D - 1) (E := E) (by have := depL_mem hm; omega) (fun m h0 hm => ?_) (by omega) (by omega) (by omega) (by omega) hE,fun hk5 => ?_⟩
      · unfold ls
        split
        · exact ⟨may_var h0 (by omega),hE⟩
        · obtain ⟨h9,h10⟩ := hr (m - T.more (.mk k n s l)) (by omega) (by omega)
          refine ⟨may_ren (D := E) h9 h10 (fun i h0 hi => by omega) (by omega) (by omega) (by omega) (by omega),?_⟩
          have : ∀ (t : T) (r : Int → Int),dep (ren r t) = dep t := by
            intro t
            induction t using T.ind with
            | h k n s l ih =>
              intro r
              rw [ren_mk]
              split
              · rfl
              · simp only [dep]
                congr 1
                have : ∀ l' : List T,(∀ t,t ∈ l' → t ∈ l) → depL (l'.map (ren (lr (T.more (.mk k n s l)) r))) = depL l' := by
                  intro l'
                  induction l' with
                  | nil => intro _; rfl
                  | cons x l' ihl => intro hm; simp only [List.map_cons,depL]; rw [ih x (hm x (by simp)),ihl fun u hu => hm u (by simp [hu])]
                exact this l fun t ht => ht
          rw [this]; exact h10
      · have hs : ∀ j t,l[j]? = some t → 0 < j → (sub (ls (T.more (.mk k n s l)) σ) t).s = t.s := by
          intro j t hj h0
          refine sub_s ?_
          have := (h2 j t hj).1
          have hp : (decide (k = 5) && decide (((j : Nat) : Int) > 0)) = true := by simp [hk5,h0]
          rw [hp] at this
          exact may_s (by omega) (by omega) this
        rw [dup_map hs j _ (by omega)]
        cases j with
        | zero => simp [dup]
        | succ j => rw [hs _ u hu (by omega)]; exact h8 hk5
theorem dep_sub {t : T} : ∀ {f : Int} {D E : Nat} {σ : Int → T},V t f D → (∀ n,0 ≤ n → n < f → dep (σ n) ≤ E) → 1 ≤ E → dep (sub σ t) ≤ D + E := by
  have hren : ∀ (t : T) (r : Int → Int),dep (ren r t) = dep t := by
    intro t
    induction t using T.ind with
    | h k n s l ih =>
      intro r
      rw [ren_mk]
      split
      · rfl
      · simp only [dep]
        congr 1
        have : ∀ l' : List T,(∀ t,t ∈ l' → t ∈ l) → depL (l'.map (ren (lr (T.more (.mk k n s l)) r))) = depL l' := by
          intro l'
          induction l' with
          | nil => intro _; rfl
          | cons x l' ihl => intro hm; simp only [List.map_cons,depL]; rw [ih x (hm x (by simp)),ihl fun u hu => hm u (by simp [hu])]
        exact this l fun t ht => ht
  induction t using T.ind with
  | h k n s l ih =>
    intro f D E σ h hr hE
    rw [V_mk] at h
    rw [sub_mk]
    split
    · rename_i hk; rw [if_pos hk] at h; have := hr n h.1 h.2.1; omega
    · rename_i hk; rw [if_neg hk] at h
      simp only [dep]
      have := dep_mono (l := l) (f := sub (ls (T.more (.mk k n s l)) σ)) (d := D - 1 + E) fun t ht => ih t ht (h.2.2.2 t ht) (fun m h0 hm => ?_) hE
      · omega
      · unfold ls
        split
        · exact hE
        · rw [hren]; exact hr _ (by omega) (by omega)
end Go.Proofs.Ytlgekplmbmkcmaa
end
section
set_option linter.unusedSimpArgs false
set_option linter.unusedVariables false
namespace Go.Proofs.Ytlgekplmbmkcmaa
open Go.Fx
theorem May_ok {t : T} (ht : T.Ok t) (f : Int) : eP S 27 [.g (enc t),.a (.i .i64 f)] = some (.a (.b (may t f false))) := by
  have h := may_ok ht f false
  refine x_fn (orcS 27) (fc := F27) rfl rfl ?_
  simp only [F27,enc_len,enc_takep,enc_flat,h,x_seq,x_reg,x_skip,x_exit,x_ret,x_block,x_if,wpC_t,wpC_f,wpI_cons,wpI_nil,wpX_some,evI_any,evI_rd,evI_ad,evI_g,evG_u,evG_b,evG_tt,evG_ff,evG_tf,evG_ft,evO,evR,ev_t,ev_c,ev_f,putD_some,putD_none,put_at,cellsT,ldCells,mkT,lenA,binPV,add_bs,add_clk,add_ls,put_bs,put_clk,put_ls,kill_bs,kill_clk,kill_ls,empty_clk,empty_bs,Env.init,seqQ_norm,seqQ_exit,seqQ_ret,blkQ_norm,blkQ_exit,blkQ_ret,loopQ_norm,loopQ_exit,loopQ_ret,retP_ret,retP_norm,retE_ret,retE_norm,retS_ret,retS_norm,wpO_some,frA_fn,klA_p,klA_nil,klA_own,resVs,resV,resT,Option.bind_some,Option.bind_none,Option.map_some,List.getD_cons_zero,List.getD_cons_succ,List.getD_nil,List.length_cons,List.length_nil,List.length_map,List.map_cons,List.map_nil,List.drop_zero,List.drop_succ_cons,List.take_succ_cons,List.take_zero,List.drop_nil,List.take_nil,Nat.reduceEqDiff,Nat.reduceAdd,Nat.reduceLeDiff,Nat.zero_add,Nat.add_zero,Prod.mk.injEq,and_true,true_and,and_false,false_and,and_self,if_true,if_false,ite_true,ite_false,Bool.not_true,Bool.not_false,Bool.not_eq_true',reduceCtorEq,decide_true,decide_false,frTs,frT,frL_p,spS,ofPT_a,ofPT_g,ofPT_t,flat_i,flat_b,flat_s,flat_l,flat_g,flatp_i,flatp_b,flatp_s,flatp_l,klTs,klT,Bool.and_false,Bool.false_and,frL,frA_p,frA_nil,frA_own,ownT,intT,Bool.or_true,Bool.true_or,Bool.false_eq_true,frL_p,klL_p,ownT_p,O.adds,List.all_cons,List.all_nil,List.any_cons,List.any_nil,ownA,evO.bslRows,List.replicate_succ,List.replicate_zero,List.set_cons_zero,rowsA,over,List.cons_append,List.nil_append,List.append_nil,fillA,Bool.and_self,Bool.and_true,Bool.true_and,Bool.or_self,Bool.or_false,Bool.false_or,Nat.reduceMul,Nat.one_mul,Nat.lt_add_one,klL,Nat.le_refl,ite_self,Nat.reduceBEq]
theorem put0 {t u : T} {g h p : Int} {D E : Nat} (ht : V t g D) (hu : V u h E) (hg : 0 ≤ g ∧ g ≤ 5000) (hh : 0 ≤ h ∧ h ≤ 5000) (hp : 0 ≤ p ∧ p ≤ 5000) (hD : D ≤ 5000) (hE : E ≤ 5000) (b : Int) (hb : 0 ≤ b ∧ b ≤ 5000) : put p u t b = sub (sput p u b) t :=
  put_sub hu hp.1 hh.1 ht hb.1 (by omega) (by omega) (by omega)
end Go.Proofs.Ytlgekplmbmkcmaa
end
section
set_option linter.unusedSimpArgs false
set_option linter.unusedVariables false
set_option maxHeartbeats 4000000
set_option maxRecDepth 10000
namespace Go.Proofs.Ytlgekplmbmkcmaa
open Go.Fx
theorem Ok_lam {t : T} (ht : T.Ok t) : T.Ok (.mk 2 0 [] [t]) := .mk 2 0 [] [t] (by decide) (by decide) (by simp [reachBytes]) (by simp [reachBytes]) (by simpa using ht)
theorem Ok_app {t u : T} (ht : T.Ok t) (hu : T.Ok u) : T.Ok (.mk 3 0 [] [t,u]) := .mk 3 0 [] [t,u] (by decide) (by decide) (by simp [reachBytes]) (by simp [reachBytes]) (by simp [ht,hu])
end Go.Proofs.Ytlgekplmbmkcmaa
end
section
set_option linter.unusedSimpArgs false
set_option linter.unusedVariables false
namespace Go.Proofs.Ytlgekplmbmkcmaa
open Go.Fx
mutual
theorem ofT_size : ∀ t : T,((ofT t).length : Int) ≤ 8 * sizeZ t
  | .mk k n s l => by
    have h := ofTL_size l
    have hb := binds_le (.mk k n s l)
    simp only [ofT,sizeZ,List.length_append,useB_len]; omega
theorem ofTL_size : ∀ l : List T,((ofTL l).length : Int) ≤ 8 * sizeLZ l
  | [] => by simp [ofTL,sizeLZ]
  | t :: r => by
    have h1 := ofT_size t
    have h2 := ofTL_size r
    simp only [ofTL,sizeLZ,List.length_append]; omega
end
mutual
theorem uses_rng : ∀ (t : T) (q : Int),vn t ≤ 1073741824 → 0 ≤ uses t q ∧ uses t q ≤ vn t
  | .mk k n s l,q,h => by
    unfold vn at h
    unfold uses vn
    split
    · split <;> simp
    · rename_i hk
      rw [if_neg hk] at h
      have := usesL_rng l (w (q + T.more (.mk k n s l))) 0 (by omega) (by omega)
      omega
theorem usesL_rng : ∀ (l : List T) (q a : Int),0 ≤ a → a + vnL l ≤ 2147483648 → a ≤ usesL l q a ∧ usesL l q a ≤ a + vnL l
  | [],q,a,h0,h => by simp [usesL,vnL]
  | t :: r,q,a,h0,h => by
    simp only [vnL] at h
    have h1 := uses_rng' t q (by omega)
    have hw : w (a + uses t q) = a + uses t q := wrap_in _ (by omega)
    have h2 := usesL_rng r q (a + uses t q) (by omega) (by omega)
    simp only [usesL,vnL,hw]; omega
theorem uses_rng' : ∀ (t : T) (q : Int),vn t ≤ 2147483648 → 0 ≤ uses t q ∧ uses t q ≤ vn t
  | .mk k n s l,q,h => by
    unfold vn at h
    unfold uses vn
    split
    · split <;> simp
    · rename_i hk
      rw [if_neg hk] at h
      have := usesL_rng l (w (q + T.more (.mk k n s l))) 0 (by omega) (by omega)
      omega
end
theorem useB_rng {t : T} (h : vnL t.l ≤ 1073741824) : ∀ x ∈ useB t,0 ≤ x ∧ x ≤ 1073741824 := by
  intro x hx
  unfold useB at hx
  obtain ⟨i,hi,rfl⟩ := List.mem_map.1 hx
  rw [uses_w]
  have hv : vn (t.l.getD 0 zT0) ≤ 1073741824 := by
    cases hl : t.l with
    | nil => show vn zT0 ≤ _; decide
    | cons a b => rw [hl] at h; show vn a ≤ _; simp only [vnL] at h; omega
  have := uses_rng (t.l.getD 0 zT0) (w (lastB t + (((binds t).toNat : Int) - 1 - (i : Int)))) hv
  omega
mutual

def vnA : T → Nat
  | .mk k _ _ l => (if k = 1 then 1 else 0) + vnAL l
def vnAL : List T → Nat
  | [] => 0
  | t :: r => vnA t + vnAL r
end
mutual
theorem vn_A : ∀ t : T,vn t ≤ vnA t ∧ (vnA t : Int) ≤ sizeZ t
  | .mk k n s l => by
    have h := vnL_A l
    simp only [vn,vnA,sizeZ]
    split <;> omega
theorem vnL_A : ∀ l : List T,vnL l ≤ vnAL l ∧ (vnAL l : Int) ≤ sizeLZ l
  | [] => by simp [vnL,vnAL,sizeLZ]
  | t :: r => by
    have h1 := vn_A t
    have h2 := vnL_A r
    simp only [vnL,vnAL,sizeLZ]; omega
end
mutual
theorem ofT_rng : ∀ t : T,vnA t ≤ 1073741824 → ∀ x ∈ ofT t,0 ≤ x ∧ x ≤ 1073741824
  | .mk k n s l,h => by
    intro x hx
    simp only [vnA] at h
    simp only [ofT,List.mem_append] at hx
    rcases hx with hx | hx
    · exact useB_rng (t := .mk k n s l) (by show vnL l ≤ _; have := (vnL_A l).1; omega) x hx
    · exact ofTL_rng l (by omega) x hx
theorem ofTL_rng : ∀ l : List T,vnAL l ≤ 1073741824 → ∀ x ∈ ofTL l,0 ≤ x ∧ x ≤ 1073741824
  | [],_ => by intro x hx; simp [ofTL] at hx
  | t :: r,h => by
    intro x hx
    simp only [vnAL] at h
    simp only [ofTL,List.mem_append] at hx
    rcases hx with hx | hx
    · exact ofT_rng t (by omega) x hx
    · exact ofTL_rng r (by omega) x hx
end
def fanZ (x : Int) : Int := if x > 1 then x - 1 else 0
def dropZ (x : Int) : Int := if x = 0 then 1 else 0
def sumZ (f : Int → Int) (l : List Int) : Int := (l.map f).sum
theorem sumZ_app (f : Int → Int) (l r : List Int) : sumZ f (l ++ r) = sumZ f l + sumZ f r := by simp [sumZ]
theorem sumZ_cons (f : Int → Int) (x : Int) (r : List Int) : sumZ f (x :: r) = f x + sumZ f r := by simp [sumZ]
theorem foldl_sum {g : Int → Int → Int} {f : Int → Int} {B : Int} (hg : ∀ a x,0 ≤ a → a ≤ 2305843009213693952 → 0 ≤ x → x ≤ B → g a x = a + f x) (hf : ∀ x,0 ≤ x → x ≤ B → 0 ≤ f x ∧ f x ≤ B) (hB : 0 ≤ B) :
    ∀ (l : List Int) (a : Int),(∀ x ∈ l,0 ≤ x ∧ x ≤ B) → 0 ≤ a → a + l.length * B ≤ 2305843009213693952 → l.foldl g a = a + sumZ f l
  | [],a,_,_,_ => by simp [sumZ]
  | x :: l,a,hx,h0,hb => by
    have h1 := hx x (by simp)
    have h2 := hf x h1.1 h1.2
    have hll : (((x :: l).length : Nat) : Int) * B = (l.length : Int) * B + B := by simp only [List.length_cons]; rw [show ((l.length + 1 : Nat) : Int) = (l.length : Int) + 1 by omega,Int.add_mul]; omega
    rw [hll] at hb
    have hnn : 0 ≤ (l.length : Int) * B := Int.mul_nonneg (by omega) hB
    rw [List.foldl_cons,hg a x h0 (by omega) h1.1 h1.2,sumZ_cons,foldl_sum hg hf hB l (a + f x) (fun y hy => hx y (by simp [hy])) (by omega) (by omega)]
    omega
theorem fan_eq {l : List Int} (hx : ∀ x ∈ l,0 ≤ x ∧ x ≤ 1073741824) (hl : l.length ≤ 1048576) : fansW l = sumZ fanZ l ∧ rfansW l = sumZ fanZ l ∧ dropsW l = sumZ dropZ l := by
  have hb : (0 : Int) + l.length * 1073741824 ≤ 2305843009213693952 := by omega
  refine ⟨?_,?_,?_⟩
  · have := foldl_sum (g := fanW) (f := fanZ) (B := 1073741824) (fun a x h1 h2 h3 h4 => by
      unfold fanW fanZ
      have h5 : w (x - 1) = x - 1 := wrap_in _ (by omega)
      rw [h5]
      split
      · rw [if_neg (by omega)]; exact wrap_in _ (by omega)
      · split
        · exact wrap_in _ (by omega)
        · rw [show x - 1 = 0 by omega]; exact wrap_in _ (by omega)) (fun x h1 h2 => by unfold fanZ; split <;> omega) (by omega) l 0 hx (by omega) hb
    rw [Int.zero_add] at this; exact this
  · have := foldl_sum (g := rfanW) (f := fanZ) (B := 1073741824) (fun a x h1 h2 h3 h4 => by
      unfold rfanW fanZ
      have h5 : w (x - 1) = x - 1 := wrap_in _ (by omega)
      rw [h5]
      split
      · exact wrap_in _ (by omega)
      · omega) (fun x h1 h2 => by unfold fanZ; split <;> omega) (by omega) l 0 hx (by omega) hb
    rw [Int.zero_add] at this; exact this
  · have := foldl_sum (g := dropW) (f := dropZ) (B := 1073741824) (fun a x h1 h2 h3 h4 => by
      unfold dropW dropZ
      split
      · exact wrap_in _ (by omega)
      · omega) (fun x h1 h2 => by unfold dropZ; split <;> omega) (by omega) l 0 hx (by omega) hb
    rw [Int.zero_add] at this; exact this
end Go.Proofs.Ytlgekplmbmkcmaa
end
section
set_option linter.unusedSimpArgs false
set_option linter.unusedVariables false
set_option maxHeartbeats 4000000
set_option maxRecDepth 10000
namespace Go.Proofs.Ytlgekplmbmkcmaa
open Go.Fx
def vT (n : Int) : T := .mk 1 n [] []
def lamT (t : T) : T := .mk 2 0 [] [t]
def appT (t u : T) : T := .mk 3 0 [] [t,u]
def fxA : T := lamT (lamT (appT (vT 1) (vT 1)))
def fxB : T := .mk 6 2 [65] [appT (vT 0) (appT (vT 0) (vT 5))]
def fxC : T := appT (vT 4) (appT (vT 1) (vT 4))
def fxI : T := lamT (vT 0)
theorem Ok_vT {n : Int} (h : (Lit.int .i64 n).wf = true) : T.Ok (vT n) := .mk 1 n [] [] (by decide) h (by simp [reachBytes]) (by simp [reachBytes]) (by simp)
theorem Ok_fxA : T.Ok fxA := Ok_lam (Ok_lam (Ok_app (Ok_vT (by decide)) (Ok_vT (by decide))))
theorem Ok_fxB : T.Ok fxB := .mk 6 2 [65] _ (by decide) (by decide) (by simp [reachBytes]) (by simp [reachBytes]) (by
  intro t ht
  rw [List.mem_singleton] at ht
  subst ht
  exact Ok_app (Ok_vT (by decide)) (Ok_app (Ok_vT (by decide)) (Ok_vT (by decide))))
theorem Ok_fxC : T.Ok fxC := Ok_app (Ok_vT (by decide)) (Ok_app (Ok_vT (by decide)) (Ok_vT (by decide)))
theorem Ok_fxI : T.Ok fxI := Ok_lam (Ok_vT (by decide))
theorem fixed11_ok : eP S 33 [] = some (.a (.b true)) := by
  refine x_fn (orcS _) (fc := F33) rfl rfl ?_
  have v0 := v11_ok 0
  have v1 := v11_ok 1
  have v4 := v11_ok 4
  have v5 := v11_ok 5
  have a1 := app11_ok (vT 1) (vT 1)
  have l1 := lam11_ok (appT (vT 1) (vT 1))
  have l2 := lam11_ok (lamT (appT (vT 1) (vT 1)))
  have a2 := app11_ok (vT 0) (vT 5)
  have a3 := app11_ok (vT 0) (appT (vT 0) (vT 5))
  have a4 := app11_ok (vT 1) (vT 4)
  have a5 := app11_ok (vT 4) (appT (vT 1) (vT 4))
  have l3 := lam11_ok (vT 0)
  have f1 := Of_ok Ok_fxA (by decide +kernel)
  rw [show ofT fxA = [2,0] by decide +kernel] at f1
  have f2 := Fans_ok Ok_fxA
  rw [show fansW (ofT fxA) = 1 by decide +kernel] at f2
  have f3 := Drops_ok Ok_fxA
  rw [show dropsW (ofT fxA) = 1 by decide +kernel] at f3
  have f4 := Affine_ok Ok_fxA
  rw [show decide (fansW (ofT fxA) = 0) = false by decide +kernel] at f4
  have f5 := Affine_ok Ok_fxI
  rw [show decide (fansW (ofT fxI) = 0) = true by decide +kernel] at f5
  have f6 := Of_ok Ok_fxB (by decide +kernel)
  rw [show ofT fxB = [0,2] by decide +kernel] at f6
  have f7 := Free_ok Ok_fxB (by decide +kernel)
  rw [show freeT fxB = [3] by decide +kernel] at f7
  have f8 := Free_ok Ok_fxC (by decide +kernel)
  rw [show freeT fxC = [1,4] by decide +kernel] at f8
  have f9 := Free_ok Ok_fxA (by decide +kernel)
  rw [show freeT fxA = [] by decide +kernel] at f9
  have i1 := Ints_ok (l := [2,0]) (m := [2,0]) (by decide)
  have i2 := Ints_ok (l := [0,2]) (m := [0,2]) (by decide)
  have i3 := Ints_ok (l := [3]) (m := [3]) (by decide)
  have i4 := Ints_ok (l := [1,4]) (m := [1,4]) (by decide)
  simp only [fxA,fxB,fxC,fxI,vT,lamT,appT,enc,encL,encI,List.map_cons,List.map_nil,decide_true] at v0 v1 v4 v5 a1 l1 l2 a2 a3 a4 a5 l3 f1 f2 f3 f4 f5 f6 f7 f8 f9 i1 i2 i3 i4
  simp only [F33,v0,v1,v4,v5,a1,l1,l2,a2,a3,a4,a5,l3,f1,f2,f3,f4,f5,f6,f7,f8,f9,i1,i2,i3,i4,List.set_cons_succ,List.set_cons_zero,List.replicate,Nat.reduceLT,PT.flat,PV.flat,List.all_cons,List.all_nil,x_fz,fzS,fz1,ne_eq,not_false_eq_true,not_true_eq_false,Int.cast_ofNat_Int,Int.reduceLE,Int.reduceLT,Int.reduceToNat,Int.reduceAdd,Int.reduceSub,Int.reduceNeg,spS,fxa,fxc,fxE,fxL,fxI,nxE,evO,evR,cellsT,ldCells,mkT,lenA,binPV,Env.init,resV,resT,frT,klT,ownT,intT,O.adds,ownA,rowsA,over,wrOk,keysT,keysA,ne_eq,if_true,if_false,ite_self,Nat.reduceLT,Nat.reduceSub,Nat.reduceBEq,Nat.reduceEqDiff,Nat.reduceAdd,Nat.reduceLeDiff,reduceCtorEq,Nat.reduceMul]
end Go.Proofs.Ytlgekplmbmkcmaa
end
section
set_option linter.unusedSimpArgs false
set_option linter.unusedVariables false
namespace Go.Proofs.Ytlgekplmbmkcmaa
open Go.Fx
theorem usesZ_mk (k n : Int) (s : List UInt8) (l : List T) (q : Int) : usesZ (.mk k n s l) q = if k = 1 then (if n = q then 1 else 0) else usesLZ l (q + T.more (.mk k n s l)) := rfl
theorem usesLZ_pos {l : List T} {q : Int} : 0 < usesLZ l q ↔ ∃ t ∈ l,0 < usesZ t q := by
  induction l with
  | nil => simp [usesLZ]
  | cons t l ih =>
    have h1 := usesZ_b t q
    have h2 := usesLZ_b (fun t _ => usesZ_b t) q (l := l)
    simp only [usesLZ,List.mem_cons,exists_eq_or_imp,← ih]
    omega
theorem freL_mem {l : List T} {b : Int} (h : ∀ t ∈ l,∀ (ks : List Int) (m : Int),m ∈ fre t b ks ↔ m ∈ ks ∨ (0 ≤ m ∧ 0 < usesZ t (m + b))) : ∀ (ks : List Int) (m : Int),m ∈ freL l b ks ↔ m ∈ ks ∨ (0 ≤ m ∧ 0 < usesLZ l (m + b)) := by
  induction l with
  | nil => intro ks m; simp [freL,usesLZ]
  | cons t l ih =>
    intro ks m
    have h1 := usesZ_b t (m + b)
    have h2 := usesLZ_b (fun t _ => usesZ_b t) (m + b) (l := l)
    simp only [freL]
    rw [ih (fun u hu => h u (by simp [hu])),h t (by simp)]
    simp only [usesLZ]
    constructor
    · rintro ((h | h) | h)
      · exact .inl h
      · exact .inr ⟨h.1,by omega⟩
      · exact .inr ⟨h.1,by omega⟩
    · rintro (h | ⟨h3,h4⟩)
      · exact .inl (.inl h)
      · by_cases h5 : 0 < usesZ t (m + b)
        · exact .inl (.inr ⟨h3,h5⟩)
        · exact .inr ⟨h3,by omega⟩
theorem more_eq (k n : Int) (s : List UInt8) (l : List T) : T.more (.mk k n s l) = if k = 2 then 1 else if k = 6 then n else 0 := rfl
theorem fre_mem {t : T} : ∀ {f b : Int} {D : Nat},V t f D → 0 ≤ f → 0 ≤ b → f + b + 16 * D ≤ 1152921504606846976 → ∀ (ks : List Int) (m : Int),m ∈ fre t b ks ↔ m ∈ ks ∨ (0 ≤ m ∧ 0 < usesZ t (m + b)) := by
  induction t using T.ind with
  | h k n s l ih =>
    intro f b D hV hf hb hB ks m
    rw [V_mk] at hV
    unfold fre
    rw [usesZ_mk]
    by_cases hk : k = 1
    · rw [if_pos hk] at hV
      rw [if_pos hk,if_pos hk]
      by_cases h : n ≥ b
      · rw [if_pos h,w_id _ (by omega),List.mem_cons]
        constructor
        · rintro (h | h)
          · right; exact ⟨by omega,by rw [if_pos (by omega)]; omega⟩
          · exact .inl h
        · rintro (h | ⟨h1,h2⟩)
          · exact .inr h
          · split at h2
            · left; omega
            · omega
      · rw [if_neg h]
        constructor
        · exact fun h => .inl h
        · rintro (h | ⟨h1,h2⟩)
          · exact h
          · rw [if_neg (by omega)] at h2; omega
    · rw [if_neg hk] at hV
      rw [if_neg hk,if_neg hk]
      obtain ⟨h1,h2,h3,h4⟩ := hV
      have hb2 : (if k = 2 then w (b + 1) else if k = 6 then w (b + n) else b) = b + T.more (.mk k n s l) := by
        rw [more_eq] at h1 h2 ⊢
        by_cases g1 : k = 2
        · rw [if_pos g1,if_pos g1,w_id _ (by omega)]
        · rw [if_neg g1] at h1 h2
          rw [if_neg g1,if_neg g1]
          by_cases g2 : k = 6
          · rw [if_pos g2] at h1 h2
            rw [if_pos g2,if_pos g2,w_id _ (by omega)]
          · rw [if_neg g2,if_neg g2]; omega
      rw [hb2]
      have := freL_mem (l := l) (b := b + T.more (.mk k n s l)) (fun t ht => ih t ht (h4 t ht) (by omega) (by omega) (by omega)) ks m
      rw [this,Int.add_assoc]
theorem freeT_mem {t : T} {f : Int} (h : V t f 1000) (hf : 0 ≤ f ∧ f ≤ 1000) (m : Int) : m ∈ freeT t ↔ 0 ≤ m ∧ 0 < usesZ t m := by
  unfold freeT
  rw [refF_mem t 0 [] [] (fun _ => Iff.rfl) m,fre_mem h hf.1 (by omega) (by omega)]
  simp
theorem freeT_lt (t : T) : (freeT t).Pairwise (· < ·) := refF_lt t 0 [] (by simp)
theorem freeT_len {t : T} (h : vn t ≤ 1073741824) : (freeT t).length ≤ 1073741824 := by
  have := refF_len t 0 []
  unfold freeT
  simp only [List.length_nil] at this
  omega
theorem usesZ_hi {t : T} : ∀ {f q : Int} {D : Nat},V t f D → f ≤ q → usesZ t q = 0 := by
  induction t using T.ind with
  | h k n s l ih =>
    intro f q D hV hq
    rw [V_mk] at hV
    rw [usesZ_mk]
    by_cases hk : k = 1
    · rw [if_pos hk] at hV ⊢
      rw [if_neg (by omega)]
    · rw [if_neg hk] at hV ⊢
      obtain ⟨h1,h2,h3,h4⟩ := hV
      have hb := usesLZ_b (fun t _ => usesZ_b t) (q + T.more (.mk k n s l)) (l := l)
      by_cases h0 : 0 < usesLZ l (q + T.more (.mk k n s l))
      · obtain ⟨t,ht,h5⟩ := usesLZ_pos.1 h0
        have := ih t ht (h4 t ht) (q := q + T.more (.mk k n s l)) (by omega)
        omega
      · omega
end Go.Proofs.Ytlgekplmbmkcmaa
end
section
set_option linter.unusedSimpArgs false
set_option linter.unusedVariables false
namespace Go.Proofs.Ytlgekplmbmkcmaa
open Go.Fx
theorem may_lower {t : T} : ∀ {f g : Int} {a : Bool} {D : Nat},may t f a = true → dep t ≤ D → 0 ≤ f → 0 ≤ g → f + 8 * D ≤ 1152921504606846976 → g + 8 * D ≤ 1152921504606846976 → (∀ m,g ≤ m → usesZ t m = 0) → may t g a = true := by
  induction t using T.ind with
  | h k n s l ih =>
    intro f g a D h hd hf hg hb1 hb2 hu
    have hd' : depL l + 1 ≤ D := hd
    rw [may_iff hf (by omega)] at h
    obtain ⟨h1,h2⟩ := h
    obtain ⟨h3,h4,h5,h6⟩ := head_var h1
    by_cases hk : k = 1
    · obtain ⟨rfl,h7,h8,rfl,rfl⟩ := h3 hk
      subst hk
      have hn : n < g := by
        by_cases h9 : n < g
        · exact h9
        · have := hu n (by omega)
          rw [usesZ_mk,if_pos rfl,if_pos rfl] at this
          omega
      exact may_var h7 hn
    · rw [may_iff hg (by omega)]
      refine ⟨head_same hk rfl h1,fun j t hj => ⟨?_,(h2 j t hj).2⟩⟩
      have ht := List.mem_of_getElem? hj
      refine ih t ht (h2 j t hj).1 (D := D - 1) (by have := depL_mem ht; omega) (by omega) (by omega) (by omega) (by omega) fun m hm => ?_
      have := hu (m - T.more (.mk k n s l)) (by omega)
      rw [usesZ_mk,if_neg hk,show m - T.more (.mk k n s l) + T.more (.mk k n s l) = m by omega] at this
      exact usesLZ_zero this t ht
def mo (k n : Int) : Nat := (if k = 2 then 1 else if k = 6 then n else 0 : Int).toNat
def bZ (k n : Int) (l : List T) : List Int := if k = 1 then [] else (List.range (mo k n)).map fun i : Nat => usesLZ l ((mo k n : Int) - 1 - (i : Int))
mutual
def ofZ : T → List Int
  | .mk k n _ l => bZ k n l ++ ofZL l
def ofZL : List T → List Int
  | [] => []
  | t :: r => ofZ t ++ ofZL r
end
theorem head_len {k n : Int} {s : List UInt8} {l : List T} {f : Int} {a : Bool} (h : head (.mk k n s l) f a = true) (hk : k = 2 ∨ k = 6) : l.length = 1 := by
  have e : head (.mk k n s l) f a = headC k n s l.length f a := rfl
  rw [e] at h
  unfold headC at h
  rcases hk with rfl | rfl
  · split at h
    · simp at h
    · simp at h; omega
  · split at h
    · simp at h; omega
    · simp at h
theorem ofTL_eq {l : List T} (h : ∀ t ∈ l,ofT t = ofZ t) : ofTL l = ofZL l := by
  induction l with
  | nil => rfl
  | cons t l ih => simp only [ofTL,ofZL]; rw [h t (by simp),ih fun u hu => h u (by simp [hu])]
theorem ofT_Z {t : T} : ∀ {f : Int} {a : Bool} {D : Nat},may t f a = true → dep t ≤ D → 0 ≤ f → f + 8 * D ≤ 1099511627776 → sizeZ t ≤ 1099511627776 → ofT t = ofZ t := by
  induction t using T.ind with
  | h k n s l ih =>
    intro f a D h hd hf hb hsz
    have hd' : depL l + 1 ≤ D := hd
    have hsz' : sizeLZ l + 1 ≤ 1099511627776 := hsz
    rw [may_iff hf (by omega)] at h
    obtain ⟨h1,h2⟩ := h
    obtain ⟨h3,h4,h5,h6⟩ := head_var h1
    show useB (.mk k n s l) ++ ofTL l = bZ k n l ++ ofZL l
    rw [ofTL_eq fun t ht => by
      obtain ⟨j,hj⟩ := List.getElem?_of_mem ht
      exact ih t ht (h2 j t hj).1 (D := D - 1) (by have := depL_mem ht; omega) (by omega) (by omega) (by have := sizeLZ_mem ht; omega)]
    congr 1
    rw [← refB_eq]
    unfold refB bZ
    have hlen := head_len h1
    by_cases hk1 : k = 1
    · obtain ⟨_,_,_,_,rfl⟩ := h3 hk1
      have hr : refN (.mk k n s []) = 0 := by unfold refN; rw [if_neg (fun h => h.2 rfl)]
      rw [if_pos hk1,hr,if_neg (fun h => h.2 rfl)]; rfl
    rw [if_neg hk1]
    by_cases hk2 : k = 2
    · have hl := hlen (.inl hk2)
      obtain ⟨c,rfl⟩ : ∃ c,l = [c] := by
        match l,hl with
        | [c],_ => exact ⟨c,rfl⟩
      have hr : refN (.mk k n s [c]) = 0 := by unfold refN; rw [if_neg (fun h => by have : k = 6 := h.1; omega)]
      have hc : V c (f + T.more (.mk k n s [c])) (D - 1) := may_V (h2 0 c rfl).1 (by have := depL_mem (l := [c]) (t := c) (by simp); omega) (by omega) (by omega)
      have hs : sizeZ c ≤ 1099511627776 := by have := sizeLZ_mem (l := [c]) (t := c) (by simp); omega
      rw [hr,if_pos ⟨hk2,by show [c].length ≠ 0; simp⟩]
      subst hk2
      show [uses c 0] = [usesLZ [c] ((1 : Int) - 1 - 0)]
      rw [uses_Z hc (by omega) (by omega) (by omega)]
      show [usesZ c 0] = [usesZ c ((1 : Int) - 1 - 0) + 0]
      simp
    by_cases hk6 : k = 6
    · have hl := hlen (.inr hk6)
      obtain ⟨c,rfl⟩ : ∃ c,l = [c] := by
        match l,hl with
        | [c],_ => exact ⟨c,rfl⟩
      have hm : T.more (.mk k n s [c]) = n := by rw [more_eq,if_neg hk2,if_pos hk6]
      rw [hm] at h5 h6
      have hmo : mo k n = n.toNat := by unfold mo; rw [if_neg hk2,if_pos hk6]
      have hr : refN (.mk k n s [c]) = n.toNat := by
        unfold refN
        rw [if_pos ⟨hk6,by show [c].length ≠ 0; simp⟩]
        show (if n < 8 then n.toNat else 8) = n.toNat
        split <;> omega
      have hc : V c (f + T.more (.mk k n s [c])) (D - 1) := may_V (h2 0 c rfl).1 (by have := depL_mem (l := [c]) (t := c) (by simp); omega) (by omega) (by omega)
      have hs : sizeZ c ≤ 1099511627776 := by have := sizeLZ_mem (l := [c]) (t := c) (by simp); omega
      rw [hr,hmo,if_neg (fun h => hk2 h.1),List.nil_append]
      refine List.map_congr_left fun i hi => ?_
      have hi := List.mem_range.1 hi
      show uses c (w (w (n - 1) - (i : Int))) = usesZ c (((n.toNat : Nat) : Int) - 1 - (i : Int)) + 0
      rw [w_id (n - 1) (by omega),w_id (n - 1 - (i : Int)) (by omega),uses_Z hc (by omega) (by omega) (by omega),show ((n.toNat : Nat) : Int) - 1 - (i : Int) = n - 1 - (i : Int) by omega]
      omega
    · have hr : refN (.mk k n s l) = 0 := by unfold refN; rw [if_neg (fun h => hk6 h.1)]
      have hmo : mo k n = 0 := by unfold mo; rw [if_neg hk2,if_neg hk6]; rfl
      rw [hr,hmo,if_neg (fun h => hk2 h.1)]; rfl
end Go.Proofs.Ytlgekplmbmkcmaa
end
section
set_option linter.unusedSimpArgs false
set_option linter.unusedVariables false
set_option maxHeartbeats 4000000
set_option maxRecDepth 10000
namespace Go.Proofs.Ytlgekplmbmkcmaa
open Go.Fx
theorem sumZ_le {f : Int → Int} {B : Int} : ∀ {l : List Int},(∀ x ∈ l,0 ≤ f x ∧ f x ≤ B) → 0 ≤ sumZ f l ∧ sumZ f l ≤ l.length * B
  | [],_ => by simp [sumZ]
  | x :: l,h => by
    have h1 := h x (by simp)
    have h2 := sumZ_le (l := l) fun y hy => h y (by simp [hy])
    have hll : (((x :: l).length : Nat) : Int) * B = (l.length : Int) * B + B := by simp only [List.length_cons]; rw [show ((l.length + 1 : Nat) : Int) = (l.length : Int) + 1 by omega,Int.add_mul]; omega
    rw [sumZ_cons,hll]; omega
end Go.Proofs.Ytlgekplmbmkcmaa
end
section
set_option linter.unusedSimpArgs false
set_option linter.unusedVariables false
namespace Go.Proofs.Ytlgekplmbmkcmaa
open Go.Fx
theorem ren_closed {u : T} {E : Nat} (hu : V u 0 E) (r : Int → Int) : ren r u = u := ren_id hu fun n _ _ => by omega
theorem sput_eq {u : T} {E : Nat} (hu : V u 0 E) (b n : Int) : sput 0 u b n = if n = b then u else if n > b then var (n - 1) else var n := by
  unfold sput
  rw [Int.zero_add,ren_closed hu]
theorem ls_sput {u : T} {E : Nat} (hu : V u 0 E) {b m : Int} (hb : 0 ≤ b) (n : Int) : ls m (sput 0 u b) n = sput 0 u (b + m) n := by
  rw [sput_eq hu]
  unfold ls
  rw [sput_eq hu]
  by_cases h1 : n < m
  · rw [if_pos h1,if_neg (by omega),if_neg (by omega)]
  · rw [if_neg h1]
    by_cases h2 : n - m = b
    · rw [if_pos h2,if_pos (by omega),ren_closed hu]
    · rw [if_neg h2,if_neg (c := n = b + m) (by omega)]
      by_cases h3 : n - m > b
      · rw [if_pos h3,if_pos (by omega),ren_v,show n - m - 1 + m = n - 1 by omega]
      · rw [if_neg h3,if_neg (by omega),ren_v,show n - m + m = n by omega]
theorem usesZ_var (n q : Int) : usesZ (var n) q = if n = q then 1 else 0 := by unfold var; rw [usesZ_mk,if_pos rfl]
theorem usesLZ_map {l : List T} {F : T → T} {q r : Int} (h : ∀ t ∈ l,usesZ (F t) q = usesZ t r) : usesLZ (l.map F) q = usesLZ l r := by
  induction l with
  | nil => rfl
  | cons t l ih => simp only [List.map_cons,usesLZ]; rw [h t (by simp),ih fun u hu => h u (by simp [hu])]
theorem usesZ_sput {u : T} {E : Nat} (hu : V u 0 E) {t : T} : ∀ {f b q : Int} {D : Nat},V t f D → 0 ≤ b → 0 ≤ q → usesZ (sub (sput 0 u b) t) q = if q < b then usesZ t q else usesZ t (q + 1) := by
  induction t using T.ind with
  | h k n s l ih =>
    intro f b q D hV hb hq
    rw [V_mk] at hV
    rw [sub_mk,usesZ_mk,usesZ_mk]
    by_cases hk : k = 1
    · rw [if_pos hk] at hV
      rw [if_pos hk,if_pos hk,if_pos hk,sput_eq hu]
      by_cases h1 : n = b
      · rw [if_pos h1,usesZ_hi hu hq]
        (repeat' split) <;> omega
      · rw [if_neg h1]
        by_cases h2 : n > b
        · rw [if_pos h2,usesZ_var]
          (repeat' split) <;> omega
        · rw [if_neg h2,usesZ_var]
          (repeat' split) <;> omega
    · rw [if_neg hk] at hV
      rw [if_neg hk,if_neg hk,if_neg hk,usesZ_mk,if_neg hk]
      obtain ⟨h1,h2,h3,h4⟩ := hV
      have hm : T.more (.mk k n s (l.map (sub (ls (T.more (.mk k n s l)) (sput 0 u b))))) = T.more (.mk k n s l) := rfl
      rw [hm]
      have hF : ∀ t ∈ l,usesZ (sub (ls (T.more (.mk k n s l)) (sput 0 u b)) t) (q + T.more (.mk k n s l)) = if q < b then usesZ t (q + T.more (.mk k n s l)) else usesZ t (q + 1 + T.more (.mk k n s l)) := by
        intro t ht
        rw [sub_ext (τ := sput 0 u (b + T.more (.mk k n s l))) (h4 t ht) fun n _ _ => ls_sput hu hb n,ih t ht (h4 t ht) (by omega) (by omega)]
        by_cases h5 : q < b
        · rw [if_pos h5,if_pos (by omega)]
        · rw [if_neg h5,if_neg (by omega),show q + T.more (.mk k n s l) + 1 = q + 1 + T.more (.mk k n s l) by omega]
      by_cases h5 : q < b
      · rw [if_pos h5]
        exact usesLZ_map fun t ht => by rw [hF t ht,if_pos h5]
      · rw [if_neg h5]
        exact usesLZ_map fun t ht => by rw [hF t ht,if_neg h5]
theorem sumZL_map {g : Int → Int} {l : List T} {F : T → T} {c : T → Int} {z : Int} (h : ∀ t ∈ l,sumZ g (ofZ (F t)) = sumZ g (ofZ t) + c t * z) : sumZ g (ofZL (l.map F)) = sumZ g (ofZL l) + (l.map c).sum * z := by
  induction l with
  | nil => simp [ofZL,sumZ]
  | cons t l ih =>
    simp only [List.map_cons,ofZL,sumZ_app,List.sum_cons]
    rw [h t (by simp),ih fun u hu => h u (by simp [hu]),Int.add_mul]; omega
theorem usesLZ_sum (l : List T) (q : Int) : usesLZ l q = (l.map fun t => usesZ t q).sum := by
  induction l with
  | nil => rfl
  | cons t l ih => simp only [usesLZ,List.map_cons,List.sum_cons,ih]
theorem ofZ_var (n : Int) : ofZ (var n) = [] := by unfold var; simp [ofZ,bZ,ofZL]
theorem sum_sput {g : Int → Int} {u : T} {E : Nat} (hu : V u 0 E) {t : T} : ∀ {f b : Int} {D : Nat},V t f D → 0 ≤ b → sumZ g (ofZ (sub (sput 0 u b) t)) = sumZ g (ofZ t) + usesZ t b * sumZ g (ofZ u) := by
  induction t using T.ind with
  | h k n s l ih =>
    intro f b D hV hb
    rw [V_mk] at hV
    rw [sub_mk,usesZ_mk]
    by_cases hk : k = 1
    · rw [if_pos hk] at hV
      obtain ⟨h1,h2,rfl,rfl,h5⟩ := hV
      have hz : sumZ g (ofZ (.mk k n [] [])) = 0 := by simp [ofZ,bZ,ofZL,hk,sumZ]
      rw [if_pos hk,if_pos hk,sput_eq hu,hz]
      by_cases h1 : n = b
      · rw [if_pos h1,if_pos h1]; omega
      · rw [if_neg h1,if_neg h1]
        split
        · rw [ofZ_var]; simp [sumZ]
        · rw [ofZ_var]; simp [sumZ]
    · rw [if_neg hk] at hV
      rw [if_neg hk,if_neg hk]
      obtain ⟨h1,h2,h3,h4⟩ := hV
      have hM : T.more (.mk k n s l) = (mo k n : Int) := by
        have : (mo k n : Int) = if k = 2 then 1 else if k = 6 then n else 0 := by
          unfold mo
          rw [more_eq] at h1
          omega
        rw [this]; rfl
      rw [hM] at h4 ⊢
      have hext : ∀ t ∈ l,sub (ls (mo k n : Int) (sput 0 u b)) t = sub (sput 0 u (b + mo k n)) t := fun t ht => sub_ext (h4 t ht) fun n _ _ => ls_sput hu hb n
      have hbz : bZ k n (l.map (sub (ls (mo k n : Int) (sput 0 u b)))) = bZ k n l := by
        unfold bZ
        rw [if_neg hk,if_neg hk]
        refine List.map_congr_left fun i hi => ?_
        have hi := List.mem_range.1 hi
        exact usesLZ_map fun t ht => by
          rw [hext t ht,usesZ_sput hu (h4 t ht) (by omega) (by omega),if_pos (by omega)]
      show sumZ g (bZ k n (l.map _) ++ ofZL (l.map _)) = sumZ g (bZ k n l ++ ofZL l) + _
      rw [hbz,sumZ_app,sumZ_app,sumZL_map (c := fun t => usesZ t (b + mo k n)) (z := sumZ g (ofZ u)) fun t ht => by rw [hext t ht]; exact ih t ht (h4 t ht) (by omega),usesLZ_sum]
      omega
def leftOf (l : List Int) : List Int := (l.filter fun m => decide (m > 0)).map (· - 1)
theorem free_put {t u : T} (ht : V t 3 600) (hu : V u 0 600) : freeT (sub (sput 0 u 0) t) = leftOf (freeT t) := by
  have h1 : V t 3 1000 := V_mono ht (by omega) (by omega)
  have h2 : V (sub (sput 0 u 0) t) 2 (600 + 600) := V_sub ht (fun n h0 hn => by
    rw [sput_eq hu]
    split
    · exact V_mono hu (by omega) (by omega)
    · split
      · exact V_var (by omega) (by omega) (by omega)
      · exact V_var (by omega) (by omega) (by omega)) (by omega) (by omega)
  have hx : ∀ m,m ∈ freeT (sub (sput 0 u 0) t) ↔ 0 ≤ m ∧ 0 < usesZ t (m + 1) := by
    intro m
    unfold freeT
    rw [refF_mem _ 0 [] [] (fun _ => Iff.rfl) m,fre_mem h2 (by omega) (by omega) (by omega)]
    simp only [List.not_mem_nil,false_or,Int.add_zero]
    constructor
    · rintro ⟨h3,h4⟩
      rw [usesZ_sput hu ht (by omega) h3,if_neg (by omega)] at h4
      exact ⟨h3,h4⟩
    · rintro ⟨h3,h4⟩
      rw [usesZ_sput hu ht (by omega) h3,if_neg (by omega)]
      exact ⟨h3,h4⟩
  refine lt_ext (freeT_lt _) ?_ fun m => ?_
  · unfold leftOf
    rw [List.pairwise_map]
    exact ((freeT_lt t).filter _).imp fun h => by omega
  · rw [hx]
    unfold leftOf
    rw [List.mem_map]
    constructor
    · rintro ⟨h3,h4⟩
      refine ⟨m + 1,?_,by omega⟩
      rw [List.mem_filter,freeT_mem h1 (by omega)]
      exact ⟨⟨by omega,h4⟩,by simp; omega⟩
    · rintro ⟨x,hx,rfl⟩
      rw [List.mem_filter,freeT_mem h1 (by omega)] at hx
      obtain ⟨⟨h3,h4⟩,h5⟩ := hx
      simp only [decide_eq_true_eq] at h5
      exact ⟨by omega,by rw [show x - 1 + 1 = x by omega]; exact h4⟩
theorem leftOf_app (l : List Int) (x : Int) : leftOf (l ++ [x]) = leftOf l ++ (if x > 0 then [x - 1] else []) := by
  unfold leftOf
  rw [List.filter_append,List.map_append]
  congr 1
  by_cases h : x > 0
  · simp [h]
  · simp [h]
end Go.Proofs.Ytlgekplmbmkcmaa
end
section
set_option linter.unusedSimpArgs false
set_option linter.unusedVariables false
set_option maxHeartbeats 4000000
set_option maxRecDepth 10000
namespace Go.Proofs.Ytlgekplmbmkcmaa
open Go.Fx
structure Nums (t : T) : Prop where
  v : vn t ≤ 1073741824
  l : (ofT t).length ≤ 1048576
  f : fansW (ofT t) = sumZ fanZ (ofT t)
  d : dropsW (ofT t) = sumZ dropZ (ofT t)
  bf : 0 ≤ sumZ fanZ (ofT t) ∧ sumZ fanZ (ofT t) ≤ 1125899906842624
  bd : 0 ≤ sumZ dropZ (ofT t) ∧ sumZ dropZ (ofT t) ≤ 1048576
theorem nums_of {t : T} (h : sizeZ t ≤ 100000) : Nums t := by
  have h1 := vn_A t
  have h2 := ofT_size t
  have hr := ofT_rng t (by omega)
  have q := fan_eq hr (by omega)
  have k1 := sumZ_le (f := fanZ) (B := 1073741824) (l := ofT t) fun x hx => by have := hr x hx; unfold fanZ; split <;> omega
  have k2 := sumZ_le (f := dropZ) (B := 1) (l := ofT t) fun x hx => by unfold dropZ; split <;> omega
  exact ⟨by omega,by omega,q.1,q.2.2,by omega,by omega⟩
theorem sumZ_one (l : List Int) : sumZ (fun _ => 1) l = (l.length : Int) := by
  induction l with
  | nil => rfl
  | cons x l ih => rw [sumZ_cons,ih,List.length_cons]; omega
theorem puts_plain {t s : T} (ht : may t 3 false = true) (hs : may s 0 false = true) (dt : dep t ≤ 600) (ds : dep s ≤ 600) (zt : sizeZ t ≤ 80) (zs : sizeZ s ≤ 80) :
    sizeZ (put 0 s t 0) ≤ 10000 ∧ (∀ g : Int → Int,sumZ g (ofT (put 0 s t 0)) = sumZ g (ofT t) + uses t 0 * sumZ g (ofT s)) ∧ freeT (put 0 s t 0) = leftOf (freeT t) ∧ 0 ≤ uses t 0 ∧ uses t 0 ≤ 80 := by
  have vt : V t 3 600 := may_V ht dt (by omega) (by omega)
  have vs : V s 0 600 := may_V hs ds (by omega) (by omega)
  rw [put0 vt vs (by omega) (by omega) (p := 0) (by omega) (by omega) (by omega) 0 (by omega)]
  have hu := uses_Z vt (q := 0) (by omega) (by omega) (by omega)
  have hub := usesZ_b t 0
  have hsp := sizeZ_pos s
  have hs2 : may s 2 false = true := may_lower hs (D := 600) ds (by omega) (by omega) (by omega) (by omega) fun m hm => usesZ_hi vs (by omega)
  have hσ : ∀ n : Int,0 ≤ n → n < 3 → may (sput 0 s 0 n) 2 false = true ∧ dep (sput 0 s 0 n) ≤ 600 := by
    intro n h0 hn
    rw [sput_eq vs]
    split
    · exact ⟨hs2,ds⟩
    · split
      · exact ⟨may_var (by omega) (by omega),by unfold var; simp [dep,depL]⟩
      · exact ⟨may_var (by omega) (by omega),by unfold var; simp [dep,depL]⟩
  have mx := may_sub (g := 2) (D := 600) (E := 600) ht dt hσ (by omega) (by omega) (by omega) (by omega) (by omega)
  have dx := dep_sub (E := 600) vt (fun n h0 hn => (hσ n h0 hn).2) (by omega)
  have hsz : sizeZ (sub (sput 0 s 0) t) = sizeZ t + usesZ t 0 * (sizeZ s - 1) := by
    refine size_sub (q := 0) vt (by omega) ?_ fun n h0 hn hne => ?_
    · rw [sput_eq vs,if_pos rfl]
    · rw [sput_eq vs,if_neg hne]; split <;> rfl
  have hb2 : usesZ t 0 * (sizeZ s - 1) ≤ 80 * 80 := Int.mul_le_mul (by omega) (by omega) (by omega) (by omega)
  rw [hu]
  refine ⟨by omega,fun g => ?_,free_put vt vs,hub.1,by omega⟩
  rw [ofT_Z mx dx (by omega) (by omega) (by omega),ofT_Z ht dt (by omega) (by omega) (by omega),ofT_Z hs ds (by omega) (by omega) (by omega)]
  exact sum_sput vs vt (by omega)
theorem pLoop {l : List Int} (hl : l.length ≤ 1099511627776) (hr : ∀ x ∈ l,0 ≤ x ∧ x ≤ 1073741824) {σ : St} {q0 : Nat} (hq0 : q0 < σ.clk) (hb : σ.bs (53,q0) = some (.row 1 3 [])) (e : Env) (e7 : e 7 = .a (.p (.l (l.map encI)))) (e9 : e 9 = .a (.own (53,q0) 0 0)) (e10 : e 10 = .a (.p (.i .i64 0))) :
    wp S false (.loop F12b0) e σ (fun z e' σ' => z = .exit 0 ∧ (∀ key : Key,(key.1 = 2 ∨ key.1 = 3 ∨ key.1 = 5) → σ'.bs key = σ.bs key) ∧ (∃ d q : Nat,e' 9 = .a (.own (d,q) 0 (leftOf l).length) ∧ σ'.bs (d,q) = some (.row 1 3 ((leftOf l).map encI))) ∧ e' 2 = e 2 ∧ e' 3 = e 3 ∧ e' 5 = e 5 ∧ e' 6 = e 6 ∧ e' 8 = e 8) := by
  obtain ⟨u2,hu2⟩ : ∃ z,e 2 = z := ⟨_,rfl⟩
  obtain ⟨u3,hu3⟩ : ∃ z,e 3 = z := ⟨_,rfl⟩
  obtain ⟨u5,hu5⟩ : ∃ z,e 5 = z := ⟨_,rfl⟩
  obtain ⟨u6,hu6⟩ : ∃ z,e 6 = z := ⟨_,rfl⟩
  obtain ⟨u8,hu8⟩ : ∃ z,e 8 = z := ⟨_,rfl⟩
  rw [hu2,hu3,hu5,hu6,hu8]
  refine loop_nat l.length (fun i e τ => (∀ key : Key,(key.1 = 2 ∨ key.1 = 3 ∨ key.1 = 5) → τ.bs key = σ.bs key) ∧ e 7 = .a (.p (.l (l.map encI))) ∧ e 10 = .a (.p (.i .i64 (i : Nat))) ∧ (∃ d q : Nat,(d = 53 ∨ d = 72) ∧ e 9 = .a (.own (d,q) 0 (leftOf (l.take i)).length) ∧ τ.bs (d,q) = some (.row 1 3 ((leftOf (l.take i)).map encI)) ∧ q < τ.clk) ∧ (leftOf (l.take i)).length ≤ i ∧ e 2 = u2 ∧ e 3 = u3 ∧ e 5 = u5 ∧ e 6 = u6 ∧ e 8 = u8) (i0 := 0) (Nat.zero_le _) ⟨fun _ _ => rfl,e7,e10,⟨53,q0,.inl rfl,e9,hb,hq0⟩,Nat.le_refl _,hu2,hu3,hu5,hu6,hu8⟩ ?_ ?_
  · rintro i e τ hi ⟨hk,e7,e10,⟨d,q,hd,e9,b9,hq⟩,hll,e2,e3,e5,e6,e8⟩
    obtain ⟨x,hx⟩ : ∃ x,l[i]? = some x := ⟨_,List.getElem?_eq_getElem hi⟩
    have hx' := mapI hx
    have hxr := hr x (List.mem_of_getElem? hx)
    have hlt : ((i : Nat) : Int) < (l.length : Int) := by omega
    have hge : (0 : Int) ≤ ((i : Nat) : Int) := by omega
    have hw := wrap_succ i (by omega)
    rw [take_succI hx,leftOf_app]
    obtain ⟨D,hD⟩ : ∃ D,leftOf (l.take i) = D := ⟨_,rfl⟩
    rw [hD] at e9 b9 hll ⊢
    by_cases h1 : x > 0
    · have hbb : (D.length + 1) * 8 ≤ 140737488355328 := by omega
      have htk : List.take D.length (D.map encI) = D.map encI := List.take_of_length_le (by simp)
      have hw1 : IntKind.i64.wrap (x - 1) = x - 1 := wrap_in _ (by omega)
      have n0 : ¬ q = τ.clk := by omega
      have n1 : ¬ q = τ.clk + 1 := by omega
      simp only [F12b0,e2,e3,e5,e6,e7,e8,e9,e10,b9,hlt,hge,hw,hw1,hx',h1,htk,hbb,n0,n1,allI,Int.toNat_natCast,List.length_map,List.length_cons,List.length_nil,Nat.le_refl,Nat.zero_add,Nat.one_mul,spS,fxa,fxc,fxE,fxL,fxI,nxE,evO,evR,cellsT,ldCells,mkT,lenA,binPV,Env.init,resV,resT,frT,klT,ownT,intT,O.adds,ownA,rowsA,over,wrOk,keysT,keysA,ne_eq,if_true,if_false,ite_self,Nat.reduceLT,Nat.reduceSub,Nat.reduceBEq,Nat.reduceEqDiff,Nat.reduceAdd,Nat.reduceLeDiff,reduceCtorEq,Nat.reduceMul]
      refine ⟨fun key hkey => ?_,⟨72,τ.clk + 1,.inr rfl,by simp,by simp [encI],by omega⟩,by simp only [List.length_append,List.length_cons,List.length_nil]; omega⟩
      have a1 : ¬ key = (72,τ.clk + 1) := by rintro rfl; simp at hkey
      have a2 : ¬ key = (71,τ.clk) := by rintro rfl; simp at hkey
      have a3 : ¬ key = (d,q) := by
        rintro rfl
        rcases hd with rfl | rfl <;> simp at hkey
      simp only [a1,a2,a3,if_false]
      exact hk key hkey
    · simp only [F12b0,e2,e3,e5,e6,e7,e8,e9,e10,hlt,hge,hw,hx',h1,allI,Int.toNat_natCast,List.length_map,List.length_cons,List.length_nil,List.append_nil,spS,fxa,fxc,fxE,fxL,fxI,nxE,evO,evR,cellsT,ldCells,mkT,lenA,binPV,Env.init,resV,resT,frT,klT,ownT,intT,O.adds,ownA,rowsA,over,wrOk,keysT,keysA,ne_eq,if_true,if_false,ite_self,Nat.reduceLT,Nat.reduceSub,Nat.reduceBEq,Nat.reduceEqDiff,Nat.reduceAdd,Nat.reduceLeDiff,reduceCtorEq,Nat.reduceMul]
      exact ⟨hk,⟨d,q,hd,rfl,b9,hq⟩,by omega⟩
  · rintro e τ ⟨hk,e7,e10,⟨d,q,hd,e9,b9,hq⟩,hll,e2,e3,e5,e6,e8⟩
    have hlt : ¬ ((l.length : Nat) : Int) < (l.length : Int) := by omega
    rw [List.take_length] at e9 b9
    simp only [F12b0,e2,e3,e5,e6,e7,e8,e9,e10,hlt,List.length_map,spS,fxa,fxc,fxE,fxL,fxI,nxE,evO,evR,cellsT,ldCells,mkT,lenA,binPV,Env.init,resV,resT,frT,klT,ownT,intT,O.adds,ownA,rowsA,over,wrOk,keysT,keysA,ne_eq,if_true,if_false,ite_self,Nat.reduceLT,Nat.reduceSub,Nat.reduceBEq,Nat.reduceEqDiff,Nat.reduceAdd,Nat.reduceLeDiff,reduceCtorEq,Nat.reduceMul]
    exact ⟨hk,d,q,rfl,b9⟩
theorem usePuts_law {t s : T} (ht : T.Ok t) (hs : T.Ok s) : eP S 12 [.g (enc t),.g (enc s)] = some (.a (.b true)) := by
  have f0 := fixed11_ok
  have a1 := small_ok ht 80
  have a2 := small_ok hs 80
  have m1 := May_ok ht 3
  have m2 := May_ok hs 0
  have ea := enc_eq t
  have eb := enc_eq s
  refine x_fn (orcS _) (fc := F12) rfl rfl ?_
  cases hs1 : small t 80 with
  | false =>
    rw [hs1,ea] at a1
    rw [ea,eb]
    simp only [F12,f0,a1,spS,fxa,fxc,fxE,fxL,fxI,nxE,evO,evR,cellsT,ldCells,mkT,lenA,binPV,Env.init,resV,resT,frT,klT,ownT,intT,O.adds,ownA,rowsA,over,wrOk,keysT,keysA,ne_eq,if_true,if_false,ite_self,Nat.reduceLT,Nat.reduceSub,Nat.reduceBEq,Nat.reduceEqDiff,Nat.reduceAdd,Nat.reduceLeDiff,reduceCtorEq,Nat.reduceMul]
  | true =>
  obtain ⟨dt,zt⟩ := small_all (by omega) hs1
  have d1 := Depth_ok ht (by omega)
  rw [hs1] at a1
  by_cases hd1 : ((dep t : Nat) : Int) > 200
  · rw [ea] at a1 d1 ⊢
    rw [eb]
    simp only [F12,f0,a1,d1,hd1,spS,fxa,fxc,fxE,fxL,fxI,nxE,evO,evR,cellsT,ldCells,mkT,lenA,binPV,Env.init,resV,resT,frT,klT,ownT,intT,O.adds,ownA,rowsA,over,wrOk,keysT,keysA,ne_eq,if_true,if_false,ite_self,Nat.reduceLT,Nat.reduceSub,Nat.reduceBEq,Nat.reduceEqDiff,Nat.reduceAdd,Nat.reduceLeDiff,reduceCtorEq,Nat.reduceMul]
  cases hs2 : small s 80 with
  | false =>
    rw [hs2,eb] at a2
    rw [ea] at a1 d1 ⊢
    rw [eb]
    simp only [F12,f0,a1,a2,d1,hd1,spS,fxa,fxc,fxE,fxL,fxI,nxE,evO,evR,cellsT,ldCells,mkT,lenA,binPV,Env.init,resV,resT,frT,klT,ownT,intT,O.adds,ownA,rowsA,over,wrOk,keysT,keysA,ne_eq,if_true,if_false,ite_self,Nat.reduceLT,Nat.reduceSub,Nat.reduceBEq,Nat.reduceEqDiff,Nat.reduceAdd,Nat.reduceLeDiff,reduceCtorEq,Nat.reduceMul]
  | true =>
  obtain ⟨ds,zs⟩ := small_all (by omega) hs2
  have d2 := Depth_ok hs (by omega)
  rw [hs2] at a2
  by_cases hd2 : ((dep s : Nat) : Int) > 200
  · rw [ea] at a1 d1 ⊢
    rw [eb] at a2 d2 ⊢
    simp only [F12,f0,a1,a2,d1,d2,hd1,hd2,spS,fxa,fxc,fxE,fxL,fxI,nxE,evO,evR,cellsT,ldCells,mkT,lenA,binPV,Env.init,resV,resT,frT,klT,ownT,intT,O.adds,ownA,rowsA,over,wrOk,keysT,keysA,ne_eq,if_true,if_false,ite_self,Nat.reduceLT,Nat.reduceSub,Nat.reduceBEq,Nat.reduceEqDiff,Nat.reduceAdd,Nat.reduceLeDiff,reduceCtorEq,Nat.reduceMul]
  cases hm1 : may t 3 false with
  | false =>
    rw [hm1] at m1
    rw [ea] at a1 d1 m1 ⊢
    rw [eb] at a2 d2 ⊢
    simp only [F12,f0,a1,a2,d1,d2,hd1,hd2,m1,spS,fxa,fxc,fxE,fxL,fxI,nxE,evO,evR,cellsT,ldCells,mkT,lenA,binPV,Env.init,resV,resT,frT,klT,ownT,intT,O.adds,ownA,rowsA,over,wrOk,keysT,keysA,ne_eq,if_true,if_false,ite_self,Nat.reduceLT,Nat.reduceSub,Nat.reduceBEq,Nat.reduceEqDiff,Nat.reduceAdd,Nat.reduceLeDiff,reduceCtorEq,Nat.reduceMul]
  | true =>
  cases hm2 : may s 0 false with
  | false =>
    rw [hm1] at m1
    rw [hm2] at m2
    rw [ea] at a1 d1 m1 ⊢
    rw [eb] at a2 d2 m2 ⊢
    simp only [F12,f0,a1,a2,d1,d2,hd1,hd2,m1,m2,spS,fxa,fxc,fxE,fxL,fxI,nxE,evO,evR,cellsT,ldCells,mkT,lenA,binPV,Env.init,resV,resT,frT,klT,ownT,intT,O.adds,ownA,rowsA,over,wrOk,keysT,keysA,ne_eq,if_true,if_false,ite_self,Nat.reduceLT,Nat.reduceSub,Nat.reduceBEq,Nat.reduceEqDiff,Nat.reduceAdd,Nat.reduceLeDiff,reduceCtorEq,Nat.reduceMul]
  | true =>
  rw [hm1] at m1
  rw [hm2] at m2
  obtain ⟨zx,hg,hfr,hu0,hu1⟩ := puts_plain hm1 hm2 dt ds (by omega) (by omega)
  have hx := Ok_put 0 hs ht 0
  have c1 := put_ok ht hs 0
  have c2 := uses_ok ht 0
  have Nt := nums_of (t := t) (by omega)
  have Ns := nums_of (t := s) (by omega)
  have g1 := hg fanZ
  have g2 := hg dropZ
  have g3 := hg fun _ => 1
  rw [sumZ_one,sumZ_one,sumZ_one] at g3
  obtain ⟨x,hxx⟩ : ∃ x,put 0 s t 0 = x := ⟨_,rfl⟩
  rw [hxx] at zx hfr hx c1 g1 g2 g3
  have Nx := nums_of (t := x) (by omega)
  have hfl := freeT_len Nt.v
  have hfr2 : ∀ m ∈ freeT t,0 ≤ m ∧ m ≤ 1073741824 := fun m hm => by
    have hV : V t 3 1000 := may_V hm1 (by omega) (by omega) (by omega)
    rw [freeT_mem hV (by omega)] at hm
    refine ⟨hm.1,?_⟩
    by_cases h : m ≤ 1073741824
    · exact h
    · have := usesZ_hi hV (q := m) (by omega); omega
  have b1 := Free_ok ht Nt.v
  have b2 := Free_ok hx Nx.v
  have b3 := Fans_ok hx
  have b4 := Fans_ok ht
  have b5 := Fans_ok hs
  have b6 := Drops_ok hx
  have b7 := Drops_ok ht
  have b8 := Drops_ok hs
  have b9 := Of_ok hx (by have := Nx.l; omega)
  have b10 := Of_ok ht (by have := Nt.l; omega)
  have b11 := Of_ok hs (by have := Ns.l; omega)
  rw [hfr] at b2
  have hfl2 : (leftOf (freeT t)).length ≤ (freeT t).length := by
    unfold leftOf
    rw [List.length_map]
    exact List.length_filter_le _ _
  obtain ⟨f,hf⟩ : ∃ f,freeT t = f := ⟨_,rfl⟩
  rw [hf] at b1 b2 hfl hfl2 hfr2
  have b12 := Ints_ok (l := leftOf f) (m := leftOf f) (by omega)
  rw [decide_eq_true rfl] at b12
  obtain ⟨u,hu⟩ : ∃ u,uses t 0 = u := ⟨_,rfl⟩
  rw [hu] at c2 hu0 hu1 g1 g2 g3
  rw [Nx.f,g1] at b3
  rw [Nt.f] at b4
  rw [Ns.f] at b5
  rw [Nx.d,g2] at b6
  rw [Nt.d] at b7
  rw [Ns.d] at b8
  have kf := Nt.bf
  have kd := Nt.bd
  have kl := Nt.l
  have kf2 := Ns.bf
  have kd2 := Ns.bd
  have kl2 := Ns.l
  obtain ⟨F,hF⟩ : ∃ z,sumZ fanZ (ofT t) = z := ⟨_,rfl⟩
  obtain ⟨D,hD⟩ : ∃ z,sumZ dropZ (ofT t) = z := ⟨_,rfl⟩
  obtain ⟨F2,hF2⟩ : ∃ z,sumZ fanZ (ofT s) = z := ⟨_,rfl⟩
  obtain ⟨D2,hD2⟩ : ∃ z,sumZ dropZ (ofT s) = z := ⟨_,rfl⟩
  rw [hF,hF2] at b3
  rw [hF] at b4 kf
  rw [hF2] at b5 kf2
  rw [hD,hD2] at b6
  rw [hD] at b7 kd
  rw [hD2] at b8 kd2
  have mul_b : ∀ {z B : Int},0 ≤ z → z ≤ B → 0 ≤ u * z ∧ u * z ≤ 80 * B := fun h0 h1 => ⟨Int.mul_nonneg hu0 h0,Int.mul_le_mul hu1 h1 h0 (by omega)⟩
  have p1 := mul_b kf2.1 kf2.2
  have p2 := mul_b kd2.1 kd2.2
  have p3 := mul_b (z := ((ofT s).length : Int)) (B := 1048576) (by omega) (by omega)
  have w1 : IntKind.i64.wrap (u * F2) = u * F2 := wrap_in _ (by omega)
  have w2 : IntKind.i64.wrap (F + u * F2) = F + u * F2 := wrap_in _ (by omega)
  have w3 : IntKind.i64.wrap (u * D2) = u * D2 := wrap_in _ (by omega)
  have w4 : IntKind.i64.wrap (D + u * D2) = D + u * D2 := wrap_in _ (by omega)
  have w5 : IntKind.i64.wrap (u * ((ofT s).length : Int)) = u * ((ofT s).length : Int) := wrap_in _ (by omega)
  have w6 : IntKind.i64.wrap (((ofT t).length : Int) + u * ((ofT s).length : Int)) = ((ofT x).length : Int) := by rw [wrap_in _ (by omega)]; exact g3.symm
  have ex := enc_eq x
  rw [ea,eb,ex] at c1
  rw [ea] at a1 d1 m1 c2 b1 b4 b7 b10 ⊢
  rw [eb] at a2 d2 m2 b5 b8 b11 ⊢
  rw [ex] at b2 b3 b6 b9
  simp only [F12,f0,a1,a2,d1,d2,hd1,hd2,m1,m2,c1,c2,b1,b2,spS,fxa,fxc,fxE,fxL,fxI,nxE,evO,evR,cellsT,ldCells,mkT,lenA,binPV,Env.init,resV,resT,frT,klT,ownT,intT,O.adds,ownA,rowsA,over,wrOk,keysT,keysA,ne_eq,if_true,if_false,ite_self,Nat.reduceLT,Nat.reduceSub,Nat.reduceBEq,Nat.reduceEqDiff,Nat.reduceAdd,Nat.reduceLeDiff,reduceCtorEq,Nat.reduceMul]
  refine Go.Fx.wp_mono (pLoop (l := f) (by omega) hfr2 (q0 := 3) ?_ ?_ _ ?_ ?_ ?_) ?_
  · simp only [fxa,fxc,fxE,fxL,fxI,nxE,evO,evR,cellsT,ldCells,mkT,lenA,binPV,Env.init,resV,resT,frT,klT,ownT,intT,O.adds,ownA,rowsA,over,wrOk,keysT,keysA,ne_eq,if_true,if_false,ite_self,Nat.reduceLT,Nat.reduceSub,Nat.reduceBEq,Nat.reduceEqDiff,Nat.reduceAdd,Nat.reduceLeDiff,reduceCtorEq,Nat.reduceMul]
  · simp only [fxa,fxc,fxE,fxL,fxI,nxE,evO,evR,cellsT,ldCells,mkT,lenA,binPV,Env.init,resV,resT,frT,klT,ownT,intT,O.adds,ownA,rowsA,over,wrOk,keysT,keysA,ne_eq,if_true,if_false,ite_self,Nat.reduceLT,Nat.reduceSub,Nat.reduceBEq,Nat.reduceEqDiff,Nat.reduceAdd,Nat.reduceLeDiff,reduceCtorEq,Nat.reduceMul]
  · simp only [fxa,fxc,fxE,fxL,fxI,nxE,evO,evR,cellsT,ldCells,mkT,lenA,binPV,Env.init,resV,resT,frT,klT,ownT,intT,O.adds,ownA,rowsA,over,wrOk,keysT,keysA,ne_eq,if_true,if_false,ite_self,Nat.reduceLT,Nat.reduceSub,Nat.reduceBEq,Nat.reduceEqDiff,Nat.reduceAdd,Nat.reduceLeDiff,reduceCtorEq,Nat.reduceMul]
  · simp only [fxa,fxc,fxE,fxL,fxI,nxE,evO,evR,cellsT,ldCells,mkT,lenA,binPV,Env.init,resV,resT,frT,klT,ownT,intT,O.adds,ownA,rowsA,over,wrOk,keysT,keysA,ne_eq,if_true,if_false,ite_self,Nat.reduceLT,Nat.reduceSub,Nat.reduceBEq,Nat.reduceEqDiff,Nat.reduceAdd,Nat.reduceLeDiff,reduceCtorEq,Nat.reduceMul]
  · simp only [fxa,fxc,fxE,fxL,fxI,nxE,evO,evR,cellsT,ldCells,mkT,lenA,binPV,Env.init,resV,resT,frT,klT,ownT,intT,O.adds,ownA,rowsA,over,wrOk,keysT,keysA,ne_eq,if_true,if_false,ite_self,Nat.reduceLT,Nat.reduceSub,Nat.reduceBEq,Nat.reduceEqDiff,Nat.reduceAdd,Nat.reduceLeDiff,reduceCtorEq,Nat.reduceMul]
  rintro z e' σ' ⟨rfl,hk,⟨d,q,e9,r9⟩,e2,e3,e5,e6,e8⟩
  have k2 := hk (2,0) (by simp)
  have k3 := hk (3,1) (by simp)
  have k5 := hk (5,2) (by simp)
  have tk : List.take (leftOf f).length ((leftOf f).map encI) = (leftOf f).map encI := List.take_of_length_le (by simp)
  simp only [fxa,fxc,fxE,fxL,fxI,nxE,evO,evR,cellsT,ldCells,mkT,lenA,binPV,Env.init,resV,resT,frT,klT,ownT,intT,O.adds,ownA,rowsA,over,wrOk,keysT,keysA,ne_eq,if_true,if_false,ite_self,Nat.reduceLT,Nat.reduceSub,Nat.reduceBEq,Nat.reduceEqDiff,Nat.reduceAdd,Nat.reduceLeDiff,reduceCtorEq,Nat.reduceMul] at k2 k3 k5 e2 e3 e5 e6 e8
  simp only [e2,e3,e5,e6,e8,e9,k2,k3,k5,r9,tk,b3,b4,b5,b6,b7,b8,b9,b10,b11,b12,w1,w2,w3,w4,w5,w6,List.length_map,Nat.le_refl,Nat.zero_add,List.drop_zero,spS,fxa,fxc,fxE,fxL,fxI,nxE,evO,evR,cellsT,ldCells,mkT,lenA,binPV,Env.init,resV,resT,frT,klT,ownT,intT,O.adds,ownA,rowsA,over,wrOk,keysT,keysA,ne_eq,if_true,if_false,ite_self,Nat.reduceLT,Nat.reduceSub,Nat.reduceBEq,Nat.reduceEqDiff,Nat.reduceAdd,Nat.reduceLeDiff,reduceCtorEq,Nat.reduceMul]
end Go.Proofs.Ytlgekplmbmkcmaa
end
section
set_option linter.unusedSimpArgs false
set_option linter.unusedVariables false
namespace Go.Proofs.Ytlgekplmbmkcmaa
open Go.Fx
theorem cells24 : Try.prog.cellsOf 24 = 4 := by kernel_rfl
theorem bytes24 : Try.prog.bytesOf 24 = 56 := by kernel_rfl
theorem cells3 : Try.prog.cellsOf 3 = 1 := by kernel_rfl
theorem cells9 : Try.prog.cellsOf 9 = 1 := by kernel_rfl
theorem cells22 : Try.prog.cellsOf 22 = 1 := by kernel_rfl
theorem len4 {α : Type} {l : List α} (h : l.length = 4) : ∃ a b c d,l = [a,b,c,d] := by
  match l,h with
  | [a,b,c,d],_ => exact ⟨a,b,c,d,rfl⟩
theorem ct_int {n : Nat} {qs : List PV} (h : CT Try.prog n 3 qs) : ∃ i,qs = [.i .i64 i] ∧ (Lit.int .i64 i).wf = true := by
  cases n with
  | zero => exact h.elim
  | succ n => simp only [CT,Try.underlying3] at h; exact h
theorem ct_term : ∀ {n : Nat} {qs : List PV},CT Try.prog n 24 qs → ∃ t,T.Ok t ∧ qs = enc t := by
  intro n
  induction n using Nat.strongRecOn with
  | _ n ih =>
    intro qs h
    cases n with
    | zero => exact h.elim
    | succ n =>
      simp only [CT,Try.underlying24,cells24] at h
      obtain ⟨hl,hf⟩ := h
      obtain ⟨q0,q1,q2,q3,rfl⟩ := len4 hl
      · have f0 : CT Try.prog n 3 (List.take (Try.prog.cellsOf 3) [q0,q1,q2,q3]) := hf _ (Array.mem_of_getElem? (i := 0) rfl)
        have f1 : CT Try.prog n 3 (List.take (Try.prog.cellsOf 3) [q1,q2,q3]) := hf _ (Array.mem_of_getElem? (i := 1) rfl)
        have f2 : CT Try.prog n 9 (List.take (Try.prog.cellsOf 9) [q2,q3]) := hf _ (Array.mem_of_getElem? (i := 2) rfl)
        have f3 : CT Try.prog n 22 (List.take (Try.prog.cellsOf 22) [q3]) := hf _ (Array.mem_of_getElem? (i := 3) rfl)
        rw [cells3] at f0 f1
        rw [cells9] at f2
        rw [cells22] at f3
        have f0 : CT Try.prog n 3 [q0] := f0
        have f1 : CT Try.prog n 3 [q1] := f1
        have f2 : CT Try.prog n 9 [q2] := f2
        have f3 : CT Try.prog n 22 [q3] := f3
        obtain ⟨k,e0,hk⟩ := ct_int f0
        obtain ⟨m,e1,hm⟩ := ct_int f1
        cases n with
        | zero => exact f0.elim
        | succ n =>
          simp only [CT,Try.underlying9] at f2
          simp only [CT,Try.underlying22,bytes24] at f3
          obtain ⟨s,e2,hs⟩ := f2
          obtain ⟨rows,e3,hr,hrow⟩ := f3
          simp only [List.cons.injEq,and_true] at e0 e1 e2 e3
          subst e0 e1 e2 e3
          have : ∀ (rows : List (List PV)),(∀ r,r ∈ rows → r.length = Try.prog.cellsOf 24 ∧ CT Try.prog n 24 r) → ∃ l : List T,rows = l.map enc ∧ ∀ t,t ∈ l → T.Ok t := by
            intro rows
            induction rows with
            | nil => intro _; exact ⟨[],rfl,fun t ht => by simp at ht⟩
            | cons r rows ihr =>
              intro h
              obtain ⟨t,ht,rfl⟩ := ih n (by omega) (h r (by simp)).2
              obtain ⟨l,rfl,hl⟩ := ihr fun r hr => h r (by simp [hr])
              exact ⟨t :: l,rfl,fun u hu => by rcases List.mem_cons.1 hu with rfl | hu; exact ht; exact hl u hu⟩
          obtain ⟨l,rfl,hall⟩ := this rows hrow
          exact ⟨.mk k m s l,.mk k m s l hk hm hs (by simpa using hr) hall,by simp [enc,encL_map]⟩
theorem agg24 : aggT Try.prog 24 = true := by simp only [aggT,Try.underlying24,aggD]
theorem at_term {p : PT} (h : AT Try.prog 24 p ∧ p.isG = aggT Try.prog 24) : ∃ t,T.Ok t ∧ p = .g (enc t) := by
  obtain ⟨h1,h2⟩ := h
  rw [agg24] at h2
  cases p with
  | g qs => obtain ⟨n,hn⟩ := h1; obtain ⟨t,ht,rfl⟩ := ct_term hn; exact ⟨t,ht,rfl⟩
  | _ => simp [PT.isG] at h2
def lawTs : List TypeId := [3,9,22,24,25]
theorem lawTsOk : closedTs Try.prog lawTs = true := by kernel_rfl
theorem own : ownKnob Try.prog.godebug = none := by kernel_rfl
theorem laidOut : laidOutB Try.prog = true := by kernel_rfl
end Go.Proofs.Ytlgekplmbmkcmaa
end
namespace Go.Proofs.Ytlgekplmbmkcmaa.usePuts
open Go.Fx Go.ChangeShapes Go.WideShapes Go.ChangeAt Go.RowKit
theorem law (ps : List PT) (h : F2 (fun t p => AT Try.checked.prog t p ∧ p.isG = aggT Try.checked.prog t) Try.f12.params.toList ps) : eP S 12 ps = some (.a (.b true)) := by
  have h' : F2 (fun t p => AT Try.prog t p ∧ p.isG = aggT Try.prog t) [24,24] ps := by rw [Try.params12] at h; exact h
  obtain _ | ⟨h1,r1⟩ := h'
  obtain _ | ⟨h2,r2⟩ := r1
  obtain _ | _ := r2
  obtain ⟨a1,k1,rfl⟩ := at_term h1
  obtain ⟨a2,k2,rfl⟩ := at_term h2
  exact usePuts_law k1 k2
set_option maxRecDepth 100000 in
theorem lifted (os : Os) (started : os.Started) (H : Type) (enc : TypeId × Value → H) :
    ReturnsInHanded {} Try.checked os 12 .any (Rows.usePutsSpec.pre6 enc Try.prog Try.f12 Rows.usePutsRow.domain false) (Rows.usePutsSpec.post enc Try.prog Try.f12 false true false false) := by
  refine row_ok (C := Try.checked) (eqs := []) (S := S) (ts := lawTs) (tb := 4) own started (by kernel_rfl) Try.func12 laidOut
    (ChangeSpec.witness6 (enc := enc) (C := Try.checked) false ⟨#[],#[.agg #[.int .i64 0,.int .i64 0,.string ByteArray.empty,.slice none 0 0],.agg #[.int .i64 0,.int .i64 0,.string ByteArray.empty,.slice none 0 0]],[]⟩ 8 (by kernel_rfl) (by kernel_rfl) (by kernel_rfl) (by kernel_rfl))
    lawTsOk (by kernel_rfl) rfl Try.underlying4 rfl ?_ seatOk law
  intro ds hd
  match ds,hd with
  | [d1,d2],_ => rfl
theorem over : Rows.usePutsRow.holds Try.pinned (OpenSpec.ofChange Rows.usePutsSpec) :=
  OpenClaim.holds_of_wide 12 Try.f12 rfl rfl rfl rfl rfl rfl rfl ⟨rfl,rfl,rfl,rfl,rfl⟩ rfl rfl rfl rfl rfl (by kernel_rfl) Try.func12 (by kernel_rfl)
    (of_decide_eq_true (by kernel_rfl)) (by unfold Func.isWrapper; first | (rw [if_pos (by decide +kernel)]; kernel_rfl) | (rw [if_neg (by decide +kernel)]; exact ⟨rfl,rfl⟩))
    (fun os started H enc _ => lifted os started H enc)
theorem proved : Rows.UsePutsSaid := over
#print axioms proved
end Go.Proofs.Ytlgekplmbmkcmaa.usePuts
