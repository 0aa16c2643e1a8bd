/- Part 4 of what is proved for the law UseTells: it returns true,whatever the input. No condition. -/
import Derived.Test.YtlgekplmbmkcmaaChecked
import Derived.Test.YtlgekplmbmkcmaaRows
import Derived.Test.YtlgekplmbmkcmaaPUseTellsc
section
set_option linter.unusedSimpArgs false
set_option linter.unusedVariables false
namespace Go.Proofs.Ytlgekplmbmkcmaa
open Go.Fx
mutual
def few : T → Int → Int → Int
  | .mk k n s l,left,deep => if left < 1 then -1 else if deep < 1 then -1 else fewL l (w (left - 1)) (w (deep - 1))
def fewL : List T → Int → Int → Int
  | [],left,_ => left
  | t :: r,left,deep => if few t left deep < 0 then -1 else fewL r (few t left deep) deep
end
theorem loop49 (t : T) (d : Int) (hl : t.l.length * 56 ≤ reachBytes) (Q : Ex → Env → St → Prop) :
    ∀ (rem : List T) (i : Nat) (a : Int) (e : Env) (σ : St),t.l.drop i = rem → i + rem.length = t.l.length → (∀ u,u ∈ rem → ∀ x y,eP S 49 [.g (enc u),.a (.i .i64 x),.a (.i .i64 y)] = some (.a (.i .i64 (few u x y)))) →
      e 1 = .a (.p (.i .i64 a)) → e 2 = .a (.p (.i .i64 d)) → e 3 = .a (.ptr (3,0) 0 0) → e 7 = .a (.p (.i .i64 (i : Nat))) → σ.bs (3,0) = some (.var [.p (.i .i64 t.k),.p (.i .i64 t.n),.p (.s t.s),.p (.l (t.l.map enc))]) →
      (∀ e',e' 1 = .a (.p (.i .i64 (fewL rem a (w (d - 1))))) → Q (.exit 0) e' σ) → (fewL rem a (w (d - 1)) = -1 → ∀ e',e' 6 = .a (.p (.i .i64 (-1))) → Q .ret e' σ) → wp S false (.loop F49b0) e σ Q := by
  intro rem
  induction rem with
  | nil =>
    intro i a e σ hd hi hu e1 e2 e3 e7 h3 hQ hR
    have hlt : ¬ ((i : Int) < (t.l.length : Int)) := by simp at hi; omega
    rw [x_loop,F49b0]
    simp only [e1,e2,e3,e7,h3,hlt,x_seq,x_reg,x_skip,x_exit,x_ret,x_block,x_if,wpC_t,wpC_f,wpI_cons,wpI_nil,wpX_some,evI_any,evI_rd,evI_ad,evI_g,evG_u,evG_b,evG_tt,evG_ff,evG_tf,evG_ft,evO,evR,ev_t,ev_c,ev_f,putD_some,putD_none,put_at,cellsT,ldCells,mkT,lenA,binPV,add_bs,add_clk,add_ls,put_bs,put_clk,put_ls,kill_bs,kill_clk,kill_ls,empty_clk,empty_bs,Env.init,seqQ_norm,seqQ_exit,seqQ_ret,blkQ_norm,blkQ_exit,blkQ_ret,loopQ_norm,loopQ_exit,loopQ_ret,retP_ret,retP_norm,retE_ret,retE_norm,retS_ret,retS_norm,wpO_some,frA_fn,klA_p,klA_nil,klA_own,resVs,resV,resT,Option.bind_some,Option.bind_none,Option.map_some,List.getD_cons_zero,List.getD_cons_succ,List.getD_nil,List.length_cons,List.length_nil,List.length_map,List.map_cons,List.map_nil,List.drop_zero,List.drop_succ_cons,List.take_succ_cons,List.take_zero,List.drop_nil,List.take_nil,Nat.reduceEqDiff,Nat.reduceAdd,Nat.reduceLeDiff,Nat.zero_add,Nat.add_zero,Prod.mk.injEq,and_true,true_and,and_false,false_and,and_self,if_true,if_false,ite_true,ite_false,Bool.not_true,Bool.not_false,Bool.not_eq_true',reduceCtorEq,decide_true,decide_false,frTs,frT,frL_p,spS,ofPT_a,ofPT_g,ofPT_t,flat_i,flat_b,flat_s,flat_l,flat_g,flatp_i,flatp_b,flatp_s,flatp_l,klTs,klT,Bool.and_false,Bool.false_and,frL,frA_p,frA_nil,frA_own,ownT,intT,Bool.or_true,Bool.true_or,Bool.false_eq_true,frL_p,klL_p,ownT_p,O.adds,List.all_cons,List.all_nil,List.any_cons,List.any_nil,ownA,evO.bslRows,List.replicate_succ,List.replicate_zero,List.set_cons_zero,rowsA,over,List.cons_append,List.nil_append,List.append_nil,fillA,Bool.and_self,Bool.and_true,Bool.true_and,Bool.or_self,Bool.or_false,Bool.false_or,Nat.reduceMul,Nat.one_mul,Nat.lt_add_one,klL,Nat.le_refl,ite_self,Nat.reduceBEq]
    exact hQ _ (by simp only [e1,fewL,x_seq,x_reg,x_skip,x_exit,x_ret,x_block,x_if,wpC_t,wpC_f,wpI_cons,wpI_nil,wpX_some,evI_any,evI_rd,evI_ad,evI_g,evG_u,evG_b,evG_tt,evG_ff,evG_tf,evG_ft,evO,evR,ev_t,ev_c,ev_f,putD_some,putD_none,put_at,cellsT,ldCells,mkT,lenA,binPV,add_bs,add_clk,add_ls,put_bs,put_clk,put_ls,kill_bs,kill_clk,kill_ls,empty_clk,empty_bs,Env.init,seqQ_norm,seqQ_exit,seqQ_ret,blkQ_norm,blkQ_exit,blkQ_ret,loopQ_norm,loopQ_exit,loopQ_ret,retP_ret,retP_norm,retE_ret,retE_norm,retS_ret,retS_norm,wpO_some,frA_fn,klA_p,klA_nil,klA_own,resVs,resV,resT,Option.bind_some,Option.bind_none,Option.map_some,List.getD_cons_zero,List.getD_cons_succ,List.getD_nil,List.length_cons,List.length_nil,List.length_map,List.map_cons,List.map_nil,List.drop_zero,List.drop_succ_cons,List.take_succ_cons,List.take_zero,List.drop_nil,List.take_nil,Nat.reduceEqDiff,Nat.reduceAdd,Nat.reduceLeDiff,Nat.zero_add,Nat.add_zero,Prod.mk.injEq,and_true,true_and,and_false,false_and,and_self,if_true,if_false,ite_true,ite_false,Bool.not_true,Bool.not_false,Bool.not_eq_true',reduceCtorEq,decide_true,decide_false,frTs,frT,frL_p,spS,ofPT_a,ofPT_g,ofPT_t,flat_i,flat_b,flat_s,flat_l,flat_g,flatp_i,flatp_b,flatp_s,flatp_l,klTs,klT,Bool.and_false,Bool.false_and,frL,frA_p,frA_nil,frA_own,ownT,intT,Bool.or_true,Bool.true_or,Bool.false_eq_true,frL_p,klL_p,ownT_p,O.adds,List.all_cons,List.all_nil,List.any_cons,List.any_nil,ownA,evO.bslRows,List.replicate_succ,List.replicate_zero,List.set_cons_zero,rowsA,over,List.cons_append,List.nil_append,List.append_nil,fillA,Bool.and_self,Bool.and_true,Bool.true_and,Bool.or_self,Bool.or_false,Bool.false_or,Nat.reduceMul,Nat.one_mul,Nat.lt_add_one,klL,Nat.le_refl,ite_self,Nat.reduceBEq])
  | cons x rem ih =>
    intro i a e σ hd hi hu e1 e2 e3 e7 h3 hQ hR
    simp only [List.length_cons] at hi
    have hlt : ((i : Int) < (t.l.length : Int)) := by omega
    have h0 : (0 : Int) ≤ (i : Int) := by omega
    have hx : t.l[i]? = some x := by rw [← List.head?_drop,hd]; rfl
    have hx' : (t.l.map enc)[i]? = some (enc x) := by simp [hx]
    have hux := hu x (by simp) a (w (d - 1))
    have hlb : t.l.length < 9223372036854775807 := by simp only [reachBytes] at hl; omega
    rw [x_loop,F49b0]
    simp only [e1,e2,e3,e7,h3,hlt,h0,Int.toNat_natCast,hx',enc_len,enc_all,enc_take,enc_takep,hux,x_seq,x_reg,x_skip,x_exit,x_ret,x_block,x_if,wpC_t,wpC_f,wpI_cons,wpI_nil,wpX_some,evI_any,evI_rd,evI_ad,evI_g,evG_u,evG_b,evG_tt,evG_ff,evG_tf,evG_ft,evO,evR,ev_t,ev_c,ev_f,putD_some,putD_none,put_at,cellsT,ldCells,mkT,lenA,binPV,add_bs,add_clk,add_ls,put_bs,put_clk,put_ls,kill_bs,kill_clk,kill_ls,empty_clk,empty_bs,Env.init,seqQ_norm,seqQ_exit,seqQ_ret,blkQ_norm,blkQ_exit,blkQ_ret,loopQ_norm,loopQ_exit,loopQ_ret,retP_ret,retP_norm,retE_ret,retE_norm,retS_ret,retS_norm,wpO_some,frA_fn,klA_p,klA_nil,klA_own,resVs,resV,resT,Option.bind_some,Option.bind_none,Option.map_some,List.getD_cons_zero,List.getD_cons_succ,List.getD_nil,List.length_cons,List.length_nil,List.length_map,List.map_cons,List.map_nil,List.drop_zero,List.drop_succ_cons,List.take_succ_cons,List.take_zero,List.drop_nil,List.take_nil,Nat.reduceEqDiff,Nat.reduceAdd,Nat.reduceLeDiff,Nat.zero_add,Nat.add_zero,Prod.mk.injEq,and_true,true_and,and_false,false_and,and_self,if_true,if_false,ite_true,ite_false,Bool.not_true,Bool.not_false,Bool.not_eq_true',reduceCtorEq,decide_true,decide_false,frTs,frT,frL_p,spS,ofPT_a,ofPT_g,ofPT_t,flat_i,flat_b,flat_s,flat_l,flat_g,flatp_i,flatp_b,flatp_s,flatp_l,klTs,klT,Bool.and_false,Bool.false_and,frL,frA_p,frA_nil,frA_own,ownT,intT,Bool.or_true,Bool.true_or,Bool.false_eq_true,frL_p,klL_p,ownT_p,O.adds,List.all_cons,List.all_nil,List.any_cons,List.any_nil,ownA,evO.bslRows,List.replicate_succ,List.replicate_zero,List.set_cons_zero,rowsA,over,List.cons_append,List.nil_append,List.append_nil,fillA,Bool.and_self,Bool.and_true,Bool.true_and,Bool.or_self,Bool.or_false,Bool.false_or,Nat.reduceMul,Nat.one_mul,Nat.lt_add_one,klL,Nat.le_refl,ite_self,Nat.reduceBEq]
    refine wpC_split (fun h1 => ?_) (fun h1 => ?_)
    · have h1' : few x a (w (d - 1)) < 0 := by simpa using h1
      simp only [h1,x_seq,x_reg,x_skip,x_exit,x_ret,x_block,x_if,wpC_t,wpC_f,wpI_cons,wpI_nil,wpX_some,evI_any,evI_rd,evI_ad,evI_g,evG_u,evG_b,evG_tt,evG_ff,evG_tf,evG_ft,evO,evR,ev_t,ev_c,ev_f,putD_some,putD_none,put_at,cellsT,ldCells,mkT,lenA,binPV,add_bs,add_clk,add_ls,put_bs,put_clk,put_ls,kill_bs,kill_clk,kill_ls,empty_clk,empty_bs,Env.init,seqQ_norm,seqQ_exit,seqQ_ret,blkQ_norm,blkQ_exit,blkQ_ret,loopQ_norm,loopQ_exit,loopQ_ret,retP_ret,retP_norm,retE_ret,retE_norm,retS_ret,retS_norm,wpO_some,frA_fn,klA_p,klA_nil,klA_own,resVs,resV,resT,Option.bind_some,Option.bind_none,Option.map_some,List.getD_cons_zero,List.getD_cons_succ,List.getD_nil,List.length_cons,List.length_nil,List.length_map,List.map_cons,List.map_nil,List.drop_zero,List.drop_succ_cons,List.take_succ_cons,List.take_zero,List.drop_nil,List.take_nil,Nat.reduceEqDiff,Nat.reduceAdd,Nat.reduceLeDiff,Nat.zero_add,Nat.add_zero,Prod.mk.injEq,and_true,true_and,and_false,false_and,and_self,if_true,if_false,ite_true,ite_false,Bool.not_true,Bool.not_false,Bool.not_eq_true',reduceCtorEq,decide_true,decide_false,frTs,frT,frL_p,spS,ofPT_a,ofPT_g,ofPT_t,flat_i,flat_b,flat_s,flat_l,flat_g,flatp_i,flatp_b,flatp_s,flatp_l,klTs,klT,Bool.and_false,Bool.false_and,frL,frA_p,frA_nil,frA_own,ownT,intT,Bool.or_true,Bool.true_or,Bool.false_eq_true,frL_p,klL_p,ownT_p,O.adds,List.all_cons,List.all_nil,List.any_cons,List.any_nil,ownA,evO.bslRows,List.replicate_succ,List.replicate_zero,List.set_cons_zero,rowsA,over,List.cons_append,List.nil_append,List.append_nil,fillA,Bool.and_self,Bool.and_true,Bool.true_and,Bool.or_self,Bool.or_false,Bool.false_or,Nat.reduceMul,Nat.one_mul,Nat.lt_add_one,klL,Nat.le_refl,ite_self,Nat.reduceBEq]
      exact hR (by simp only [fewL]; rw [if_pos h1']) _ (by simp only [x_seq,x_reg,x_skip,x_exit,x_ret,x_block,x_if,wpC_t,wpC_f,wpI_cons,wpI_nil,wpX_some,evI_any,evI_rd,evI_ad,evI_g,evG_u,evG_b,evG_tt,evG_ff,evG_tf,evG_ft,evO,evR,ev_t,ev_c,ev_f,putD_some,putD_none,put_at,cellsT,ldCells,mkT,lenA,binPV,add_bs,add_clk,add_ls,put_bs,put_clk,put_ls,kill_bs,kill_clk,kill_ls,empty_clk,empty_bs,Env.init,seqQ_norm,seqQ_exit,seqQ_ret,blkQ_norm,blkQ_exit,blkQ_ret,loopQ_norm,loopQ_exit,loopQ_ret,retP_ret,retP_norm,retE_ret,retE_norm,retS_ret,retS_norm,wpO_some,frA_fn,klA_p,klA_nil,klA_own,resVs,resV,resT,Option.bind_some,Option.bind_none,Option.map_some,List.getD_cons_zero,List.getD_cons_succ,List.getD_nil,List.length_cons,List.length_nil,List.length_map,List.map_cons,List.map_nil,List.drop_zero,List.drop_succ_cons,List.take_succ_cons,List.take_zero,List.drop_nil,List.take_nil,Nat.reduceEqDiff,Nat.reduceAdd,Nat.reduceLeDiff,Nat.zero_add,Nat.add_zero,Prod.mk.injEq,and_true,true_and,and_false,false_and,and_self,if_true,if_false,ite_true,ite_false,Bool.not_true,Bool.not_false,Bool.not_eq_true',reduceCtorEq,decide_true,decide_false,frTs,frT,frL_p,spS,ofPT_a,ofPT_g,ofPT_t,flat_i,flat_b,flat_s,flat_l,flat_g,flatp_i,flatp_b,flatp_s,flatp_l,klTs,klT,Bool.and_false,Bool.false_and,frL,frA_p,frA_nil,frA_own,ownT,intT,Bool.or_true,Bool.true_or,Bool.false_eq_true,frL_p,klL_p,ownT_p,O.adds,List.all_cons,List.all_nil,List.any_cons,List.any_nil,ownA,evO.bslRows,List.replicate_succ,List.replicate_zero,List.set_cons_zero,rowsA,over,List.cons_append,List.nil_append,List.append_nil,fillA,Bool.and_self,Bool.and_true,Bool.true_and,Bool.or_self,Bool.or_false,Bool.false_or,Nat.reduceMul,Nat.one_mul,Nat.lt_add_one,klL,Nat.le_refl,ite_self,Nat.reduceBEq])
    · have h1' : ¬ few x a (w (d - 1)) < 0 := by simpa using h1
      simp only [e7,h1,x_seq,x_reg,x_skip,x_exit,x_ret,x_block,x_if,wpC_t,wpC_f,wpI_cons,wpI_nil,wpX_some,evI_any,evI_rd,evI_ad,evI_g,evG_u,evG_b,evG_tt,evG_ff,evG_tf,evG_ft,evO,evR,ev_t,ev_c,ev_f,putD_some,putD_none,put_at,cellsT,ldCells,mkT,lenA,binPV,add_bs,add_clk,add_ls,put_bs,put_clk,put_ls,kill_bs,kill_clk,kill_ls,empty_clk,empty_bs,Env.init,seqQ_norm,seqQ_exit,seqQ_ret,blkQ_norm,blkQ_exit,blkQ_ret,loopQ_norm,loopQ_exit,loopQ_ret,retP_ret,retP_norm,retE_ret,retE_norm,retS_ret,retS_norm,wpO_some,frA_fn,klA_p,klA_nil,klA_own,resVs,resV,resT,Option.bind_some,Option.bind_none,Option.map_some,List.getD_cons_zero,List.getD_cons_succ,List.getD_nil,List.length_cons,List.length_nil,List.length_map,List.map_cons,List.map_nil,List.drop_zero,List.drop_succ_cons,List.take_succ_cons,List.take_zero,List.drop_nil,List.take_nil,Nat.reduceEqDiff,Nat.reduceAdd,Nat.reduceLeDiff,Nat.zero_add,Nat.add_zero,Prod.mk.injEq,and_true,true_and,and_false,false_and,and_self,if_true,if_false,ite_true,ite_false,Bool.not_true,Bool.not_false,Bool.not_eq_true',reduceCtorEq,decide_true,decide_false,frTs,frT,frL_p,spS,ofPT_a,ofPT_g,ofPT_t,flat_i,flat_b,flat_s,flat_l,flat_g,flatp_i,flatp_b,flatp_s,flatp_l,klTs,klT,Bool.and_false,Bool.false_and,frL,frA_p,frA_nil,frA_own,ownT,intT,Bool.or_true,Bool.true_or,Bool.false_eq_true,frL_p,klL_p,ownT_p,O.adds,List.all_cons,List.all_nil,List.any_cons,List.any_nil,ownA,evO.bslRows,List.replicate_succ,List.replicate_zero,List.set_cons_zero,rowsA,over,List.cons_append,List.nil_append,List.append_nil,fillA,Bool.and_self,Bool.and_true,Bool.true_and,Bool.or_self,Bool.or_false,Bool.false_or,Nat.reduceMul,Nat.one_mul,Nat.lt_add_one,klL,Nat.le_refl,ite_self,Nat.reduceBEq]
      refine ih (i + 1) (few x a (w (d - 1))) _ σ (by rw [← List.drop_drop,hd]; rfl) (by omega) (fun u hu' => hu u (by simp [hu'])) ?_ ?_ ?_ ?_ h3 ?_ ?_
      all_goals try simp only [e1,e2,e3,e7,x_seq,x_reg,x_skip,x_exit,x_ret,x_block,x_if,wpC_t,wpC_f,wpI_cons,wpI_nil,wpX_some,evI_any,evI_rd,evI_ad,evI_g,evG_u,evG_b,evG_tt,evG_ff,evG_tf,evG_ft,evO,evR,ev_t,ev_c,ev_f,putD_some,putD_none,put_at,cellsT,ldCells,mkT,lenA,binPV,add_bs,add_clk,add_ls,put_bs,put_clk,put_ls,kill_bs,kill_clk,kill_ls,empty_clk,empty_bs,Env.init,seqQ_norm,seqQ_exit,seqQ_ret,blkQ_norm,blkQ_exit,blkQ_ret,loopQ_norm,loopQ_exit,loopQ_ret,retP_ret,retP_norm,retE_ret,retE_norm,retS_ret,retS_norm,wpO_some,frA_fn,klA_p,klA_nil,klA_own,resVs,resV,resT,Option.bind_some,Option.bind_none,Option.map_some,List.getD_cons_zero,List.getD_cons_succ,List.getD_nil,List.length_cons,List.length_nil,List.length_map,List.map_cons,List.map_nil,List.drop_zero,List.drop_succ_cons,List.take_succ_cons,List.take_zero,List.drop_nil,List.take_nil,Nat.reduceEqDiff,Nat.reduceAdd,Nat.reduceLeDiff,Nat.zero_add,Nat.add_zero,Prod.mk.injEq,and_true,true_and,and_false,false_and,and_self,if_true,if_false,ite_true,ite_false,Bool.not_true,Bool.not_false,Bool.not_eq_true',reduceCtorEq,decide_true,decide_false,frTs,frT,frL_p,spS,ofPT_a,ofPT_g,ofPT_t,flat_i,flat_b,flat_s,flat_l,flat_g,flatp_i,flatp_b,flatp_s,flatp_l,klTs,klT,Bool.and_false,Bool.false_and,frL,frA_p,frA_nil,frA_own,ownT,intT,Bool.or_true,Bool.true_or,Bool.false_eq_true,frL_p,klL_p,ownT_p,O.adds,List.all_cons,List.all_nil,List.any_cons,List.any_nil,ownA,evO.bslRows,List.replicate_succ,List.replicate_zero,List.set_cons_zero,rowsA,over,List.cons_append,List.nil_append,List.append_nil,fillA,Bool.and_self,Bool.and_true,Bool.true_and,Bool.or_self,Bool.or_false,Bool.false_or,Nat.reduceMul,Nat.one_mul,Nat.lt_add_one,klL,Nat.le_refl,ite_self,Nat.reduceBEq]
      · rw [wrap_succ i (by omega)]
      · intro e' he'; exact hQ e' (by rw [he']; simp only [fewL]; rw [if_neg h1'])
      · intro hm e' he'; exact hR (by simp only [fewL]; rw [if_neg h1']; exact hm) e' he'
theorem few_ok {t : T} (ht : T.Ok t) : ∀ x y : Int,eP S 49 [.g (enc t),.a (.i .i64 x),.a (.i .i64 y)] = some (.a (.i .i64 (few t x y))) := by
  induction ht with
  | mk k n s l hk hn hs hl h ih =>
    intro x y
    have e0 : few (.mk k n s l) x y = if x < 1 then -1 else if y < 1 then -1 else fewL l (w (x - 1)) (w (y - 1)) := rfl
    rw [e0]
    refine x_fn (orcS 49) (fc := F49) rfl rfl ?_
    simp only [F49,enc,encL_map,x_seq,x_reg,x_skip,x_exit,x_ret,x_block,x_if,wpC_t,wpC_f,wpI_cons,wpI_nil,wpX_some,evI_any,evI_rd,evI_ad,evI_g,evG_u,evG_b,evG_tt,evG_ff,evG_tf,evG_ft,evO,evR,ev_t,ev_c,ev_f,putD_some,putD_none,put_at,cellsT,ldCells,mkT,lenA,binPV,add_bs,add_clk,add_ls,put_bs,put_clk,put_ls,kill_bs,kill_clk,kill_ls,empty_clk,empty_bs,Env.init,seqQ_norm,seqQ_exit,seqQ_ret,blkQ_norm,blkQ_exit,blkQ_ret,loopQ_norm,loopQ_exit,loopQ_ret,retP_ret,retP_norm,retE_ret,retE_norm,retS_ret,retS_norm,wpO_some,frA_fn,klA_p,klA_nil,klA_own,resVs,resV,resT,Option.bind_some,Option.bind_none,Option.map_some,List.getD_cons_zero,List.getD_cons_succ,List.getD_nil,List.length_cons,List.length_nil,List.length_map,List.map_cons,List.map_nil,List.drop_zero,List.drop_succ_cons,List.take_succ_cons,List.take_zero,List.drop_nil,List.take_nil,Nat.reduceEqDiff,Nat.reduceAdd,Nat.reduceLeDiff,Nat.zero_add,Nat.add_zero,Prod.mk.injEq,and_true,true_and,and_false,false_and,and_self,if_true,if_false,ite_true,ite_false,Bool.not_true,Bool.not_false,Bool.not_eq_true',reduceCtorEq,decide_true,decide_false,frTs,frT,frL_p,spS,ofPT_a,ofPT_g,ofPT_t,flat_i,flat_b,flat_s,flat_l,flat_g,flatp_i,flatp_b,flatp_s,flatp_l,klTs,klT,Bool.and_false,Bool.false_and,frL,frA_p,frA_nil,frA_own,ownT,intT,Bool.or_true,Bool.true_or,Bool.false_eq_true,frL_p,klL_p,ownT_p,O.adds,List.all_cons,List.all_nil,List.any_cons,List.any_nil,ownA,evO.bslRows,List.replicate_succ,List.replicate_zero,List.set_cons_zero,rowsA,over,List.cons_append,List.nil_append,List.append_nil,fillA,Bool.and_self,Bool.and_true,Bool.true_and,Bool.or_self,Bool.or_false,Bool.false_or,Nat.reduceMul,Nat.one_mul,Nat.lt_add_one,klL,Nat.le_refl,ite_self,Nat.reduceBEq]
    refine wpX_bsplit (fun h1 => ?_) (fun h1 => ?_)
    · have h1' : ¬ x < 1 := by simpa using h1
      rw [if_neg h1']
      simp only [h1,x_seq,x_reg,x_skip,x_exit,x_ret,x_block,x_if,wpC_t,wpC_f,wpI_cons,wpI_nil,wpX_some,evI_any,evI_rd,evI_ad,evI_g,evG_u,evG_b,evG_tt,evG_ff,evG_tf,evG_ft,evO,evR,ev_t,ev_c,ev_f,putD_some,putD_none,put_at,cellsT,ldCells,mkT,lenA,binPV,add_bs,add_clk,add_ls,put_bs,put_clk,put_ls,kill_bs,kill_clk,kill_ls,empty_clk,empty_bs,Env.init,seqQ_norm,seqQ_exit,seqQ_ret,blkQ_norm,blkQ_exit,blkQ_ret,loopQ_norm,loopQ_exit,loopQ_ret,retP_ret,retP_norm,retE_ret,retE_norm,retS_ret,retS_norm,wpO_some,frA_fn,klA_p,klA_nil,klA_own,resVs,resV,resT,Option.bind_some,Option.bind_none,Option.map_some,List.getD_cons_zero,List.getD_cons_succ,List.getD_nil,List.length_cons,List.length_nil,List.length_map,List.map_cons,List.map_nil,List.drop_zero,List.drop_succ_cons,List.take_succ_cons,List.take_zero,List.drop_nil,List.take_nil,Nat.reduceEqDiff,Nat.reduceAdd,Nat.reduceLeDiff,Nat.zero_add,Nat.add_zero,Prod.mk.injEq,and_true,true_and,and_false,false_and,and_self,if_true,if_false,ite_true,ite_false,Bool.not_true,Bool.not_false,Bool.not_eq_true',reduceCtorEq,decide_true,decide_false,frTs,frT,frL_p,spS,ofPT_a,ofPT_g,ofPT_t,flat_i,flat_b,flat_s,flat_l,flat_g,flatp_i,flatp_b,flatp_s,flatp_l,klTs,klT,Bool.and_false,Bool.false_and,frL,frA_p,frA_nil,frA_own,ownT,intT,Bool.or_true,Bool.true_or,Bool.false_eq_true,frL_p,klL_p,ownT_p,O.adds,List.all_cons,List.all_nil,List.any_cons,List.any_nil,ownA,evO.bslRows,List.replicate_succ,List.replicate_zero,List.set_cons_zero,rowsA,over,List.cons_append,List.nil_append,List.append_nil,fillA,Bool.and_self,Bool.and_true,Bool.true_and,Bool.or_self,Bool.or_false,Bool.false_or,Nat.reduceMul,Nat.one_mul,Nat.lt_add_one,klL,Nat.le_refl,ite_self,Nat.reduceBEq]
      refine wpC_split (fun h2 => ?_) (fun h2 => ?_)
      · have h2' : y < 1 := by simpa using h2
        simp only [h1,h2,if_pos h2',x_seq,x_reg,x_skip,x_exit,x_ret,x_block,x_if,wpC_t,wpC_f,wpI_cons,wpI_nil,wpX_some,evI_any,evI_rd,evI_ad,evI_g,evG_u,evG_b,evG_tt,evG_ff,evG_tf,evG_ft,evO,evR,ev_t,ev_c,ev_f,putD_some,putD_none,put_at,cellsT,ldCells,mkT,lenA,binPV,add_bs,add_clk,add_ls,put_bs,put_clk,put_ls,kill_bs,kill_clk,kill_ls,empty_clk,empty_bs,Env.init,seqQ_norm,seqQ_exit,seqQ_ret,blkQ_norm,blkQ_exit,blkQ_ret,loopQ_norm,loopQ_exit,loopQ_ret,retP_ret,retP_norm,retE_ret,retE_norm,retS_ret,retS_norm,wpO_some,frA_fn,klA_p,klA_nil,klA_own,resVs,resV,resT,Option.bind_some,Option.bind_none,Option.map_some,List.getD_cons_zero,List.getD_cons_succ,List.getD_nil,List.length_cons,List.length_nil,List.length_map,List.map_cons,List.map_nil,List.drop_zero,List.drop_succ_cons,List.take_succ_cons,List.take_zero,List.drop_nil,List.take_nil,Nat.reduceEqDiff,Nat.reduceAdd,Nat.reduceLeDiff,Nat.zero_add,Nat.add_zero,Prod.mk.injEq,and_true,true_and,and_false,false_and,and_self,if_true,if_false,ite_true,ite_false,Bool.not_true,Bool.not_false,Bool.not_eq_true',reduceCtorEq,decide_true,decide_false,frTs,frT,frL_p,spS,ofPT_a,ofPT_g,ofPT_t,flat_i,flat_b,flat_s,flat_l,flat_g,flatp_i,flatp_b,flatp_s,flatp_l,klTs,klT,Bool.and_false,Bool.false_and,frL,frA_p,frA_nil,frA_own,ownT,intT,Bool.or_true,Bool.true_or,Bool.false_eq_true,frL_p,klL_p,ownT_p,O.adds,List.all_cons,List.all_nil,List.any_cons,List.any_nil,ownA,evO.bslRows,List.replicate_succ,List.replicate_zero,List.set_cons_zero,rowsA,over,List.cons_append,List.nil_append,List.append_nil,fillA,Bool.and_self,Bool.and_true,Bool.true_and,Bool.or_self,Bool.or_false,Bool.false_or,Nat.reduceMul,Nat.one_mul,Nat.lt_add_one,klL,Nat.le_refl,ite_self,Nat.reduceBEq]
      · have h2' : ¬ y < 1 := by simpa using h2
        rw [if_neg h2']
        simp only [h1,h2,x_seq,x_reg,x_skip,x_exit,x_ret,x_block,x_if,wpC_t,wpC_f,wpI_cons,wpI_nil,wpX_some,evI_any,evI_rd,evI_ad,evI_g,evG_u,evG_b,evG_tt,evG_ff,evG_tf,evG_ft,evO,evR,ev_t,ev_c,ev_f,putD_some,putD_none,put_at,cellsT,ldCells,mkT,lenA,binPV,add_bs,add_clk,add_ls,put_bs,put_clk,put_ls,kill_bs,kill_clk,kill_ls,empty_clk,empty_bs,Env.init,seqQ_norm,seqQ_exit,seqQ_ret,blkQ_norm,blkQ_exit,blkQ_ret,loopQ_norm,loopQ_exit,loopQ_ret,retP_ret,retP_norm,retE_ret,retE_norm,retS_ret,retS_norm,wpO_some,frA_fn,klA_p,klA_nil,klA_own,resVs,resV,resT,Option.bind_some,Option.bind_none,Option.map_some,List.getD_cons_zero,List.getD_cons_succ,List.getD_nil,List.length_cons,List.length_nil,List.length_map,List.map_cons,List.map_nil,List.drop_zero,List.drop_succ_cons,List.take_succ_cons,List.take_zero,List.drop_nil,List.take_nil,Nat.reduceEqDiff,Nat.reduceAdd,Nat.reduceLeDiff,Nat.zero_add,Nat.add_zero,Prod.mk.injEq,and_true,true_and,and_false,false_and,and_self,if_true,if_false,ite_true,ite_false,Bool.not_true,Bool.not_false,Bool.not_eq_true',reduceCtorEq,decide_true,decide_false,frTs,frT,frL_p,spS,ofPT_a,ofPT_g,ofPT_t,flat_i,flat_b,flat_s,flat_l,flat_g,flatp_i,flatp_b,flatp_s,flatp_l,klTs,klT,Bool.and_false,Bool.false_and,frL,frA_p,frA_nil,frA_own,ownT,intT,Bool.or_true,Bool.true_or,Bool.false_eq_true,frL_p,klL_p,ownT_p,O.adds,List.all_cons,List.all_nil,List.any_cons,List.any_nil,ownA,evO.bslRows,List.replicate_succ,List.replicate_zero,List.set_cons_zero,rowsA,over,List.cons_append,List.nil_append,List.append_nil,fillA,Bool.and_self,Bool.and_true,Bool.true_and,Bool.or_self,Bool.or_false,Bool.false_or,Nat.reduceMul,Nat.one_mul,Nat.lt_add_one,klL,Nat.le_refl,ite_self,Nat.reduceBEq]
        refine loop49 (.mk k n s l) y hl _ l 0 (w (x - 1)) _ _ rfl (by simp [T.l]) (fun u hu x y => ih u hu x y) ?_ ?_ ?_ ?_ ?_ ?_ ?_
        all_goals simp only [T.k,T.n,T.s,T.l,x_seq,x_reg,x_skip,x_exit,x_ret,x_block,x_if,wpC_t,wpC_f,wpI_cons,wpI_nil,wpX_some,evI_any,evI_rd,evI_ad,evI_g,evG_u,evG_b,evG_tt,evG_ff,evG_tf,evG_ft,evO,evR,ev_t,ev_c,ev_f,putD_some,putD_none,put_at,cellsT,ldCells,mkT,lenA,binPV,add_bs,add_clk,add_ls,put_bs,put_clk,put_ls,kill_bs,kill_clk,kill_ls,empty_clk,empty_bs,Env.init,seqQ_norm,seqQ_exit,seqQ_ret,blkQ_norm,blkQ_exit,blkQ_ret,loopQ_norm,loopQ_exit,loopQ_ret,retP_ret,retP_norm,retE_ret,retE_norm,retS_ret,retS_norm,wpO_some,frA_fn,klA_p,klA_nil,klA_own,resVs,resV,resT,Option.bind_some,Option.bind_none,Option.map_some,List.getD_cons_zero,List.getD_cons_succ,List.getD_nil,List.length_cons,List.length_nil,List.length_map,List.map_cons,List.map_nil,List.drop_zero,List.drop_succ_cons,List.take_succ_cons,List.take_zero,List.drop_nil,List.take_nil,Nat.reduceEqDiff,Nat.reduceAdd,Nat.reduceLeDiff,Nat.zero_add,Nat.add_zero,Prod.mk.injEq,and_true,true_and,and_false,false_and,and_self,if_true,if_false,ite_true,ite_false,Bool.not_true,Bool.not_false,Bool.not_eq_true',reduceCtorEq,decide_true,decide_false,frTs,frT,frL_p,spS,ofPT_a,ofPT_g,ofPT_t,flat_i,flat_b,flat_s,flat_l,flat_g,flatp_i,flatp_b,flatp_s,flatp_l,klTs,klT,Bool.and_false,Bool.false_and,frL,frA_p,frA_nil,frA_own,ownT,intT,Bool.or_true,Bool.true_or,Bool.false_eq_true,frL_p,klL_p,ownT_p,O.adds,List.all_cons,List.all_nil,List.any_cons,List.any_nil,ownA,evO.bslRows,List.replicate_succ,List.replicate_zero,List.set_cons_zero,rowsA,over,List.cons_append,List.nil_append,List.append_nil,fillA,Bool.and_self,Bool.and_true,Bool.true_and,Bool.or_self,Bool.or_false,Bool.false_or,Nat.reduceMul,Nat.one_mul,Nat.lt_add_one,klL,Nat.le_refl,ite_self,Nat.reduceBEq]
        · rfl
        · intro e' he'; simp only [he',x_seq,x_reg,x_skip,x_exit,x_ret,x_block,x_if,wpC_t,wpC_f,wpI_cons,wpI_nil,wpX_some,evI_any,evI_rd,evI_ad,evI_g,evG_u,evG_b,evG_tt,evG_ff,evG_tf,evG_ft,evO,evR,ev_t,ev_c,ev_f,putD_some,putD_none,put_at,cellsT,ldCells,mkT,lenA,binPV,add_bs,add_clk,add_ls,put_bs,put_clk,put_ls,kill_bs,kill_clk,kill_ls,empty_clk,empty_bs,Env.init,seqQ_norm,seqQ_exit,seqQ_ret,blkQ_norm,blkQ_exit,blkQ_ret,loopQ_norm,loopQ_exit,loopQ_ret,retP_ret,retP_norm,retE_ret,retE_norm,retS_ret,retS_norm,wpO_some,frA_fn,klA_p,klA_nil,klA_own,resVs,resV,resT,Option.bind_some,Option.bind_none,Option.map_some,List.getD_cons_zero,List.getD_cons_succ,List.getD_nil,List.length_cons,List.length_nil,List.length_map,List.map_cons,List.map_nil,List.drop_zero,List.drop_succ_cons,List.take_succ_cons,List.take_zero,List.drop_nil,List.take_nil,Nat.reduceEqDiff,Nat.reduceAdd,Nat.reduceLeDiff,Nat.zero_add,Nat.add_zero,Prod.mk.injEq,and_true,true_and,and_false,false_and,and_self,if_true,if_false,ite_true,ite_false,Bool.not_true,Bool.not_false,Bool.not_eq_true',reduceCtorEq,decide_true,decide_false,frTs,frT,frL_p,spS,ofPT_a,ofPT_g,ofPT_t,flat_i,flat_b,flat_s,flat_l,flat_g,flatp_i,flatp_b,flatp_s,flatp_l,klTs,klT,Bool.and_false,Bool.false_and,frL,frA_p,frA_nil,frA_own,ownT,intT,Bool.or_true,Bool.true_or,Bool.false_eq_true,frL_p,klL_p,ownT_p,O.adds,List.all_cons,List.all_nil,List.any_cons,List.any_nil,ownA,evO.bslRows,List.replicate_succ,List.replicate_zero,List.set_cons_zero,rowsA,over,List.cons_append,List.nil_append,List.append_nil,fillA,Bool.and_self,Bool.and_true,Bool.true_and,Bool.or_self,Bool.or_false,Bool.false_or,Nat.reduceMul,Nat.one_mul,Nat.lt_add_one,klL,Nat.le_refl,ite_self,Nat.reduceBEq]
        · intro hm e' he'; simp only [he',hm,x_seq,x_reg,x_skip,x_exit,x_ret,x_block,x_if,wpC_t,wpC_f,wpI_cons,wpI_nil,wpX_some,evI_any,evI_rd,evI_ad,evI_g,evG_u,evG_b,evG_tt,evG_ff,evG_tf,evG_ft,evO,evR,ev_t,ev_c,ev_f,putD_some,putD_none,put_at,cellsT,ldCells,mkT,lenA,binPV,add_bs,add_clk,add_ls,put_bs,put_clk,put_ls,kill_bs,kill_clk,kill_ls,empty_clk,empty_bs,Env.init,seqQ_norm,seqQ_exit,seqQ_ret,blkQ_norm,blkQ_exit,blkQ_ret,loopQ_norm,loopQ_exit,loopQ_ret,retP_ret,retP_norm,retE_ret,retE_norm,retS_ret,retS_norm,wpO_some,frA_fn,klA_p,klA_nil,klA_own,resVs,resV,resT,Option.bind_some,Option.bind_none,Option.map_some,List.getD_cons_zero,List.getD_cons_succ,List.getD_nil,List.length_cons,List.length_nil,List.length_map,List.map_cons,List.map_nil,List.drop_zero,List.drop_succ_cons,List.take_succ_cons,List.take_zero,List.drop_nil,List.take_nil,Nat.reduceEqDiff,Nat.reduceAdd,Nat.reduceLeDiff,Nat.zero_add,Nat.add_zero,Prod.mk.injEq,and_true,true_and,and_false,false_and,and_self,if_true,if_false,ite_true,ite_false,Bool.not_true,Bool.not_false,Bool.not_eq_true',reduceCtorEq,decide_true,decide_false,frTs,frT,frL_p,spS,ofPT_a,ofPT_g,ofPT_t,flat_i,flat_b,flat_s,flat_l,flat_g,flatp_i,flatp_b,flatp_s,flatp_l,klTs,klT,Bool.and_false,Bool.false_and,frL,frA_p,frA_nil,frA_own,ownT,intT,Bool.or_true,Bool.true_or,Bool.false_eq_true,frL_p,klL_p,ownT_p,O.adds,List.all_cons,List.all_nil,List.any_cons,List.any_nil,ownA,evO.bslRows,List.replicate_succ,List.replicate_zero,List.set_cons_zero,rowsA,over,List.cons_append,List.nil_append,List.append_nil,fillA,Bool.and_self,Bool.and_true,Bool.true_and,Bool.or_self,Bool.or_false,Bool.false_or,Nat.reduceMul,Nat.one_mul,Nat.lt_add_one,klL,Nat.le_refl,ite_self,Nat.reduceBEq]
    · have h1' : x < 1 := by simpa using h1
      rw [if_pos h1']
      simp only [h1,x_seq,x_reg,x_skip,x_exit,x_ret,x_block,x_if,wpC_t,wpC_f,wpI_cons,wpI_nil,wpX_some,evI_any,evI_rd,evI_ad,evI_g,evG_u,evG_b,evG_tt,evG_ff,evG_tf,evG_ft,evO,evR,ev_t,ev_c,ev_f,putD_some,putD_none,put_at,cellsT,ldCells,mkT,lenA,binPV,add_bs,add_clk,add_ls,put_bs,put_clk,put_ls,kill_bs,kill_clk,kill_ls,empty_clk,empty_bs,Env.init,seqQ_norm,seqQ_exit,seqQ_ret,blkQ_norm,blkQ_exit,blkQ_ret,loopQ_norm,loopQ_exit,loopQ_ret,retP_ret,retP_norm,retE_ret,retE_norm,retS_ret,retS_norm,wpO_some,frA_fn,klA_p,klA_nil,klA_own,resVs,resV,resT,Option.bind_some,Option.bind_none,Option.map_some,List.getD_cons_zero,List.getD_cons_succ,List.getD_nil,List.length_cons,List.length_nil,List.length_map,List.map_cons,List.map_nil,List.drop_zero,List.drop_succ_cons,List.take_succ_cons,List.take_zero,List.drop_nil,List.take_nil,Nat.reduceEqDiff,Nat.reduceAdd,Nat.reduceLeDiff,Nat.zero_add,Nat.add_zero,Prod.mk.injEq,and_true,true_and,and_false,false_and,and_self,if_true,if_false,ite_true,ite_false,Bool.not_true,Bool.not_false,Bool.not_eq_true',reduceCtorEq,decide_true,decide_false,frTs,frT,frL_p,spS,ofPT_a,ofPT_g,ofPT_t,flat_i,flat_b,flat_s,flat_l,flat_g,flatp_i,flatp_b,flatp_s,flatp_l,klTs,klT,Bool.and_false,Bool.false_and,frL,frA_p,frA_nil,frA_own,ownT,intT,Bool.or_true,Bool.true_or,Bool.false_eq_true,frL_p,klL_p,ownT_p,O.adds,List.all_cons,List.all_nil,List.any_cons,List.any_nil,ownA,evO.bslRows,List.replicate_succ,List.replicate_zero,List.set_cons_zero,rowsA,over,List.cons_append,List.nil_append,List.append_nil,fillA,Bool.and_self,Bool.and_true,Bool.true_and,Bool.or_self,Bool.or_false,Bool.false_or,Nat.reduceMul,Nat.one_mul,Nat.lt_add_one,klL,Nat.le_refl,ite_self,Nat.reduceBEq]
def small (t : T) (n : Int) : Bool := decide (few t n 600 ≥ 0)
theorem small_ok {t : T} (ht : T.Ok t) (n : Int) : eP S 15 [.g (enc t),.a (.i .i64 n)] = some (.a (.b (small t n))) := by
  have h := few_ok ht n 600
  refine x_fn (orcS 15) (fc := F15) rfl rfl ?_
  simp only [F15,enc_len,enc_takep,enc_flat,h,small,x_seq,x_reg,x_skip,x_exit,x_ret,x_block,x_if,wpC_t,wpC_f,wpI_cons,wpI_nil,wpX_some,evI_any,evI_rd,evI_ad,evI_g,evG_u,evG_b,evG_tt,evG_ff,evG_tf,evG_ft,evO,evR,ev_t,ev_c,ev_f,putD_some,putD_none,put_at,cellsT,ldCells,mkT,lenA,binPV,add_bs,add_clk,add_ls,put_bs,put_clk,put_ls,kill_bs,kill_clk,kill_ls,empty_clk,empty_bs,Env.init,seqQ_norm,seqQ_exit,seqQ_ret,blkQ_norm,blkQ_exit,blkQ_ret,loopQ_norm,loopQ_exit,loopQ_ret,retP_ret,retP_norm,retE_ret,retE_norm,retS_ret,retS_norm,wpO_some,frA_fn,klA_p,klA_nil,klA_own,resVs,resV,resT,Option.bind_some,Option.bind_none,Option.map_some,List.getD_cons_zero,List.getD_cons_succ,List.getD_nil,List.length_cons,List.length_nil,List.length_map,List.map_cons,List.map_nil,List.drop_zero,List.drop_succ_cons,List.take_succ_cons,List.take_zero,List.drop_nil,List.take_nil,Nat.reduceEqDiff,Nat.reduceAdd,Nat.reduceLeDiff,Nat.zero_add,Nat.add_zero,Prod.mk.injEq,and_true,true_and,and_false,false_and,and_self,if_true,if_false,ite_true,ite_false,Bool.not_true,Bool.not_false,Bool.not_eq_true',reduceCtorEq,decide_true,decide_false,frTs,frT,frL_p,spS,ofPT_a,ofPT_g,ofPT_t,flat_i,flat_b,flat_s,flat_l,flat_g,flatp_i,flatp_b,flatp_s,flatp_l,klTs,klT,Bool.and_false,Bool.false_and,frL,frA_p,frA_nil,frA_own,ownT,intT,Bool.or_true,Bool.true_or,Bool.false_eq_true,frL_p,klL_p,ownT_p,O.adds,List.all_cons,List.all_nil,List.any_cons,List.any_nil,ownA,evO.bslRows,List.replicate_succ,List.replicate_zero,List.set_cons_zero,rowsA,over,List.cons_append,List.nil_append,List.append_nil,fillA,Bool.and_self,Bool.and_true,Bool.true_and,Bool.or_self,Bool.or_false,Bool.false_or,Nat.reduceMul,Nat.one_mul,Nat.lt_add_one,klL,Nat.le_refl,ite_self,Nat.reduceBEq]
mutual
def tame : T → Bool
  | .mk k n s l => if (k ≠ 7 ∧ (n > 1099511627776 ∨ n < -1099511627776)) ∨ (k = 1 ∧ 0 < l.length) then false else tameL l
def tameL : List T → Bool
  | [] => true
  | t :: r => tame t && tameL r
end
theorem loop16 (t : T) (hl : t.l.length * 56 ≤ reachBytes) (Q : Ex → Env → St → Prop) :
    ∀ (rem : List T) (i : Nat) (e : Env) (σ : St),t.l.drop i = rem → i + rem.length = t.l.length → (∀ u,u ∈ rem → eP S 16 [.g (enc u)] = some (.a (.b (tame u)))) →
      e 1 = .a (.ptr (1,0) 0 0) → e 3 = .a (.p (.i .i64 (i : Nat))) → σ.bs (1,0) = some (.var [.p (.i .i64 t.k),.p (.i .i64 t.n),.p (.s t.s),.p (.l (t.l.map enc))]) →
      (tameL rem = true → ∀ e',Q (.exit 0) e' σ) → (tameL rem = false → ∀ e',e' 2 = .a (.p (.b false)) → Q .ret e' σ) → wp S false (.loop F16b0) e σ Q := by
  intro rem
  induction rem with
  | nil =>
    intro i e σ hd hi hu e1 e3 h1 hQ hR
    have hlt : ¬ ((i : Int) < (t.l.length : Int)) := by simp at hi; omega
    rw [x_loop,F16b0]
    simp only [e1,e3,h1,hlt,x_seq,x_reg,x_skip,x_exit,x_ret,x_block,x_if,wpC_t,wpC_f,wpI_cons,wpI_nil,wpX_some,evI_any,evI_rd,evI_ad,evI_g,evG_u,evG_b,evG_tt,evG_ff,evG_tf,evG_ft,evO,evR,ev_t,ev_c,ev_f,putD_some,putD_none,put_at,cellsT,ldCells,mkT,lenA,binPV,add_bs,add_clk,add_ls,put_bs,put_clk,put_ls,kill_bs,kill_clk,kill_ls,empty_clk,empty_bs,Env.init,seqQ_norm,seqQ_exit,seqQ_ret,blkQ_norm,blkQ_exit,blkQ_ret,loopQ_norm,loopQ_exit,loopQ_ret,retP_ret,retP_norm,retE_ret,retE_norm,retS_ret,retS_norm,wpO_some,frA_fn,klA_p,klA_nil,klA_own,resVs,resV,resT,Option.bind_some,Option.bind_none,Option.map_some,List.getD_cons_zero,List.getD_cons_succ,List.getD_nil,List.length_cons,List.length_nil,List.length_map,List.map_cons,List.map_nil,List.drop_zero,List.drop_succ_cons,List.take_succ_cons,List.take_zero,List.drop_nil,List.take_nil,Nat.reduceEqDiff,Nat.reduceAdd,Nat.reduceLeDiff,Nat.zero_add,Nat.add_zero,Prod.mk.injEq,and_true,true_and,and_false,false_and,and_self,if_true,if_false,ite_true,ite_false,Bool.not_true,Bool.not_false,Bool.not_eq_true',reduceCtorEq,decide_true,decide_false,frTs,frT,frL_p,spS,ofPT_a,ofPT_g,ofPT_t,flat_i,flat_b,flat_s,flat_l,flat_g,flatp_i,flatp_b,flatp_s,flatp_l,klTs,klT,Bool.and_false,Bool.false_and,frL,frA_p,frA_nil,frA_own,ownT,intT,Bool.or_true,Bool.true_or,Bool.false_eq_true,frL_p,klL_p,ownT_p,O.adds,List.all_cons,List.all_nil,List.any_cons,List.any_nil,ownA,evO.bslRows,List.replicate_succ,List.replicate_zero,List.set_cons_zero,rowsA,over,List.cons_append,List.nil_append,List.append_nil,fillA,Bool.and_self,Bool.and_true,Bool.true_and,Bool.or_self,Bool.or_false,Bool.false_or,Nat.reduceMul,Nat.one_mul,Nat.lt_add_one,klL,Nat.le_refl,ite_self,Nat.reduceBEq]
    exact hQ rfl _
  | cons x rem ih =>
    intro i e σ hd hi hu e1 e3 h1 hQ hR
    simp only [List.length_cons] at hi
    have hlt : ((i : Int) < (t.l.length : Int)) := by omega
    have h0 : (0 : Int) ≤ (i : Int) := by omega
    have hx : t.l[i]? = some x := by rw [← List.head?_drop,hd]; rfl
    have hx' : (t.l.map enc)[i]? = some (enc x) := by simp [hx]
    have hux := hu x (by simp)
    have hlb : t.l.length < 9223372036854775807 := by simp only [reachBytes] at hl; omega
    rw [x_loop,F16b0]
    simp only [e1,e3,h1,hlt,h0,Int.toNat_natCast,hx',enc_len,enc_all,enc_take,enc_takep,hux,x_seq,x_reg,x_skip,x_exit,x_ret,x_block,x_if,wpC_t,wpC_f,wpI_cons,wpI_nil,wpX_some,evI_any,evI_rd,evI_ad,evI_g,evG_u,evG_b,evG_tt,evG_ff,evG_tf,evG_ft,evO,evR,ev_t,ev_c,ev_f,putD_some,putD_none,put_at,cellsT,ldCells,mkT,lenA,binPV,add_bs,add_clk,add_ls,put_bs,put_clk,put_ls,kill_bs,kill_clk,kill_ls,empty_clk,empty_bs,Env.init,seqQ_norm,seqQ_exit,seqQ_ret,blkQ_norm,blkQ_exit,blkQ_ret,loopQ_norm,loopQ_exit,loopQ_ret,retP_ret,retP_norm,retE_ret,retE_norm,retS_ret,retS_norm,wpO_some,frA_fn,klA_p,klA_nil,klA_own,resVs,resV,resT,Option.bind_some,Option.bind_none,Option.map_some,List.getD_cons_zero,List.getD_cons_succ,List.getD_nil,List.length_cons,List.length_nil,List.length_map,List.map_cons,List.map_nil,List.drop_zero,List.drop_succ_cons,List.take_succ_cons,List.take_zero,List.drop_nil,List.take_nil,Nat.reduceEqDiff,Nat.reduceAdd,Nat.reduceLeDiff,Nat.zero_add,Nat.add_zero,Prod.mk.injEq,and_true,true_and,and_false,false_and,and_self,if_true,if_false,ite_true,ite_false,Bool.not_true,Bool.not_false,Bool.not_eq_true',reduceCtorEq,decide_true,decide_false,frTs,frT,frL_p,spS,ofPT_a,ofPT_g,ofPT_t,flat_i,flat_b,flat_s,flat_l,flat_g,flatp_i,flatp_b,flatp_s,flatp_l,klTs,klT,Bool.and_false,Bool.false_and,frL,frA_p,frA_nil,frA_own,ownT,intT,Bool.or_true,Bool.true_or,Bool.false_eq_true,frL_p,klL_p,ownT_p,O.adds,List.all_cons,List.all_nil,List.any_cons,List.any_nil,ownA,evO.bslRows,List.replicate_succ,List.replicate_zero,List.set_cons_zero,rowsA,over,List.cons_append,List.nil_append,List.append_nil,fillA,Bool.and_self,Bool.and_true,Bool.true_and,Bool.or_self,Bool.or_false,Bool.false_or,Nat.reduceMul,Nat.one_mul,Nat.lt_add_one,klL,Nat.le_refl,ite_self,Nat.reduceBEq]
    refine wpC_split (fun h2 => ?_) (fun h2 => ?_)
    · simp only [h2,x_seq,x_reg,x_skip,x_exit,x_ret,x_block,x_if,wpC_t,wpC_f,wpI_cons,wpI_nil,wpX_some,evI_any,evI_rd,evI_ad,evI_g,evG_u,evG_b,evG_tt,evG_ff,evG_tf,evG_ft,evO,evR,ev_t,ev_c,ev_f,putD_some,putD_none,put_at,cellsT,ldCells,mkT,lenA,binPV,add_bs,add_clk,add_ls,put_bs,put_clk,put_ls,kill_bs,kill_clk,kill_ls,empty_clk,empty_bs,Env.init,seqQ_norm,seqQ_exit,seqQ_ret,blkQ_norm,blkQ_exit,blkQ_ret,loopQ_norm,loopQ_exit,loopQ_ret,retP_ret,retP_norm,retE_ret,retE_norm,retS_ret,retS_norm,wpO_some,frA_fn,klA_p,klA_nil,klA_own,resVs,resV,resT,Option.bind_some,Option.bind_none,Option.map_some,List.getD_cons_zero,List.getD_cons_succ,List.getD_nil,List.length_cons,List.length_nil,List.length_map,List.map_cons,List.map_nil,List.drop_zero,List.drop_succ_cons,List.take_succ_cons,List.take_zero,List.drop_nil,List.take_nil,Nat.reduceEqDiff,Nat.reduceAdd,Nat.reduceLeDiff,Nat.zero_add,Nat.add_zero,Prod.mk.injEq,and_true,true_and,and_false,false_and,and_self,if_true,if_false,ite_true,ite_false,Bool.not_true,Bool.not_false,Bool.not_eq_true',reduceCtorEq,decide_true,decide_false,frTs,frT,frL_p,spS,ofPT_a,ofPT_g,ofPT_t,flat_i,flat_b,flat_s,flat_l,flat_g,flatp_i,flatp_b,flatp_s,flatp_l,klTs,klT,Bool.and_false,Bool.false_and,frL,frA_p,frA_nil,frA_own,ownT,intT,Bool.or_true,Bool.true_or,Bool.false_eq_true,frL_p,klL_p,ownT_p,O.adds,List.all_cons,List.all_nil,List.any_cons,List.any_nil,ownA,evO.bslRows,List.replicate_succ,List.replicate_zero,List.set_cons_zero,rowsA,over,List.cons_append,List.nil_append,List.append_nil,fillA,Bool.and_self,Bool.and_true,Bool.true_and,Bool.or_self,Bool.or_false,Bool.false_or,Nat.reduceMul,Nat.one_mul,Nat.lt_add_one,klL,Nat.le_refl,ite_self,Nat.reduceBEq]
      simp only [Bool.not_eq_false',Bool.not_eq_true',Bool.not_false,Bool.not_true,decide_eq_true_eq,decide_eq_false_iff_not,Int.natCast_inj] at h2
      exact hR (by simp [tameL,h2]) _ (by simp only [x_seq,x_reg,x_skip,x_exit,x_ret,x_block,x_if,wpC_t,wpC_f,wpI_cons,wpI_nil,wpX_some,evI_any,evI_rd,evI_ad,evI_g,evG_u,evG_b,evG_tt,evG_ff,evG_tf,evG_ft,evO,evR,ev_t,ev_c,ev_f,putD_some,putD_none,put_at,cellsT,ldCells,mkT,lenA,binPV,add_bs,add_clk,add_ls,put_bs,put_clk,put_ls,kill_bs,kill_clk,kill_ls,empty_clk,empty_bs,Env.init,seqQ_norm,seqQ_exit,seqQ_ret,blkQ_norm,blkQ_exit,blkQ_ret,loopQ_norm,loopQ_exit,loopQ_ret,retP_ret,retP_norm,retE_ret,retE_norm,retS_ret,retS_norm,wpO_some,frA_fn,klA_p,klA_nil,klA_own,resVs,resV,resT,Option.bind_some,Option.bind_none,Option.map_some,List.getD_cons_zero,List.getD_cons_succ,List.getD_nil,List.length_cons,List.length_nil,List.length_map,List.map_cons,List.map_nil,List.drop_zero,List.drop_succ_cons,List.take_succ_cons,List.take_zero,List.drop_nil,List.take_nil,Nat.reduceEqDiff,Nat.reduceAdd,Nat.reduceLeDiff,Nat.zero_add,Nat.add_zero,Prod.mk.injEq,and_true,true_and,and_false,false_and,and_self,if_true,if_false,ite_true,ite_false,Bool.not_true,Bool.not_false,Bool.not_eq_true',reduceCtorEq,decide_true,decide_false,frTs,frT,frL_p,spS,ofPT_a,ofPT_g,ofPT_t,flat_i,flat_b,flat_s,flat_l,flat_g,flatp_i,flatp_b,flatp_s,flatp_l,klTs,klT,Bool.and_false,Bool.false_and,frL,frA_p,frA_nil,frA_own,ownT,intT,Bool.or_true,Bool.true_or,Bool.false_eq_true,frL_p,klL_p,ownT_p,O.adds,List.all_cons,List.all_nil,List.any_cons,List.any_nil,ownA,evO.bslRows,List.replicate_succ,List.replicate_zero,List.set_cons_zero,rowsA,over,List.cons_append,List.nil_append,List.append_nil,fillA,Bool.and_self,Bool.and_true,Bool.true_and,Bool.or_self,Bool.or_false,Bool.false_or,Nat.reduceMul,Nat.one_mul,Nat.lt_add_one,klL,Nat.le_refl,ite_self,Nat.reduceBEq])
    · simp only [e3,h2,x_seq,x_reg,x_skip,x_exit,x_ret,x_block,x_if,wpC_t,wpC_f,wpI_cons,wpI_nil,wpX_some,evI_any,evI_rd,evI_ad,evI_g,evG_u,evG_b,evG_tt,evG_ff,evG_tf,evG_ft,evO,evR,ev_t,ev_c,ev_f,putD_some,putD_none,put_at,cellsT,ldCells,mkT,lenA,binPV,add_bs,add_clk,add_ls,put_bs,put_clk,put_ls,kill_bs,kill_clk,kill_ls,empty_clk,empty_bs,Env.init,seqQ_norm,seqQ_exit,seqQ_ret,blkQ_norm,blkQ_exit,blkQ_ret,loopQ_norm,loopQ_exit,loopQ_ret,retP_ret,retP_norm,retE_ret,retE_norm,retS_ret,retS_norm,wpO_some,frA_fn,klA_p,klA_nil,klA_own,resVs,resV,resT,Option.bind_some,Option.bind_none,Option.map_some,List.getD_cons_zero,List.getD_cons_succ,List.getD_nil,List.length_cons,List.length_nil,List.length_map,List.map_cons,List.map_nil,List.drop_zero,List.drop_succ_cons,List.take_succ_cons,List.take_zero,List.drop_nil,List.take_nil,Nat.reduceEqDiff,Nat.reduceAdd,Nat.reduceLeDiff,Nat.zero_add,Nat.add_zero,Prod.mk.injEq,and_true,true_and,and_false,false_and,and_self,if_true,if_false,ite_true,ite_false,Bool.not_true,Bool.not_false,Bool.not_eq_true',reduceCtorEq,decide_true,decide_false,frTs,frT,frL_p,spS,ofPT_a,ofPT_g,ofPT_t,flat_i,flat_b,flat_s,flat_l,flat_g,flatp_i,flatp_b,flatp_s,flatp_l,klTs,klT,Bool.and_false,Bool.false_and,frL,frA_p,frA_nil,frA_own,ownT,intT,Bool.or_true,Bool.true_or,Bool.false_eq_true,frL_p,klL_p,ownT_p,O.adds,List.all_cons,List.all_nil,List.any_cons,List.any_nil,ownA,evO.bslRows,List.replicate_succ,List.replicate_zero,List.set_cons_zero,rowsA,over,List.cons_append,List.nil_append,List.append_nil,fillA,Bool.and_self,Bool.and_true,Bool.true_and,Bool.or_self,Bool.or_false,Bool.false_or,Nat.reduceMul,Nat.one_mul,Nat.lt_add_one,klL,Nat.le_refl,ite_self,Nat.reduceBEq]
      simp only [Bool.not_eq_false',Bool.not_eq_true',Bool.not_false,Bool.not_true,decide_eq_true_eq,decide_eq_false_iff_not,Int.natCast_inj] at h2
      refine ih (i + 1) _ σ (by rw [← List.drop_drop,hd]; rfl) (by omega) (fun u hu' => hu u (by simp [hu'])) ?_ ?_ h1 ?_ ?_
      all_goals try simp only [e1,e3,x_seq,x_reg,x_skip,x_exit,x_ret,x_block,x_if,wpC_t,wpC_f,wpI_cons,wpI_nil,wpX_some,evI_any,evI_rd,evI_ad,evI_g,evG_u,evG_b,evG_tt,evG_ff,evG_tf,evG_ft,evO,evR,ev_t,ev_c,ev_f,putD_some,putD_none,put_at,cellsT,ldCells,mkT,lenA,binPV,add_bs,add_clk,add_ls,put_bs,put_clk,put_ls,kill_bs,kill_clk,kill_ls,empty_clk,empty_bs,Env.init,seqQ_norm,seqQ_exit,seqQ_ret,blkQ_norm,blkQ_exit,blkQ_ret,loopQ_norm,loopQ_exit,loopQ_ret,retP_ret,retP_norm,retE_ret,retE_norm,retS_ret,retS_norm,wpO_some,frA_fn,klA_p,klA_nil,klA_own,resVs,resV,resT,Option.bind_some,Option.bind_none,Option.map_some,List.getD_cons_zero,List.getD_cons_succ,List.getD_nil,List.length_cons,List.length_nil,List.length_map,List.map_cons,List.map_nil,List.drop_zero,List.drop_succ_cons,List.take_succ_cons,List.take_zero,List.drop_nil,List.take_nil,Nat.reduceEqDiff,Nat.reduceAdd,Nat.reduceLeDiff,Nat.zero_add,Nat.add_zero,Prod.mk.injEq,and_true,true_and,and_false,false_and,and_self,if_true,if_false,ite_true,ite_false,Bool.not_true,Bool.not_false,Bool.not_eq_true',reduceCtorEq,decide_true,decide_false,frTs,frT,frL_p,spS,ofPT_a,ofPT_g,ofPT_t,flat_i,flat_b,flat_s,flat_l,flat_g,flatp_i,flatp_b,flatp_s,flatp_l,klTs,klT,Bool.and_false,Bool.false_and,frL,frA_p,frA_nil,frA_own,ownT,intT,Bool.or_true,Bool.true_or,Bool.false_eq_true,frL_p,klL_p,ownT_p,O.adds,List.all_cons,List.all_nil,List.any_cons,List.any_nil,ownA,evO.bslRows,List.replicate_succ,List.replicate_zero,List.set_cons_zero,rowsA,over,List.cons_append,List.nil_append,List.append_nil,fillA,Bool.and_self,Bool.and_true,Bool.true_and,Bool.or_self,Bool.or_false,Bool.false_or,Nat.reduceMul,Nat.one_mul,Nat.lt_add_one,klL,Nat.le_refl,ite_self,Nat.reduceBEq]
      · rw [wrap_succ i (by omega)]
      · intro hm; exact hQ (by simp [tameL,h2,hm])
      · intro hm; exact hR (by simp [tameL,h2,hm])
theorem tame_ok {t : T} (ht : T.Ok t) : eP S 16 [.g (enc t)] = some (.a (.b (tame t))) := by
  induction ht with
  | mk k n s l hk hn hs hl h ih =>
    have e0 : tame (.mk k n s l) = if (k ≠ 7 ∧ (n > 1099511627776 ∨ n < -1099511627776)) ∨ (k = 1 ∧ 0 < l.length) then false else tameL l := rfl
    rw [e0]
    refine x_fn (orcS 16) (fc := F16) rfl rfl ?_
    simp only [F16,enc,encL_map,x_seq,x_reg,x_skip,x_exit,x_ret,x_block,x_if,wpC_t,wpC_f,wpI_cons,wpI_nil,wpX_some,evI_any,evI_rd,evI_ad,evI_g,evG_u,evG_b,evG_tt,evG_ff,evG_tf,evG_ft,evO,evR,ev_t,ev_c,ev_f,putD_some,putD_none,put_at,cellsT,ldCells,mkT,lenA,binPV,add_bs,add_clk,add_ls,put_bs,put_clk,put_ls,kill_bs,kill_clk,kill_ls,empty_clk,empty_bs,Env.init,seqQ_norm,seqQ_exit,seqQ_ret,blkQ_norm,blkQ_exit,blkQ_ret,loopQ_norm,loopQ_exit,loopQ_ret,retP_ret,retP_norm,retE_ret,retE_norm,retS_ret,retS_norm,wpO_some,frA_fn,klA_p,klA_nil,klA_own,resVs,resV,resT,Option.bind_some,Option.bind_none,Option.map_some,List.getD_cons_zero,List.getD_cons_succ,List.getD_nil,List.length_cons,List.length_nil,List.length_map,List.map_cons,List.map_nil,List.drop_zero,List.drop_succ_cons,List.take_succ_cons,List.take_zero,List.drop_nil,List.take_nil,Nat.reduceEqDiff,Nat.reduceAdd,Nat.reduceLeDiff,Nat.zero_add,Nat.add_zero,Prod.mk.injEq,and_true,true_and,and_false,false_and,and_self,if_true,if_false,ite_true,ite_false,Bool.not_true,Bool.not_false,Bool.not_eq_true',reduceCtorEq,decide_true,decide_false,frTs,frT,frL_p,spS,ofPT_a,ofPT_g,ofPT_t,flat_i,flat_b,flat_s,flat_l,flat_g,flatp_i,flatp_b,flatp_s,flatp_l,klTs,klT,Bool.and_false,Bool.false_and,frL,frA_p,frA_nil,frA_own,ownT,intT,Bool.or_true,Bool.true_or,Bool.false_eq_true,frL_p,klL_p,ownT_p,O.adds,List.all_cons,List.all_nil,List.any_cons,List.any_nil,ownA,evO.bslRows,List.replicate_succ,List.replicate_zero,List.set_cons_zero,rowsA,over,List.cons_append,List.nil_append,List.append_nil,fillA,Bool.and_self,Bool.and_true,Bool.true_and,Bool.or_self,Bool.or_false,Bool.false_or,Nat.reduceMul,Nat.one_mul,Nat.lt_add_one,klL,Nat.le_refl,ite_self,Nat.reduceBEq]
    have fin : ∀ (e : Env) (σ : St),e 1 = .a (.ptr (1,0) 0 0) → e 3 = .a (.p (.i .i64 0)) → σ.bs (1,0) = some (.var [.p (.i .i64 k),.p (.i .i64 n),.p (.s s),.p (.l (l.map enc))]) →
        wp S false (.loop F16b0) e σ (blkQ 0 (seqQ S false ((C.reg [⟨some 2,none,.mv (.c (.a (.p (.b true)))),.any⟩]).seq C.ret) (RetP [Rs.tmp 2] (PT.a (PV.b (tameL l)))))) := by
      intro e σ e1 e3 h1
      refine loop16 (.mk k n s l) hl _ l 0 e σ rfl (by simp [T.l]) (fun u hu => ih u hu) e1 e3 h1 (fun hm e' => ?_) (fun hm e' he' => ?_)
      · simp only [hm,x_seq,x_reg,x_skip,x_exit,x_ret,x_block,x_if,wpC_t,wpC_f,wpI_cons,wpI_nil,wpX_some,evI_any,evI_rd,evI_ad,evI_g,evG_u,evG_b,evG_tt,evG_ff,evG_tf,evG_ft,evO,evR,ev_t,ev_c,ev_f,putD_some,putD_none,put_at,cellsT,ldCells,mkT,lenA,binPV,add_bs,add_clk,add_ls,put_bs,put_clk,put_ls,kill_bs,kill_clk,kill_ls,empty_clk,empty_bs,Env.init,seqQ_norm,seqQ_exit,seqQ_ret,blkQ_norm,blkQ_exit,blkQ_ret,loopQ_norm,loopQ_exit,loopQ_ret,retP_ret,retP_norm,retE_ret,retE_norm,retS_ret,retS_norm,wpO_some,frA_fn,klA_p,klA_nil,klA_own,resVs,resV,resT,Option.bind_some,Option.bind_none,Option.map_some,List.getD_cons_zero,List.getD_cons_succ,List.getD_nil,List.length_cons,List.length_nil,List.length_map,List.map_cons,List.map_nil,List.drop_zero,List.drop_succ_cons,List.take_succ_cons,List.take_zero,List.drop_nil,List.take_nil,Nat.reduceEqDiff,Nat.reduceAdd,Nat.reduceLeDiff,Nat.zero_add,Nat.add_zero,Prod.mk.injEq,and_true,true_and,and_false,false_and,and_self,if_true,if_false,ite_true,ite_false,Bool.not_true,Bool.not_false,Bool.not_eq_true',reduceCtorEq,decide_true,decide_false,frTs,frT,frL_p,spS,ofPT_a,ofPT_g,ofPT_t,flat_i,flat_b,flat_s,flat_l,flat_g,flatp_i,flatp_b,flatp_s,flatp_l,klTs,klT,Bool.and_false,Bool.false_and,frL,frA_p,frA_nil,frA_own,ownT,intT,Bool.or_true,Bool.true_or,Bool.false_eq_true,frL_p,klL_p,ownT_p,O.adds,List.all_cons,List.all_nil,List.any_cons,List.any_nil,ownA,evO.bslRows,List.replicate_succ,List.replicate_zero,List.set_cons_zero,rowsA,over,List.cons_append,List.nil_append,List.append_nil,fillA,Bool.and_self,Bool.and_true,Bool.true_and,Bool.or_self,Bool.or_false,Bool.false_or,Nat.reduceMul,Nat.one_mul,Nat.lt_add_one,klL,Nat.le_refl,ite_self,Nat.reduceBEq]
      · simp only [hm,he',x_seq,x_reg,x_skip,x_exit,x_ret,x_block,x_if,wpC_t,wpC_f,wpI_cons,wpI_nil,wpX_some,evI_any,evI_rd,evI_ad,evI_g,evG_u,evG_b,evG_tt,evG_ff,evG_tf,evG_ft,evO,evR,ev_t,ev_c,ev_f,putD_some,putD_none,put_at,cellsT,ldCells,mkT,lenA,binPV,add_bs,add_clk,add_ls,put_bs,put_clk,put_ls,kill_bs,kill_clk,kill_ls,empty_clk,empty_bs,Env.init,seqQ_norm,seqQ_exit,seqQ_ret,blkQ_norm,blkQ_exit,blkQ_ret,loopQ_norm,loopQ_exit,loopQ_ret,retP_ret,retP_norm,retE_ret,retE_norm,retS_ret,retS_norm,wpO_some,frA_fn,klA_p,klA_nil,klA_own,resVs,resV,resT,Option.bind_some,Option.bind_none,Option.map_some,List.getD_cons_zero,List.getD_cons_succ,List.getD_nil,List.length_cons,List.length_nil,List.length_map,List.map_cons,List.map_nil,List.drop_zero,List.drop_succ_cons,List.take_succ_cons,List.take_zero,List.drop_nil,List.take_nil,Nat.reduceEqDiff,Nat.reduceAdd,Nat.reduceLeDiff,Nat.zero_add,Nat.add_zero,Prod.mk.injEq,and_true,true_and,and_false,false_and,and_self,if_true,if_false,ite_true,ite_false,Bool.not_true,Bool.not_false,Bool.not_eq_true',reduceCtorEq,decide_true,decide_false,frTs,frT,frL_p,spS,ofPT_a,ofPT_g,ofPT_t,flat_i,flat_b,flat_s,flat_l,flat_g,flatp_i,flatp_b,flatp_s,flatp_l,klTs,klT,Bool.and_false,Bool.false_and,frL,frA_p,frA_nil,frA_own,ownT,intT,Bool.or_true,Bool.true_or,Bool.false_eq_true,frL_p,klL_p,ownT_p,O.adds,List.all_cons,List.all_nil,List.any_cons,List.any_nil,ownA,evO.bslRows,List.replicate_succ,List.replicate_zero,List.set_cons_zero,rowsA,over,List.cons_append,List.nil_append,List.append_nil,fillA,Bool.and_self,Bool.and_true,Bool.true_and,Bool.or_self,Bool.or_false,Bool.false_or,Nat.reduceMul,Nat.one_mul,Nat.lt_add_one,klL,Nat.le_refl,ite_self,Nat.reduceBEq]
    refine wpX_bsplit (fun h1 => ?_) (fun h1 => ?_) <;> simp only [h1,x_seq,x_reg,x_skip,x_exit,x_ret,x_block,x_if,wpC_t,wpC_f,wpI_cons,wpI_nil,wpX_some,evI_any,evI_rd,evI_ad,evI_g,evG_u,evG_b,evG_tt,evG_ff,evG_tf,evG_ft,evO,evR,ev_t,ev_c,ev_f,putD_some,putD_none,put_at,cellsT,ldCells,mkT,lenA,binPV,add_bs,add_clk,add_ls,put_bs,put_clk,put_ls,kill_bs,kill_clk,kill_ls,empty_clk,empty_bs,Env.init,seqQ_norm,seqQ_exit,seqQ_ret,blkQ_norm,blkQ_exit,blkQ_ret,loopQ_norm,loopQ_exit,loopQ_ret,retP_ret,retP_norm,retE_ret,retE_norm,retS_ret,retS_norm,wpO_some,frA_fn,klA_p,klA_nil,klA_own,resVs,resV,resT,Option.bind_some,Option.bind_none,Option.map_some,List.getD_cons_zero,List.getD_cons_succ,List.getD_nil,List.length_cons,List.length_nil,List.length_map,List.map_cons,List.map_nil,List.drop_zero,List.drop_succ_cons,List.take_succ_cons,List.take_zero,List.drop_nil,List.take_nil,Nat.reduceEqDiff,Nat.reduceAdd,Nat.reduceLeDiff,Nat.zero_add,Nat.add_zero,Prod.mk.injEq,and_true,true_and,and_false,false_and,and_self,if_true,if_false,ite_true,ite_false,Bool.not_true,Bool.not_false,Bool.not_eq_true',reduceCtorEq,decide_true,decide_false,frTs,frT,frL_p,spS,ofPT_a,ofPT_g,ofPT_t,flat_i,flat_b,flat_s,flat_l,flat_g,flatp_i,flatp_b,flatp_s,flatp_l,klTs,klT,Bool.and_false,Bool.false_and,frL,frA_p,frA_nil,frA_own,ownT,intT,Bool.or_true,Bool.true_or,Bool.false_eq_true,frL_p,klL_p,ownT_p,O.adds,List.all_cons,List.all_nil,List.any_cons,List.any_nil,ownA,evO.bslRows,List.replicate_succ,List.replicate_zero,List.set_cons_zero,rowsA,over,List.cons_append,List.nil_append,List.append_nil,fillA,Bool.and_self,Bool.and_true,Bool.true_and,Bool.or_self,Bool.or_false,Bool.false_or,Nat.reduceMul,Nat.one_mul,Nat.lt_add_one,klL,Nat.le_refl,ite_self,Nat.reduceBEq]
    all_goals try (refine wpX_bsplit (fun h2 => ?_) (fun h2 => ?_) <;> simp only [h2,x_seq,x_reg,x_skip,x_exit,x_ret,x_block,x_if,wpC_t,wpC_f,wpI_cons,wpI_nil,wpX_some,evI_any,evI_rd,evI_ad,evI_g,evG_u,evG_b,evG_tt,evG_ff,evG_tf,evG_ft,evO,evR,ev_t,ev_c,ev_f,putD_some,putD_none,put_at,cellsT,ldCells,mkT,lenA,binPV,add_bs,add_clk,add_ls,put_bs,put_clk,put_ls,kill_bs,kill_clk,kill_ls,empty_clk,empty_bs,Env.init,seqQ_norm,seqQ_exit,seqQ_ret,blkQ_norm,blkQ_exit,blkQ_ret,loopQ_norm,loopQ_exit,loopQ_ret,retP_ret,retP_norm,retE_ret,retE_norm,retS_ret,retS_norm,wpO_some,frA_fn,klA_p,klA_nil,klA_own,resVs,resV,resT,Option.bind_some,Option.bind_none,Option.map_some,List.getD_cons_zero,List.getD_cons_succ,List.getD_nil,List.length_cons,List.length_nil,List.length_map,List.map_cons,List.map_nil,List.drop_zero,List.drop_succ_cons,List.take_succ_cons,List.take_zero,List.drop_nil,List.take_nil,Nat.reduceEqDiff,Nat.reduceAdd,Nat.reduceLeDiff,Nat.zero_add,Nat.add_zero,Prod.mk.injEq,and_true,true_and,and_false,false_and,and_self,if_true,if_false,ite_true,ite_false,Bool.not_true,Bool.not_false,Bool.not_eq_true',reduceCtorEq,decide_true,decide_false,frTs,frT,frL_p,spS,ofPT_a,ofPT_g,ofPT_t,flat_i,flat_b,flat_s,flat_l,flat_g,flatp_i,flatp_b,flatp_s,flatp_l,klTs,klT,Bool.and_false,Bool.false_and,frL,frA_p,frA_nil,frA_own,ownT,intT,Bool.or_true,Bool.true_or,Bool.false_eq_true,frL_p,klL_p,ownT_p,O.adds,List.all_cons,List.all_nil,List.any_cons,List.any_nil,ownA,evO.bslRows,List.replicate_succ,List.replicate_zero,List.set_cons_zero,rowsA,over,List.cons_append,List.nil_append,List.append_nil,fillA,Bool.and_self,Bool.and_true,Bool.true_and,Bool.or_self,Bool.or_false,Bool.false_or,Nat.reduceMul,Nat.one_mul,Nat.lt_add_one,klL,Nat.le_refl,ite_self,Nat.reduceBEq])
    all_goals try (refine wpX_bsplit (fun h3 => ?_) (fun h3 => ?_) <;> simp only [h3,x_seq,x_reg,x_skip,x_exit,x_ret,x_block,x_if,wpC_t,wpC_f,wpI_cons,wpI_nil,wpX_some,evI_any,evI_rd,evI_ad,evI_g,evG_u,evG_b,evG_tt,evG_ff,evG_tf,evG_ft,evO,evR,ev_t,ev_c,ev_f,putD_some,putD_none,put_at,cellsT,ldCells,mkT,lenA,binPV,add_bs,add_clk,add_ls,put_bs,put_clk,put_ls,kill_bs,kill_clk,kill_ls,empty_clk,empty_bs,Env.init,seqQ_norm,seqQ_exit,seqQ_ret,blkQ_norm,blkQ_exit,blkQ_ret,loopQ_norm,loopQ_exit,loopQ_ret,retP_ret,retP_norm,retE_ret,retE_norm,retS_ret,retS_norm,wpO_some,frA_fn,klA_p,klA_nil,klA_own,resVs,resV,resT,Option.bind_some,Option.bind_none,Option.map_some,List.getD_cons_zero,List.getD_cons_succ,List.getD_nil,List.length_cons,List.length_nil,List.length_map,List.map_cons,List.map_nil,List.drop_zero,List.drop_succ_cons,List.take_succ_cons,List.take_zero,List.drop_nil,List.take_nil,Nat.reduceEqDiff,Nat.reduceAdd,Nat.reduceLeDiff,Nat.zero_add,Nat.add_zero,Prod.mk.injEq,and_true,true_and,and_false,false_and,and_self,if_true,if_false,ite_true,ite_false,Bool.not_true,Bool.not_false,Bool.not_eq_true',reduceCtorEq,decide_true,decide_false,frTs,frT,frL_p,spS,ofPT_a,ofPT_g,ofPT_t,flat_i,flat_b,flat_s,flat_l,flat_g,flatp_i,flatp_b,flatp_s,flatp_l,klTs,klT,Bool.and_false,Bool.false_and,frL,frA_p,frA_nil,frA_own,ownT,intT,Bool.or_true,Bool.true_or,Bool.false_eq_true,frL_p,klL_p,ownT_p,O.adds,List.all_cons,List.all_nil,List.any_cons,List.any_nil,ownA,evO.bslRows,List.replicate_succ,List.replicate_zero,List.set_cons_zero,rowsA,over,List.cons_append,List.nil_append,List.append_nil,fillA,Bool.and_self,Bool.and_true,Bool.true_and,Bool.or_self,Bool.or_false,Bool.false_or,Nat.reduceMul,Nat.one_mul,Nat.lt_add_one,klL,Nat.le_refl,ite_self,Nat.reduceBEq])
    all_goals try (refine wpX_bsplit (fun h4 => ?_) (fun h4 => ?_) <;> simp only [h4,x_seq,x_reg,x_skip,x_exit,x_ret,x_block,x_if,wpC_t,wpC_f,wpI_cons,wpI_nil,wpX_some,evI_any,evI_rd,evI_ad,evI_g,evG_u,evG_b,evG_tt,evG_ff,evG_tf,evG_ft,evO,evR,ev_t,ev_c,ev_f,putD_some,putD_none,put_at,cellsT,ldCells,mkT,lenA,binPV,add_bs,add_clk,add_ls,put_bs,put_clk,put_ls,kill_bs,kill_clk,kill_ls,empty_clk,empty_bs,Env.init,seqQ_norm,seqQ_exit,seqQ_ret,blkQ_norm,blkQ_exit,blkQ_ret,loopQ_norm,loopQ_exit,loopQ_ret,retP_ret,retP_norm,retE_ret,retE_norm,retS_ret,retS_norm,wpO_some,frA_fn,klA_p,klA_nil,klA_own,resVs,resV,resT,Option.bind_some,Option.bind_none,Option.map_some,List.getD_cons_zero,List.getD_cons_succ,List.getD_nil,List.length_cons,List.length_nil,List.length_map,List.map_cons,List.map_nil,List.drop_zero,List.drop_succ_cons,List.take_succ_cons,List.take_zero,List.drop_nil,List.take_nil,Nat.reduceEqDiff,Nat.reduceAdd,Nat.reduceLeDiff,Nat.zero_add,Nat.add_zero,Prod.mk.injEq,and_true,true_and,and_false,false_and,and_self,if_true,if_false,ite_true,ite_false,Bool.not_true,Bool.not_false,Bool.not_eq_true',reduceCtorEq,decide_true,decide_false,frTs,frT,frL_p,spS,ofPT_a,ofPT_g,ofPT_t,flat_i,flat_b,flat_s,flat_l,flat_g,flatp_i,flatp_b,flatp_s,flatp_l,klTs,klT,Bool.and_false,Bool.false_and,frL,frA_p,frA_nil,frA_own,ownT,intT,Bool.or_true,Bool.true_or,Bool.false_eq_true,frL_p,klL_p,ownT_p,O.adds,List.all_cons,List.all_nil,List.any_cons,List.any_nil,ownA,evO.bslRows,List.replicate_succ,List.replicate_zero,List.set_cons_zero,rowsA,over,List.cons_append,List.nil_append,List.append_nil,fillA,Bool.and_self,Bool.and_true,Bool.true_and,Bool.or_self,Bool.or_false,Bool.false_or,Nat.reduceMul,Nat.one_mul,Nat.lt_add_one,klL,Nat.le_refl,ite_self,Nat.reduceBEq])
    all_goals try (refine wpC_split (fun h5 => ?_) (fun h5 => ?_) <;> simp only [h5,x_seq,x_reg,x_skip,x_exit,x_ret,x_block,x_if,wpC_t,wpC_f,wpI_cons,wpI_nil,wpX_some,evI_any,evI_rd,evI_ad,evI_g,evG_u,evG_b,evG_tt,evG_ff,evG_tf,evG_ft,evO,evR,ev_t,ev_c,ev_f,putD_some,putD_none,put_at,cellsT,ldCells,mkT,lenA,binPV,add_bs,add_clk,add_ls,put_bs,put_clk,put_ls,kill_bs,kill_clk,kill_ls,empty_clk,empty_bs,Env.init,seqQ_norm,seqQ_exit,seqQ_ret,blkQ_norm,blkQ_exit,blkQ_ret,loopQ_norm,loopQ_exit,loopQ_ret,retP_ret,retP_norm,retE_ret,retE_norm,retS_ret,retS_norm,wpO_some,frA_fn,klA_p,klA_nil,klA_own,resVs,resV,resT,Option.bind_some,Option.bind_none,Option.map_some,List.getD_cons_zero,List.getD_cons_succ,List.getD_nil,List.length_cons,List.length_nil,List.length_map,List.map_cons,List.map_nil,List.drop_zero,List.drop_succ_cons,List.take_succ_cons,List.take_zero,List.drop_nil,List.take_nil,Nat.reduceEqDiff,Nat.reduceAdd,Nat.reduceLeDiff,Nat.zero_add,Nat.add_zero,Prod.mk.injEq,and_true,true_and,and_false,false_and,and_self,if_true,if_false,ite_true,ite_false,Bool.not_true,Bool.not_false,Bool.not_eq_true',reduceCtorEq,decide_true,decide_false,frTs,frT,frL_p,spS,ofPT_a,ofPT_g,ofPT_t,flat_i,flat_b,flat_s,flat_l,flat_g,flatp_i,flatp_b,flatp_s,flatp_l,klTs,klT,Bool.and_false,Bool.false_and,frL,frA_p,frA_nil,frA_own,ownT,intT,Bool.or_true,Bool.true_or,Bool.false_eq_true,frL_p,klL_p,ownT_p,O.adds,List.all_cons,List.all_nil,List.any_cons,List.any_nil,ownA,evO.bslRows,List.replicate_succ,List.replicate_zero,List.set_cons_zero,rowsA,over,List.cons_append,List.nil_append,List.append_nil,fillA,Bool.and_self,Bool.and_true,Bool.true_and,Bool.or_self,Bool.or_false,Bool.false_or,Nat.reduceMul,Nat.one_mul,Nat.lt_add_one,klL,Nat.le_refl,ite_self,Nat.reduceBEq])
    all_goals simp only [Bool.not_eq_false',Bool.not_eq_true',Bool.not_false,Bool.not_true,decide_eq_true_eq,decide_eq_false_iff_not,Int.natCast_inj] at *
    all_goals first
      | (rw [if_pos (by omega)]; done)
      | (rw [if_neg (by omega)]; exact fin _ _ (by simp only [x_seq,x_reg,x_skip,x_exit,x_ret,x_block,x_if,wpC_t,wpC_f,wpI_cons,wpI_nil,wpX_some,evI_any,evI_rd,evI_ad,evI_g,evG_u,evG_b,evG_tt,evG_ff,evG_tf,evG_ft,evO,evR,ev_t,ev_c,ev_f,putD_some,putD_none,put_at,cellsT,ldCells,mkT,lenA,binPV,add_bs,add_clk,add_ls,put_bs,put_clk,put_ls,kill_bs,kill_clk,kill_ls,empty_clk,empty_bs,Env.init,seqQ_norm,seqQ_exit,seqQ_ret,blkQ_norm,blkQ_exit,blkQ_ret,loopQ_norm,loopQ_exit,loopQ_ret,retP_ret,retP_norm,retE_ret,retE_norm,retS_ret,retS_norm,wpO_some,frA_fn,klA_p,klA_nil,klA_own,resVs,resV,resT,Option.bind_some,Option.bind_none,Option.map_some,List.getD_cons_zero,List.getD_cons_succ,List.getD_nil,List.length_cons,List.length_nil,List.length_map,List.map_cons,List.map_nil,List.drop_zero,List.drop_succ_cons,List.take_succ_cons,List.take_zero,List.drop_nil,List.take_nil,Nat.reduceEqDiff,Nat.reduceAdd,Nat.reduceLeDiff,Nat.zero_add,Nat.add_zero,Prod.mk.injEq,and_true,true_and,and_false,false_and,and_self,if_true,if_false,ite_true,ite_false,Bool.not_true,Bool.not_false,Bool.not_eq_true',reduceCtorEq,decide_true,decide_false,frTs,frT,frL_p,spS,ofPT_a,ofPT_g,ofPT_t,flat_i,flat_b,flat_s,flat_l,flat_g,flatp_i,flatp_b,flatp_s,flatp_l,klTs,klT,Bool.and_false,Bool.false_and,frL,frA_p,frA_nil,frA_own,ownT,intT,Bool.or_true,Bool.true_or,Bool.false_eq_true,frL_p,klL_p,ownT_p,O.adds,List.all_cons,List.all_nil,List.any_cons,List.any_nil,ownA,evO.bslRows,List.replicate_succ,List.replicate_zero,List.set_cons_zero,rowsA,over,List.cons_append,List.nil_append,List.append_nil,fillA,Bool.and_self,Bool.and_true,Bool.true_and,Bool.or_self,Bool.or_false,Bool.false_or,Nat.reduceMul,Nat.one_mul,Nat.lt_add_one,klL,Nat.le_refl,ite_self,Nat.reduceBEq]) (by simp only [x_seq,x_reg,x_skip,x_exit,x_ret,x_block,x_if,wpC_t,wpC_f,wpI_cons,wpI_nil,wpX_some,evI_any,evI_rd,evI_ad,evI_g,evG_u,evG_b,evG_tt,evG_ff,evG_tf,evG_ft,evO,evR,ev_t,ev_c,ev_f,putD_some,putD_none,put_at,cellsT,ldCells,mkT,lenA,binPV,add_bs,add_clk,add_ls,put_bs,put_clk,put_ls,kill_bs,kill_clk,kill_ls,empty_clk,empty_bs,Env.init,seqQ_norm,seqQ_exit,seqQ_ret,blkQ_norm,blkQ_exit,blkQ_ret,loopQ_norm,loopQ_exit,loopQ_ret,retP_ret,retP_norm,retE_ret,retE_norm,retS_ret,retS_norm,wpO_some,frA_fn,klA_p,klA_nil,klA_own,resVs,resV,resT,Option.bind_some,Option.bind_none,Option.map_some,List.getD_cons_zero,List.getD_cons_succ,List.getD_nil,List.length_cons,List.length_nil,List.length_map,List.map_cons,List.map_nil,List.drop_zero,List.drop_succ_cons,List.take_succ_cons,List.take_zero,List.drop_nil,List.take_nil,Nat.reduceEqDiff,Nat.reduceAdd,Nat.reduceLeDiff,Nat.zero_add,Nat.add_zero,Prod.mk.injEq,and_true,true_and,and_false,false_and,and_self,if_true,if_false,ite_true,ite_false,Bool.not_true,Bool.not_false,Bool.not_eq_true',reduceCtorEq,decide_true,decide_false,frTs,frT,frL_p,spS,ofPT_a,ofPT_g,ofPT_t,flat_i,flat_b,flat_s,flat_l,flat_g,flatp_i,flatp_b,flatp_s,flatp_l,klTs,klT,Bool.and_false,Bool.false_and,frL,frA_p,frA_nil,frA_own,ownT,intT,Bool.or_true,Bool.true_or,Bool.false_eq_true,frL_p,klL_p,ownT_p,O.adds,List.all_cons,List.all_nil,List.any_cons,List.any_nil,ownA,evO.bslRows,List.replicate_succ,List.replicate_zero,List.set_cons_zero,rowsA,over,List.cons_append,List.nil_append,List.append_nil,fillA,Bool.and_self,Bool.and_true,Bool.true_and,Bool.or_self,Bool.or_false,Bool.false_or,Nat.reduceMul,Nat.one_mul,Nat.lt_add_one,klL,Nat.le_refl,ite_self,Nat.reduceBEq]) (by simp only [x_seq,x_reg,x_skip,x_exit,x_ret,x_block,x_if,wpC_t,wpC_f,wpI_cons,wpI_nil,wpX_some,evI_any,evI_rd,evI_ad,evI_g,evG_u,evG_b,evG_tt,evG_ff,evG_tf,evG_ft,evO,evR,ev_t,ev_c,ev_f,putD_some,putD_none,put_at,cellsT,ldCells,mkT,lenA,binPV,add_bs,add_clk,add_ls,put_bs,put_clk,put_ls,kill_bs,kill_clk,kill_ls,empty_clk,empty_bs,Env.init,seqQ_norm,seqQ_exit,seqQ_ret,blkQ_norm,blkQ_exit,blkQ_ret,loopQ_norm,loopQ_exit,loopQ_ret,retP_ret,retP_norm,retE_ret,retE_norm,retS_ret,retS_norm,wpO_some,frA_fn,klA_p,klA_nil,klA_own,resVs,resV,resT,Option.bind_some,Option.bind_none,Option.map_some,List.getD_cons_zero,List.getD_cons_succ,List.getD_nil,List.length_cons,List.length_nil,List.length_map,List.map_cons,List.map_nil,List.drop_zero,List.drop_succ_cons,List.take_succ_cons,List.take_zero,List.drop_nil,List.take_nil,Nat.reduceEqDiff,Nat.reduceAdd,Nat.reduceLeDiff,Nat.zero_add,Nat.add_zero,Prod.mk.injEq,and_true,true_and,and_false,false_and,and_self,if_true,if_false,ite_true,ite_false,Bool.not_true,Bool.not_false,Bool.not_eq_true',reduceCtorEq,decide_true,decide_false,frTs,frT,frL_p,spS,ofPT_a,ofPT_g,ofPT_t,flat_i,flat_b,flat_s,flat_l,flat_g,flatp_i,flatp_b,flatp_s,flatp_l,klTs,klT,Bool.and_false,Bool.false_and,frL,frA_p,frA_nil,frA_own,ownT,intT,Bool.or_true,Bool.true_or,Bool.false_eq_true,frL_p,klL_p,ownT_p,O.adds,List.all_cons,List.all_nil,List.any_cons,List.any_nil,ownA,evO.bslRows,List.replicate_succ,List.replicate_zero,List.set_cons_zero,rowsA,over,List.cons_append,List.nil_append,List.append_nil,fillA,Bool.and_self,Bool.and_true,Bool.true_and,Bool.or_self,Bool.or_false,Bool.false_or,Nat.reduceMul,Nat.one_mul,Nat.lt_add_one,klL,Nat.le_refl,ite_self,Nat.reduceBEq]))
end Go.Proofs.Ytlgekplmbmkcmaa
end
section
set_option linter.unusedSimpArgs false
set_option linter.unusedVariables false
namespace Go.Proofs.Ytlgekplmbmkcmaa
open Go.Fx
theorem usesW (l : List T) (q a : Int) (h : w a = a) : w (usesL l q a) = usesL l q a := by
  have := usesL_acc 0 l q a
  rw [Int.zero_add,Int.zero_add,h] at this
  exact this
theorem uses_w (t : T) (q : Int) : w (uses t q) = uses t q := by
  obtain ⟨k,n,s,l⟩ := t
  unfold uses
  split
  · split <;> decide
  · exact usesW l _ 0 (by decide)
end Go.Proofs.Ytlgekplmbmkcmaa
end
section
set_option linter.unusedSimpArgs false
set_option linter.unusedVariables false
namespace Go.Proofs.Ytlgekplmbmkcmaa
open Go.Fx
mutual
def size : T → Int
  | .mk _ _ _ l => sizeL l 1
def sizeL : List T → Int → Int
  | [],a => a
  | t :: r,a => sizeL r (w (a + size t))
end
theorem app_ok (t u : T) : eP S 31 [.g (enc t),.g (enc u)] = some (.g (enc (.mk 3 0 [] [t,u]))) := by
  have e0 : enc (.mk 3 0 [] [t,u]) = [.i .i64 3,.i .i64 0,.s [],.l [enc t,enc u]] := rfl
  rw [e0]
  refine x_fn (orcS 31) (fc := F31) rfl rfl ?_
  simp only [F31,enc_len,enc_takep,List.set_cons_succ,Nat.reduceLT,Int.cast_ofNat_Int,Int.reduceLE,Int.reduceLT,Int.reduceToNat,Int.reduceAdd,Int.reduceSub,Int.reduceNeg,x_seq,x_reg,x_skip,x_exit,x_ret,x_block,x_if,wpC_t,wpC_f,wpI_cons,wpI_nil,wpX_some,evI_any,evI_rd,evI_ad,evI_g,evG_u,evG_b,evG_tt,evG_ff,evG_tf,evG_ft,evO,evR,ev_t,ev_c,ev_f,putD_some,putD_none,put_at,cellsT,ldCells,mkT,lenA,binPV,add_bs,add_clk,add_ls,put_bs,put_clk,put_ls,kill_bs,kill_clk,kill_ls,empty_clk,empty_bs,Env.init,seqQ_norm,seqQ_exit,seqQ_ret,blkQ_norm,blkQ_exit,blkQ_ret,loopQ_norm,loopQ_exit,loopQ_ret,retP_ret,retP_norm,retE_ret,retE_norm,retS_ret,retS_norm,wpO_some,frA_fn,klA_p,klA_nil,klA_own,resVs,resV,resT,Option.bind_some,Option.bind_none,Option.map_some,List.getD_cons_zero,List.getD_cons_succ,List.getD_nil,List.length_cons,List.length_nil,List.length_map,List.map_cons,List.map_nil,List.drop_zero,List.drop_succ_cons,List.take_succ_cons,List.take_zero,List.drop_nil,List.take_nil,Nat.reduceEqDiff,Nat.reduceAdd,Nat.reduceLeDiff,Nat.zero_add,Nat.add_zero,Prod.mk.injEq,and_true,true_and,and_false,false_and,and_self,if_true,if_false,ite_true,ite_false,Bool.not_true,Bool.not_false,Bool.not_eq_true',reduceCtorEq,decide_true,decide_false,frTs,frT,frL_p,spS,ofPT_a,ofPT_g,ofPT_t,flat_i,flat_b,flat_s,flat_l,flat_g,flatp_i,flatp_b,flatp_s,flatp_l,klTs,klT,Bool.and_false,Bool.false_and,frL,frA_p,frA_nil,frA_own,ownT,intT,Bool.or_true,Bool.true_or,Bool.false_eq_true,frL_p,klL_p,ownT_p,O.adds,List.all_cons,List.all_nil,List.any_cons,List.any_nil,ownA,evO.bslRows,List.replicate_succ,List.replicate_zero,List.set_cons_zero,rowsA,over,List.cons_append,List.nil_append,List.append_nil,fillA,Bool.and_self,Bool.and_true,Bool.true_and,Bool.or_self,Bool.or_false,Bool.false_or,Nat.reduceMul,Nat.one_mul,Nat.lt_add_one,klL,Nat.le_refl,ite_self,Nat.reduceBEq]
end Go.Proofs.Ytlgekplmbmkcmaa
end
section
set_option linter.unusedSimpArgs false
set_option linter.unusedVariables false
namespace Go.Proofs.Ytlgekplmbmkcmaa
open Go.Fx
mutual
def dep : T → Nat
  | .mk _ _ _ l => depL l + 1
def depL : List T → Nat
  | [] => 0
  | t :: r => max (dep t) (depL r)
end
theorem depL_mem {l : List T} {t : T} (h : t ∈ l) : dep t ≤ depL l := by
  induction l with
  | nil => simp at h
  | cons x l ih =>
    simp only [depL]
    rcases List.mem_cons.1 h with rfl | h
    · omega
    · have := ih h; omega
end Go.Proofs.Ytlgekplmbmkcmaa
end
section
set_option linter.unusedSimpArgs false
set_option linter.unusedVariables false
set_option maxHeartbeats 4000000
set_option maxRecDepth 10000
namespace Go.Proofs.Ytlgekplmbmkcmaa
open Go.Fx
theorem allI (l : List Int) : (l.map encI).all (fun r => decide (r.length = 1)) = true := by simp [encI]
theorem mapI {l : List Int} {i : Nat} {x : Int} (h : l[i]? = some x) : (l.map encI)[i]? = some [.i .i64 x] := by rw [List.getElem?_map,h]; rfl
theorem drop_consI {l : List Int} {i : Nat} {x : Int} (h : l[i]? = some x) : l.drop i = x :: l.drop (i + 1) := by
  obtain ⟨hi,rfl⟩ := List.getElem?_eq_some_iff.1 h
  rw [List.drop_eq_getElem_cons hi]
theorem Ints_ok {l m : List Int} (hl : l.length ≤ 1099511627776) : eP S 34 [.a (.l (l.map encI)),.a (.l (m.map encI))] = some (.a (.b (decide (l = m)))) := by
  refine x_fn (orcS _) (fc := F34) rfl rfl ?_
  by_cases hlm : l.length = m.length
  case neg =>
    have h1 : ¬ (l.length : Int) = (m.length : Int) := by omega
    have h2 : ¬ l = m := fun h => hlm (by rw [h])
    simp only [F34,h1,h2,List.length_map,spS,fxa,fxc,fxE,fxL,fxI,nxE,evO,evR,cellsT,ldCells,mkT,lenA,binPV,Env.init,resV,resT,frT,klT,ownT,intT,O.adds,ownA,rowsA,over,wrOk,keysT,keysA,ne_eq,if_true,if_false,ite_self,Nat.reduceLT,Nat.reduceSub,Nat.reduceBEq,Nat.reduceEqDiff,Nat.reduceAdd,Nat.reduceLeDiff,reduceCtorEq,Nat.reduceMul]
  have h1 : (l.length : Int) = (m.length : Int) := by omega
  simp only [F34,h1,List.length_map,spS,fxa,fxc,fxE,fxL,fxI,nxE,evO,evR,cellsT,ldCells,mkT,lenA,binPV,Env.init,resV,resT,frT,klT,ownT,intT,O.adds,ownA,rowsA,over,wrOk,keysT,keysA,ne_eq,if_true,if_false,ite_self,Nat.reduceLT,Nat.reduceSub,Nat.reduceBEq,Nat.reduceEqDiff,Nat.reduceAdd,Nat.reduceLeDiff,reduceCtorEq,Nat.reduceMul]
  refine loop_nat l.length (fun i e τ => e 0 = .a (.p (.l (l.map encI))) ∧ e 1 = .a (.p (.l (m.map encI))) ∧ e 5 = .a (.p (.i .i64 (i : Nat))) ∧ (l.drop i = m.drop i ↔ l = m)) (i0 := 0) (Nat.zero_le _) ⟨rfl,rfl,rfl,by simp⟩ ?_ ?_
  · rintro i e τ hi ⟨e0,e1,e5,hd⟩
    obtain ⟨x,hx⟩ : ∃ x,l[i]? = some x := ⟨_,List.getElem?_eq_getElem hi⟩
    obtain ⟨y,hy⟩ : ∃ y,m[i]? = some y := ⟨_,List.getElem?_eq_getElem (by omega)⟩
    have hx' := mapI hx
    have hy' := mapI hy
    have hlt : ((i : Nat) : Int) < (l.length : Int) := by omega
    have hlt2 : ((i : Nat) : Int) < (m.length : Int) := by omega
    have hge : (0 : Int) ≤ ((i : Nat) : Int) := by omega
    have hw := wrap_succ i (by omega)
    rw [drop_consI hx,drop_consI hy] at hd
    by_cases hxy : x = y
    · subst hxy
      simp only [List.cons.injEq,true_and] at hd
      simp only [F34b0,e0,e1,e5,hlt,hlt2,hge,hw,hx',hy',allI,Int.toNat_natCast,List.length_map,List.length_cons,List.length_nil,spS,fxa,fxc,fxE,fxL,fxI,nxE,evO,evR,cellsT,ldCells,mkT,lenA,binPV,Env.init,resV,resT,frT,klT,ownT,intT,O.adds,ownA,rowsA,over,wrOk,keysT,keysA,ne_eq,if_true,if_false,ite_self,Nat.reduceLT,Nat.reduceSub,Nat.reduceBEq,Nat.reduceEqDiff,Nat.reduceAdd,Nat.reduceLeDiff,reduceCtorEq,Nat.reduceMul]
      exact hd
    · have hne : ¬ l = m := fun h => hxy (by have := hd.2 h; simp only [List.cons.injEq] at this; exact this.1)
      simp only [F34b0,e0,e1,e5,hlt,hlt2,hge,hx',hy',hxy,hne,allI,Int.toNat_natCast,List.length_map,List.length_cons,List.length_nil,spS,fxa,fxc,fxE,fxL,fxI,nxE,evO,evR,cellsT,ldCells,mkT,lenA,binPV,Env.init,resV,resT,frT,klT,ownT,intT,O.adds,ownA,rowsA,over,wrOk,keysT,keysA,ne_eq,if_true,if_false,ite_self,Nat.reduceLT,Nat.reduceSub,Nat.reduceBEq,Nat.reduceEqDiff,Nat.reduceAdd,Nat.reduceLeDiff,reduceCtorEq,Nat.reduceMul]
  · rintro e τ ⟨e0,e1,e5,hd⟩
    obtain rfl : l = m := by
      apply hd.1
      rw [List.drop_length,hlm,List.drop_length]
    have hlt : ¬ ((l.length : Nat) : Int) < (l.length : Int) := by omega
    simp only [F34b0,e0,e1,e5,hlt,List.length_map,spS,fxa,fxc,fxE,fxL,fxI,nxE,evO,evR,cellsT,ldCells,mkT,lenA,binPV,Env.init,resV,resT,frT,klT,ownT,intT,O.adds,ownA,rowsA,over,wrOk,keysT,keysA,ne_eq,if_true,if_false,ite_self,Nat.reduceLT,Nat.reduceSub,Nat.reduceBEq,Nat.reduceEqDiff,Nat.reduceAdd,Nat.reduceLeDiff,reduceCtorEq,Nat.reduceMul]
theorem with_ok {l : List Int} {n : Int} (hl : l.length ≤ 1099511627776) : eP S 73 [.a (.l (l.map encI)),.a (.i .i64 n)] = some (.a (.l ((withL n false l).map encI))) := by
  refine x_fn (orcS _) (fc := F73) rfl rfl ?_
  simp only [F73,spS,fxa,fxc,fxE,fxL,fxI,nxE,evO,evR,cellsT,ldCells,mkT,lenA,binPV,Env.init,resV,resT,frT,klT,ownT,intT,O.adds,ownA,rowsA,over,wrOk,keysT,keysA,ne_eq,if_true,if_false,ite_self,Nat.reduceLT,Nat.reduceSub,Nat.reduceBEq,Nat.reduceEqDiff,Nat.reduceAdd,Nat.reduceLeDiff,reduceCtorEq,Nat.reduceMul]
  refine loop_nat l.length (fun i e τ => e 0 = .a (.p (.l (l.map encI))) ∧ e 1 = .a (.p (.i .i64 n)) ∧ e 7 = .a (.p (.i .i64 (i : Nat))) ∧ ∃ (done : List Int) (laid : Bool) (d q : Nat),e 6 = .a (.p (.b laid)) ∧ e 5 = .a (.own (d,q) 0 done.length) ∧ τ.bs (d,q) = some (.row 1 3 (done.map encI)) ∧ q < τ.clk ∧ done.length ≤ 2 * i ∧ done ++ withL n laid (l.drop i) = withL n false l) (i0 := 0) (Nat.zero_le _) ⟨rfl,rfl,rfl,[],false,8,0,rfl,rfl,rfl,by show 0 < 1; omega,by simp,by simp⟩ ?_ ?_
  · rintro i e τ hi ⟨e0,e1,e7,done,laid,d,q,e6,e5,hb,hq,hdl,hdone⟩
    obtain ⟨x,hx⟩ : ∃ x,l[i]? = some x := ⟨_,List.getElem?_eq_getElem hi⟩
    have hx' := mapI hx
    have hlt : ((i : Nat) : Int) < (l.length : Int) := by omega
    have hge : (0 : Int) ≤ ((i : Nat) : Int) := by omega
    have hw := wrap_succ i (by omega)
    have htk : List.take done.length (done.map encI) = done.map encI := List.take_of_length_le (by simp)
    have hbb : (done.length + 1) * 8 ≤ 140737488355328 := by omega
    have hbb2 : (done.length + 1 + 1) * 8 ≤ 140737488355328 := by omega
    have q0 : ¬ q = τ.clk := by omega
    have q1 : ¬ q = τ.clk + 1 := by omega
    have q2 : ¬ q = τ.clk + 1 + 1 := by omega
    have q3 : ¬ q = τ.clk + 1 + 1 + 1 := by omega
    have k1 : ¬ τ.clk + 1 = τ.clk + 1 + 1 := by omega
    rw [drop_consI hx] at hdone
    simp only [withL] at hdone
    cases laid with
    | true =>
      simp only [Bool.true_eq_false,false_and,if_false,List.nil_append,Bool.true_or] at hdone
      by_cases h2 : x = n
      · simp only [h2,ne_eq,not_true_eq_false,if_false,List.nil_append] at hdone
        simp only [F73b0,e0,e1,e5,e6,e7,hlt,hge,hw,hx',h2,allI,Int.toNat_natCast,List.length_map,List.length_cons,List.length_nil,spS,fxa,fxc,fxE,fxL,fxI,nxE,evO,evR,cellsT,ldCells,mkT,lenA,binPV,Env.init,resV,resT,frT,klT,ownT,intT,O.adds,ownA,rowsA,over,wrOk,keysT,keysA,ne_eq,if_true,if_false,ite_self,Nat.reduceLT,Nat.reduceSub,Nat.reduceBEq,Nat.reduceEqDiff,Nat.reduceAdd,Nat.reduceLeDiff,reduceCtorEq,Nat.reduceMul]
        exact ⟨done,true,d,q,rfl,rfl,hb,hq,by omega,hdone⟩
      · simp only [h2,ne_eq,not_false_eq_true,if_true] at hdone
        simp only [F73b0,e0,e1,e5,e6,e7,hlt,hge,hw,hx',h2,hb,htk,hbb,q0,q1,q2,allI,Int.toNat_natCast,List.length_map,List.length_cons,List.length_nil,Nat.le_refl,Nat.zero_add,Nat.one_mul,spS,fxa,fxc,fxE,fxL,fxI,nxE,evO,evR,cellsT,ldCells,mkT,lenA,binPV,Env.init,resV,resT,frT,klT,ownT,intT,O.adds,ownA,rowsA,over,wrOk,keysT,keysA,ne_eq,if_true,if_false,ite_self,Nat.reduceLT,Nat.reduceSub,Nat.reduceBEq,Nat.reduceEqDiff,Nat.reduceAdd,Nat.reduceLeDiff,reduceCtorEq,Nat.reduceMul]
        exact ⟨done ++ [x],true,41,τ.clk + 1,rfl,by simp,by simp [encI],by omega,by simp only [List.length_append,List.length_cons,List.length_nil]; omega,by simpa using hdone⟩
    | false =>
      by_cases h1 : x ≥ n
      · simp only [h1,true_and,if_true,Bool.false_or,decide_true] at hdone
        by_cases h2 : x = n
        · subst h2
          simp only [ne_eq,not_true_eq_false,if_false,List.nil_append] at hdone
          simp only [F73b0,e0,e1,e5,e6,e7,hlt,hge,hw,hx',h1,hb,htk,hbb,q0,q1,q2,allI,Int.toNat_natCast,List.length_map,List.length_cons,List.length_nil,Nat.le_refl,Nat.zero_add,Nat.one_mul,spS,fxa,fxc,fxE,fxL,fxI,nxE,evO,evR,cellsT,ldCells,mkT,lenA,binPV,Env.init,resV,resT,frT,klT,ownT,intT,O.adds,ownA,rowsA,over,wrOk,keysT,keysA,ne_eq,if_true,if_false,ite_self,Nat.reduceLT,Nat.reduceSub,Nat.reduceBEq,Nat.reduceEqDiff,Nat.reduceAdd,Nat.reduceLeDiff,reduceCtorEq,Nat.reduceMul]
          exact ⟨done ++ [x],true,28,τ.clk + 1,rfl,by simp,by simp [encI],by omega,by simp only [List.length_append,List.length_cons,List.length_nil]; omega,by simpa using hdone⟩
        · simp only [h2,ne_eq,not_false_eq_true,if_true] at hdone
          have htk2 : List.take (done.length + 1) (done.map encI ++ [[PV.i .i64 n]]) = done.map encI ++ [[PV.i .i64 n]] := List.take_of_length_le (by simp)
          simp only [F73b0,e0,e1,e5,e6,e7,hlt,hge,hw,hx',h1,h2,hb,htk,htk2,hbb,hbb2,q0,q1,q2,q3,k1,allI,Int.toNat_natCast,List.length_map,List.length_append,List.length_cons,List.length_nil,Nat.le_refl,Nat.zero_add,Nat.one_mul,spS,fxa,fxc,fxE,fxL,fxI,nxE,evO,evR,cellsT,ldCells,mkT,lenA,binPV,Env.init,resV,resT,frT,klT,ownT,intT,O.adds,ownA,rowsA,over,wrOk,keysT,keysA,ne_eq,if_true,if_false,ite_self,Nat.reduceLT,Nat.reduceSub,Nat.reduceBEq,Nat.reduceEqDiff,Nat.reduceAdd,Nat.reduceLeDiff,reduceCtorEq,Nat.reduceMul]
          exact ⟨done ++ [n] ++ [x],true,41,τ.clk + 1 + 1 + 1,rfl,by simp,by simp [encI],by omega,by simp only [List.length_append,List.length_cons,List.length_nil]; omega,by simpa using hdone⟩
      · have h2 : ¬ x = n := by omega
        simp only [h1,and_false,if_false,List.nil_append,Bool.false_or,decide_false,ne_eq,h2,not_false_eq_true,if_true] at hdone
        simp only [F73b0,e0,e1,e5,e6,e7,hlt,hge,hw,hx',h1,h2,hb,htk,hbb,q0,q1,q2,allI,Int.toNat_natCast,List.length_map,List.length_cons,List.length_nil,Nat.le_refl,Nat.zero_add,Nat.one_mul,spS,fxa,fxc,fxE,fxL,fxI,nxE,evO,evR,cellsT,ldCells,mkT,lenA,binPV,Env.init,resV,resT,frT,klT,ownT,intT,O.adds,ownA,rowsA,over,wrOk,keysT,keysA,ne_eq,if_true,if_false,ite_self,Nat.reduceLT,Nat.reduceSub,Nat.reduceBEq,Nat.reduceEqDiff,Nat.reduceAdd,Nat.reduceLeDiff,reduceCtorEq,Nat.reduceMul]
        exact ⟨done ++ [x],false,41,τ.clk + 1,rfl,by simp,by simp [encI],by omega,by simp only [List.length_append,List.length_cons,List.length_nil]; omega,by simpa using hdone⟩
  · rintro e τ ⟨e0,e1,e7,done,laid,d,q,e6,e5,hb,hq,hdl,hdone⟩
    have hlt : ¬ ((l.length : Nat) : Int) < (l.length : Int) := by omega
    have htk : List.take done.length (done.map encI) = done.map encI := List.take_of_length_le (by simp)
    have hbb : (done.length + 1) * 8 ≤ 140737488355328 := by omega
    have q0 : ¬ q = τ.clk := by omega
    have q1 : ¬ q = τ.clk + 1 := by omega
    rw [List.drop_length] at hdone
    cases laid with
    | true =>
      simp only [withL,if_true,List.append_nil] at hdone
      rw [← hdone]
      simp only [F73b0,e0,e1,e5,e6,e7,hlt,hb,htk,List.length_map,spS,fxa,fxc,fxE,fxL,fxI,nxE,evO,evR,cellsT,ldCells,mkT,lenA,binPV,Env.init,resV,resT,frT,klT,ownT,intT,O.adds,ownA,rowsA,over,wrOk,keysT,keysA,ne_eq,if_true,if_false,ite_self,Nat.reduceLT,Nat.reduceSub,Nat.reduceBEq,Nat.reduceEqDiff,Nat.reduceAdd,Nat.reduceLeDiff,reduceCtorEq,Nat.reduceMul]
    | false =>
      simp only [withL,Bool.false_eq_true,if_false] at hdone
      have htk2 : List.take (done.length + 1) (done.map encI ++ [[PV.i .i64 n]]) = done.map encI ++ [[PV.i .i64 n]] := List.take_of_length_le (by simp)
      simp only [F73b0,e0,e1,e5,e6,e7,hlt,hb,htk,hbb,q0,q1,htk2,List.length_map,List.length_append,List.length_cons,List.length_nil,Nat.le_refl,Nat.zero_add,Nat.one_mul,spS,fxa,fxc,fxE,fxL,fxI,nxE,evO,evR,cellsT,ldCells,mkT,lenA,binPV,Env.init,resV,resT,frT,klT,ownT,intT,O.adds,ownA,rowsA,over,wrOk,keysT,keysA,ne_eq,if_true,if_false,ite_self,Nat.reduceLT,Nat.reduceSub,Nat.reduceBEq,Nat.reduceEqDiff,Nat.reduceAdd,Nat.reduceLeDiff,reduceCtorEq,Nat.reduceMul]
      rw [← hdone]; simp [encI]
theorem withL_len {n : Int} : ∀ (laid : Bool) (l : List Int),(withL n laid l).length ≤ l.length + 1
  | laid,[] => by unfold withL; split <;> simp
  | laid,x :: r => by
    have := withL_len (n := n) (laid || decide (x ≥ n)) r
    unfold withL
    cases laid with
    | true =>
      simp only [Bool.true_eq_false,false_and,if_false,List.nil_append,Bool.true_or,List.length_append,List.length_cons]
      have h2 : ∀ l : List Int,(withL n true l).length ≤ l.length := by
        intro l
        induction l with
        | nil => simp [withL]
        | cons y l ih =>
          simp only [withL,Bool.true_eq_false,false_and,if_false,List.nil_append,Bool.true_or,List.length_append,List.length_cons]
          split <;> simp <;> omega
      have := h2 r
      split <;> simp <;> omega
    | false =>
      have h2 : ∀ l : List Int,(withL n true l).length ≤ l.length := by
        intro l
        induction l with
        | nil => simp [withL]
        | cons y l ih =>
          simp only [withL,Bool.true_eq_false,false_and,if_false,List.nil_append,Bool.true_or,List.length_append,List.length_cons]
          split <;> simp <;> omega
      simp only [true_and,Bool.false_or,List.length_append,List.length_cons] at this ⊢
      by_cases h : x ≥ n
      · have h3 := h2 r
        simp only [h,if_true,decide_true,List.length_cons,List.length_nil]
        split <;> simp <;> omega
      · simp only [h,if_false,decide_false,List.length_nil] at this ⊢
        split <;> simp <;> omega
mutual
theorem refF_len : ∀ (t : T) (b : Int) (ks : List Int),(refF t b ks).length ≤ ks.length + vn t
  | .mk k n s l,b,ks => by
    unfold refF vn
    split
    · split
      · exact withL_len _ _
      · simp
    · exact refFL_len l _ ks
theorem refFL_len : ∀ (l : List T) (b : Int) (ks : List Int),(refFL l b ks).length ≤ ks.length + vnL l
  | [],b,ks => by simp [refFL,vnL]
  | t :: r,b,ks => by
    unfold refFL vnL
    have h1 := refF_len t b ks
    have h2 := refFL_len r b (refF t b ks)
    omega
end
theorem refFL_app : ∀ (l r : List T) (b : Int) (ks : List Int),refFL (l ++ r) b ks = refFL r b (refFL l b ks)
  | [],r,b,ks => by simp [refFL]
  | t :: l,r,b,ks => by simp only [List.cons_append,refFL]; exact refFL_app l r b _
theorem rfreeLoop {k n : Int} {str : List UInt8} {l : List T} {b : Int} {ks : List Int} (hl : l.length * 56 ≤ reachBytes) (hn : ks.length + vnL l ≤ 549755813888)
    (ih : ∀ t ∈ l,∀ (b : Int) (ks : List Int),ks.length + vn t ≤ 549755813888 → eP S 65 [.g (enc t),.a (.i .i64 b),.a (.l (ks.map encI))] = some (.a (.l ((refF t b ks).map encI)))) {key : Key}
    {σ : St} (hb : σ.bs key = some (.var [.p (.i .i64 k),.p (.i .i64 n),.p (.s str),.p (.l (l.map enc))])) (e : Env) (e1 : e 1 = .a (.p (.i .i64 b))) (e2 : e 2 = .a (.p (.l (ks.map encI)))) (e3 : e 3 = .a (.ptr key 0 0)) (e7 : e 7 = .a (.p (.i .i64 0))) :
    wp S false (.loop F65b0) e σ (fun x e' σ' => x = .exit 0 ∧ e' 2 = .a (.p (.l ((refFL l b ks).map encI)))) := by
  refine loop_nat l.length (fun i e τ => τ = σ ∧ e 1 = .a (.p (.i .i64 b)) ∧ e 2 = .a (.p (.l ((refFL (l.take i) b ks).map encI))) ∧ e 3 = .a (.ptr key 0 0) ∧ e 7 = .a (.p (.i .i64 (i : Nat)))) (i0 := 0) (Nat.zero_le _) ⟨rfl,e1,e2,e3,e7⟩ ?_ ?_
  · rintro i e τ hi ⟨rfl,e1,e2,e3,e7⟩
    obtain ⟨x,hx⟩ : ∃ x,l[i]? = some x := ⟨_,List.getElem?_eq_getElem hi⟩
    have hx' : (l.map enc)[i]? = some (enc x) := by simp [hx]
    have hxm := List.mem_of_getElem? hx
    have hlt : ((i : Nat) : Int) < (l.length : Int) := by omega
    have hge : (0 : Int) ≤ ((i : Nat) : Int) := by omega
    have hlb : i < 9223372036854775807 := by simp only [reachBytes] at hl; omega
    have hw := wrap_succ i hlb
    have hvl : vnL (l.take (i + 1)) ≤ vnL l := by
      have := vnL_app (l.take (i + 1)) (l.drop (i + 1))
      rw [List.take_append_drop] at this; omega
    rw [take_succT hx,vnL_app] at hvl
    simp only [vnL] at hvl
    have hfl := refFL_len (l.take i) b ks
    have c1 := ih x hxm b (refFL (l.take i) b ks) (by omega)
    have hs1 : refFL (l.take (i + 1)) b ks = refF x b (refFL (l.take i) b ks) := by rw [take_succT hx,refFL_app]; simp [refFL]
    rw [hs1]
    simp only [F65b0,e1,e2,e3,e7,hb,hlt,hge,hw,hx',enc_len,enc_take,enc_all,c1,Int.toNat_natCast,List.length_map,spS,fxa,fxc,fxE,fxL,fxI,nxE,evO,evR,cellsT,ldCells,mkT,lenA,binPV,Env.init,resV,resT,frT,klT,ownT,intT,O.adds,ownA,rowsA,over,wrOk,keysT,keysA,ne_eq,if_true,if_false,ite_self,Nat.reduceLT,Nat.reduceSub,Nat.reduceBEq,Nat.reduceEqDiff,Nat.reduceAdd,Nat.reduceLeDiff,reduceCtorEq,Nat.reduceMul]
  · rintro e τ ⟨rfl,e1,e2,e3,e7⟩
    have hlt : ¬ ((l.length : Nat) : Int) < (l.length : Int) := by omega
    rw [List.take_length] at e2
    simp only [F65b0,e1,e2,e3,e7,hb,hlt,List.length_map,spS,fxa,fxc,fxE,fxL,fxI,nxE,evO,evR,cellsT,ldCells,mkT,lenA,binPV,Env.init,resV,resT,frT,klT,ownT,intT,O.adds,ownA,rowsA,over,wrOk,keysT,keysA,ne_eq,if_true,if_false,ite_self,Nat.reduceLT,Nat.reduceSub,Nat.reduceBEq,Nat.reduceEqDiff,Nat.reduceAdd,Nat.reduceLeDiff,reduceCtorEq,Nat.reduceMul]
theorem rfree_ok : ∀ {t : T},T.Ok t → ∀ (b : Int) (ks : List Int),ks.length + vn t ≤ 549755813888 → eP S 65 [.g (enc t),.a (.i .i64 b),.a (.l (ks.map encI))] = some (.a (.l ((refF t b ks).map encI))) := by
  intro t ht
  induction ht with
  | mk k n str l hk hn hs hl h ih =>
    intro b ks hv
    refine x_fn (orcS _) (fc := F65) rfl rfl ?_
    simp only [vn] at hv
    by_cases h1 : k = 1
    · subst h1
      by_cases h2 : n ≥ b
      · have c1 := with_ok (l := ks) (n := w (n - b)) (by omega)
        simp only [F65,enc,encL_map,h2,c1,refF,spS,w,fxa,fxc,fxE,fxL,fxI,nxE,evO,evR,cellsT,ldCells,mkT,lenA,binPV,Env.init,resV,resT,frT,klT,ownT,intT,O.adds,ownA,rowsA,over,wrOk,keysT,keysA,ne_eq,if_true,if_false,ite_self,Nat.reduceLT,Nat.reduceSub,Nat.reduceBEq,Nat.reduceEqDiff,Nat.reduceAdd,Nat.reduceLeDiff,reduceCtorEq,Nat.reduceMul]
      · simp only [F65,enc,encL_map,h2,refF,spS,fxa,fxc,fxE,fxL,fxI,nxE,evO,evR,cellsT,ldCells,mkT,lenA,binPV,Env.init,resV,resT,frT,klT,ownT,intT,O.adds,ownA,rowsA,over,wrOk,keysT,keysA,ne_eq,if_true,if_false,ite_self,Nat.reduceLT,Nat.reduceSub,Nat.reduceBEq,Nat.reduceEqDiff,Nat.reduceAdd,Nat.reduceLeDiff,reduceCtorEq,Nat.reduceMul]
    · rw [if_neg h1] at hv
      by_cases h2 : k = 2
      · subst h2
        simp only [F65,enc,encL_map,h1,refF,spS,Int.reduceEq,fxa,fxc,fxE,fxL,fxI,nxE,evO,evR,cellsT,ldCells,mkT,lenA,binPV,Env.init,resV,resT,frT,klT,ownT,intT,O.adds,ownA,rowsA,over,wrOk,keysT,keysA,ne_eq,if_true,if_false,ite_self,Nat.reduceLT,Nat.reduceSub,Nat.reduceBEq,Nat.reduceEqDiff,Nat.reduceAdd,Nat.reduceLeDiff,reduceCtorEq,Nat.reduceMul]
        refine Go.Fx.wp_mono (rfreeLoop (k := 2) (n := n) (str := str) (b := w (b + 1)) (key := (3,0)) hl hv (fun t ht b ks hv => ih t ht b ks hv) ?_ _ ?_ ?_ ?_ ?_) ?_
        all_goals first
          | rfl
          | (rintro x e' τ ⟨rfl,g2⟩
             simp only [g2,spS,fxa,fxc,fxE,fxL,fxI,nxE,evO,evR,cellsT,ldCells,mkT,lenA,binPV,Env.init,resV,resT,frT,klT,ownT,intT,O.adds,ownA,rowsA,over,wrOk,keysT,keysA,ne_eq,if_true,if_false,ite_self,Nat.reduceLT,Nat.reduceSub,Nat.reduceBEq,Nat.reduceEqDiff,Nat.reduceAdd,Nat.reduceLeDiff,reduceCtorEq,Nat.reduceMul])
      · by_cases h3 : k = 6
        · subst h3
          simp only [F65,enc,encL_map,h1,h2,refF,spS,Int.reduceEq,fxa,fxc,fxE,fxL,fxI,nxE,evO,evR,cellsT,ldCells,mkT,lenA,binPV,Env.init,resV,resT,frT,klT,ownT,intT,O.adds,ownA,rowsA,over,wrOk,keysT,keysA,ne_eq,if_true,if_false,ite_self,Nat.reduceLT,Nat.reduceSub,Nat.reduceBEq,Nat.reduceEqDiff,Nat.reduceAdd,Nat.reduceLeDiff,reduceCtorEq,Nat.reduceMul]
          refine Go.Fx.wp_mono (rfreeLoop (k := 6) (n := n) (str := str) (b := w (b + n)) (key := (3,0)) hl hv (fun t ht b ks hv => ih t ht b ks hv) ?_ _ ?_ ?_ ?_ ?_) ?_
          all_goals first
            | rfl
            | (rintro x e' τ ⟨rfl,g2⟩
               simp only [g2,spS,fxa,fxc,fxE,fxL,fxI,nxE,evO,evR,cellsT,ldCells,mkT,lenA,binPV,Env.init,resV,resT,frT,klT,ownT,intT,O.adds,ownA,rowsA,over,wrOk,keysT,keysA,ne_eq,if_true,if_false,ite_self,Nat.reduceLT,Nat.reduceSub,Nat.reduceBEq,Nat.reduceEqDiff,Nat.reduceAdd,Nat.reduceLeDiff,reduceCtorEq,Nat.reduceMul])
        · simp only [F65,enc,encL_map,h1,h2,h3,refF,spS,Int.reduceEq,fxa,fxc,fxE,fxL,fxI,nxE,evO,evR,cellsT,ldCells,mkT,lenA,binPV,Env.init,resV,resT,frT,klT,ownT,intT,O.adds,ownA,rowsA,over,wrOk,keysT,keysA,ne_eq,if_true,if_false,ite_self,Nat.reduceLT,Nat.reduceSub,Nat.reduceBEq,Nat.reduceEqDiff,Nat.reduceAdd,Nat.reduceLeDiff,reduceCtorEq,Nat.reduceMul]
          refine Go.Fx.wp_mono (rfreeLoop (k := k) (n := n) (str := str) (b := b) (key := (3,0)) hl hv (fun t ht b ks hv => ih t ht b ks hv) ?_ _ ?_ ?_ ?_ ?_) ?_
          all_goals first
            | rfl
            | (rintro x e' τ ⟨rfl,g2⟩
               simp only [g2,spS,fxa,fxc,fxE,fxL,fxI,nxE,evO,evR,cellsT,ldCells,mkT,lenA,binPV,Env.init,resV,resT,frT,klT,ownT,intT,O.adds,ownA,rowsA,over,wrOk,keysT,keysA,ne_eq,if_true,if_false,ite_self,Nat.reduceLT,Nat.reduceSub,Nat.reduceBEq,Nat.reduceEqDiff,Nat.reduceAdd,Nat.reduceLeDiff,reduceCtorEq,Nat.reduceMul])
theorem RFree_ok {t : T} (ht : T.Ok t) (hv : vn t ≤ 1073741824) : eP S 36 [.g (enc t)] = some (.a (.l ((freeT t).map encI))) := by
  refine x_fn (orcS _) (fc := F36) rfl rfl ?_
  have c1 := rfree_ok ht 0 [] (by simp only [List.length_nil]; omega)
  have e4 := enc_eq t
  rw [e4] at c1 ⊢
  simp only [List.map_nil] at c1
  simp only [F36,c1,freeT,spS,fxa,fxc,fxE,fxL,fxI,nxE,evO,evR,cellsT,ldCells,mkT,lenA,binPV,Env.init,resV,resT,frT,klT,ownT,intT,O.adds,ownA,rowsA,over,wrOk,keysT,keysA,ne_eq,if_true,if_false,ite_self,Nat.reduceLT,Nat.reduceSub,Nat.reduceBEq,Nat.reduceEqDiff,Nat.reduceAdd,Nat.reduceLeDiff,reduceCtorEq,Nat.reduceMul]
end Go.Proofs.Ytlgekplmbmkcmaa
end
section
set_option linter.unusedSimpArgs false
set_option linter.unusedVariables false
set_option maxHeartbeats 4000000
set_option maxRecDepth 10000
namespace Go.Proofs.Ytlgekplmbmkcmaa
open Go.Fx
theorem w_eq {x y : Int} (h : ∃ k : Int,x = y + k * 18446744073709551616) : w x = w y := by
  obtain ⟨k,rfl⟩ := h
  simp only [w,IntKind.wrap_i64]; omega
theorem w_k (x : Int) : ∃ k : Int,w x = x + k * 18446744073709551616 := by
  simp only [w,IntKind.wrap_i64]
  exact ⟨-((x + 9223372036854775808) / 18446744073709551616),by omega⟩
def refN (t : T) : Nat := if t.k = 6 ∧ t.l.length ≠ 0 then (if t.n < 8 then t.n.toNat else 8) else 0
def refB (t : T) : List Int := (if t.k = 2 ∧ t.l.length ≠ 0 then [uses (t.l.getD 0 zT0) 0] else []) ++ (List.range (refN t)).map fun i : Nat => uses (t.l.getD 0 zT0) (w (w (t.n - 1) - (i : Int)))
theorem refB_eq (t : T) : refB t = useB t := by
  unfold refB useB
  by_cases h0 : t.l.length = 0
  · have hb : binds t = 0 := by unfold binds; rw [if_pos h0]
    have hr : refN t = 0 := by unfold refN; rw [if_neg (by rintro ⟨_,h⟩; exact h h0)]
    rw [hb,hr,if_neg (by rintro ⟨_,h⟩; exact h h0)]; rfl
  · by_cases h1 : t.k = 2
    · have hb : binds t = 1 := by unfold binds; rw [if_neg h0,if_pos h1]
      have hr : refN t = 0 := by unfold refN; rw [if_neg (by rintro ⟨h,_⟩; omega)]
      have hl : lastB t = 0 := by unfold lastB; rw [if_neg (by omega)]
      rw [hb,hr,hl,if_pos ⟨h1,h0⟩]
      have hw0 : w (0 + (((1 : Int).toNat : Int) - 1 - ((0 : Nat) : Int))) = 0 := by decide
      simp only [List.range_zero,List.map_nil,List.append_nil]
      show [_] = [w (uses (t.l.getD 0 zT0) (w (0 + (((1 : Int).toNat : Int) - 1 - ((0 : Nat) : Int)))))]
      rw [hw0,uses_w]
    · rw [if_neg (by rintro ⟨h,_⟩; exact h1 h)]
      by_cases h2 : t.k = 6
      · have hb : (binds t).toNat = refN t := by
          have hr : refN t = if t.n < 8 then t.n.toNat else 8 := by unfold refN; rw [if_pos ⟨h2,h0⟩]
          have hb0 : binds t = if 8 < (if 0 > t.n then 0 else t.n) then 8 else (if 0 > t.n then 0 else t.n) := by unfold binds; rw [if_neg h0,if_neg h1,if_pos h2]
          rw [hb0,hr]
          repeat' split
          all_goals first | rfl | omega
        rw [hb,List.nil_append]
        refine List.map_congr_left fun i hi => ?_
        have hi := List.mem_range.1 hi
        rw [uses_w]
        have hbi : binds t = (refN t : Int) := by have := binds_le t; omega
        have hl : lastB t = w (t.n - (refN t : Int)) := by unfold lastB; rw [if_pos h2,hbi]
        rw [hl]
        refine congrArg (uses _) (w_eq ?_)
        obtain ⟨a,ha⟩ := w_k (t.n - 1)
        obtain ⟨b,hb2⟩ := w_k (t.n - (refN t : Int))
        rw [ha,hb2]
        exact ⟨a - b,by rw [Int.sub_mul]; omega⟩
      · have hb : binds t = 0 := by unfold binds; rw [if_neg h0,if_neg h1,if_neg h2]
        have hr : refN t = 0 := by unfold refN; rw [if_neg (by rintro ⟨h,_⟩; exact h2 h)]
        rw [hb,hr]; rfl
def R3 (d : List Int) (e : Env) (τ : St) : Prop := ∃ dd q : Nat,e 3 = .a (.own (dd,q) 0 d.length) ∧ τ.bs (dd,q) = some (.row 1 3 (d.map encI)) ∧ q < τ.clk
theorem ofLoop0 {t : T} (ht : T.Ok t) {d : List Int} (hd : d.length ≤ 1099511627776) {σ : St} {key : Key} (hb : σ.bs key = some (.var [.p (.i .i64 t.k),.p (.i .i64 t.n),.p (.s t.s),.p (.l (t.l.map enc))])) (hkey : key.2 < σ.clk) (hk1 : key.1 = 1) (e : Env)
    (e1 : e 1 = .a (.ptr key 0 0)) (e4 : e 4 = .a (.p (.i .i64 0))) (h3 : R3 d e σ) :
    wp S false (.loop F38b0) e σ (fun x e' σ' => x = .exit 0 ∧ e' 1 = .a (.ptr key 0 0) ∧ R3 (d ++ (List.range (refN t)).map fun i : Nat => uses (t.l.getD 0 zT0) (w (w (t.n - 1) - (i : Int)))) e' σ' ∧ σ'.bs key = some (.var [.p (.i .i64 t.k),.p (.i .i64 t.n),.p (.s t.s),.p (.l (t.l.map enc))]) ∧ σ.clk ≤ σ'.clk) := by
  have hr8 : refN t ≤ 8 := by
    unfold refN
    split
    · split <;> omega
    · omega
  refine loop_nat (refN t) (fun i e τ => e 1 = .a (.ptr key 0 0) ∧ e 4 = .a (.p (.i .i64 (i : Nat))) ∧ (∃ dd q : Nat,e 3 = .a (.own (dd,q) 0 (d ++ (List.range i).map fun i : Nat => uses (t.l.getD 0 zT0) (w (w (t.n - 1) - (i : Int)))).length) ∧ τ.bs (dd,q) = some (.row 1 3 ((d ++ (List.range i).map fun i : Nat => uses (t.l.getD 0 zT0) (w (w (t.n - 1) - (i : Int)))).map encI)) ∧ q < τ.clk) ∧ τ.bs key = some (.var [.p (.i .i64 t.k),.p (.i .i64 t.n),.p (.s t.s),.p (.l (t.l.map enc))]) ∧ σ.clk ≤ τ.clk) (i0 := 0) (Nat.zero_le _) ⟨e1,e4,by simpa [R3] using h3,hb,Nat.le_refl _⟩ ?_ ?_
  · rintro i e τ hi ⟨e1,e4,⟨dd,q,e3,hrow,hq⟩,hbk,hc⟩
    obtain ⟨hk6,hl0,hin⟩ : t.k = 6 ∧ t.l.length ≠ 0 ∧ (i : Int) < t.n ∧ i < 8 := by
      unfold refN at hi
      split at hi
      · rename_i h; refine ⟨h.1,h.2,?_⟩; split at hi <;> omega
      · omega
    obtain ⟨x0,r0,hl1⟩ : ∃ x0 r0,t.l = x0 :: r0 := by
      cases h : t.l with
      | nil => rw [h] at hl0; simp at hl0
      | cons a b => exact ⟨a,b,rfl⟩
    have hx0' : (t.l.map enc)[0]? = some (enc x0) := by rw [hl1]; rfl
    have hxo : T.Ok x0 := by
      cases ht with
      | mk k n s l hk hn hs hl h => exact h x0 (by have : l = x0 :: r0 := hl1; rw [this]; simp)
    have hgd : t.l.getD 0 zT0 = x0 := by rw [hl1]; rfl
    rw [hgd] at hrow ⊢
    have c2 := uses_ok hxo (w (w (t.n - 1) - (i : Int)))
    obtain ⟨u,hu⟩ : ∃ u,uses x0 (w (w (t.n - 1) - (i : Int))) = u := ⟨_,rfl⟩
    have hsu : (List.range (i + 1)).map (fun i : Nat => uses x0 (w (w (t.n - 1) - (i : Int)))) = (List.range i).map (fun i : Nat => uses x0 (w (w (t.n - 1) - (i : Int)))) ++ [u] := by rw [List.range_succ,List.map_append]; simp [hu]
    rw [hsu,← List.append_assoc]
    rw [hu] at c2
    obtain ⟨D,hD⟩ : ∃ D,d ++ (List.range i).map (fun i : Nat => uses x0 (w (w (t.n - 1) - (i : Int)))) = D := ⟨_,rfl⟩
    rw [hgd] at e3
    rw [hD] at e3 hrow ⊢
    have hDl : D.length = d.length + i := by rw [← hD]; simp
    have hbb : (D.length + 1) * 8 ≤ 140737488355328 := by omega
    have htk : List.take D.length (D.map encI) = D.map encI := List.take_of_length_le (by simp)
    have hw := wrap_succ i (by omega)
    have hl2 : (t.l.length : Int) > 0 := by omega
    have hl3 : (0 : Int) < (t.l.length : Int) := by omega
    have hi8 : (i : Int) < 8 := by omega
    have q0 : ¬ q = τ.clk := by omega
    have q1 : ¬ q = τ.clk + 1 := by omega
    have nk : ∀ a b,a ≠ 1 → ¬ key = (a,b) := by rintro a b h rfl; exact h hk1
    have b1 := hbk
    simp only [F38b0,e1,e3,e4,b1,hrow,htk,hbb,hk6,hin.1,hi8,hl2,hl3,hw,hx0',enc_len,enc_take,enc_all,c2,q0,q1,Int.le_refl,Int.toNat_zero,List.length_map,List.length_cons,List.length_nil,Nat.le_refl,Nat.zero_add,Nat.one_mul,spS,fxa,fxc,fxE,fxL,fxI,nxE,evO,evR,cellsT,ldCells,mkT,lenA,binPV,Env.init,resV,resT,frT,klT,ownT,intT,O.adds,ownA,rowsA,over,wrOk,keysT,keysA,ne_eq,if_true,if_false,ite_self,Nat.reduceLT,Nat.reduceSub,Nat.reduceBEq,Nat.reduceEqDiff,Nat.reduceAdd,Nat.reduceLeDiff,reduceCtorEq,Nat.reduceMul]
    have n57 : ¬ key = (57,τ.clk + 1) := nk _ _ (by omega)
    have n56 : ¬ key = (56,τ.clk) := nk _ _ (by omega)
    have ndq : ¬ key = (dd,q) := by
      rintro h
      rw [h] at b1
      rw [b1] at hrow
      cases hrow
    simp only [n57,n56,ndq,if_false]
    exact ⟨⟨57,τ.clk + 1,by simp,by rw [if_pos ⟨rfl,rfl⟩]; simp [encI],by omega⟩,trivial,by omega⟩
  · rintro e τ ⟨e1,e4,hR,hbk,hc⟩
    have b1 := hbk
    by_cases g1 : ((refN t : Nat) : Int) < t.n
    case neg =>
      simp only [F38b0,e1,e4,b1,g1,spS,fxa,fxc,fxE,fxL,fxI,nxE,evO,evR,cellsT,ldCells,mkT,lenA,binPV,Env.init,resV,resT,frT,klT,ownT,intT,O.adds,ownA,rowsA,over,wrOk,keysT,keysA,ne_eq,if_true,if_false,ite_self,Nat.reduceLT,Nat.reduceSub,Nat.reduceBEq,Nat.reduceEqDiff,Nat.reduceAdd,Nat.reduceLeDiff,reduceCtorEq,Nat.reduceMul]
      exact ⟨hR,hc⟩
    by_cases g2 : ((refN t : Nat) : Int) < 8
    case neg =>
      simp only [F38b0,e1,e4,b1,g1,g2,spS,fxa,fxc,fxE,fxL,fxI,nxE,evO,evR,cellsT,ldCells,mkT,lenA,binPV,Env.init,resV,resT,frT,klT,ownT,intT,O.adds,ownA,rowsA,over,wrOk,keysT,keysA,ne_eq,if_true,if_false,ite_self,Nat.reduceLT,Nat.reduceSub,Nat.reduceBEq,Nat.reduceEqDiff,Nat.reduceAdd,Nat.reduceLeDiff,reduceCtorEq,Nat.reduceMul]
      exact ⟨hR,hc⟩
    by_cases g3 : t.k = 6
    case neg =>
      simp only [F38b0,e1,e4,b1,g1,g2,g3,spS,fxa,fxc,fxE,fxL,fxI,nxE,evO,evR,cellsT,ldCells,mkT,lenA,binPV,Env.init,resV,resT,frT,klT,ownT,intT,O.adds,ownA,rowsA,over,wrOk,keysT,keysA,ne_eq,if_true,if_false,ite_self,Nat.reduceLT,Nat.reduceSub,Nat.reduceBEq,Nat.reduceEqDiff,Nat.reduceAdd,Nat.reduceLeDiff,reduceCtorEq,Nat.reduceMul]
      exact ⟨hR,hc⟩
    have g4 : t.l.length = 0 := by
      by_cases g4 : t.l.length = 0
      · exact g4
      · exfalso
        unfold refN at g1 g2
        rw [if_pos ⟨g3,g4⟩] at g1 g2
        by_cases g6 : t.n < 8
        · rw [if_pos g6] at g1; omega
        · rw [if_neg g6] at g2; omega
    have g5 : ¬ (t.l.length : Int) > 0 := by omega
    simp only [F38b0,e1,e4,b1,g1,g2,g3,g5,List.length_map,spS,fxa,fxc,fxE,fxL,fxI,nxE,evO,evR,cellsT,ldCells,mkT,lenA,binPV,Env.init,resV,resT,frT,klT,ownT,intT,O.adds,ownA,rowsA,over,wrOk,keysT,keysA,ne_eq,if_true,if_false,ite_self,Nat.reduceLT,Nat.reduceSub,Nat.reduceBEq,Nat.reduceEqDiff,Nat.reduceAdd,Nat.reduceLeDiff,reduceCtorEq,Nat.reduceMul]
    exact ⟨hR,hc⟩
theorem ofLoop1 {k n : Int} {str : List UInt8} {l : List T} (hl : l.length * 56 ≤ reachBytes) (hn : (ofTL l).length ≤ 549755813888)
    (ih : ∀ t ∈ l,(ofT t).length ≤ 549755813888 → eP S 38 [.g (enc t)] = some (.a (.l ((ofT t).map encI)))) {key : Key} {d : List Int} (hd : d.length ≤ 8)
    {σ : St} (hb : σ.bs key = some (.var [.p (.i .i64 k),.p (.i .i64 n),.p (.s str),.p (.l (l.map enc))])) (hk1 : key.1 = 1) (e : Env) (e1 : e 1 = .a (.ptr key 0 0)) (e5 : e 5 = .a (.p (.i .i64 0))) (h3 : R3 d e σ) :
    wp S false (.loop F38b1) e σ (fun x e' σ' => x = .exit 2 ∧ R3 (d ++ ofTL l) e' σ') := by
  refine loop_nat l.length (fun i e τ => e 1 = .a (.ptr key 0 0) ∧ e 5 = .a (.p (.i .i64 (i : Nat))) ∧ (∃ dd q : Nat,e 3 = .a (.own (dd,q) 0 (d ++ ofTL (l.take i)).length) ∧ τ.bs (dd,q) = some (.row 1 3 ((d ++ ofTL (l.take i)).map encI)) ∧ q < τ.clk) ∧ τ.bs key = some (.var [.p (.i .i64 k),.p (.i .i64 n),.p (.s str),.p (.l (l.map enc))])) (i0 := 0) (Nat.zero_le _) ⟨e1,e5,by simpa [R3,ofTL] using h3,hb⟩ ?_ ?_
  · rintro i e τ hi ⟨e1,e5,⟨dd,q,e3,hrow,hq⟩,b1⟩
    obtain ⟨x,hx⟩ : ∃ x,l[i]? = some x := ⟨_,List.getElem?_eq_getElem hi⟩
    have hx' : (l.map enc)[i]? = some (enc x) := by simp [hx]
    have hxm := List.mem_of_getElem? hx
    have hlt : ((i : Nat) : Int) < (l.length : Int) := by omega
    have hge : (0 : Int) ≤ ((i : Nat) : Int) := by omega
    have hlb : i < 9223372036854775807 := by simp only [reachBytes] at hl; omega
    have hw := wrap_succ i hlb
    have hvl : (ofTL (l.take (i + 1))).length ≤ (ofTL l).length := by
      have : ofTL l = ofTL (l.take (i + 1)) ++ ofTL (l.drop (i + 1)) := by rw [← ofTL_app,List.take_append_drop]
      rw [this]; simp
    have hs1 : ofTL (l.take (i + 1)) = ofTL (l.take i) ++ ofT x := by rw [take_succT hx,ofTL_app]; simp [ofTL]
    rw [hs1,List.length_append] at hvl
    rw [hs1,← List.append_assoc]
    have c1 := ih x hxm (by omega)
    obtain ⟨D,hD⟩ : ∃ D,d ++ ofTL (l.take i) = D := ⟨_,rfl⟩
    rw [hD] at e3 hrow ⊢
    have hDl : D.length = d.length + (ofTL (l.take i)).length := by rw [← hD]; simp
    have hbb : (D.length + (ofT x).length) * 8 ≤ 140737488355328 := by omega
    have htk : List.take D.length (D.map encI) = D.map encI := List.take_of_length_le (by simp)
    have q0 : ¬ q = τ.clk := by omega
    have ndq : ¬ key = (dd,q) := by
      rintro h
      rw [h] at b1
      rw [b1] at hrow
      cases hrow
    have n72 : ¬ key = (72,τ.clk) := by rintro rfl; simp at hk1
    simp only [F38b1,e1,e3,e5,b1,hrow,htk,hbb,hlt,hge,hw,hx',enc_len,enc_take,enc_all,c1,q0,allI,ndq,n72,Int.toNat_natCast,List.length_map,Nat.le_refl,spS,fxa,fxc,fxE,fxL,fxI,nxE,evO,evR,cellsT,ldCells,mkT,lenA,binPV,Env.init,resV,resT,frT,klT,ownT,intT,O.adds,ownA,rowsA,over,wrOk,keysT,keysA,ne_eq,if_true,if_false,ite_self,Nat.reduceLT,Nat.reduceSub,Nat.reduceBEq,Nat.reduceEqDiff,Nat.reduceAdd,Nat.reduceLeDiff,reduceCtorEq,Nat.reduceMul]
    refine ⟨72,τ.clk,by simp,by rw [if_pos ⟨rfl,rfl⟩]; simp,by omega⟩
  · rintro e τ ⟨e1,e5,hR,b1⟩
    have hlt : ¬ ((l.length : Nat) : Int) < (l.length : Int) := by omega
    rw [List.take_length] at hR
    simp only [F38b1,e1,e5,b1,hlt,List.length_map,spS,fxa,fxc,fxE,fxL,fxI,nxE,evO,evR,cellsT,ldCells,mkT,lenA,binPV,Env.init,resV,resT,frT,klT,ownT,intT,O.adds,ownA,rowsA,over,wrOk,keysT,keysA,ne_eq,if_true,if_false,ite_self,Nat.reduceLT,Nat.reduceSub,Nat.reduceBEq,Nat.reduceEqDiff,Nat.reduceAdd,Nat.reduceLeDiff,reduceCtorEq,Nat.reduceMul]
    exact hR
theorem ROf_ok : ∀ {t : T},T.Ok t → (ofT t).length ≤ 549755813888 → eP S 38 [.g (enc t)] = some (.a (.l ((ofT t).map encI))) := by
  intro t ht
  induction ht with
  | mk k n str l hk hn hs hl h ih =>
    intro hv
    have hT : T.Ok (.mk k n str l) := .mk k n str l hk hn hs hl h
    refine x_fn (orcS _) (fc := F38) rfl rfl ?_
    have hLt : ofT (.mk k n str l) = useB (.mk k n str l) ++ ofTL l := rfl
    rw [hLt] at hv ⊢
    rw [List.length_append] at hv
    have hub : (useB (.mk k n str l)).length ≤ 8 := by rw [useB_len]; have := binds_le (.mk k n str l); omega
    have hrb := refB_eq (.mk k n str l)
    have e4 : enc (.mk k n str l) = [.i .i64 k,.i .i64 n,.s str,.l (l.map enc)] := by rw [enc_eq]; rfl
    have go : ∀ (d : List Int) (e : Env) (σ : St),d ++ (List.range (refN (.mk k n str l))).map (fun i : Nat => uses (l.getD 0 zT0) (w (w (n - 1) - (i : Int)))) = useB (.mk k n str l) → e 1 = .a (.ptr (1,0) 0 0) → e 4 = .a (.p (.i .i64 0)) → R3 d e σ → σ.bs (1,0) = some (.var [.p (.i .i64 k),.p (.i .i64 n),.p (.s str),.p (.l (l.map enc))]) → 0 < σ.clk →
        wp S false (.loop F38b0) e σ (blkQ 0 (seqQ S false (.seq (.seq (.reg [ia 5 (.mv (ci 0))]) (.block 2 (.loop F38b1))) (.seq (.reg [ia 73 (.mv (.t 3)),ia 2 (.mv (.t 73))]) .ret)) (RetP [Rs.tmp 2] (.a (.l ((useB (.mk k n str l) ++ ofTL l).map encI)))))) := by
      intro d e σ hdu e1 e4 hR hb hc
      have hdl : d.length ≤ 8 := by
        have := congrArg List.length hdu
        rw [List.length_append] at this; omega
      refine Go.Fx.wp_mono (ofLoop0 hT (d := d) (by omega) (key := (1,0)) hb hc rfl _ e1 e4 hR) ?_
      rintro x e' σ' ⟨rfl,g1,g3,g4,g5⟩
      have g3 : R3 (d ++ (List.range (refN (.mk k n str l))).map (fun i : Nat => uses (l.getD 0 zT0) (w (w (n - 1) - (i : Int))))) e' σ' := g3
      rw [hdu] at g3
      obtain ⟨d3,q3,f3,frow,fq⟩ := g3
      simp only [spS,fxa,fxc,fxE,fxL,fxI,nxE,evO,evR,cellsT,ldCells,mkT,lenA,binPV,Env.init,resV,resT,frT,klT,ownT,intT,O.adds,ownA,rowsA,over,wrOk,keysT,keysA,ne_eq,if_true,if_false,ite_self,Nat.reduceLT,Nat.reduceSub,Nat.reduceBEq,Nat.reduceEqDiff,Nat.reduceAdd,Nat.reduceLeDiff,reduceCtorEq,Nat.reduceMul]
      refine Go.Fx.wp_mono (ofLoop1 (k := k) (n := n) (str := str) hl (by omega) (fun t ht hv => ih t ht hv) (key := (1,0)) (d := useB (.mk k n str l)) hub g4 rfl _ (by simp only [g1,fxa,fxc,fxE,fxL,fxI,nxE,evO,evR,cellsT,ldCells,mkT,lenA,binPV,Env.init,resV,resT,frT,klT,ownT,intT,O.adds,ownA,rowsA,over,wrOk,keysT,keysA,ne_eq,if_true,if_false,ite_self,Nat.reduceLT,Nat.reduceSub,Nat.reduceBEq,Nat.reduceEqDiff,Nat.reduceAdd,Nat.reduceLeDiff,reduceCtorEq,Nat.reduceMul]) (by simp only [fxa,fxc,fxE,fxL,fxI,nxE,evO,evR,cellsT,ldCells,mkT,lenA,binPV,Env.init,resV,resT,frT,klT,ownT,intT,O.adds,ownA,rowsA,over,wrOk,keysT,keysA,ne_eq,if_true,if_false,ite_self,Nat.reduceLT,Nat.reduceSub,Nat.reduceBEq,Nat.reduceEqDiff,Nat.reduceAdd,Nat.reduceLeDiff,reduceCtorEq,Nat.reduceMul]) ⟨d3,q3,by simp only [f3,fxa,fxc,fxE,fxL,fxI,nxE,evO,evR,cellsT,ldCells,mkT,lenA,binPV,Env.init,resV,resT,frT,klT,ownT,intT,O.adds,ownA,rowsA,over,wrOk,keysT,keysA,ne_eq,if_true,if_false,ite_self,Nat.reduceLT,Nat.reduceSub,Nat.reduceBEq,Nat.reduceEqDiff,Nat.reduceAdd,Nat.reduceLeDiff,reduceCtorEq,Nat.reduceMul],frow,fq⟩) ?_
      rintro x e'' σ'' ⟨rfl,d4,q4,k3,krow,kq⟩
      have htk : List.take (useB (.mk k n str l) ++ ofTL l).length ((useB (.mk k n str l) ++ ofTL l).map encI) = (useB (.mk k n str l) ++ ofTL l).map encI := List.take_of_length_le (by simp)
      simp only [k3,krow,htk,List.length_map,Nat.le_refl,spS,fxa,fxc,fxE,fxL,fxI,nxE,evO,evR,cellsT,ldCells,mkT,lenA,binPV,Env.init,resV,resT,frT,klT,ownT,intT,O.adds,ownA,rowsA,over,wrOk,keysT,keysA,ne_eq,if_true,if_false,ite_self,Nat.reduceLT,Nat.reduceSub,Nat.reduceBEq,Nat.reduceEqDiff,Nat.reduceAdd,Nat.reduceLeDiff,reduceCtorEq,Nat.reduceMul]
    rw [e4]
    by_cases h1 : k = 2
    · subst h1
      by_cases hl0 : l.length = 0
      · have hl2 : ¬ (l.length : Int) > 0 := by omega
        have hrb2 : [] ++ (List.range (refN (.mk 2 n str l))).map (fun i : Nat => uses (l.getD 0 zT0) (w (w (n - 1) - (i : Int)))) = useB (.mk 2 n str l) := by
          rw [← hrb]; unfold refB
          rw [if_neg (fun h => h.2 hl0)]; rfl
        simp only [F38,hl2,List.length_map,Nat.zero_add,Nat.one_mul,Nat.reduceLeDiff,Nat.zero_lt_one,spS,fxa,fxc,fxE,fxL,fxI,nxE,evO,evR,cellsT,ldCells,mkT,lenA,binPV,Env.init,resV,resT,frT,klT,ownT,intT,O.adds,ownA,rowsA,over,wrOk,keysT,keysA,ne_eq,if_true,if_false,ite_self,Nat.reduceLT,Nat.reduceSub,Nat.reduceBEq,Nat.reduceEqDiff,Nat.reduceAdd,Nat.reduceLeDiff,reduceCtorEq,Nat.reduceMul]
        exact go [] _ _ hrb2 rfl rfl ⟨6,1,rfl,rfl,by show 1 < 2; omega⟩ rfl (by show 0 < 2; omega)
      · obtain ⟨x0,r0,hl1⟩ : ∃ x0 r0,l = x0 :: r0 := by
          cases h : l with
          | nil => rw [h] at hl0; simp at hl0
          | cons a b => exact ⟨a,b,rfl⟩
        have hx0' : (l.map enc)[0]? = some (enc x0) := by rw [hl1]; rfl
        have hxo : T.Ok x0 := h x0 (by rw [hl1]; simp)
        have c2 := uses_ok hxo 0
        have hl2 : (l.length : Int) > 0 := by omega
        have hl3 : (0 : Int) < (l.length : Int) := by omega
        have hgd : l.getD 0 zT0 = x0 := by rw [hl1]; rfl
        have hrb2 : [uses x0 0] ++ (List.range (refN (.mk 2 n str l))).map (fun i : Nat => uses (l.getD 0 zT0) (w (w (n - 1) - (i : Int)))) = useB (.mk 2 n str l) := by
          rw [← hrb]; unfold refB
          rw [if_pos ⟨rfl,hl0⟩]
          show [uses x0 0] ++ _ = [uses (l.getD 0 zT0) 0] ++ _
          rw [hgd]; rfl
        simp only [F38,hl2,hl3,hx0',c2,enc_len,enc_take,enc_all,Int.le_refl,Int.toNat_zero,List.length_map,List.length_cons,List.length_nil,Nat.le_refl,Nat.zero_add,Nat.one_mul,Nat.reduceLeDiff,Nat.zero_lt_one,spS,fxa,fxc,fxE,fxL,fxI,nxE,evO,evR,cellsT,ldCells,mkT,lenA,binPV,Env.init,resV,resT,frT,klT,ownT,intT,O.adds,ownA,rowsA,over,wrOk,keysT,keysA,ne_eq,if_true,if_false,ite_self,Nat.reduceLT,Nat.reduceSub,Nat.reduceBEq,Nat.reduceEqDiff,Nat.reduceAdd,Nat.reduceLeDiff,reduceCtorEq,Nat.reduceMul]
        exact go [uses x0 0] _ _ hrb2 rfl rfl ⟨23,3,rfl,rfl,by show 3 < 4; omega⟩ rfl (by show 0 < 4; omega)
    · have hrb2 : [] ++ (List.range (refN (.mk k n str l))).map (fun i : Nat => uses (l.getD 0 zT0) (w (w (n - 1) - (i : Int)))) = useB (.mk k n str l) := by
        rw [← hrb]; unfold refB
        rw [if_neg (fun h => h1 h.1)]; rfl
      simp only [F38,h1,List.length_map,Nat.zero_add,Nat.one_mul,Nat.reduceLeDiff,Nat.zero_lt_one,spS,fxa,fxc,fxE,fxL,fxI,nxE,evO,evR,cellsT,ldCells,mkT,lenA,binPV,Env.init,resV,resT,frT,klT,ownT,intT,O.adds,ownA,rowsA,over,wrOk,keysT,keysA,ne_eq,if_true,if_false,ite_self,Nat.reduceLT,Nat.reduceSub,Nat.reduceBEq,Nat.reduceEqDiff,Nat.reduceAdd,Nat.reduceLeDiff,reduceCtorEq,Nat.reduceMul]
      exact go [] _ _ hrb2 rfl rfl ⟨6,1,rfl,rfl,by show 1 < 2; omega⟩ rfl (by show 0 < 2; omega)
end Go.Proofs.Ytlgekplmbmkcmaa
end
section
set_option linter.unusedSimpArgs false
set_option linter.unusedVariables false
set_option maxHeartbeats 4000000
set_option maxRecDepth 10000
namespace Go.Proofs.Ytlgekplmbmkcmaa
open Go.Fx
def rfanW (a n : Int) : Int := if n > 1 then w (a + w (n - 1)) else a
def rfansW (l : List Int) : Int := l.foldl rfanW 0
theorem rfansW_app (l : List Int) (x : Int) : rfansW (l ++ [x]) = rfanW (rfansW l) x := by unfold rfansW; rw [List.foldl_append]; rfl
theorem take_succI {l : List Int} {i : Nat} {x : Int} (h : l[i]? = some x) : l.take (i + 1) = l.take i ++ [x] := by
  rw [List.take_add_one,h]; rfl
theorem RFans_ok {t : T} (ht : T.Ok t) (hv : (ofT t).length ≤ 549755813888) : eP S 40 [.g (enc t)] = some (.a (.i .i64 (rfansW (ofT t)))) := by
  refine x_fn (orcS _) (fc := F40) rfl rfl ?_
  have c1 := ROf_ok ht hv
  have e4 := enc_eq t
  rw [e4] at c1 ⊢
  obtain ⟨l,hl⟩ : ∃ l,ofT t = l := ⟨_,rfl⟩
  rw [hl] at c1 hv ⊢
  simp only [F40,c1,spS,fxa,fxc,fxE,fxL,fxI,nxE,evO,evR,cellsT,ldCells,mkT,lenA,binPV,Env.init,resV,resT,frT,klT,ownT,intT,O.adds,ownA,rowsA,over,wrOk,keysT,keysA,ne_eq,if_true,if_false,ite_self,Nat.reduceLT,Nat.reduceSub,Nat.reduceBEq,Nat.reduceEqDiff,Nat.reduceAdd,Nat.reduceLeDiff,reduceCtorEq,Nat.reduceMul]
  refine loop_nat l.length (fun i e τ => e 4 = .a (.p (.l (l.map encI))) ∧ e 3 = .a (.p (.i .i64 (rfansW (l.take i)))) ∧ e 5 = .a (.p (.i .i64 (i : Nat)))) (i0 := 0) (Nat.zero_le _) ⟨rfl,rfl,rfl⟩ ?_ ?_
  · rintro i e τ hi ⟨e4,e3,e5⟩
    obtain ⟨x,hx⟩ : ∃ x,l[i]? = some x := ⟨_,List.getElem?_eq_getElem hi⟩
    have hx' := mapI hx
    have hlt : ((i : Nat) : Int) < (l.length : Int) := by omega
    have hge : (0 : Int) ≤ ((i : Nat) : Int) := by omega
    have hw := wrap_succ i (by omega)
    rw [take_succI hx,rfansW_app]
    by_cases h1 : x > 1
    · simp only [F40b0,e3,e4,e5,hlt,hge,hw,hx',h1,rfanW,allI,Int.toNat_natCast,List.length_map,List.length_cons,List.length_nil,spS,w,fxa,fxc,fxE,fxL,fxI,nxE,evO,evR,cellsT,ldCells,mkT,lenA,binPV,Env.init,resV,resT,frT,klT,ownT,intT,O.adds,ownA,rowsA,over,wrOk,keysT,keysA,ne_eq,if_true,if_false,ite_self,Nat.reduceLT,Nat.reduceSub,Nat.reduceBEq,Nat.reduceEqDiff,Nat.reduceAdd,Nat.reduceLeDiff,reduceCtorEq,Nat.reduceMul]
    · simp only [F40b0,e3,e4,e5,hlt,hge,hw,hx',h1,rfanW,allI,Int.toNat_natCast,List.length_map,List.length_cons,List.length_nil,spS,fxa,fxc,fxE,fxL,fxI,nxE,evO,evR,cellsT,ldCells,mkT,lenA,binPV,Env.init,resV,resT,frT,klT,ownT,intT,O.adds,ownA,rowsA,over,wrOk,keysT,keysA,ne_eq,if_true,if_false,ite_self,Nat.reduceLT,Nat.reduceSub,Nat.reduceBEq,Nat.reduceEqDiff,Nat.reduceAdd,Nat.reduceLeDiff,reduceCtorEq,Nat.reduceMul]
  · rintro e τ ⟨e4,e3,e5⟩
    have hlt : ¬ ((l.length : Nat) : Int) < (l.length : Int) := by omega
    rw [List.take_length] at e3
    simp only [F40b0,e3,e4,e5,hlt,List.length_map,spS,fxa,fxc,fxE,fxL,fxI,nxE,evO,evR,cellsT,ldCells,mkT,lenA,binPV,Env.init,resV,resT,frT,klT,ownT,intT,O.adds,ownA,rowsA,over,wrOk,keysT,keysA,ne_eq,if_true,if_false,ite_self,Nat.reduceLT,Nat.reduceSub,Nat.reduceBEq,Nat.reduceEqDiff,Nat.reduceAdd,Nat.reduceLeDiff,reduceCtorEq,Nat.reduceMul]
theorem RDrops_ok {t : T} (ht : T.Ok t) (hv : (ofT t).length ≤ 549755813888) : eP S 43 [.g (enc t)] = some (.a (.i .i64 (dropsW (ofT t)))) := by
  refine x_fn (orcS _) (fc := F43) rfl rfl ?_
  have c1 := ROf_ok ht hv
  have e4 := enc_eq t
  rw [e4] at c1 ⊢
  obtain ⟨l,hl⟩ : ∃ l,ofT t = l := ⟨_,rfl⟩
  rw [hl] at c1 hv ⊢
  simp only [F43,c1,spS,fxa,fxc,fxE,fxL,fxI,nxE,evO,evR,cellsT,ldCells,mkT,lenA,binPV,Env.init,resV,resT,frT,klT,ownT,intT,O.adds,ownA,rowsA,over,wrOk,keysT,keysA,ne_eq,if_true,if_false,ite_self,Nat.reduceLT,Nat.reduceSub,Nat.reduceBEq,Nat.reduceEqDiff,Nat.reduceAdd,Nat.reduceLeDiff,reduceCtorEq,Nat.reduceMul]
  refine loop_nat l.length (fun i e τ => e 4 = .a (.p (.l (l.map encI))) ∧ e 3 = .a (.p (.i .i64 (dropsW (l.take i)))) ∧ e 5 = .a (.p (.i .i64 (i : Nat)))) (i0 := 0) (Nat.zero_le _) ⟨rfl,rfl,rfl⟩ ?_ ?_
  · rintro i e τ hi ⟨e4,e3,e5⟩
    obtain ⟨x,hx⟩ : ∃ x,l[i]? = some x := ⟨_,List.getElem?_eq_getElem hi⟩
    have hx' := mapI hx
    have hlt : ((i : Nat) : Int) < (l.length : Int) := by omega
    have hge : (0 : Int) ≤ ((i : Nat) : Int) := by omega
    have hw := wrap_succ i (by omega)
    rw [take_succI hx,dropsW_app]
    by_cases h1 : x = 0
    · simp only [F43b0,e3,e4,e5,hlt,hge,hw,hx',h1,dropW,allI,Int.toNat_natCast,List.length_map,List.length_cons,List.length_nil,spS,w,fxa,fxc,fxE,fxL,fxI,nxE,evO,evR,cellsT,ldCells,mkT,lenA,binPV,Env.init,resV,resT,frT,klT,ownT,intT,O.adds,ownA,rowsA,over,wrOk,keysT,keysA,ne_eq,if_true,if_false,ite_self,Nat.reduceLT,Nat.reduceSub,Nat.reduceBEq,Nat.reduceEqDiff,Nat.reduceAdd,Nat.reduceLeDiff,reduceCtorEq,Nat.reduceMul]
    · simp only [F43b0,e3,e4,e5,hlt,hge,hw,hx',h1,dropW,allI,Int.toNat_natCast,List.length_map,List.length_cons,List.length_nil,spS,fxa,fxc,fxE,fxL,fxI,nxE,evO,evR,cellsT,ldCells,mkT,lenA,binPV,Env.init,resV,resT,frT,klT,ownT,intT,O.adds,ownA,rowsA,over,wrOk,keysT,keysA,ne_eq,if_true,if_false,ite_self,Nat.reduceLT,Nat.reduceSub,Nat.reduceBEq,Nat.reduceEqDiff,Nat.reduceAdd,Nat.reduceLeDiff,reduceCtorEq,Nat.reduceMul]
  · rintro e τ ⟨e4,e3,e5⟩
    have hlt : ¬ ((l.length : Nat) : Int) < (l.length : Int) := by omega
    rw [List.take_length] at e3
    simp only [F43b0,e3,e4,e5,hlt,List.length_map,spS,fxa,fxc,fxE,fxL,fxI,nxE,evO,evR,cellsT,ldCells,mkT,lenA,binPV,Env.init,resV,resT,frT,klT,ownT,intT,O.adds,ownA,rowsA,over,wrOk,keysT,keysA,ne_eq,if_true,if_false,ite_self,Nat.reduceLT,Nat.reduceSub,Nat.reduceBEq,Nat.reduceEqDiff,Nat.reduceAdd,Nat.reduceLeDiff,reduceCtorEq,Nat.reduceMul]
theorem depL_app : ∀ (l r : List T),depL (l ++ r) = max (depL l) (depL r)
  | [],r => by simp [depL]
  | t :: l,r => by simp only [List.cons_append,depL,depL_app l r,Nat.max_assoc]
theorem Depth_ok : ∀ {t : T},T.Ok t → dep t ≤ 1099511627776 → eP S 32 [.g (enc t)] = some (.a (.i .i64 (dep t : Nat))) := by
  intro t ht
  induction ht with
  | mk k n s l hk hn hs hl h ih =>
    intro hd
    simp only [dep] at hd
    refine x_fn (orcS _) (fc := F32) rfl rfl ?_
    simp only [F32,enc,encL_map,spS,fxa,fxc,fxE,fxL,fxI,nxE,evO,evR,cellsT,ldCells,mkT,lenA,binPV,Env.init,resV,resT,frT,klT,ownT,intT,O.adds,ownA,rowsA,over,wrOk,keysT,keysA,ne_eq,if_true,if_false,ite_self,Nat.reduceLT,Nat.reduceSub,Nat.reduceBEq,Nat.reduceEqDiff,Nat.reduceAdd,Nat.reduceLeDiff,reduceCtorEq,Nat.reduceMul]
    refine loop_nat l.length (fun i e τ => e 1 = .a (.ptr (1,0) 0 0) ∧ e 3 = .a (.p (.i .i64 (depL (l.take i) : Nat))) ∧ e 4 = .a (.p (.i .i64 (i : Nat))) ∧ τ.bs (1,0) = some (.var [.p (.i .i64 k),.p (.i .i64 n),.p (.s s),.p (.l (l.map enc))])) (i0 := 0) (Nat.zero_le _) ⟨rfl,rfl,rfl,rfl⟩ ?_ ?_
    · rintro i e τ hi ⟨e1,e3,e4,b1⟩
      obtain ⟨x,hx⟩ : ∃ x,l[i]? = some x := ⟨_,List.getElem?_eq_getElem hi⟩
      have hx' : (l.map enc)[i]? = some (enc x) := by simp [hx]
      have hxm := List.mem_of_getElem? hx
      have hlt : ((i : Nat) : Int) < (l.length : Int) := by omega
      have hge : (0 : Int) ≤ ((i : Nat) : Int) := by omega
      have hlb : i < 9223372036854775807 := by simp only [reachBytes] at hl; omega
      have hw := wrap_succ i hlb
      have c1 := ih x hxm (by have := depL_mem hxm; omega)
      have hs1 : depL (l.take (i + 1)) = max (depL (l.take i)) (dep x) := by rw [take_succT hx,depL_app]; simp [depL]
      rw [hs1]
      by_cases hm : (dep x : Int) > (depL (l.take i) : Int)
      · have : max (depL (l.take i)) (dep x) = dep x := by omega
        rw [this]
        simp only [F32b0,e1,e3,e4,b1,hlt,hge,hw,hx',hm,enc_len,enc_take,enc_all,c1,Int.toNat_natCast,List.length_map,spS,fxa,fxc,fxE,fxL,fxI,nxE,evO,evR,cellsT,ldCells,mkT,lenA,binPV,Env.init,resV,resT,frT,klT,ownT,intT,O.adds,ownA,rowsA,over,wrOk,keysT,keysA,ne_eq,if_true,if_false,ite_self,Nat.reduceLT,Nat.reduceSub,Nat.reduceBEq,Nat.reduceEqDiff,Nat.reduceAdd,Nat.reduceLeDiff,reduceCtorEq,Nat.reduceMul]
      · have : max (depL (l.take i)) (dep x) = depL (l.take i) := by omega
        rw [this]
        simp only [F32b0,e1,e3,e4,b1,hlt,hge,hw,hx',hm,enc_len,enc_take,enc_all,c1,Int.toNat_natCast,List.length_map,spS,fxa,fxc,fxE,fxL,fxI,nxE,evO,evR,cellsT,ldCells,mkT,lenA,binPV,Env.init,resV,resT,frT,klT,ownT,intT,O.adds,ownA,rowsA,over,wrOk,keysT,keysA,ne_eq,if_true,if_false,ite_self,Nat.reduceLT,Nat.reduceSub,Nat.reduceBEq,Nat.reduceEqDiff,Nat.reduceAdd,Nat.reduceLeDiff,reduceCtorEq,Nat.reduceMul]
    · rintro e τ ⟨e1,e3,e4,b1⟩
      have hlt : ¬ ((l.length : Nat) : Int) < (l.length : Int) := by omega
      have hw := wrap_succ (depL l) (by omega)
      rw [List.take_length] at e3
      simp only [F32b0,e1,e3,e4,b1,hlt,hw,dep,List.length_map,spS,fxa,fxc,fxE,fxL,fxI,nxE,evO,evR,cellsT,ldCells,mkT,lenA,binPV,Env.init,resV,resT,frT,klT,ownT,intT,O.adds,ownA,rowsA,over,wrOk,keysT,keysA,ne_eq,if_true,if_false,ite_self,Nat.reduceLT,Nat.reduceSub,Nat.reduceBEq,Nat.reduceEqDiff,Nat.reduceAdd,Nat.reduceLeDiff,reduceCtorEq,Nat.reduceMul]
mutual
def vars : T → Int
  | .mk k _ _ l => varsL l (if k = 1 then 1 else 0)
def varsL : List T → Int → Int
  | [],a => a
  | t :: r,a => varsL r (w (a + vars t))
end
theorem v11_ok (n : Int) : eP S 61 [.a (.i .i64 n)] = some (.g (enc (.mk 1 n [] []))) := by
  refine x_fn (orcS _) (fc := F61) rfl rfl ?_
  simp only [F61,enc,encL_map,List.map_nil,spS,fxa,fxc,fxE,fxL,fxI,nxE,evO,evR,cellsT,ldCells,mkT,lenA,binPV,Env.init,resV,resT,frT,klT,ownT,intT,O.adds,ownA,rowsA,over,wrOk,keysT,keysA,ne_eq,if_true,if_false,ite_self,Nat.reduceLT,Nat.reduceSub,Nat.reduceBEq,Nat.reduceEqDiff,Nat.reduceAdd,Nat.reduceLeDiff,reduceCtorEq,Nat.reduceMul]
theorem lam11_ok (t : T) : eP S 45 [.g (enc t)] = some (.g (enc (.mk 2 0 [] [t]))) := by
  have e0 : enc (.mk 2 0 [] [t]) = [.i .i64 2,.i .i64 0,.s [],.l [enc t]] := rfl
  rw [e0]
  refine x_fn (orcS _) (fc := F45) rfl rfl ?_
  simp only [F45,enc_len,enc_takep,x_seq,x_reg,x_skip,x_exit,x_ret,x_block,x_if,wpC_t,wpC_f,wpI_cons,wpI_nil,wpX_some,evI_any,evI_rd,evI_ad,evI_g,evG_u,evG_b,evG_tt,evG_ff,evG_tf,evG_ft,evO,evR,ev_t,ev_c,ev_f,putD_some,putD_none,put_at,cellsT,ldCells,mkT,lenA,binPV,add_bs,add_clk,add_ls,put_bs,put_clk,put_ls,kill_bs,kill_clk,kill_ls,empty_clk,empty_bs,Env.init,seqQ_norm,seqQ_exit,seqQ_ret,blkQ_norm,blkQ_exit,blkQ_ret,loopQ_norm,loopQ_exit,loopQ_ret,retP_ret,retP_norm,retE_ret,retE_norm,retS_ret,retS_norm,wpO_some,frA_fn,klA_p,klA_nil,klA_own,resVs,resV,resT,Option.bind_some,Option.bind_none,Option.map_some,List.getD_cons_zero,List.getD_cons_succ,List.getD_nil,List.length_cons,List.length_nil,List.length_map,List.map_cons,List.map_nil,List.drop_zero,List.drop_succ_cons,List.take_succ_cons,List.take_zero,List.drop_nil,List.take_nil,Nat.reduceEqDiff,Nat.reduceAdd,Nat.reduceLeDiff,Nat.zero_add,Nat.add_zero,Prod.mk.injEq,and_true,true_and,and_false,false_and,and_self,if_true,if_false,ite_true,ite_false,Bool.not_true,Bool.not_false,Bool.not_eq_true',reduceCtorEq,decide_true,decide_false,frTs,frT,frL_p,spS,ofPT_a,ofPT_g,ofPT_t,flat_i,flat_b,flat_s,flat_l,flat_g,flatp_i,flatp_b,flatp_s,flatp_l,klTs,klT,Bool.and_false,Bool.false_and,frL,frA_p,frA_nil,frA_own,ownT,intT,Bool.or_true,Bool.true_or,Bool.false_eq_true,frL_p,klL_p,ownT_p,O.adds,List.all_cons,List.all_nil,List.any_cons,List.any_nil,ownA,evO.bslRows,List.replicate_succ,List.replicate_zero,List.set_cons_zero,rowsA,over,List.cons_append,List.nil_append,List.append_nil,fillA,Bool.and_self,Bool.and_true,Bool.true_and,Bool.or_self,Bool.or_false,Bool.false_or,Nat.reduceMul,Nat.one_mul,Nat.lt_add_one,klL,Nat.le_refl,ite_self,Nat.reduceBEq]
theorem app11_ok (t u : T) : eP S 46 [.g (enc t),.g (enc u)] = some (.g (enc (.mk 3 0 [] [t,u]))) := by
  have e0 : enc (.mk 3 0 [] [t,u]) = [.i .i64 3,.i .i64 0,.s [],.l [enc t,enc u]] := rfl
  rw [e0]
  refine x_fn (orcS _) (fc := F46) rfl rfl ?_
  simp only [F46,enc_len,enc_takep,List.set_cons_succ,Nat.reduceLT,Int.cast_ofNat_Int,Int.reduceLE,Int.reduceLT,Int.reduceToNat,Int.reduceAdd,Int.reduceSub,Int.reduceNeg,x_seq,x_reg,x_skip,x_exit,x_ret,x_block,x_if,wpC_t,wpC_f,wpI_cons,wpI_nil,wpX_some,evI_any,evI_rd,evI_ad,evI_g,evG_u,evG_b,evG_tt,evG_ff,evG_tf,evG_ft,evO,evR,ev_t,ev_c,ev_f,putD_some,putD_none,put_at,cellsT,ldCells,mkT,lenA,binPV,add_bs,add_clk,add_ls,put_bs,put_clk,put_ls,kill_bs,kill_clk,kill_ls,empty_clk,empty_bs,Env.init,seqQ_norm,seqQ_exit,seqQ_ret,blkQ_norm,blkQ_exit,blkQ_ret,loopQ_norm,loopQ_exit,loopQ_ret,retP_ret,retP_norm,retE_ret,retE_norm,retS_ret,retS_norm,wpO_some,frA_fn,klA_p,klA_nil,klA_own,resVs,resV,resT,Option.bind_some,Option.bind_none,Option.map_some,List.getD_cons_zero,List.getD_cons_succ,List.getD_nil,List.length_cons,List.length_nil,List.length_map,List.map_cons,List.map_nil,List.drop_zero,List.drop_succ_cons,List.take_succ_cons,List.take_zero,List.drop_nil,List.take_nil,Nat.reduceEqDiff,Nat.reduceAdd,Nat.reduceLeDiff,Nat.zero_add,Nat.add_zero,Prod.mk.injEq,and_true,true_and,and_false,false_and,and_self,if_true,if_false,ite_true,ite_false,Bool.not_true,Bool.not_false,Bool.not_eq_true',reduceCtorEq,decide_true,decide_false,frTs,frT,frL_p,spS,ofPT_a,ofPT_g,ofPT_t,flat_i,flat_b,flat_s,flat_l,flat_g,flatp_i,flatp_b,flatp_s,flatp_l,klTs,klT,Bool.and_false,Bool.false_and,frL,frA_p,frA_nil,frA_own,ownT,intT,Bool.or_true,Bool.true_or,Bool.false_eq_true,frL_p,klL_p,ownT_p,O.adds,List.all_cons,List.all_nil,List.any_cons,List.any_nil,ownA,evO.bslRows,List.replicate_succ,List.replicate_zero,List.set_cons_zero,rowsA,over,List.cons_append,List.nil_append,List.append_nil,fillA,Bool.and_self,Bool.and_true,Bool.true_and,Bool.or_self,Bool.or_false,Bool.false_or,Nat.reduceMul,Nat.one_mul,Nat.lt_add_one,klL,Nat.le_refl,ite_self,Nat.reduceBEq]
end Go.Proofs.Ytlgekplmbmkcmaa
end
section
set_option linter.unusedSimpArgs false
set_option linter.unusedVariables false
namespace Go.Proofs.Ytlgekplmbmkcmaa
open Go.Fx
theorem T.ind {P : T → Prop} (h : ∀ k n s l,(∀ t,t ∈ l → P t) → P (.mk k n s l)) : ∀ t,P t := by
  intro t
  refine T.rec (motive_1 := P) (motive_2 := fun l => ∀ t,t ∈ l → P t) (fun k n s l ih => h k n s l ih) (by simp) (fun t l h1 h2 u hu => ?_) t
  rcases List.mem_cons.1 hu with rfl | hu
  · exact h1
  · exact h2 u hu
def var (n : Int) : T := .mk 1 n [] []
def lr (m : Int) (r : Int → Int) : Int → Int := fun n => if n < m then n else r (n - m) + m
mutual
def ren (r : Int → Int) : T → T
  | .mk k n s l => if k = 1 then .mk k (r n) s l else .mk k n s (renL (lr (T.more (.mk k n s l)) r) l)
def renL (r : Int → Int) : List T → List T
  | [] => []
  | t :: l => ren r t :: renL r l
end
def ls (m : Int) (σ : Int → T) : Int → T := fun n => if n < m then var n else ren (· + m) (σ (n - m))
mutual
def sub (σ : Int → T) : T → T
  | .mk k n s l => if k = 1 then σ n else .mk k n s (subL (ls (T.more (.mk k n s l)) σ) l)
def subL (σ : Int → T) : List T → List T
  | [] => []
  | t :: l => sub σ t :: subL σ l
end
end Go.Proofs.Ytlgekplmbmkcmaa
end
section
set_option linter.unusedSimpArgs false
set_option linter.unusedVariables false
namespace Go.Proofs.Ytlgekplmbmkcmaa
open Go.Fx
mutual
def sizeZ : T → Int
  | .mk _ _ _ l => sizeLZ l + 1
def sizeLZ : List T → Int
  | [] => 0
  | t :: r => sizeZ t + sizeLZ r
end
theorem sizeLZ_pos {l : List T} (h : ∀ t,t ∈ l → 1 ≤ sizeZ t) : 0 ≤ sizeLZ l := by
  induction l with
  | nil => simp [sizeLZ]
  | cons t l ih => have := h t (by simp); have := ih fun u hu => h u (by simp [hu]); simp only [sizeLZ]; omega
theorem sizeZ_pos (t : T) : 1 ≤ sizeZ t := by
  induction t using T.ind with
  | h k n s l ih => have := sizeLZ_pos ih; simp only [sizeZ]; omega
mutual
theorem few_all : ∀ (t : T) (x y : Int),x ≤ 1099511627776 → y ≤ 1000 → few t x y ≥ 0 → (dep t : Int) ≤ y ∧ few t x y = x - sizeZ t
  | .mk k n s l,x,y,hx,hy,h => by
    simp only [few] at h ⊢
    split at h
    · omega
    · rename_i h1
      split at h
      · omega
      · rename_i h2
        rw [if_neg h1,if_neg h2]
        rw [w_id _ (by omega),w_id _ (by omega)] at h ⊢
        obtain ⟨h3,h4⟩ := few_allL l (x - 1) (y - 1) (by omega) (by omega) (by omega) h
        simp only [dep,sizeZ]; omega
theorem few_allL : ∀ (l : List T) (x y : Int),x ≤ 1099511627776 → 0 ≤ y → y ≤ 1000 → fewL l x y ≥ 0 → (depL l : Int) ≤ y ∧ fewL l x y = x - sizeLZ l
  | [],x,y,hx,hy0,hy,h => by simp only [fewL,depL,sizeLZ]; omega
  | t :: l,x,y,hx,hy0,hy,h => by
    simp only [fewL] at h ⊢
    split at h
    · omega
    · rename_i h1
      rw [if_neg h1]
      obtain ⟨h3,h4⟩ := few_all t x y hx hy (by omega)
      have := sizeZ_pos t
      obtain ⟨h5,h6⟩ := few_allL l (few t x y) y (by omega) hy0 hy h
      simp only [depL,sizeLZ]; omega
end
theorem small_all {t : T} {x : Int} (hx : x ≤ 1099511627776) (h : small t x = true) : dep t ≤ 600 ∧ sizeZ t ≤ x := by
  unfold small at h
  obtain ⟨h1,h2⟩ := few_all t x 600 hx (by omega) (by simpa using h)
  have : few t x 600 ≥ 0 := by simpa using h
  omega
end Go.Proofs.Ytlgekplmbmkcmaa
end
section
set_option linter.unusedSimpArgs false
set_option linter.unusedVariables false
set_option maxHeartbeats 4000000
set_option maxRecDepth 10000
namespace Go.Proofs.Ytlgekplmbmkcmaa
open Go.Fx
theorem Ok_lam {t : T} (ht : T.Ok t) : T.Ok (.mk 2 0 [] [t]) := .mk 2 0 [] [t] (by decide) (by decide) (by simp [reachBytes]) (by simp [reachBytes]) (by simpa using ht)
theorem Ok_app {t u : T} (ht : T.Ok t) (hu : T.Ok u) : T.Ok (.mk 3 0 [] [t,u]) := .mk 3 0 [] [t,u] (by decide) (by decide) (by simp [reachBytes]) (by simp [reachBytes]) (by simp [ht,hu])
end Go.Proofs.Ytlgekplmbmkcmaa
end
section
set_option linter.unusedSimpArgs false
set_option linter.unusedVariables false
namespace Go.Proofs.Ytlgekplmbmkcmaa
open Go.Fx
mutual
theorem ofT_size : ∀ t : T,((ofT t).length : Int) ≤ 8 * sizeZ t
  | .mk k n s l => by
    have h := ofTL_size l
    have hb := binds_le (.mk k n s l)
    simp only [ofT,sizeZ,List.length_append,useB_len]; omega
theorem ofTL_size : ∀ l : List T,((ofTL l).length : Int) ≤ 8 * sizeLZ l
  | [] => by simp [ofTL,sizeLZ]
  | t :: r => by
    have h1 := ofT_size t
    have h2 := ofTL_size r
    simp only [ofTL,sizeLZ,List.length_append]; omega
end
mutual
theorem uses_rng : ∀ (t : T) (q : Int),vn t ≤ 1073741824 → 0 ≤ uses t q ∧ uses t q ≤ vn t
  | .mk k n s l,q,h => by
    unfold vn at h
    unfold uses vn
    split
    · split <;> simp
    · rename_i hk
      rw [if_neg hk] at h
      have := usesL_rng l (w (q + T.more (.mk k n s l))) 0 (by omega) (by omega)
      omega
theorem usesL_rng : ∀ (l : List T) (q a : Int),0 ≤ a → a + vnL l ≤ 2147483648 → a ≤ usesL l q a ∧ usesL l q a ≤ a + vnL l
  | [],q,a,h0,h => by simp [usesL,vnL]
  | t :: r,q,a,h0,h => by
    simp only [vnL] at h
    have h1 := uses_rng' t q (by omega)
    have hw : w (a + uses t q) = a + uses t q := wrap_in _ (by omega)
    have h2 := usesL_rng r q (a + uses t q) (by omega) (by omega)
    simp only [usesL,vnL,hw]; omega
theorem uses_rng' : ∀ (t : T) (q : Int),vn t ≤ 2147483648 → 0 ≤ uses t q ∧ uses t q ≤ vn t
  | .mk k n s l,q,h => by
    unfold vn at h
    unfold uses vn
    split
    · split <;> simp
    · rename_i hk
      rw [if_neg hk] at h
      have := usesL_rng l (w (q + T.more (.mk k n s l))) 0 (by omega) (by omega)
      omega
end
theorem useB_rng {t : T} (h : vnL t.l ≤ 1073741824) : ∀ x ∈ useB t,0 ≤ x ∧ x ≤ 1073741824 := by
  intro x hx
  unfold useB at hx
  obtain ⟨i,hi,rfl⟩ := List.mem_map.1 hx
  rw [uses_w]
  have hv : vn (t.l.getD 0 zT0) ≤ 1073741824 := by
    cases hl : t.l with
    | nil => show vn zT0 ≤ _; decide
    | cons a b => rw [hl] at h; show vn a ≤ _; simp only [vnL] at h; omega
  have := uses_rng (t.l.getD 0 zT0) (w (lastB t + (((binds t).toNat : Int) - 1 - (i : Int)))) hv
  omega
mutual

def vnA : T → Nat
  | .mk k _ _ l => (if k = 1 then 1 else 0) + vnAL l
def vnAL : List T → Nat
  | [] => 0
  | t :: r => vnA t + vnAL r
end
mutual
theorem vn_A : ∀ t : T,vn t ≤ vnA t ∧ (vnA t : Int) ≤ sizeZ t
  | .mk k n s l => by
    have h := vnL_A l
    simp only [vn,vnA,sizeZ]
    split <;> omega
theorem vnL_A : ∀ l : List T,vnL l ≤ vnAL l ∧ (vnAL l : Int) ≤ sizeLZ l
  | [] => by simp [vnL,vnAL,sizeLZ]
  | t :: r => by
    have h1 := vn_A t
    have h2 := vnL_A r
    simp only [vnL,vnAL,sizeLZ]; omega
end
mutual
theorem ofT_rng : ∀ t : T,vnA t ≤ 1073741824 → ∀ x ∈ ofT t,0 ≤ x ∧ x ≤ 1073741824
  | .mk k n s l,h => by
    intro x hx
    simp only [vnA] at h
    simp only [ofT,List.mem_append] at hx
    rcases hx with hx | hx
    · exact useB_rng (t := .mk k n s l) (by show vnL l ≤ _; have := (vnL_A l).1; omega) x hx
    · exact ofTL_rng l (by omega) x hx
theorem ofTL_rng : ∀ l : List T,vnAL l ≤ 1073741824 → ∀ x ∈ ofTL l,0 ≤ x ∧ x ≤ 1073741824
  | [],_ => by intro x hx; simp [ofTL] at hx
  | t :: r,h => by
    intro x hx
    simp only [vnAL] at h
    simp only [ofTL,List.mem_append] at hx
    rcases hx with hx | hx
    · exact ofT_rng t (by omega) x hx
    · exact ofTL_rng r (by omega) x hx
end
def fanZ (x : Int) : Int := if x > 1 then x - 1 else 0
def dropZ (x : Int) : Int := if x = 0 then 1 else 0
def sumZ (f : Int → Int) (l : List Int) : Int := (l.map f).sum
theorem sumZ_cons (f : Int → Int) (x : Int) (r : List Int) : sumZ f (x :: r) = f x + sumZ f r := by simp [sumZ]
theorem foldl_sum {g : Int → Int → Int} {f : Int → Int} {B : Int} (hg : ∀ a x,0 ≤ a → a ≤ 2305843009213693952 → 0 ≤ x → x ≤ B → g a x = a + f x) (hf : ∀ x,0 ≤ x → x ≤ B → 0 ≤ f x ∧ f x ≤ B) (hB : 0 ≤ B) :
    ∀ (l : List Int) (a : Int),(∀ x ∈ l,0 ≤ x ∧ x ≤ B) → 0 ≤ a → a + l.length * B ≤ 2305843009213693952 → l.foldl g a = a + sumZ f l
  | [],a,_,_,_ => by simp [sumZ]
  | x :: l,a,hx,h0,hb => by
    have h1 := hx x (by simp)
    have h2 := hf x h1.1 h1.2
    have hll : (((x :: l).length : Nat) : Int) * B = (l.length : Int) * B + B := by simp only [List.length_cons]; rw [show ((l.length + 1 : Nat) : Int) = (l.length : Int) + 1 by omega,Int.add_mul]; omega
    rw [hll] at hb
    have hnn : 0 ≤ (l.length : Int) * B := Int.mul_nonneg (by omega) hB
    rw [List.foldl_cons,hg a x h0 (by omega) h1.1 h1.2,sumZ_cons,foldl_sum hg hf hB l (a + f x) (fun y hy => hx y (by simp [hy])) (by omega) (by omega)]
    omega
theorem fan_eq {l : List Int} (hx : ∀ x ∈ l,0 ≤ x ∧ x ≤ 1073741824) (hl : l.length ≤ 1048576) : fansW l = sumZ fanZ l ∧ rfansW l = sumZ fanZ l ∧ dropsW l = sumZ dropZ l := by
  have hb : (0 : Int) + l.length * 1073741824 ≤ 2305843009213693952 := by omega
  refine ⟨?_,?_,?_⟩
  · have := foldl_sum (g := fanW) (f := fanZ) (B := 1073741824) (fun a x h1 h2 h3 h4 => by
      unfold fanW fanZ
      have h5 : w (x - 1) = x - 1 := wrap_in _ (by omega)
      rw [h5]
      split
      · rw [if_neg (by omega)]; exact wrap_in _ (by omega)
      · split
        · exact wrap_in _ (by omega)
        · rw [show x - 1 = 0 by omega]; exact wrap_in _ (by omega)) (fun x h1 h2 => by unfold fanZ; split <;> omega) (by omega) l 0 hx (by omega) hb
    rw [Int.zero_add] at this; exact this
  · have := foldl_sum (g := rfanW) (f := fanZ) (B := 1073741824) (fun a x h1 h2 h3 h4 => by
      unfold rfanW fanZ
      have h5 : w (x - 1) = x - 1 := wrap_in _ (by omega)
      rw [h5]
      split
      · exact wrap_in _ (by omega)
      · omega) (fun x h1 h2 => by unfold fanZ; split <;> omega) (by omega) l 0 hx (by omega) hb
    rw [Int.zero_add] at this; exact this
  · have := foldl_sum (g := dropW) (f := dropZ) (B := 1073741824) (fun a x h1 h2 h3 h4 => by
      unfold dropW dropZ
      split
      · exact wrap_in _ (by omega)
      · omega) (fun x h1 h2 => by unfold dropZ; split <;> omega) (by omega) l 0 hx (by omega) hb
    rw [Int.zero_add] at this; exact this
structure Sml (t : T) : Prop where
  v : vn t ≤ 1073741824
  a : vnA t ≤ 1073741824
  l : (ofT t).length ≤ 1048576
  r : ∀ x ∈ ofT t,0 ≤ x ∧ x ≤ 1073741824
  d : dep t ≤ 600
theorem sml_of {t : T} {x : Int} (hx : x ≤ 2000) (h : small t x = true) : Sml t ∧ sizeZ t ≤ x := by
  obtain ⟨h1,h2⟩ := small_all (by omega) h
  have a1 := vn_A t
  have a2 := ofT_size t
  exact ⟨⟨by omega,by omega,by omega,ofT_rng t (by omega),h1⟩,h2⟩
end Go.Proofs.Ytlgekplmbmkcmaa
end
section
set_option linter.unusedSimpArgs false
set_option linter.unusedVariables false
set_option maxHeartbeats 4000000
set_option maxRecDepth 10000
namespace Go.Proofs.Ytlgekplmbmkcmaa
open Go.Fx
def vT (n : Int) : T := .mk 1 n [] []
def lamT (t : T) : T := .mk 2 0 [] [t]
def appT (t u : T) : T := .mk 3 0 [] [t,u]
def fxA : T := lamT (lamT (appT (vT 1) (vT 1)))
def fxB : T := .mk 6 2 [65] [appT (vT 0) (appT (vT 0) (vT 5))]
def fxC : T := appT (vT 4) (appT (vT 1) (vT 4))
def fxI : T := lamT (vT 0)
theorem Ok_vT {n : Int} (h : (Lit.int .i64 n).wf = true) : T.Ok (vT n) := .mk 1 n [] [] (by decide) h (by simp [reachBytes]) (by simp [reachBytes]) (by simp)
theorem Ok_fxA : T.Ok fxA := Ok_lam (Ok_lam (Ok_app (Ok_vT (by decide)) (Ok_vT (by decide))))
theorem Ok_fxB : T.Ok fxB := .mk 6 2 [65] _ (by decide) (by decide) (by simp [reachBytes]) (by simp [reachBytes]) (by
  intro t ht
  rw [List.mem_singleton] at ht
  subst ht
  exact Ok_app (Ok_vT (by decide)) (Ok_app (Ok_vT (by decide)) (Ok_vT (by decide))))
theorem Ok_fxC : T.Ok fxC := Ok_app (Ok_vT (by decide)) (Ok_app (Ok_vT (by decide)) (Ok_vT (by decide)))
theorem Ok_fxI : T.Ok fxI := Ok_lam (Ok_vT (by decide))
theorem fixed11_ok : eP S 33 [] = some (.a (.b true)) := by
  refine x_fn (orcS _) (fc := F33) rfl rfl ?_
  have v0 := v11_ok 0
  have v1 := v11_ok 1
  have v4 := v11_ok 4
  have v5 := v11_ok 5
  have a1 := app11_ok (vT 1) (vT 1)
  have l1 := lam11_ok (appT (vT 1) (vT 1))
  have l2 := lam11_ok (lamT (appT (vT 1) (vT 1)))
  have a2 := app11_ok (vT 0) (vT 5)
  have a3 := app11_ok (vT 0) (appT (vT 0) (vT 5))
  have a4 := app11_ok (vT 1) (vT 4)
  have a5 := app11_ok (vT 4) (appT (vT 1) (vT 4))
  have l3 := lam11_ok (vT 0)
  have f1 := Of_ok Ok_fxA (by decide +kernel)
  rw [show ofT fxA = [2,0] by decide +kernel] at f1
  have f2 := Fans_ok Ok_fxA
  rw [show fansW (ofT fxA) = 1 by decide +kernel] at f2
  have f3 := Drops_ok Ok_fxA
  rw [show dropsW (ofT fxA) = 1 by decide +kernel] at f3
  have f4 := Affine_ok Ok_fxA
  rw [show decide (fansW (ofT fxA) = 0) = false by decide +kernel] at f4
  have f5 := Affine_ok Ok_fxI
  rw [show decide (fansW (ofT fxI) = 0) = true by decide +kernel] at f5
  have f6 := Of_ok Ok_fxB (by decide +kernel)
  rw [show ofT fxB = [0,2] by decide +kernel] at f6
  have f7 := Free_ok Ok_fxB (by decide +kernel)
  rw [show freeT fxB = [3] by decide +kernel] at f7
  have f8 := Free_ok Ok_fxC (by decide +kernel)
  rw [show freeT fxC = [1,4] by decide +kernel] at f8
  have f9 := Free_ok Ok_fxA (by decide +kernel)
  rw [show freeT fxA = [] by decide +kernel] at f9
  have i1 := Ints_ok (l := [2,0]) (m := [2,0]) (by decide)
  have i2 := Ints_ok (l := [0,2]) (m := [0,2]) (by decide)
  have i3 := Ints_ok (l := [3]) (m := [3]) (by decide)
  have i4 := Ints_ok (l := [1,4]) (m := [1,4]) (by decide)
  simp only [fxA,fxB,fxC,fxI,vT,lamT,appT,enc,encL,encI,List.map_cons,List.map_nil,decide_true] at v0 v1 v4 v5 a1 l1 l2 a2 a3 a4 a5 l3 f1 f2 f3 f4 f5 f6 f7 f8 f9 i1 i2 i3 i4
  simp only [F33,v0,v1,v4,v5,a1,l1,l2,a2,a3,a4,a5,l3,f1,f2,f3,f4,f5,f6,f7,f8,f9,i1,i2,i3,i4,List.set_cons_succ,List.set_cons_zero,List.replicate,Nat.reduceLT,PT.flat,PV.flat,List.all_cons,List.all_nil,x_fz,fzS,fz1,ne_eq,not_false_eq_true,not_true_eq_false,Int.cast_ofNat_Int,Int.reduceLE,Int.reduceLT,Int.reduceToNat,Int.reduceAdd,Int.reduceSub,Int.reduceNeg,spS,fxa,fxc,fxE,fxL,fxI,nxE,evO,evR,cellsT,ldCells,mkT,lenA,binPV,Env.init,resV,resT,frT,klT,ownT,intT,O.adds,ownA,rowsA,over,wrOk,keysT,keysA,ne_eq,if_true,if_false,ite_self,Nat.reduceLT,Nat.reduceSub,Nat.reduceBEq,Nat.reduceEqDiff,Nat.reduceAdd,Nat.reduceLeDiff,reduceCtorEq,Nat.reduceMul]
theorem useTells_law {t : T} (ht : T.Ok t) : eP S 9 [.g (enc t)] = some (.a (.b true)) := by
  have f0 := fixed11_ok
  have a1 := small_ok ht 200
  have a3 := tame_ok ht
  have e4 := enc_eq t
  refine x_fn (orcS _) (fc := F9) rfl rfl ?_
  cases hs : small t 200 with
  | false =>
    rw [hs,e4] at a1
    rw [e4]
    simp only [F9,f0,a1,spS,fxa,fxc,fxE,fxL,fxI,nxE,evO,evR,cellsT,ldCells,mkT,lenA,binPV,Env.init,resV,resT,frT,klT,ownT,intT,O.adds,ownA,rowsA,over,wrOk,keysT,keysA,ne_eq,if_true,if_false,ite_self,Nat.reduceLT,Nat.reduceSub,Nat.reduceBEq,Nat.reduceEqDiff,Nat.reduceAdd,Nat.reduceLeDiff,reduceCtorEq,Nat.reduceMul]
  | true =>
  obtain ⟨hS,hz⟩ := sml_of (by omega) hs
  have a2 := Depth_ok ht (by have := hS.d; omega)
  rw [hs] at a1
  by_cases hd : ((dep t : Nat) : Int) > 300
  · rw [e4] at a1 a2 ⊢
    simp only [F9,f0,a1,a2,hd,spS,fxa,fxc,fxE,fxL,fxI,nxE,evO,evR,cellsT,ldCells,mkT,lenA,binPV,Env.init,resV,resT,frT,klT,ownT,intT,O.adds,ownA,rowsA,over,wrOk,keysT,keysA,ne_eq,if_true,if_false,ite_self,Nat.reduceLT,Nat.reduceSub,Nat.reduceBEq,Nat.reduceEqDiff,Nat.reduceAdd,Nat.reduceLeDiff,reduceCtorEq,Nat.reduceMul]
  cases htm : tame t with
  | false =>
    rw [htm] at a3
    rw [e4] at a1 a2 a3 ⊢
    simp only [F9,f0,a1,a2,a3,hd,spS,fxa,fxc,fxE,fxL,fxI,nxE,evO,evR,cellsT,ldCells,mkT,lenA,binPV,Env.init,resV,resT,frT,klT,ownT,intT,O.adds,ownA,rowsA,over,wrOk,keysT,keysA,ne_eq,if_true,if_false,ite_self,Nat.reduceLT,Nat.reduceSub,Nat.reduceBEq,Nat.reduceEqDiff,Nat.reduceAdd,Nat.reduceLeDiff,reduceCtorEq,Nat.reduceMul]
  | true =>
  rw [htm] at a3
  have b1 := Free_ok ht hS.v
  have b2 := RFree_ok ht hS.v
  have hll := hS.l
  have b3 := Of_ok ht (by omega)
  have b4 := ROf_ok ht (by omega)
  have b5 := Affine_ok ht
  have b6 := RFans_ok ht (by omega)
  have b7 := Fans_ok ht
  have b8 := Drops_ok ht
  have b9 := RDrops_ok ht (by omega)
  obtain ⟨q1,q2,q3⟩ := fan_eq hS.r hS.l
  rw [q1] at b5 b7
  rw [q2] at b6
  have hfl : (freeT t).length ≤ 1099511627776 := by
    have := refF_len t 0 []
    have := hS.v
    unfold freeT
    simp only [List.length_nil] at *
    omega
  have i1 := Ints_ok (l := freeT t) (m := freeT t) hfl
  have i2 := Ints_ok (l := ofT t) (m := ofT t) (by omega)
  rw [decide_eq_true rfl] at i1 i2
  rw [e4] at a1 a2 a3 b1 b2 b3 b4 b5 b6 b7 b8 b9 ⊢
  simp only [F9,f0,a1,a2,a3,hd,b1,b2,b3,b4,b5,b6,b7,b8,b9,i1,i2,spS,fxa,fxc,fxE,fxL,fxI,nxE,evO,evR,cellsT,ldCells,mkT,lenA,binPV,Env.init,resV,resT,frT,klT,ownT,intT,O.adds,ownA,rowsA,over,wrOk,keysT,keysA,ne_eq,if_true,if_false,ite_self,Nat.reduceLT,Nat.reduceSub,Nat.reduceBEq,Nat.reduceEqDiff,Nat.reduceAdd,Nat.reduceLeDiff,reduceCtorEq,Nat.reduceMul]
end Go.Proofs.Ytlgekplmbmkcmaa
end
section
set_option linter.unusedSimpArgs false
set_option linter.unusedVariables false
namespace Go.Proofs.Ytlgekplmbmkcmaa
open Go.Fx
theorem cells24 : Try.prog.cellsOf 24 = 4 := by kernel_rfl
theorem bytes24 : Try.prog.bytesOf 24 = 56 := by kernel_rfl
theorem cells3 : Try.prog.cellsOf 3 = 1 := by kernel_rfl
theorem cells9 : Try.prog.cellsOf 9 = 1 := by kernel_rfl
theorem cells22 : Try.prog.cellsOf 22 = 1 := by kernel_rfl
theorem len4 {α : Type} {l : List α} (h : l.length = 4) : ∃ a b c d,l = [a,b,c,d] := by
  match l,h with
  | [a,b,c,d],_ => exact ⟨a,b,c,d,rfl⟩
theorem ct_int {n : Nat} {qs : List PV} (h : CT Try.prog n 3 qs) : ∃ i,qs = [.i .i64 i] ∧ (Lit.int .i64 i).wf = true := by
  cases n with
  | zero => exact h.elim
  | succ n => simp only [CT,Try.underlying3] at h; exact h
theorem ct_term : ∀ {n : Nat} {qs : List PV},CT Try.prog n 24 qs → ∃ t,T.Ok t ∧ qs = enc t := by
  intro n
  induction n using Nat.strongRecOn with
  | _ n ih =>
    intro qs h
    cases n with
    | zero => exact h.elim
    | succ n =>
      simp only [CT,Try.underlying24,cells24] at h
      obtain ⟨hl,hf⟩ := h
      obtain ⟨q0,q1,q2,q3,rfl⟩ := len4 hl
      · have f0 : CT Try.prog n 3 (List.take (Try.prog.cellsOf 3) [q0,q1,q2,q3]) := hf _ (Array.mem_of_getElem? (i := 0) rfl)
        have f1 : CT Try.prog n 3 (List.take (Try.prog.cellsOf 3) [q1,q2,q3]) := hf _ (Array.mem_of_getElem? (i := 1) rfl)
        have f2 : CT Try.prog n 9 (List.take (Try.prog.cellsOf 9) [q2,q3]) := hf _ (Array.mem_of_getElem? (i := 2) rfl)
        have f3 : CT Try.prog n 22 (List.take (Try.prog.cellsOf 22) [q3]) := hf _ (Array.mem_of_getElem? (i := 3) rfl)
        rw [cells3] at f0 f1
        rw [cells9] at f2
        rw [cells22] at f3
        have f0 : CT Try.prog n 3 [q0] := f0
        have f1 : CT Try.prog n 3 [q1] := f1
        have f2 : CT Try.prog n 9 [q2] := f2
        have f3 : CT Try.prog n 22 [q3] := f3
        obtain ⟨k,e0,hk⟩ := ct_int f0
        obtain ⟨m,e1,hm⟩ := ct_int f1
        cases n with
        | zero => exact f0.elim
        | succ n =>
          simp only [CT,Try.underlying9] at f2
          simp only [CT,Try.underlying22,bytes24] at f3
          obtain ⟨s,e2,hs⟩ := f2
          obtain ⟨rows,e3,hr,hrow⟩ := f3
          simp only [List.cons.injEq,and_true] at e0 e1 e2 e3
          subst e0 e1 e2 e3
          have : ∀ (rows : List (List PV)),(∀ r,r ∈ rows → r.length = Try.prog.cellsOf 24 ∧ CT Try.prog n 24 r) → ∃ l : List T,rows = l.map enc ∧ ∀ t,t ∈ l → T.Ok t := by
            intro rows
            induction rows with
            | nil => intro _; exact ⟨[],rfl,fun t ht => by simp at ht⟩
            | cons r rows ihr =>
              intro h
              obtain ⟨t,ht,rfl⟩ := ih n (by omega) (h r (by simp)).2
              obtain ⟨l,rfl,hl⟩ := ihr fun r hr => h r (by simp [hr])
              exact ⟨t :: l,rfl,fun u hu => by rcases List.mem_cons.1 hu with rfl | hu; exact ht; exact hl u hu⟩
          obtain ⟨l,rfl,hall⟩ := this rows hrow
          exact ⟨.mk k m s l,.mk k m s l hk hm hs (by simpa using hr) hall,by simp [enc,encL_map]⟩
theorem agg24 : aggT Try.prog 24 = true := by simp only [aggT,Try.underlying24,aggD]
theorem at_term {p : PT} (h : AT Try.prog 24 p ∧ p.isG = aggT Try.prog 24) : ∃ t,T.Ok t ∧ p = .g (enc t) := by
  obtain ⟨h1,h2⟩ := h
  rw [agg24] at h2
  cases p with
  | g qs => obtain ⟨n,hn⟩ := h1; obtain ⟨t,ht,rfl⟩ := ct_term hn; exact ⟨t,ht,rfl⟩
  | _ => simp [PT.isG] at h2
def lawTs : List TypeId := [3,9,22,24,25]
theorem lawTsOk : closedTs Try.prog lawTs = true := by kernel_rfl
theorem own : ownKnob Try.prog.godebug = none := by kernel_rfl
theorem laidOut : laidOutB Try.prog = true := by kernel_rfl
end Go.Proofs.Ytlgekplmbmkcmaa
end
namespace Go.Proofs.Ytlgekplmbmkcmaa.useTells
open Go.Fx Go.ChangeShapes Go.WideShapes Go.ChangeAt Go.RowKit
theorem law (ps : List PT) (h : F2 (fun t p => AT Try.checked.prog t p ∧ p.isG = aggT Try.checked.prog t) Try.f9.params.toList ps) : eP S 9 ps = some (.a (.b true)) := by
  have h' : F2 (fun t p => AT Try.prog t p ∧ p.isG = aggT Try.prog t) [24] ps := by rw [Try.params9] at h; exact h
  obtain _ | ⟨h1,r1⟩ := h'
  obtain _ | _ := r1
  obtain ⟨a1,k1,rfl⟩ := at_term h1
  exact useTells_law k1
set_option maxRecDepth 100000 in
theorem lifted (os : Os) (started : os.Started) (H : Type) (enc : TypeId × Value → H) :
    ReturnsInHanded {} Try.checked os 9 .any (Rows.useTellsSpec.pre6 enc Try.prog Try.f9 Rows.useTellsRow.domain false) (Rows.useTellsSpec.post enc Try.prog Try.f9 false true false false) := by
  refine row_ok (C := Try.checked) (eqs := []) (S := S) (ts := lawTs) (tb := 4) own started (by kernel_rfl) Try.func9 laidOut
    (ChangeSpec.witness6 (enc := enc) (C := Try.checked) false ⟨#[],#[.agg #[.int .i64 0,.int .i64 0,.string ByteArray.empty,.slice none 0 0]],[]⟩ 8 (by kernel_rfl) (by kernel_rfl) (by kernel_rfl) (by kernel_rfl))
    lawTsOk (by kernel_rfl) rfl Try.underlying4 rfl ?_ seatOk law
  intro ds hd
  match ds,hd with
  | [d1],_ => rfl
theorem over : Rows.useTellsRow.holds Try.pinned (OpenSpec.ofChange Rows.useTellsSpec) :=
  OpenClaim.holds_of_wide 9 Try.f9 rfl rfl rfl rfl rfl rfl rfl ⟨rfl,rfl,rfl,rfl,rfl⟩ rfl rfl rfl rfl rfl (by kernel_rfl) Try.func9 (by kernel_rfl)
    (of_decide_eq_true (by kernel_rfl)) (by unfold Func.isWrapper; first | (rw [if_pos (by decide +kernel)]; kernel_rfl) | (rw [if_neg (by decide +kernel)]; exact ⟨rfl,rfl⟩))
    (fun os started H enc _ => lifted os started H enc)
theorem proved : Rows.UseTellsSaid := over
#print axioms proved
end Go.Proofs.Ytlgekplmbmkcmaa.useTells
