/- Part 5 of what is proved for the law UseSteps: it returns true,whatever the input. No condition. -/
import Derived.Test.YtlgekplmbmkcmaaPUseStepsd
section
set_option linter.unusedSimpArgs false
set_option linter.unusedVariables false
namespace Go.Proofs.Ytlgekplmbmkcmaa
open Go.Fx
def dup (l : List T) (i : Nat) (s : List UInt8) : Bool := ((l.take i).drop 1).any fun u => decide (u.s = s)
mutual
noncomputable def may : T → Int → Bool → Bool
  | .mk k n s l,free,alt => if free < 0 then false else if head (.mk k n s l) free alt then mayL k l l 0 (if k = 2 then w (free + 1) else if k = 6 then w (free + n) else free) else false
noncomputable def mayL (k : Int) (all : List T) : List T → Nat → Int → Bool
  | [],_,_ => true
  | t :: r,i,free => may t free (decide (k = 5) && decide ((i : Int) > 0)) && !(decide (k = 5) && dup all i t.s) && mayL k all r (i + 1) free
end
theorem loop60b (t : T) (hl : t.l.length * 56 ≤ reachBytes) (i : Nat) (x : T) (hi : i < t.l.length) (hx : t.l[i]? = some x) (Q : Ex → Env → St → Prop) :
    ∀ (m : Nat) (j : Nat) (e : Env) (σ : St),m + j = max i j → 1 ≤ j →
      e 3 = .a (.ptr (3,0) 0 0) → e 7 = .a (.p (.i .i64 (i : Nat))) → e 8 = .a (.p (.i .i64 (j : Nat))) → σ.bs (3,0) = some (.var [.p (.i .i64 t.k),.p (.i .i64 t.n),.p (.s t.s),.p (.l (t.l.map enc))]) →
      ((decide (t.k = 5) && ((t.l.take i).drop j).any fun u => decide (u.s = x.s)) = false → ∀ e',e' 1 = e 1 → e' 3 = e 3 → e' 7 = e 7 → Q (.exit 2) e' σ) →
      ((decide (t.k = 5) && ((t.l.take i).drop j).any fun u => decide (u.s = x.s)) = true → ∀ e',e' 6 = .a (.p (.b false)) → Q .ret e' σ) → wp S false (.loop F60b1) e σ Q := by
  intro m
  induction m with
  | zero =>
    intro j e σ hm hj e3 e7 e8 h3 hQ hR
    have hlt : ¬ ((j : Int) < (i : Int)) := by omega
    rw [x_loop,F60b1]
    simp only [e3,e7,e8,h3,hlt,x_seq,x_reg,x_skip,x_exit,x_ret,x_block,x_if,wpC_t,wpC_f,wpI_cons,wpI_nil,wpX_some,evI_any,evI_rd,evI_ad,evI_g,evG_u,evG_b,evG_tt,evG_ff,evG_tf,evG_ft,evO,evR,ev_t,ev_c,ev_f,putD_some,putD_none,put_at,cellsT,ldCells,mkT,lenA,binPV,add_bs,add_clk,add_ls,put_bs,put_clk,put_ls,kill_bs,kill_clk,kill_ls,empty_clk,empty_bs,Env.init,seqQ_norm,seqQ_exit,seqQ_ret,blkQ_norm,blkQ_exit,blkQ_ret,loopQ_norm,loopQ_exit,loopQ_ret,retP_ret,retP_norm,retE_ret,retE_norm,retS_ret,retS_norm,wpO_some,frA_fn,klA_p,klA_nil,klA_own,resVs,resV,resT,Option.bind_some,Option.bind_none,Option.map_some,List.getD_cons_zero,List.getD_cons_succ,List.getD_nil,List.length_cons,List.length_nil,List.length_map,List.map_cons,List.map_nil,List.drop_zero,List.drop_succ_cons,List.take_succ_cons,List.take_zero,List.drop_nil,List.take_nil,Nat.reduceEqDiff,Nat.reduceAdd,Nat.reduceLeDiff,Nat.zero_add,Nat.add_zero,Prod.mk.injEq,and_true,true_and,and_false,false_and,and_self,if_true,if_false,ite_true,ite_false,Bool.not_true,Bool.not_false,Bool.not_eq_true',reduceCtorEq,decide_true,decide_false,frTs,frT,frL_p,spS,ofPT_a,ofPT_g,ofPT_t,flat_i,flat_b,flat_s,flat_l,flat_g,flatp_i,flatp_b,flatp_s,flatp_l,klTs,klT,Bool.and_false,Bool.false_and,frL,frA_p,frA_nil,frA_own,ownT,intT,Bool.or_true,Bool.true_or,Bool.false_eq_true,frL_p,klL_p,ownT_p,O.adds,List.all_cons,List.all_nil,List.any_cons,List.any_nil,ownA,evO.bslRows,List.replicate_succ,List.replicate_zero,List.set_cons_zero,rowsA,over,List.cons_append,List.nil_append,List.append_nil,fillA,Bool.and_self,Bool.and_true,Bool.true_and,Bool.or_self,Bool.or_false,Bool.false_or,Nat.reduceMul,Nat.one_mul,Nat.lt_add_one,klL,Nat.le_refl,ite_self,Nat.reduceBEq]
    refine hQ ?_ _ ?_ ?_ ?_
    · rw [List.drop_eq_nil_of_le (by simp; omega)]; simp
    all_goals simp only [x_seq,x_reg,x_skip,x_exit,x_ret,x_block,x_if,wpC_t,wpC_f,wpI_cons,wpI_nil,wpX_some,evI_any,evI_rd,evI_ad,evI_g,evG_u,evG_b,evG_tt,evG_ff,evG_tf,evG_ft,evO,evR,ev_t,ev_c,ev_f,putD_some,putD_none,put_at,cellsT,ldCells,mkT,lenA,binPV,add_bs,add_clk,add_ls,put_bs,put_clk,put_ls,kill_bs,kill_clk,kill_ls,empty_clk,empty_bs,Env.init,seqQ_norm,seqQ_exit,seqQ_ret,blkQ_norm,blkQ_exit,blkQ_ret,loopQ_norm,loopQ_exit,loopQ_ret,retP_ret,retP_norm,retE_ret,retE_norm,retS_ret,retS_norm,wpO_some,frA_fn,klA_p,klA_nil,klA_own,resVs,resV,resT,Option.bind_some,Option.bind_none,Option.map_some,List.getD_cons_zero,List.getD_cons_succ,List.getD_nil,List.length_cons,List.length_nil,List.length_map,List.map_cons,List.map_nil,List.drop_zero,List.drop_succ_cons,List.take_succ_cons,List.take_zero,List.drop_nil,List.take_nil,Nat.reduceEqDiff,Nat.reduceAdd,Nat.reduceLeDiff,Nat.zero_add,Nat.add_zero,Prod.mk.injEq,and_true,true_and,and_false,false_and,and_self,if_true,if_false,ite_true,ite_false,Bool.not_true,Bool.not_false,Bool.not_eq_true',reduceCtorEq,decide_true,decide_false,frTs,frT,frL_p,spS,ofPT_a,ofPT_g,ofPT_t,flat_i,flat_b,flat_s,flat_l,flat_g,flatp_i,flatp_b,flatp_s,flatp_l,klTs,klT,Bool.and_false,Bool.false_and,frL,frA_p,frA_nil,frA_own,ownT,intT,Bool.or_true,Bool.true_or,Bool.false_eq_true,frL_p,klL_p,ownT_p,O.adds,List.all_cons,List.all_nil,List.any_cons,List.any_nil,ownA,evO.bslRows,List.replicate_succ,List.replicate_zero,List.set_cons_zero,rowsA,over,List.cons_append,List.nil_append,List.append_nil,fillA,Bool.and_self,Bool.and_true,Bool.true_and,Bool.or_self,Bool.or_false,Bool.false_or,Nat.reduceMul,Nat.one_mul,Nat.lt_add_one,klL,Nat.le_refl,ite_self,Nat.reduceBEq]
  | succ m ih =>
    intro j e σ hm hj e3 e7 e8 h3 hQ hR
    have hlt : ((j : Int) < (i : Int)) := by omega
    have h0 : (0 : Int) ≤ (j : Int) := by omega
    have h0' : (0 : Int) ≤ (i : Int) := by omega
    have hlt2 : ((j : Int) < (t.l.length : Int)) := by omega
    have hlt3 : ((i : Int) < (t.l.length : Int)) := by omega
    obtain ⟨y,hy⟩ : ∃ y,t.l[j]? = some y := ⟨_,List.getElem?_eq_getElem (by omega)⟩
    have hx' : (t.l.map enc)[i]? = some (enc x) := by simp [hx]
    have hy' : (t.l.map enc)[j]? = some (enc y) := by simp [hy]
    have hlb : t.l.length < 9223372036854775807 := by simp only [reachBytes] at hl; omega
    have hdr : (t.l.take i).drop j = y :: (t.l.take i).drop (j + 1) := by
      rw [List.drop_eq_getElem_cons (by simp; omega)]
      congr 1
      rw [List.getElem_take]
      rw [List.getElem?_eq_getElem (by omega)] at hy
      exact Option.some.inj hy
    rw [hdr,List.any_cons] at hQ hR
    have hxe : ∀ z : T,enc z = [.i .i64 z.k,.i .i64 z.n,.s z.s,.l (z.l.map enc)] := enc_eq
    rw [x_loop,F60b1]
    simp only [e3,e7,e8,h3,hlt,x_seq,x_reg,x_skip,x_exit,x_ret,x_block,x_if,wpC_t,wpC_f,wpI_cons,wpI_nil,wpX_some,evI_any,evI_rd,evI_ad,evI_g,evG_u,evG_b,evG_tt,evG_ff,evG_tf,evG_ft,evO,evR,ev_t,ev_c,ev_f,putD_some,putD_none,put_at,cellsT,ldCells,mkT,lenA,binPV,add_bs,add_clk,add_ls,put_bs,put_clk,put_ls,kill_bs,kill_clk,kill_ls,empty_clk,empty_bs,Env.init,seqQ_norm,seqQ_exit,seqQ_ret,blkQ_norm,blkQ_exit,blkQ_ret,loopQ_norm,loopQ_exit,loopQ_ret,retP_ret,retP_norm,retE_ret,retE_norm,retS_ret,retS_norm,wpO_some,frA_fn,klA_p,klA_nil,klA_own,resVs,resV,resT,Option.bind_some,Option.bind_none,Option.map_some,List.getD_cons_zero,List.getD_cons_succ,List.getD_nil,List.length_cons,List.length_nil,List.length_map,List.map_cons,List.map_nil,List.drop_zero,List.drop_succ_cons,List.take_succ_cons,List.take_zero,List.drop_nil,List.take_nil,Nat.reduceEqDiff,Nat.reduceAdd,Nat.reduceLeDiff,Nat.zero_add,Nat.add_zero,Prod.mk.injEq,and_true,true_and,and_false,false_and,and_self,if_true,if_false,ite_true,ite_false,Bool.not_true,Bool.not_false,Bool.not_eq_true',reduceCtorEq,decide_true,decide_false,frTs,frT,frL_p,spS,ofPT_a,ofPT_g,ofPT_t,flat_i,flat_b,flat_s,flat_l,flat_g,flatp_i,flatp_b,flatp_s,flatp_l,klTs,klT,Bool.and_false,Bool.false_and,frL,frA_p,frA_nil,frA_own,ownT,intT,Bool.or_true,Bool.true_or,Bool.false_eq_true,frL_p,klL_p,ownT_p,O.adds,List.all_cons,List.all_nil,List.any_cons,List.any_nil,ownA,evO.bslRows,List.replicate_succ,List.replicate_zero,List.set_cons_zero,rowsA,over,List.cons_append,List.nil_append,List.append_nil,fillA,Bool.and_self,Bool.and_true,Bool.true_and,Bool.or_self,Bool.or_false,Bool.false_or,Nat.reduceMul,Nat.one_mul,Nat.lt_add_one,klL,Nat.le_refl,ite_self,Nat.reduceBEq]
    refine wpC_split (fun h1 => ?_) (fun h1 => ?_)
    · simp only [e3,e7,e8,h3,h1,hlt2,hlt3,h0,h0',Int.toNat_natCast,hx',hy',enc_len,enc_all,hxe,x_seq,x_reg,x_skip,x_exit,x_ret,x_block,x_if,wpC_t,wpC_f,wpI_cons,wpI_nil,wpX_some,evI_any,evI_rd,evI_ad,evI_g,evG_u,evG_b,evG_tt,evG_ff,evG_tf,evG_ft,evO,evR,ev_t,ev_c,ev_f,putD_some,putD_none,put_at,cellsT,ldCells,mkT,lenA,binPV,add_bs,add_clk,add_ls,put_bs,put_clk,put_ls,kill_bs,kill_clk,kill_ls,empty_clk,empty_bs,Env.init,seqQ_norm,seqQ_exit,seqQ_ret,blkQ_norm,blkQ_exit,blkQ_ret,loopQ_norm,loopQ_exit,loopQ_ret,retP_ret,retP_norm,retE_ret,retE_norm,retS_ret,retS_norm,wpO_some,frA_fn,klA_p,klA_nil,klA_own,resVs,resV,resT,Option.bind_some,Option.bind_none,Option.map_some,List.getD_cons_zero,List.getD_cons_succ,List.getD_nil,List.length_cons,List.length_nil,List.length_map,List.map_cons,List.map_nil,List.drop_zero,List.drop_succ_cons,List.take_succ_cons,List.take_zero,List.drop_nil,List.take_nil,Nat.reduceEqDiff,Nat.reduceAdd,Nat.reduceLeDiff,Nat.zero_add,Nat.add_zero,Prod.mk.injEq,and_true,true_and,and_false,false_and,and_self,if_true,if_false,ite_true,ite_false,Bool.not_true,Bool.not_false,Bool.not_eq_true',reduceCtorEq,decide_true,decide_false,frTs,frT,frL_p,spS,ofPT_a,ofPT_g,ofPT_t,flat_i,flat_b,flat_s,flat_l,flat_g,flatp_i,flatp_b,flatp_s,flatp_l,klTs,klT,Bool.and_false,Bool.false_and,frL,frA_p,frA_nil,frA_own,ownT,intT,Bool.or_true,Bool.true_or,Bool.false_eq_true,frL_p,klL_p,ownT_p,O.adds,List.all_cons,List.all_nil,List.any_cons,List.any_nil,ownA,evO.bslRows,List.replicate_succ,List.replicate_zero,List.set_cons_zero,rowsA,over,List.cons_append,List.nil_append,List.append_nil,fillA,Bool.and_self,Bool.and_true,Bool.true_and,Bool.or_self,Bool.or_false,Bool.false_or,Nat.reduceMul,Nat.one_mul,Nat.lt_add_one,klL,Nat.le_refl,ite_self,Nat.reduceBEq]
      simp only [h1,Bool.true_and] at hQ hR ih
      refine wpC_split (fun h2 => ?_) (fun h2 => ?_)
      · simp only [h2,x_seq,x_reg,x_skip,x_exit,x_ret,x_block,x_if,wpC_t,wpC_f,wpI_cons,wpI_nil,wpX_some,evI_any,evI_rd,evI_ad,evI_g,evG_u,evG_b,evG_tt,evG_ff,evG_tf,evG_ft,evO,evR,ev_t,ev_c,ev_f,putD_some,putD_none,put_at,cellsT,ldCells,mkT,lenA,binPV,add_bs,add_clk,add_ls,put_bs,put_clk,put_ls,kill_bs,kill_clk,kill_ls,empty_clk,empty_bs,Env.init,seqQ_norm,seqQ_exit,seqQ_ret,blkQ_norm,blkQ_exit,blkQ_ret,loopQ_norm,loopQ_exit,loopQ_ret,retP_ret,retP_norm,retE_ret,retE_norm,retS_ret,retS_norm,wpO_some,frA_fn,klA_p,klA_nil,klA_own,resVs,resV,resT,Option.bind_some,Option.bind_none,Option.map_some,List.getD_cons_zero,List.getD_cons_succ,List.getD_nil,List.length_cons,List.length_nil,List.length_map,List.map_cons,List.map_nil,List.drop_zero,List.drop_succ_cons,List.take_succ_cons,List.take_zero,List.drop_nil,List.take_nil,Nat.reduceEqDiff,Nat.reduceAdd,Nat.reduceLeDiff,Nat.zero_add,Nat.add_zero,Prod.mk.injEq,and_true,true_and,and_false,false_and,and_self,if_true,if_false,ite_true,ite_false,Bool.not_true,Bool.not_false,Bool.not_eq_true',reduceCtorEq,decide_true,decide_false,frTs,frT,frL_p,spS,ofPT_a,ofPT_g,ofPT_t,flat_i,flat_b,flat_s,flat_l,flat_g,flatp_i,flatp_b,flatp_s,flatp_l,klTs,klT,Bool.and_false,Bool.false_and,frL,frA_p,frA_nil,frA_own,ownT,intT,Bool.or_true,Bool.true_or,Bool.false_eq_true,frL_p,klL_p,ownT_p,O.adds,List.all_cons,List.all_nil,List.any_cons,List.any_nil,ownA,evO.bslRows,List.replicate_succ,List.replicate_zero,List.set_cons_zero,rowsA,over,List.cons_append,List.nil_append,List.append_nil,fillA,Bool.and_self,Bool.and_true,Bool.true_and,Bool.or_self,Bool.or_false,Bool.false_or,Nat.reduceMul,Nat.one_mul,Nat.lt_add_one,klL,Nat.le_refl,ite_self,Nat.reduceBEq]
        exact hR (by simp only [h2,Bool.true_or]) _ (by simp only [x_seq,x_reg,x_skip,x_exit,x_ret,x_block,x_if,wpC_t,wpC_f,wpI_cons,wpI_nil,wpX_some,evI_any,evI_rd,evI_ad,evI_g,evG_u,evG_b,evG_tt,evG_ff,evG_tf,evG_ft,evO,evR,ev_t,ev_c,ev_f,putD_some,putD_none,put_at,cellsT,ldCells,mkT,lenA,binPV,add_bs,add_clk,add_ls,put_bs,put_clk,put_ls,kill_bs,kill_clk,kill_ls,empty_clk,empty_bs,Env.init,seqQ_norm,seqQ_exit,seqQ_ret,blkQ_norm,blkQ_exit,blkQ_ret,loopQ_norm,loopQ_exit,loopQ_ret,retP_ret,retP_norm,retE_ret,retE_norm,retS_ret,retS_norm,wpO_some,frA_fn,klA_p,klA_nil,klA_own,resVs,resV,resT,Option.bind_some,Option.bind_none,Option.map_some,List.getD_cons_zero,List.getD_cons_succ,List.getD_nil,List.length_cons,List.length_nil,List.length_map,List.map_cons,List.map_nil,List.drop_zero,List.drop_succ_cons,List.take_succ_cons,List.take_zero,List.drop_nil,List.take_nil,Nat.reduceEqDiff,Nat.reduceAdd,Nat.reduceLeDiff,Nat.zero_add,Nat.add_zero,Prod.mk.injEq,and_true,true_and,and_false,false_and,and_self,if_true,if_false,ite_true,ite_false,Bool.not_true,Bool.not_false,Bool.not_eq_true',reduceCtorEq,decide_true,decide_false,frTs,frT,frL_p,spS,ofPT_a,ofPT_g,ofPT_t,flat_i,flat_b,flat_s,flat_l,flat_g,flatp_i,flatp_b,flatp_s,flatp_l,klTs,klT,Bool.and_false,Bool.false_and,frL,frA_p,frA_nil,frA_own,ownT,intT,Bool.or_true,Bool.true_or,Bool.false_eq_true,frL_p,klL_p,ownT_p,O.adds,List.all_cons,List.all_nil,List.any_cons,List.any_nil,ownA,evO.bslRows,List.replicate_succ,List.replicate_zero,List.set_cons_zero,rowsA,over,List.cons_append,List.nil_append,List.append_nil,fillA,Bool.and_self,Bool.and_true,Bool.true_and,Bool.or_self,Bool.or_false,Bool.false_or,Nat.reduceMul,Nat.one_mul,Nat.lt_add_one,klL,Nat.le_refl,ite_self,Nat.reduceBEq])
      · simp only [e3,e7,e8,h3,h2,x_seq,x_reg,x_skip,x_exit,x_ret,x_block,x_if,wpC_t,wpC_f,wpI_cons,wpI_nil,wpX_some,evI_any,evI_rd,evI_ad,evI_g,evG_u,evG_b,evG_tt,evG_ff,evG_tf,evG_ft,evO,evR,ev_t,ev_c,ev_f,putD_some,putD_none,put_at,cellsT,ldCells,mkT,lenA,binPV,add_bs,add_clk,add_ls,put_bs,put_clk,put_ls,kill_bs,kill_clk,kill_ls,empty_clk,empty_bs,Env.init,seqQ_norm,seqQ_exit,seqQ_ret,blkQ_norm,blkQ_exit,blkQ_ret,loopQ_norm,loopQ_exit,loopQ_ret,retP_ret,retP_norm,retE_ret,retE_norm,retS_ret,retS_norm,wpO_some,frA_fn,klA_p,klA_nil,klA_own,resVs,resV,resT,Option.bind_some,Option.bind_none,Option.map_some,List.getD_cons_zero,List.getD_cons_succ,List.getD_nil,List.length_cons,List.length_nil,List.length_map,List.map_cons,List.map_nil,List.drop_zero,List.drop_succ_cons,List.take_succ_cons,List.take_zero,List.drop_nil,List.take_nil,Nat.reduceEqDiff,Nat.reduceAdd,Nat.reduceLeDiff,Nat.zero_add,Nat.add_zero,Prod.mk.injEq,and_true,true_and,and_false,false_and,and_self,if_true,if_false,ite_true,ite_false,Bool.not_true,Bool.not_false,Bool.not_eq_true',reduceCtorEq,decide_true,decide_false,frTs,frT,frL_p,spS,ofPT_a,ofPT_g,ofPT_t,flat_i,flat_b,flat_s,flat_l,flat_g,flatp_i,flatp_b,flatp_s,flatp_l,klTs,klT,Bool.and_false,Bool.false_and,frL,frA_p,frA_nil,frA_own,ownT,intT,Bool.or_true,Bool.true_or,Bool.false_eq_true,frL_p,klL_p,ownT_p,O.adds,List.all_cons,List.all_nil,List.any_cons,List.any_nil,ownA,evO.bslRows,List.replicate_succ,List.replicate_zero,List.set_cons_zero,rowsA,over,List.cons_append,List.nil_append,List.append_nil,fillA,Bool.and_self,Bool.and_true,Bool.true_and,Bool.or_self,Bool.or_false,Bool.false_or,Nat.reduceMul,Nat.one_mul,Nat.lt_add_one,klL,Nat.le_refl,ite_self,Nat.reduceBEq]
        refine ih (j + 1) _ σ (by omega) (by omega) ?_ ?_ ?_ h3 ?_ ?_
        all_goals try simp only [e3,e7,e8,x_seq,x_reg,x_skip,x_exit,x_ret,x_block,x_if,wpC_t,wpC_f,wpI_cons,wpI_nil,wpX_some,evI_any,evI_rd,evI_ad,evI_g,evG_u,evG_b,evG_tt,evG_ff,evG_tf,evG_ft,evO,evR,ev_t,ev_c,ev_f,putD_some,putD_none,put_at,cellsT,ldCells,mkT,lenA,binPV,add_bs,add_clk,add_ls,put_bs,put_clk,put_ls,kill_bs,kill_clk,kill_ls,empty_clk,empty_bs,Env.init,seqQ_norm,seqQ_exit,seqQ_ret,blkQ_norm,blkQ_exit,blkQ_ret,loopQ_norm,loopQ_exit,loopQ_ret,retP_ret,retP_norm,retE_ret,retE_norm,retS_ret,retS_norm,wpO_some,frA_fn,klA_p,klA_nil,klA_own,resVs,resV,resT,Option.bind_some,Option.bind_none,Option.map_some,List.getD_cons_zero,List.getD_cons_succ,List.getD_nil,List.length_cons,List.length_nil,List.length_map,List.map_cons,List.map_nil,List.drop_zero,List.drop_succ_cons,List.take_succ_cons,List.take_zero,List.drop_nil,List.take_nil,Nat.reduceEqDiff,Nat.reduceAdd,Nat.reduceLeDiff,Nat.zero_add,Nat.add_zero,Prod.mk.injEq,and_true,true_and,and_false,false_and,and_self,if_true,if_false,ite_true,ite_false,Bool.not_true,Bool.not_false,Bool.not_eq_true',reduceCtorEq,decide_true,decide_false,frTs,frT,frL_p,spS,ofPT_a,ofPT_g,ofPT_t,flat_i,flat_b,flat_s,flat_l,flat_g,flatp_i,flatp_b,flatp_s,flatp_l,klTs,klT,Bool.and_false,Bool.false_and,frL,frA_p,frA_nil,frA_own,ownT,intT,Bool.or_true,Bool.true_or,Bool.false_eq_true,frL_p,klL_p,ownT_p,O.adds,List.all_cons,List.all_nil,List.any_cons,List.any_nil,ownA,evO.bslRows,List.replicate_succ,List.replicate_zero,List.set_cons_zero,rowsA,over,List.cons_append,List.nil_append,List.append_nil,fillA,Bool.and_self,Bool.and_true,Bool.true_and,Bool.or_self,Bool.or_false,Bool.false_or,Nat.reduceMul,Nat.one_mul,Nat.lt_add_one,klL,Nat.le_refl,ite_self,Nat.reduceBEq]
        · rw [wrap_succ j (by omega)]
        · intro hf e' f1 f3 f7
          exact hQ (by rw [h2,Bool.false_or,hf]) e' f1 (f3.trans e3.symm) (f7.trans e7.symm)
        · intro hf; exact hR (by rw [h2,Bool.false_or,hf])
    · simp only [h1,x_seq,x_reg,x_skip,x_exit,x_ret,x_block,x_if,wpC_t,wpC_f,wpI_cons,wpI_nil,wpX_some,evI_any,evI_rd,evI_ad,evI_g,evG_u,evG_b,evG_tt,evG_ff,evG_tf,evG_ft,evO,evR,ev_t,ev_c,ev_f,putD_some,putD_none,put_at,cellsT,ldCells,mkT,lenA,binPV,add_bs,add_clk,add_ls,put_bs,put_clk,put_ls,kill_bs,kill_clk,kill_ls,empty_clk,empty_bs,Env.init,seqQ_norm,seqQ_exit,seqQ_ret,blkQ_norm,blkQ_exit,blkQ_ret,loopQ_norm,loopQ_exit,loopQ_ret,retP_ret,retP_norm,retE_ret,retE_norm,retS_ret,retS_norm,wpO_some,frA_fn,klA_p,klA_nil,klA_own,resVs,resV,resT,Option.bind_some,Option.bind_none,Option.map_some,List.getD_cons_zero,List.getD_cons_succ,List.getD_nil,List.length_cons,List.length_nil,List.length_map,List.map_cons,List.map_nil,List.drop_zero,List.drop_succ_cons,List.take_succ_cons,List.take_zero,List.drop_nil,List.take_nil,Nat.reduceEqDiff,Nat.reduceAdd,Nat.reduceLeDiff,Nat.zero_add,Nat.add_zero,Prod.mk.injEq,and_true,true_and,and_false,false_and,and_self,if_true,if_false,ite_true,ite_false,Bool.not_true,Bool.not_false,Bool.not_eq_true',reduceCtorEq,decide_true,decide_false,frTs,frT,frL_p,spS,ofPT_a,ofPT_g,ofPT_t,flat_i,flat_b,flat_s,flat_l,flat_g,flatp_i,flatp_b,flatp_s,flatp_l,klTs,klT,Bool.and_false,Bool.false_and,frL,frA_p,frA_nil,frA_own,ownT,intT,Bool.or_true,Bool.true_or,Bool.false_eq_true,frL_p,klL_p,ownT_p,O.adds,List.all_cons,List.all_nil,List.any_cons,List.any_nil,ownA,evO.bslRows,List.replicate_succ,List.replicate_zero,List.set_cons_zero,rowsA,over,List.cons_append,List.nil_append,List.append_nil,fillA,Bool.and_self,Bool.and_true,Bool.true_and,Bool.or_self,Bool.or_false,Bool.false_or,Nat.reduceMul,Nat.one_mul,Nat.lt_add_one,klL,Nat.le_refl,ite_self,Nat.reduceBEq]
      refine hQ (by simp only [h1,Bool.false_and]) _ ?_ ?_ ?_
      all_goals simp only [x_seq,x_reg,x_skip,x_exit,x_ret,x_block,x_if,wpC_t,wpC_f,wpI_cons,wpI_nil,wpX_some,evI_any,evI_rd,evI_ad,evI_g,evG_u,evG_b,evG_tt,evG_ff,evG_tf,evG_ft,evO,evR,ev_t,ev_c,ev_f,putD_some,putD_none,put_at,cellsT,ldCells,mkT,lenA,binPV,add_bs,add_clk,add_ls,put_bs,put_clk,put_ls,kill_bs,kill_clk,kill_ls,empty_clk,empty_bs,Env.init,seqQ_norm,seqQ_exit,seqQ_ret,blkQ_norm,blkQ_exit,blkQ_ret,loopQ_norm,loopQ_exit,loopQ_ret,retP_ret,retP_norm,retE_ret,retE_norm,retS_ret,retS_norm,wpO_some,frA_fn,klA_p,klA_nil,klA_own,resVs,resV,resT,Option.bind_some,Option.bind_none,Option.map_some,List.getD_cons_zero,List.getD_cons_succ,List.getD_nil,List.length_cons,List.length_nil,List.length_map,List.map_cons,List.map_nil,List.drop_zero,List.drop_succ_cons,List.take_succ_cons,List.take_zero,List.drop_nil,List.take_nil,Nat.reduceEqDiff,Nat.reduceAdd,Nat.reduceLeDiff,Nat.zero_add,Nat.add_zero,Prod.mk.injEq,and_true,true_and,and_false,false_and,and_self,if_true,if_false,ite_true,ite_false,Bool.not_true,Bool.not_false,Bool.not_eq_true',reduceCtorEq,decide_true,decide_false,frTs,frT,frL_p,spS,ofPT_a,ofPT_g,ofPT_t,flat_i,flat_b,flat_s,flat_l,flat_g,flatp_i,flatp_b,flatp_s,flatp_l,klTs,klT,Bool.and_false,Bool.false_and,frL,frA_p,frA_nil,frA_own,ownT,intT,Bool.or_true,Bool.true_or,Bool.false_eq_true,frL_p,klL_p,ownT_p,O.adds,List.all_cons,List.all_nil,List.any_cons,List.any_nil,ownA,evO.bslRows,List.replicate_succ,List.replicate_zero,List.set_cons_zero,rowsA,over,List.cons_append,List.nil_append,List.append_nil,fillA,Bool.and_self,Bool.and_true,Bool.true_and,Bool.or_self,Bool.or_false,Bool.false_or,Nat.reduceMul,Nat.one_mul,Nat.lt_add_one,klL,Nat.le_refl,ite_self,Nat.reduceBEq]
theorem loop60 (t : T) (free : Int) (hl : t.l.length * 56 ≤ reachBytes) (Q : Ex → Env → St → Prop) :
    ∀ (rem : List T) (i : Nat) (e : Env) (σ : St),t.l.drop i = rem → i + rem.length = t.l.length → (∀ u,u ∈ rem → ∀ f a,eP S 60 [.g (enc u),.a (.i .i64 f),.a (.b a)] = some (.a (.b (may u f a)))) →
      e 1 = .a (.p (.i .i64 free)) → e 3 = .a (.ptr (3,0) 0 0) → e 7 = .a (.p (.i .i64 (i : Nat))) → σ.bs (3,0) = some (.var [.p (.i .i64 t.k),.p (.i .i64 t.n),.p (.s t.s),.p (.l (t.l.map enc))]) →
      (mayL t.k t.l rem i free = true → ∀ e',Q (.exit 0) e' σ) → (mayL t.k t.l rem i free = false → ∀ e',e' 6 = .a (.p (.b false)) → Q .ret e' σ) → wp S false (.loop F60b0) e σ Q := by
  intro rem
  induction rem with
  | nil =>
    intro i e σ hd hi hu e1 e3 e7 h3 hQ hR
    have hlt : ¬ ((i : Int) < (t.l.length : Int)) := by simp at hi; omega
    rw [x_loop,F60b0]
    simp only [e1,e3,e7,h3,hlt,x_seq,x_reg,x_skip,x_exit,x_ret,x_block,x_if,wpC_t,wpC_f,wpI_cons,wpI_nil,wpX_some,evI_any,evI_rd,evI_ad,evI_g,evG_u,evG_b,evG_tt,evG_ff,evG_tf,evG_ft,evO,evR,ev_t,ev_c,ev_f,putD_some,putD_none,put_at,cellsT,ldCells,mkT,lenA,binPV,add_bs,add_clk,add_ls,put_bs,put_clk,put_ls,kill_bs,kill_clk,kill_ls,empty_clk,empty_bs,Env.init,seqQ_norm,seqQ_exit,seqQ_ret,blkQ_norm,blkQ_exit,blkQ_ret,loopQ_norm,loopQ_exit,loopQ_ret,retP_ret,retP_norm,retE_ret,retE_norm,retS_ret,retS_norm,wpO_some,frA_fn,klA_p,klA_nil,klA_own,resVs,resV,resT,Option.bind_some,Option.bind_none,Option.map_some,List.getD_cons_zero,List.getD_cons_succ,List.getD_nil,List.length_cons,List.length_nil,List.length_map,List.map_cons,List.map_nil,List.drop_zero,List.drop_succ_cons,List.take_succ_cons,List.take_zero,List.drop_nil,List.take_nil,Nat.reduceEqDiff,Nat.reduceAdd,Nat.reduceLeDiff,Nat.zero_add,Nat.add_zero,Prod.mk.injEq,and_true,true_and,and_false,false_and,and_self,if_true,if_false,ite_true,ite_false,Bool.not_true,Bool.not_false,Bool.not_eq_true',reduceCtorEq,decide_true,decide_false,frTs,frT,frL_p,spS,ofPT_a,ofPT_g,ofPT_t,flat_i,flat_b,flat_s,flat_l,flat_g,flatp_i,flatp_b,flatp_s,flatp_l,klTs,klT,Bool.and_false,Bool.false_and,frL,frA_p,frA_nil,frA_own,ownT,intT,Bool.or_true,Bool.true_or,Bool.false_eq_true,frL_p,klL_p,ownT_p,O.adds,List.all_cons,List.all_nil,List.any_cons,List.any_nil,ownA,evO.bslRows,List.replicate_succ,List.replicate_zero,List.set_cons_zero,rowsA,over,List.cons_append,List.nil_append,List.append_nil,fillA,Bool.and_self,Bool.and_true,Bool.true_and,Bool.or_self,Bool.or_false,Bool.false_or,Nat.reduceMul,Nat.one_mul,Nat.lt_add_one,klL,Nat.le_refl,ite_self,Nat.reduceBEq]
    exact hQ rfl _
  | cons x rem ih =>
    intro i e σ hd hi hu e1 e3 e7 h3 hQ hR
    simp only [List.length_cons] at hi
    have hlt : ((i : Int) < (t.l.length : Int)) := by omega
    have h0 : (0 : Int) ≤ (i : Int) := by omega
    have hx : t.l[i]? = some x := by rw [← List.head?_drop,hd]; rfl
    have hx' : (t.l.map enc)[i]? = some (enc x) := by simp [hx]
    have hux := hu x (by simp)
    have hlb : t.l.length < 9223372036854775807 := by simp only [reachBytes] at hl; omega
    have e0 : mayL t.k t.l (x :: rem) i free = (may x free (decide (t.k = 5) && decide ((i : Int) > 0)) && !(decide (t.k = 5) && dup t.l i x.s) && mayL t.k t.l rem (i + 1) free) := rfl
    rw [e0] at hQ hR
    rw [x_loop,F60b0]
    simp only [e1,e3,e7,h3,hlt,h0,Int.toNat_natCast,hx',enc_len,enc_all,enc_take,enc_takep,hux,x_seq,x_reg,x_skip,x_exit,x_ret,x_block,x_if,wpC_t,wpC_f,wpI_cons,wpI_nil,wpX_some,evI_any,evI_rd,evI_ad,evI_g,evG_u,evG_b,evG_tt,evG_ff,evG_tf,evG_ft,evO,evR,ev_t,ev_c,ev_f,putD_some,putD_none,put_at,cellsT,ldCells,mkT,lenA,binPV,add_bs,add_clk,add_ls,put_bs,put_clk,put_ls,kill_bs,kill_clk,kill_ls,empty_clk,empty_bs,Env.init,seqQ_norm,seqQ_exit,seqQ_ret,blkQ_norm,blkQ_exit,blkQ_ret,loopQ_norm,loopQ_exit,loopQ_ret,retP_ret,retP_norm,retE_ret,retE_norm,retS_ret,retS_norm,wpO_some,frA_fn,klA_p,klA_nil,klA_own,resVs,resV,resT,Option.bind_some,Option.bind_none,Option.map_some,List.getD_cons_zero,List.getD_cons_succ,List.getD_nil,List.length_cons,List.length_nil,List.length_map,List.map_cons,List.map_nil,List.drop_zero,List.drop_succ_cons,List.take_succ_cons,List.take_zero,List.drop_nil,List.take_nil,Nat.reduceEqDiff,Nat.reduceAdd,Nat.reduceLeDiff,Nat.zero_add,Nat.add_zero,Prod.mk.injEq,and_true,true_and,and_false,false_and,and_self,if_true,if_false,ite_true,ite_false,Bool.not_true,Bool.not_false,Bool.not_eq_true',reduceCtorEq,decide_true,decide_false,frTs,frT,frL_p,spS,ofPT_a,ofPT_g,ofPT_t,flat_i,flat_b,flat_s,flat_l,flat_g,flatp_i,flatp_b,flatp_s,flatp_l,klTs,klT,Bool.and_false,Bool.false_and,frL,frA_p,frA_nil,frA_own,ownT,intT,Bool.or_true,Bool.true_or,Bool.false_eq_true,frL_p,klL_p,ownT_p,O.adds,List.all_cons,List.all_nil,List.any_cons,List.any_nil,ownA,evO.bslRows,List.replicate_succ,List.replicate_zero,List.set_cons_zero,rowsA,over,List.cons_append,List.nil_append,List.append_nil,fillA,Bool.and_self,Bool.and_true,Bool.true_and,Bool.or_self,Bool.or_false,Bool.false_or,Nat.reduceMul,Nat.one_mul,Nat.lt_add_one,klL,Nat.le_refl,ite_self,Nat.reduceBEq]
    have fin : ∀ (b : Bool),(decide (t.k = 5) && decide ((i : Int) > 0)) = b → ∀ (e : Env),e 1 = .a (.p (.i .i64 free)) → e 3 = .a (.ptr (3,0) 0 0) → e 7 = .a (.p (.i .i64 (i : Nat))) →
        (may x free b = false → ∀ e',e' 6 = .a (.p (.b false)) → Q .ret e' σ) → True := fun _ _ _ _ _ _ _ => trivial
    have step : ∀ (e : Env),may x free (decide (t.k = 5) && decide ((i : Int) > 0)) = true → e 1 = .a (.p (.i .i64 free)) → e 3 = .a (.ptr (3,0) 0 0) → e 7 = .a (.p (.i .i64 (i : Nat))) → e 8 = .a (.p (.i .i64 1)) →
        wp S false (.loop F60b1) e σ (blkQ 2 (blkQ 1 (seqQ S false (.reg [⟨some 35,none,.mv (.t 7),.any⟩,⟨some 36,none,.bin .add (.t 35) (.c (.a (.p (.i .i64 1)))),.any⟩,⟨some 7,none,.mv (.t 36),.any⟩]) (loopQ S false F60b0 Q)))) := by
      intro e hm e1 e3 e7 e8
      refine loop60b t hl i x (by omega) hx _ (max i 1 - 1) 1 e σ (by omega) (by omega) e3 e7 e8 h3 (fun hf e' f1 f3 f7 => ?_) (fun hf e' he' => ?_)
      · rw [e1] at f1; rw [e3] at f3; rw [e7] at f7
        simp only [f1,f3,f7,x_seq,x_reg,x_skip,x_exit,x_ret,x_block,x_if,wpC_t,wpC_f,wpI_cons,wpI_nil,wpX_some,evI_any,evI_rd,evI_ad,evI_g,evG_u,evG_b,evG_tt,evG_ff,evG_tf,evG_ft,evO,evR,ev_t,ev_c,ev_f,putD_some,putD_none,put_at,cellsT,ldCells,mkT,lenA,binPV,add_bs,add_clk,add_ls,put_bs,put_clk,put_ls,kill_bs,kill_clk,kill_ls,empty_clk,empty_bs,Env.init,seqQ_norm,seqQ_exit,seqQ_ret,blkQ_norm,blkQ_exit,blkQ_ret,loopQ_norm,loopQ_exit,loopQ_ret,retP_ret,retP_norm,retE_ret,retE_norm,retS_ret,retS_norm,wpO_some,frA_fn,klA_p,klA_nil,klA_own,resVs,resV,resT,Option.bind_some,Option.bind_none,Option.map_some,List.getD_cons_zero,List.getD_cons_succ,List.getD_nil,List.length_cons,List.length_nil,List.length_map,List.map_cons,List.map_nil,List.drop_zero,List.drop_succ_cons,List.take_succ_cons,List.take_zero,List.drop_nil,List.take_nil,Nat.reduceEqDiff,Nat.reduceAdd,Nat.reduceLeDiff,Nat.zero_add,Nat.add_zero,Prod.mk.injEq,and_true,true_and,and_false,false_and,and_self,if_true,if_false,ite_true,ite_false,Bool.not_true,Bool.not_false,Bool.not_eq_true',reduceCtorEq,decide_true,decide_false,frTs,frT,frL_p,spS,ofPT_a,ofPT_g,ofPT_t,flat_i,flat_b,flat_s,flat_l,flat_g,flatp_i,flatp_b,flatp_s,flatp_l,klTs,klT,Bool.and_false,Bool.false_and,frL,frA_p,frA_nil,frA_own,ownT,intT,Bool.or_true,Bool.true_or,Bool.false_eq_true,frL_p,klL_p,ownT_p,O.adds,List.all_cons,List.all_nil,List.any_cons,List.any_nil,ownA,evO.bslRows,List.replicate_succ,List.replicate_zero,List.set_cons_zero,rowsA,over,List.cons_append,List.nil_append,List.append_nil,fillA,Bool.and_self,Bool.and_true,Bool.true_and,Bool.or_self,Bool.or_false,Bool.false_or,Nat.reduceMul,Nat.one_mul,Nat.lt_add_one,klL,Nat.le_refl,ite_self,Nat.reduceBEq]
        refine ih (i + 1) _ σ (by rw [← List.drop_drop,hd]; rfl) (by omega) (fun u hu' => hu u (by simp [hu'])) ?_ ?_ ?_ h3 ?_ ?_
        all_goals try simp only [f1,f3,f7,x_seq,x_reg,x_skip,x_exit,x_ret,x_block,x_if,wpC_t,wpC_f,wpI_cons,wpI_nil,wpX_some,evI_any,evI_rd,evI_ad,evI_g,evG_u,evG_b,evG_tt,evG_ff,evG_tf,evG_ft,evO,evR,ev_t,ev_c,ev_f,putD_some,putD_none,put_at,cellsT,ldCells,mkT,lenA,binPV,add_bs,add_clk,add_ls,put_bs,put_clk,put_ls,kill_bs,kill_clk,kill_ls,empty_clk,empty_bs,Env.init,seqQ_norm,seqQ_exit,seqQ_ret,blkQ_norm,blkQ_exit,blkQ_ret,loopQ_norm,loopQ_exit,loopQ_ret,retP_ret,retP_norm,retE_ret,retE_norm,retS_ret,retS_norm,wpO_some,frA_fn,klA_p,klA_nil,klA_own,resVs,resV,resT,Option.bind_some,Option.bind_none,Option.map_some,List.getD_cons_zero,List.getD_cons_succ,List.getD_nil,List.length_cons,List.length_nil,List.length_map,List.map_cons,List.map_nil,List.drop_zero,List.drop_succ_cons,List.take_succ_cons,List.take_zero,List.drop_nil,List.take_nil,Nat.reduceEqDiff,Nat.reduceAdd,Nat.reduceLeDiff,Nat.zero_add,Nat.add_zero,Prod.mk.injEq,and_true,true_and,and_false,false_and,and_self,if_true,if_false,ite_true,ite_false,Bool.not_true,Bool.not_false,Bool.not_eq_true',reduceCtorEq,decide_true,decide_false,frTs,frT,frL_p,spS,ofPT_a,ofPT_g,ofPT_t,flat_i,flat_b,flat_s,flat_l,flat_g,flatp_i,flatp_b,flatp_s,flatp_l,klTs,klT,Bool.and_false,Bool.false_and,frL,frA_p,frA_nil,frA_own,ownT,intT,Bool.or_true,Bool.true_or,Bool.false_eq_true,frL_p,klL_p,ownT_p,O.adds,List.all_cons,List.all_nil,List.any_cons,List.any_nil,ownA,evO.bslRows,List.replicate_succ,List.replicate_zero,List.set_cons_zero,rowsA,over,List.cons_append,List.nil_append,List.append_nil,fillA,Bool.and_self,Bool.and_true,Bool.true_and,Bool.or_self,Bool.or_false,Bool.false_or,Nat.reduceMul,Nat.one_mul,Nat.lt_add_one,klL,Nat.le_refl,ite_self,Nat.reduceBEq]
        · rw [wrap_succ i (by omega)]
        · intro hm'; exact hQ (by rw [hm,dup,hf,hm']; rfl)
        · intro hm'; exact hR (by rw [hm,dup,hf,hm']; rfl)
      · simp only [he',x_seq,x_reg,x_skip,x_exit,x_ret,x_block,x_if,wpC_t,wpC_f,wpI_cons,wpI_nil,wpX_some,evI_any,evI_rd,evI_ad,evI_g,evG_u,evG_b,evG_tt,evG_ff,evG_tf,evG_ft,evO,evR,ev_t,ev_c,ev_f,putD_some,putD_none,put_at,cellsT,ldCells,mkT,lenA,binPV,add_bs,add_clk,add_ls,put_bs,put_clk,put_ls,kill_bs,kill_clk,kill_ls,empty_clk,empty_bs,Env.init,seqQ_norm,seqQ_exit,seqQ_ret,blkQ_norm,blkQ_exit,blkQ_ret,loopQ_norm,loopQ_exit,loopQ_ret,retP_ret,retP_norm,retE_ret,retE_norm,retS_ret,retS_norm,wpO_some,frA_fn,klA_p,klA_nil,klA_own,resVs,resV,resT,Option.bind_some,Option.bind_none,Option.map_some,List.getD_cons_zero,List.getD_cons_succ,List.getD_nil,List.length_cons,List.length_nil,List.length_map,List.map_cons,List.map_nil,List.drop_zero,List.drop_succ_cons,List.take_succ_cons,List.take_zero,List.drop_nil,List.take_nil,Nat.reduceEqDiff,Nat.reduceAdd,Nat.reduceLeDiff,Nat.zero_add,Nat.add_zero,Prod.mk.injEq,and_true,true_and,and_false,false_and,and_self,if_true,if_false,ite_true,ite_false,Bool.not_true,Bool.not_false,Bool.not_eq_true',reduceCtorEq,decide_true,decide_false,frTs,frT,frL_p,spS,ofPT_a,ofPT_g,ofPT_t,flat_i,flat_b,flat_s,flat_l,flat_g,flatp_i,flatp_b,flatp_s,flatp_l,klTs,klT,Bool.and_false,Bool.false_and,frL,frA_p,frA_nil,frA_own,ownT,intT,Bool.or_true,Bool.true_or,Bool.false_eq_true,frL_p,klL_p,ownT_p,O.adds,List.all_cons,List.all_nil,List.any_cons,List.any_nil,ownA,evO.bslRows,List.replicate_succ,List.replicate_zero,List.set_cons_zero,rowsA,over,List.cons_append,List.nil_append,List.append_nil,fillA,Bool.and_self,Bool.and_true,Bool.true_and,Bool.or_self,Bool.or_false,Bool.false_or,Nat.reduceMul,Nat.one_mul,Nat.lt_add_one,klL,Nat.le_refl,ite_self,Nat.reduceBEq]
        exact hR (by rw [hm,dup,hf]; rfl) _ he'
    refine wpX_bsplit (fun h1 => ?_) (fun h1 => ?_)
    all_goals try simp only [Bool.not_true] at h1
    all_goals simp only [h1,Bool.true_and,Bool.false_and] at step hQ hR ⊢
    all_goals simp only [e1,e3,e7,h3,h1,hlt,h0,Int.toNat_natCast,hx',enc_len,enc_all,enc_take,enc_takep,hux,x_seq,x_reg,x_skip,x_exit,x_ret,x_block,x_if,wpC_t,wpC_f,wpI_cons,wpI_nil,wpX_some,evI_any,evI_rd,evI_ad,evI_g,evG_u,evG_b,evG_tt,evG_ff,evG_tf,evG_ft,evO,evR,ev_t,ev_c,ev_f,putD_some,putD_none,put_at,cellsT,ldCells,mkT,lenA,binPV,add_bs,add_clk,add_ls,put_bs,put_clk,put_ls,kill_bs,kill_clk,kill_ls,empty_clk,empty_bs,Env.init,seqQ_norm,seqQ_exit,seqQ_ret,blkQ_norm,blkQ_exit,blkQ_ret,loopQ_norm,loopQ_exit,loopQ_ret,retP_ret,retP_norm,retE_ret,retE_norm,retS_ret,retS_norm,wpO_some,frA_fn,klA_p,klA_nil,klA_own,resVs,resV,resT,Option.bind_some,Option.bind_none,Option.map_some,List.getD_cons_zero,List.getD_cons_succ,List.getD_nil,List.length_cons,List.length_nil,List.length_map,List.map_cons,List.map_nil,List.drop_zero,List.drop_succ_cons,List.take_succ_cons,List.take_zero,List.drop_nil,List.take_nil,Nat.reduceEqDiff,Nat.reduceAdd,Nat.reduceLeDiff,Nat.zero_add,Nat.add_zero,Prod.mk.injEq,and_true,true_and,and_false,false_and,and_self,if_true,if_false,ite_true,ite_false,Bool.not_true,Bool.not_false,Bool.not_eq_true',reduceCtorEq,decide_true,decide_false,frTs,frT,frL_p,spS,ofPT_a,ofPT_g,ofPT_t,flat_i,flat_b,flat_s,flat_l,flat_g,flatp_i,flatp_b,flatp_s,flatp_l,klTs,klT,Bool.and_false,Bool.false_and,frL,frA_p,frA_nil,frA_own,ownT,intT,Bool.or_true,Bool.true_or,Bool.false_eq_true,frL_p,klL_p,ownT_p,O.adds,List.all_cons,List.all_nil,List.any_cons,List.any_nil,ownA,evO.bslRows,List.replicate_succ,List.replicate_zero,List.set_cons_zero,rowsA,over,List.cons_append,List.nil_append,List.append_nil,fillA,Bool.and_self,Bool.and_true,Bool.true_and,Bool.or_self,Bool.or_false,Bool.false_or,Nat.reduceMul,Nat.one_mul,Nat.lt_add_one,klL,Nat.le_refl,ite_self,Nat.reduceBEq]
    all_goals refine wpC_split (fun h2 => ?_) (fun h2 => ?_)
    all_goals simp only [Bool.not_eq_false',Bool.not_eq_true',Bool.not_false,Bool.not_true,decide_eq_true_eq,decide_eq_false_iff_not,Int.natCast_inj] at h2
    all_goals try (simp only [x_seq,x_reg,x_skip,x_exit,x_ret,x_block,x_if,wpC_t,wpC_f,wpI_cons,wpI_nil,wpX_some,evI_any,evI_rd,evI_ad,evI_g,evG_u,evG_b,evG_tt,evG_ff,evG_tf,evG_ft,evO,evR,ev_t,ev_c,ev_f,putD_some,putD_none,put_at,cellsT,ldCells,mkT,lenA,binPV,add_bs,add_clk,add_ls,put_bs,put_clk,put_ls,kill_bs,kill_clk,kill_ls,empty_clk,empty_bs,Env.init,seqQ_norm,seqQ_exit,seqQ_ret,blkQ_norm,blkQ_exit,blkQ_ret,loopQ_norm,loopQ_exit,loopQ_ret,retP_ret,retP_norm,retE_ret,retE_norm,retS_ret,retS_norm,wpO_some,frA_fn,klA_p,klA_nil,klA_own,resVs,resV,resT,Option.bind_some,Option.bind_none,Option.map_some,List.getD_cons_zero,List.getD_cons_succ,List.getD_nil,List.length_cons,List.length_nil,List.length_map,List.map_cons,List.map_nil,List.drop_zero,List.drop_succ_cons,List.take_succ_cons,List.take_zero,List.drop_nil,List.take_nil,Nat.reduceEqDiff,Nat.reduceAdd,Nat.reduceLeDiff,Nat.zero_add,Nat.add_zero,Prod.mk.injEq,and_true,true_and,and_false,false_and,and_self,if_true,if_false,ite_true,ite_false,Bool.not_true,Bool.not_false,Bool.not_eq_true',reduceCtorEq,decide_true,decide_false,frTs,frT,frL_p,spS,ofPT_a,ofPT_g,ofPT_t,flat_i,flat_b,flat_s,flat_l,flat_g,flatp_i,flatp_b,flatp_s,flatp_l,klTs,klT,Bool.and_false,Bool.false_and,frL,frA_p,frA_nil,frA_own,ownT,intT,Bool.or_true,Bool.true_or,Bool.false_eq_true,frL_p,klL_p,ownT_p,O.adds,List.all_cons,List.all_nil,List.any_cons,List.any_nil,ownA,evO.bslRows,List.replicate_succ,List.replicate_zero,List.set_cons_zero,rowsA,over,List.cons_append,List.nil_append,List.append_nil,fillA,Bool.and_self,Bool.and_true,Bool.true_and,Bool.or_self,Bool.or_false,Bool.false_or,Nat.reduceMul,Nat.one_mul,Nat.lt_add_one,klL,Nat.le_refl,ite_self,Nat.reduceBEq]; exact hR (by rw [h2]; rfl) _ (by simp only [x_seq,x_reg,x_skip,x_exit,x_ret,x_block,x_if,wpC_t,wpC_f,wpI_cons,wpI_nil,wpX_some,evI_any,evI_rd,evI_ad,evI_g,evG_u,evG_b,evG_tt,evG_ff,evG_tf,evG_ft,evO,evR,ev_t,ev_c,ev_f,putD_some,putD_none,put_at,cellsT,ldCells,mkT,lenA,binPV,add_bs,add_clk,add_ls,put_bs,put_clk,put_ls,kill_bs,kill_clk,kill_ls,empty_clk,empty_bs,Env.init,seqQ_norm,seqQ_exit,seqQ_ret,blkQ_norm,blkQ_exit,blkQ_ret,loopQ_norm,loopQ_exit,loopQ_ret,retP_ret,retP_norm,retE_ret,retE_norm,retS_ret,retS_norm,wpO_some,frA_fn,klA_p,klA_nil,klA_own,resVs,resV,resT,Option.bind_some,Option.bind_none,Option.map_some,List.getD_cons_zero,List.getD_cons_succ,List.getD_nil,List.length_cons,List.length_nil,List.length_map,List.map_cons,List.map_nil,List.drop_zero,List.drop_succ_cons,List.take_succ_cons,List.take_zero,List.drop_nil,List.take_nil,Nat.reduceEqDiff,Nat.reduceAdd,Nat.reduceLeDiff,Nat.zero_add,Nat.add_zero,Prod.mk.injEq,and_true,true_and,and_false,false_and,and_self,if_true,if_false,ite_true,ite_false,Bool.not_true,Bool.not_false,Bool.not_eq_true',reduceCtorEq,decide_true,decide_false,frTs,frT,frL_p,spS,ofPT_a,ofPT_g,ofPT_t,flat_i,flat_b,flat_s,flat_l,flat_g,flatp_i,flatp_b,flatp_s,flatp_l,klTs,klT,Bool.and_false,Bool.false_and,frL,frA_p,frA_nil,frA_own,ownT,intT,Bool.or_true,Bool.true_or,Bool.false_eq_true,frL_p,klL_p,ownT_p,O.adds,List.all_cons,List.all_nil,List.any_cons,List.any_nil,ownA,evO.bslRows,List.replicate_succ,List.replicate_zero,List.set_cons_zero,rowsA,over,List.cons_append,List.nil_append,List.append_nil,fillA,Bool.and_self,Bool.and_true,Bool.true_and,Bool.or_self,Bool.or_false,Bool.false_or,Nat.reduceMul,Nat.one_mul,Nat.lt_add_one,klL,Nat.le_refl,ite_self,Nat.reduceBEq]))
    all_goals simp only [x_seq,x_reg,x_skip,x_exit,x_ret,x_block,x_if,wpC_t,wpC_f,wpI_cons,wpI_nil,wpX_some,evI_any,evI_rd,evI_ad,evI_g,evG_u,evG_b,evG_tt,evG_ff,evG_tf,evG_ft,evO,evR,ev_t,ev_c,ev_f,putD_some,putD_none,put_at,cellsT,ldCells,mkT,lenA,binPV,add_bs,add_clk,add_ls,put_bs,put_clk,put_ls,kill_bs,kill_clk,kill_ls,empty_clk,empty_bs,Env.init,seqQ_norm,seqQ_exit,seqQ_ret,blkQ_norm,blkQ_exit,blkQ_ret,loopQ_norm,loopQ_exit,loopQ_ret,retP_ret,retP_norm,retE_ret,retE_norm,retS_ret,retS_norm,wpO_some,frA_fn,klA_p,klA_nil,klA_own,resVs,resV,resT,Option.bind_some,Option.bind_none,Option.map_some,List.getD_cons_zero,List.getD_cons_succ,List.getD_nil,List.length_cons,List.length_nil,List.length_map,List.map_cons,List.map_nil,List.drop_zero,List.drop_succ_cons,List.take_succ_cons,List.take_zero,List.drop_nil,List.take_nil,Nat.reduceEqDiff,Nat.reduceAdd,Nat.reduceLeDiff,Nat.zero_add,Nat.add_zero,Prod.mk.injEq,and_true,true_and,and_false,false_and,and_self,if_true,if_false,ite_true,ite_false,Bool.not_true,Bool.not_false,Bool.not_eq_true',reduceCtorEq,decide_true,decide_false,frTs,frT,frL_p,spS,ofPT_a,ofPT_g,ofPT_t,flat_i,flat_b,flat_s,flat_l,flat_g,flatp_i,flatp_b,flatp_s,flatp_l,klTs,klT,Bool.and_false,Bool.false_and,frL,frA_p,frA_nil,frA_own,ownT,intT,Bool.or_true,Bool.true_or,Bool.false_eq_true,frL_p,klL_p,ownT_p,O.adds,List.all_cons,List.all_nil,List.any_cons,List.any_nil,ownA,evO.bslRows,List.replicate_succ,List.replicate_zero,List.set_cons_zero,rowsA,over,List.cons_append,List.nil_append,List.append_nil,fillA,Bool.and_self,Bool.and_true,Bool.true_and,Bool.or_self,Bool.or_false,Bool.false_or,Nat.reduceMul,Nat.one_mul,Nat.lt_add_one,klL,Nat.le_refl,ite_self,Nat.reduceBEq]
    all_goals exact step _ h2 (by simp only [e1,x_seq,x_reg,x_skip,x_exit,x_ret,x_block,x_if,wpC_t,wpC_f,wpI_cons,wpI_nil,wpX_some,evI_any,evI_rd,evI_ad,evI_g,evG_u,evG_b,evG_tt,evG_ff,evG_tf,evG_ft,evO,evR,ev_t,ev_c,ev_f,putD_some,putD_none,put_at,cellsT,ldCells,mkT,lenA,binPV,add_bs,add_clk,add_ls,put_bs,put_clk,put_ls,kill_bs,kill_clk,kill_ls,empty_clk,empty_bs,Env.init,seqQ_norm,seqQ_exit,seqQ_ret,blkQ_norm,blkQ_exit,blkQ_ret,loopQ_norm,loopQ_exit,loopQ_ret,retP_ret,retP_norm,retE_ret,retE_norm,retS_ret,retS_norm,wpO_some,frA_fn,klA_p,klA_nil,klA_own,resVs,resV,resT,Option.bind_some,Option.bind_none,Option.map_some,List.getD_cons_zero,List.getD_cons_succ,List.getD_nil,List.length_cons,List.length_nil,List.length_map,List.map_cons,List.map_nil,List.drop_zero,List.drop_succ_cons,List.take_succ_cons,List.take_zero,List.drop_nil,List.take_nil,Nat.reduceEqDiff,Nat.reduceAdd,Nat.reduceLeDiff,Nat.zero_add,Nat.add_zero,Prod.mk.injEq,and_true,true_and,and_false,false_and,and_self,if_true,if_false,ite_true,ite_false,Bool.not_true,Bool.not_false,Bool.not_eq_true',reduceCtorEq,decide_true,decide_false,frTs,frT,frL_p,spS,ofPT_a,ofPT_g,ofPT_t,flat_i,flat_b,flat_s,flat_l,flat_g,flatp_i,flatp_b,flatp_s,flatp_l,klTs,klT,Bool.and_false,Bool.false_and,frL,frA_p,frA_nil,frA_own,ownT,intT,Bool.or_true,Bool.true_or,Bool.false_eq_true,frL_p,klL_p,ownT_p,O.adds,List.all_cons,List.all_nil,List.any_cons,List.any_nil,ownA,evO.bslRows,List.replicate_succ,List.replicate_zero,List.set_cons_zero,rowsA,over,List.cons_append,List.nil_append,List.append_nil,fillA,Bool.and_self,Bool.and_true,Bool.true_and,Bool.or_self,Bool.or_false,Bool.false_or,Nat.reduceMul,Nat.one_mul,Nat.lt_add_one,klL,Nat.le_refl,ite_self,Nat.reduceBEq]) (by simp only [e3,x_seq,x_reg,x_skip,x_exit,x_ret,x_block,x_if,wpC_t,wpC_f,wpI_cons,wpI_nil,wpX_some,evI_any,evI_rd,evI_ad,evI_g,evG_u,evG_b,evG_tt,evG_ff,evG_tf,evG_ft,evO,evR,ev_t,ev_c,ev_f,putD_some,putD_none,put_at,cellsT,ldCells,mkT,lenA,binPV,add_bs,add_clk,add_ls,put_bs,put_clk,put_ls,kill_bs,kill_clk,kill_ls,empty_clk,empty_bs,Env.init,seqQ_norm,seqQ_exit,seqQ_ret,blkQ_norm,blkQ_exit,blkQ_ret,loopQ_norm,loopQ_exit,loopQ_ret,retP_ret,retP_norm,retE_ret,retE_norm,retS_ret,retS_norm,wpO_some,frA_fn,klA_p,klA_nil,klA_own,resVs,resV,resT,Option.bind_some,Option.bind_none,Option.map_some,List.getD_cons_zero,List.getD_cons_succ,List.getD_nil,List.length_cons,List.length_nil,List.length_map,List.map_cons,List.map_nil,List.drop_zero,List.drop_succ_cons,List.take_succ_cons,List.take_zero,List.drop_nil,List.take_nil,Nat.reduceEqDiff,Nat.reduceAdd,Nat.reduceLeDiff,Nat.zero_add,Nat.add_zero,Prod.mk.injEq,and_true,true_and,and_false,false_and,and_self,if_true,if_false,ite_true,ite_false,Bool.not_true,Bool.not_false,Bool.not_eq_true',reduceCtorEq,decide_true,decide_false,frTs,frT,frL_p,spS,ofPT_a,ofPT_g,ofPT_t,flat_i,flat_b,flat_s,flat_l,flat_g,flatp_i,flatp_b,flatp_s,flatp_l,klTs,klT,Bool.and_false,Bool.false_and,frL,frA_p,frA_nil,frA_own,ownT,intT,Bool.or_true,Bool.true_or,Bool.false_eq_true,frL_p,klL_p,ownT_p,O.adds,List.all_cons,List.all_nil,List.any_cons,List.any_nil,ownA,evO.bslRows,List.replicate_succ,List.replicate_zero,List.set_cons_zero,rowsA,over,List.cons_append,List.nil_append,List.append_nil,fillA,Bool.and_self,Bool.and_true,Bool.true_and,Bool.or_self,Bool.or_false,Bool.false_or,Nat.reduceMul,Nat.one_mul,Nat.lt_add_one,klL,Nat.le_refl,ite_self,Nat.reduceBEq]) (by simp only [e7,x_seq,x_reg,x_skip,x_exit,x_ret,x_block,x_if,wpC_t,wpC_f,wpI_cons,wpI_nil,wpX_some,evI_any,evI_rd,evI_ad,evI_g,evG_u,evG_b,evG_tt,evG_ff,evG_tf,evG_ft,evO,evR,ev_t,ev_c,ev_f,putD_some,putD_none,put_at,cellsT,ldCells,mkT,lenA,binPV,add_bs,add_clk,add_ls,put_bs,put_clk,put_ls,kill_bs,kill_clk,kill_ls,empty_clk,empty_bs,Env.init,seqQ_norm,seqQ_exit,seqQ_ret,blkQ_norm,blkQ_exit,blkQ_ret,loopQ_norm,loopQ_exit,loopQ_ret,retP_ret,retP_norm,retE_ret,retE_norm,retS_ret,retS_norm,wpO_some,frA_fn,klA_p,klA_nil,klA_own,resVs,resV,resT,Option.bind_some,Option.bind_none,Option.map_some,List.getD_cons_zero,List.getD_cons_succ,List.getD_nil,List.length_cons,List.length_nil,List.length_map,List.map_cons,List.map_nil,List.drop_zero,List.drop_succ_cons,List.take_succ_cons,List.take_zero,List.drop_nil,List.take_nil,Nat.reduceEqDiff,Nat.reduceAdd,Nat.reduceLeDiff,Nat.zero_add,Nat.add_zero,Prod.mk.injEq,and_true,true_and,and_false,false_and,and_self,if_true,if_false,ite_true,ite_false,Bool.not_true,Bool.not_false,Bool.not_eq_true',reduceCtorEq,decide_true,decide_false,frTs,frT,frL_p,spS,ofPT_a,ofPT_g,ofPT_t,flat_i,flat_b,flat_s,flat_l,flat_g,flatp_i,flatp_b,flatp_s,flatp_l,klTs,klT,Bool.and_false,Bool.false_and,frL,frA_p,frA_nil,frA_own,ownT,intT,Bool.or_true,Bool.true_or,Bool.false_eq_true,frL_p,klL_p,ownT_p,O.adds,List.all_cons,List.all_nil,List.any_cons,List.any_nil,ownA,evO.bslRows,List.replicate_succ,List.replicate_zero,List.set_cons_zero,rowsA,over,List.cons_append,List.nil_append,List.append_nil,fillA,Bool.and_self,Bool.and_true,Bool.true_and,Bool.or_self,Bool.or_false,Bool.false_or,Nat.reduceMul,Nat.one_mul,Nat.lt_add_one,klL,Nat.le_refl,ite_self,Nat.reduceBEq]) (by simp only [x_seq,x_reg,x_skip,x_exit,x_ret,x_block,x_if,wpC_t,wpC_f,wpI_cons,wpI_nil,wpX_some,evI_any,evI_rd,evI_ad,evI_g,evG_u,evG_b,evG_tt,evG_ff,evG_tf,evG_ft,evO,evR,ev_t,ev_c,ev_f,putD_some,putD_none,put_at,cellsT,ldCells,mkT,lenA,binPV,add_bs,add_clk,add_ls,put_bs,put_clk,put_ls,kill_bs,kill_clk,kill_ls,empty_clk,empty_bs,Env.init,seqQ_norm,seqQ_exit,seqQ_ret,blkQ_norm,blkQ_exit,blkQ_ret,loopQ_norm,loopQ_exit,loopQ_ret,retP_ret,retP_norm,retE_ret,retE_norm,retS_ret,retS_norm,wpO_some,frA_fn,klA_p,klA_nil,klA_own,resVs,resV,resT,Option.bind_some,Option.bind_none,Option.map_some,List.getD_cons_zero,List.getD_cons_succ,List.getD_nil,List.length_cons,List.length_nil,List.length_map,List.map_cons,List.map_nil,List.drop_zero,List.drop_succ_cons,List.take_succ_cons,List.take_zero,List.drop_nil,List.take_nil,Nat.reduceEqDiff,Nat.reduceAdd,Nat.reduceLeDiff,Nat.zero_add,Nat.add_zero,Prod.mk.injEq,and_true,true_and,and_false,false_and,and_self,if_true,if_false,ite_true,ite_false,Bool.not_true,Bool.not_false,Bool.not_eq_true',reduceCtorEq,decide_true,decide_false,frTs,frT,frL_p,spS,ofPT_a,ofPT_g,ofPT_t,flat_i,flat_b,flat_s,flat_l,flat_g,flatp_i,flatp_b,flatp_s,flatp_l,klTs,klT,Bool.and_false,Bool.false_and,frL,frA_p,frA_nil,frA_own,ownT,intT,Bool.or_true,Bool.true_or,Bool.false_eq_true,frL_p,klL_p,ownT_p,O.adds,List.all_cons,List.all_nil,List.any_cons,List.any_nil,ownA,evO.bslRows,List.replicate_succ,List.replicate_zero,List.set_cons_zero,rowsA,over,List.cons_append,List.nil_append,List.append_nil,fillA,Bool.and_self,Bool.and_true,Bool.true_and,Bool.or_self,Bool.or_false,Bool.false_or,Nat.reduceMul,Nat.one_mul,Nat.lt_add_one,klL,Nat.le_refl,ite_self,Nat.reduceBEq])
theorem may_ok {t : T} (ht : T.Ok t) : ∀ (free : Int) (alt : Bool),eP S 60 [.g (enc t),.a (.i .i64 free),.a (.b alt)] = some (.a (.b (may t free alt))) := by
  induction ht with
  | mk k n s l hk hn hs hl h ih =>
    intro free alt
    have hh := head_ok (.mk k n s l hk hn hs hl h) free alt
    have e0 : may (.mk k n s l) free alt = if free < 0 then false else if head (.mk k n s l) free alt then mayL k l l 0 (if k = 2 then w (free + 1) else if k = 6 then w (free + n) else free) else false := rfl
    rw [e0]
    rw [enc,encL_map] at hh
    refine x_fn (orcS 60) (fc := F60) rfl rfl ?_
    simp only [F60,enc,encL_map,x_seq,x_reg,x_skip,x_exit,x_ret,x_block,x_if,wpC_t,wpC_f,wpI_cons,wpI_nil,wpX_some,evI_any,evI_rd,evI_ad,evI_g,evG_u,evG_b,evG_tt,evG_ff,evG_tf,evG_ft,evO,evR,ev_t,ev_c,ev_f,putD_some,putD_none,put_at,cellsT,ldCells,mkT,lenA,binPV,add_bs,add_clk,add_ls,put_bs,put_clk,put_ls,kill_bs,kill_clk,kill_ls,empty_clk,empty_bs,Env.init,seqQ_norm,seqQ_exit,seqQ_ret,blkQ_norm,blkQ_exit,blkQ_ret,loopQ_norm,loopQ_exit,loopQ_ret,retP_ret,retP_norm,retE_ret,retE_norm,retS_ret,retS_norm,wpO_some,frA_fn,klA_p,klA_nil,klA_own,resVs,resV,resT,Option.bind_some,Option.bind_none,Option.map_some,List.getD_cons_zero,List.getD_cons_succ,List.getD_nil,List.length_cons,List.length_nil,List.length_map,List.map_cons,List.map_nil,List.drop_zero,List.drop_succ_cons,List.take_succ_cons,List.take_zero,List.drop_nil,List.take_nil,Nat.reduceEqDiff,Nat.reduceAdd,Nat.reduceLeDiff,Nat.zero_add,Nat.add_zero,Prod.mk.injEq,and_true,true_and,and_false,false_and,and_self,if_true,if_false,ite_true,ite_false,Bool.not_true,Bool.not_false,Bool.not_eq_true',reduceCtorEq,decide_true,decide_false,frTs,frT,frL_p,spS,ofPT_a,ofPT_g,ofPT_t,flat_i,flat_b,flat_s,flat_l,flat_g,flatp_i,flatp_b,flatp_s,flatp_l,klTs,klT,Bool.and_false,Bool.false_and,frL,frA_p,frA_nil,frA_own,ownT,intT,Bool.or_true,Bool.true_or,Bool.false_eq_true,frL_p,klL_p,ownT_p,O.adds,List.all_cons,List.all_nil,List.any_cons,List.any_nil,ownA,evO.bslRows,List.replicate_succ,List.replicate_zero,List.set_cons_zero,rowsA,over,List.cons_append,List.nil_append,List.append_nil,fillA,Bool.and_self,Bool.and_true,Bool.true_and,Bool.or_self,Bool.or_false,Bool.false_or,Nat.reduceMul,Nat.one_mul,Nat.lt_add_one,klL,Nat.le_refl,ite_self,Nat.reduceBEq]
    have fin : ∀ (f : Int) (e : Env) (σ : St),e 1 = .a (.p (.i .i64 f)) → e 3 = .a (.ptr (3,0) 0 0) → e 7 = .a (.p (.i .i64 0)) → σ.bs (3,0) = some (.var [.p (.i .i64 k),.p (.i .i64 n),.p (.s s),.p (.l (l.map enc))]) →
        wp S false (.loop F60b0) e σ (blkQ 0 (seqQ S false ((C.reg [⟨some 6,none,.mv (.c (.a (.p (.b true)))),.any⟩]).seq C.ret) (RetP [Rs.tmp 6] (PT.a (PV.b (mayL k l l 0 f)))))) := by
      intro f e σ e1 e3 e7 h3
      refine loop60 (.mk k n s l) f hl _ l 0 e σ rfl (by simp [T.l]) (fun u hu => ih u hu) e1 e3 e7 h3 (fun hm e' => ?_) (fun hm e' he' => ?_)
      · simp only [T.k,T.l] at hm; simp only [hm,x_seq,x_reg,x_skip,x_exit,x_ret,x_block,x_if,wpC_t,wpC_f,wpI_cons,wpI_nil,wpX_some,evI_any,evI_rd,evI_ad,evI_g,evG_u,evG_b,evG_tt,evG_ff,evG_tf,evG_ft,evO,evR,ev_t,ev_c,ev_f,putD_some,putD_none,put_at,cellsT,ldCells,mkT,lenA,binPV,add_bs,add_clk,add_ls,put_bs,put_clk,put_ls,kill_bs,kill_clk,kill_ls,empty_clk,empty_bs,Env.init,seqQ_norm,seqQ_exit,seqQ_ret,blkQ_norm,blkQ_exit,blkQ_ret,loopQ_norm,loopQ_exit,loopQ_ret,retP_ret,retP_norm,retE_ret,retE_norm,retS_ret,retS_norm,wpO_some,frA_fn,klA_p,klA_nil,klA_own,resVs,resV,resT,Option.bind_some,Option.bind_none,Option.map_some,List.getD_cons_zero,List.getD_cons_succ,List.getD_nil,List.length_cons,List.length_nil,List.length_map,List.map_cons,List.map_nil,List.drop_zero,List.drop_succ_cons,List.take_succ_cons,List.take_zero,List.drop_nil,List.take_nil,Nat.reduceEqDiff,Nat.reduceAdd,Nat.reduceLeDiff,Nat.zero_add,Nat.add_zero,Prod.mk.injEq,and_true,true_and,and_false,false_and,and_self,if_true,if_false,ite_true,ite_false,Bool.not_true,Bool.not_false,Bool.not_eq_true',reduceCtorEq,decide_true,decide_false,frTs,frT,frL_p,spS,ofPT_a,ofPT_g,ofPT_t,flat_i,flat_b,flat_s,flat_l,flat_g,flatp_i,flatp_b,flatp_s,flatp_l,klTs,klT,Bool.and_false,Bool.false_and,frL,frA_p,frA_nil,frA_own,ownT,intT,Bool.or_true,Bool.true_or,Bool.false_eq_true,frL_p,klL_p,ownT_p,O.adds,List.all_cons,List.all_nil,List.any_cons,List.any_nil,ownA,evO.bslRows,List.replicate_succ,List.replicate_zero,List.set_cons_zero,rowsA,over,List.cons_append,List.nil_append,List.append_nil,fillA,Bool.and_self,Bool.and_true,Bool.true_and,Bool.or_self,Bool.or_false,Bool.false_or,Nat.reduceMul,Nat.one_mul,Nat.lt_add_one,klL,Nat.le_refl,ite_self,Nat.reduceBEq]
      · simp only [T.k,T.l] at hm; simp only [hm,he',x_seq,x_reg,x_skip,x_exit,x_ret,x_block,x_if,wpC_t,wpC_f,wpI_cons,wpI_nil,wpX_some,evI_any,evI_rd,evI_ad,evI_g,evG_u,evG_b,evG_tt,evG_ff,evG_tf,evG_ft,evO,evR,ev_t,ev_c,ev_f,putD_some,putD_none,put_at,cellsT,ldCells,mkT,lenA,binPV,add_bs,add_clk,add_ls,put_bs,put_clk,put_ls,kill_bs,kill_clk,kill_ls,empty_clk,empty_bs,Env.init,seqQ_norm,seqQ_exit,seqQ_ret,blkQ_norm,blkQ_exit,blkQ_ret,loopQ_norm,loopQ_exit,loopQ_ret,retP_ret,retP_norm,retE_ret,retE_norm,retS_ret,retS_norm,wpO_some,frA_fn,klA_p,klA_nil,klA_own,resVs,resV,resT,Option.bind_some,Option.bind_none,Option.map_some,List.getD_cons_zero,List.getD_cons_succ,List.getD_nil,List.length_cons,List.length_nil,List.length_map,List.map_cons,List.map_nil,List.drop_zero,List.drop_succ_cons,List.take_succ_cons,List.take_zero,List.drop_nil,List.take_nil,Nat.reduceEqDiff,Nat.reduceAdd,Nat.reduceLeDiff,Nat.zero_add,Nat.add_zero,Prod.mk.injEq,and_true,true_and,and_false,false_and,and_self,if_true,if_false,ite_true,ite_false,Bool.not_true,Bool.not_false,Bool.not_eq_true',reduceCtorEq,decide_true,decide_false,frTs,frT,frL_p,spS,ofPT_a,ofPT_g,ofPT_t,flat_i,flat_b,flat_s,flat_l,flat_g,flatp_i,flatp_b,flatp_s,flatp_l,klTs,klT,Bool.and_false,Bool.false_and,frL,frA_p,frA_nil,frA_own,ownT,intT,Bool.or_true,Bool.true_or,Bool.false_eq_true,frL_p,klL_p,ownT_p,O.adds,List.all_cons,List.all_nil,List.any_cons,List.any_nil,ownA,evO.bslRows,List.replicate_succ,List.replicate_zero,List.set_cons_zero,rowsA,over,List.cons_append,List.nil_append,List.append_nil,fillA,Bool.and_self,Bool.and_true,Bool.true_and,Bool.or_self,Bool.or_false,Bool.false_or,Nat.reduceMul,Nat.one_mul,Nat.lt_add_one,klL,Nat.le_refl,ite_self,Nat.reduceBEq]
    refine wpX_bsplit (fun h1 => ?_) (fun h1 => ?_)
    all_goals simp only [h1,hh,x_seq,x_reg,x_skip,x_exit,x_ret,x_block,x_if,wpC_t,wpC_f,wpI_cons,wpI_nil,wpX_some,evI_any,evI_rd,evI_ad,evI_g,evG_u,evG_b,evG_tt,evG_ff,evG_tf,evG_ft,evO,evR,ev_t,ev_c,ev_f,putD_some,putD_none,put_at,cellsT,ldCells,mkT,lenA,binPV,add_bs,add_clk,add_ls,put_bs,put_clk,put_ls,kill_bs,kill_clk,kill_ls,empty_clk,empty_bs,Env.init,seqQ_norm,seqQ_exit,seqQ_ret,blkQ_norm,blkQ_exit,blkQ_ret,loopQ_norm,loopQ_exit,loopQ_ret,retP_ret,retP_norm,retE_ret,retE_norm,retS_ret,retS_norm,wpO_some,frA_fn,klA_p,klA_nil,klA_own,resVs,resV,resT,Option.bind_some,Option.bind_none,Option.map_some,List.getD_cons_zero,List.getD_cons_succ,List.getD_nil,List.length_cons,List.length_nil,List.length_map,List.map_cons,List.map_nil,List.drop_zero,List.drop_succ_cons,List.take_succ_cons,List.take_zero,List.drop_nil,List.take_nil,Nat.reduceEqDiff,Nat.reduceAdd,Nat.reduceLeDiff,Nat.zero_add,Nat.add_zero,Prod.mk.injEq,and_true,true_and,and_false,false_and,and_self,if_true,if_false,ite_true,ite_false,Bool.not_true,Bool.not_false,Bool.not_eq_true',reduceCtorEq,decide_true,decide_false,frTs,frT,frL_p,spS,ofPT_a,ofPT_g,ofPT_t,flat_i,flat_b,flat_s,flat_l,flat_g,flatp_i,flatp_b,flatp_s,flatp_l,klTs,klT,Bool.and_false,Bool.false_and,frL,frA_p,frA_nil,frA_own,ownT,intT,Bool.or_true,Bool.true_or,Bool.false_eq_true,frL_p,klL_p,ownT_p,O.adds,List.all_cons,List.all_nil,List.any_cons,List.any_nil,ownA,evO.bslRows,List.replicate_succ,List.replicate_zero,List.set_cons_zero,rowsA,over,List.cons_append,List.nil_append,List.append_nil,fillA,Bool.and_self,Bool.and_true,Bool.true_and,Bool.or_self,Bool.or_false,Bool.false_or,Nat.reduceMul,Nat.one_mul,Nat.lt_add_one,klL,Nat.le_refl,ite_self,Nat.reduceBEq]
    · simp only [Bool.not_eq_false',Bool.not_eq_true',Bool.not_false,Bool.not_true,decide_eq_true_eq,decide_eq_false_iff_not,Int.natCast_inj] at h1
      rw [if_neg (by omega)]
      refine wpC_split (fun h2 => ?_) (fun h2 => ?_)
      · simp only [Bool.not_eq_false',Bool.not_eq_true',Bool.not_false,Bool.not_true,decide_eq_true_eq,decide_eq_false_iff_not,Int.natCast_inj] at h2; simp only [h2,x_seq,x_reg,x_skip,x_exit,x_ret,x_block,x_if,wpC_t,wpC_f,wpI_cons,wpI_nil,wpX_some,evI_any,evI_rd,evI_ad,evI_g,evG_u,evG_b,evG_tt,evG_ff,evG_tf,evG_ft,evO,evR,ev_t,ev_c,ev_f,putD_some,putD_none,put_at,cellsT,ldCells,mkT,lenA,binPV,add_bs,add_clk,add_ls,put_bs,put_clk,put_ls,kill_bs,kill_clk,kill_ls,empty_clk,empty_bs,Env.init,seqQ_norm,seqQ_exit,seqQ_ret,blkQ_norm,blkQ_exit,blkQ_ret,loopQ_norm,loopQ_exit,loopQ_ret,retP_ret,retP_norm,retE_ret,retE_norm,retS_ret,retS_norm,wpO_some,frA_fn,klA_p,klA_nil,klA_own,resVs,resV,resT,Option.bind_some,Option.bind_none,Option.map_some,List.getD_cons_zero,List.getD_cons_succ,List.getD_nil,List.length_cons,List.length_nil,List.length_map,List.map_cons,List.map_nil,List.drop_zero,List.drop_succ_cons,List.take_succ_cons,List.take_zero,List.drop_nil,List.take_nil,Nat.reduceEqDiff,Nat.reduceAdd,Nat.reduceLeDiff,Nat.zero_add,Nat.add_zero,Prod.mk.injEq,and_true,true_and,and_false,false_and,and_self,if_true,if_false,ite_true,ite_false,Bool.not_true,Bool.not_false,Bool.not_eq_true',reduceCtorEq,decide_true,decide_false,frTs,frT,frL_p,spS,ofPT_a,ofPT_g,ofPT_t,flat_i,flat_b,flat_s,flat_l,flat_g,flatp_i,flatp_b,flatp_s,flatp_l,klTs,klT,Bool.and_false,Bool.false_and,frL,frA_p,frA_nil,frA_own,ownT,intT,Bool.or_true,Bool.true_or,Bool.false_eq_true,frL_p,klL_p,ownT_p,O.adds,List.all_cons,List.all_nil,List.any_cons,List.any_nil,ownA,evO.bslRows,List.replicate_succ,List.replicate_zero,List.set_cons_zero,rowsA,over,List.cons_append,List.nil_append,List.append_nil,fillA,Bool.and_self,Bool.and_true,Bool.true_and,Bool.or_self,Bool.or_false,Bool.false_or,Nat.reduceMul,Nat.one_mul,Nat.lt_add_one,klL,Nat.le_refl,ite_self,Nat.reduceBEq]
      · simp only [Bool.not_eq_false',Bool.not_eq_true',Bool.not_false,Bool.not_true,decide_eq_true_eq,decide_eq_false_iff_not,Int.natCast_inj] at h2; simp only [h2,x_seq,x_reg,x_skip,x_exit,x_ret,x_block,x_if,wpC_t,wpC_f,wpI_cons,wpI_nil,wpX_some,evI_any,evI_rd,evI_ad,evI_g,evG_u,evG_b,evG_tt,evG_ff,evG_tf,evG_ft,evO,evR,ev_t,ev_c,ev_f,putD_some,putD_none,put_at,cellsT,ldCells,mkT,lenA,binPV,add_bs,add_clk,add_ls,put_bs,put_clk,put_ls,kill_bs,kill_clk,kill_ls,empty_clk,empty_bs,Env.init,seqQ_norm,seqQ_exit,seqQ_ret,blkQ_norm,blkQ_exit,blkQ_ret,loopQ_norm,loopQ_exit,loopQ_ret,retP_ret,retP_norm,retE_ret,retE_norm,retS_ret,retS_norm,wpO_some,frA_fn,klA_p,klA_nil,klA_own,resVs,resV,resT,Option.bind_some,Option.bind_none,Option.map_some,List.getD_cons_zero,List.getD_cons_succ,List.getD_nil,List.length_cons,List.length_nil,List.length_map,List.map_cons,List.map_nil,List.drop_zero,List.drop_succ_cons,List.take_succ_cons,List.take_zero,List.drop_nil,List.take_nil,Nat.reduceEqDiff,Nat.reduceAdd,Nat.reduceLeDiff,Nat.zero_add,Nat.add_zero,Prod.mk.injEq,and_true,true_and,and_false,false_and,and_self,if_true,if_false,ite_true,ite_false,Bool.not_true,Bool.not_false,Bool.not_eq_true',reduceCtorEq,decide_true,decide_false,frTs,frT,frL_p,spS,ofPT_a,ofPT_g,ofPT_t,flat_i,flat_b,flat_s,flat_l,flat_g,flatp_i,flatp_b,flatp_s,flatp_l,klTs,klT,Bool.and_false,Bool.false_and,frL,frA_p,frA_nil,frA_own,ownT,intT,Bool.or_true,Bool.true_or,Bool.false_eq_true,frL_p,klL_p,ownT_p,O.adds,List.all_cons,List.all_nil,List.any_cons,List.any_nil,ownA,evO.bslRows,List.replicate_succ,List.replicate_zero,List.set_cons_zero,rowsA,over,List.cons_append,List.nil_append,List.append_nil,fillA,Bool.and_self,Bool.and_true,Bool.true_and,Bool.or_self,Bool.or_false,Bool.false_or,Nat.reduceMul,Nat.one_mul,Nat.lt_add_one,klL,Nat.le_refl,ite_self,Nat.reduceBEq]
        refine wpC_split (fun h3 => ?_) (fun h3 => ?_)
        · simp only [Bool.not_eq_false',Bool.not_eq_true',Bool.not_false,Bool.not_true,decide_eq_true_eq,decide_eq_false_iff_not,Int.natCast_inj] at h3
          subst h3
          simp only [Int.reduceEq,x_seq,x_reg,x_skip,x_exit,x_ret,x_block,x_if,wpC_t,wpC_f,wpI_cons,wpI_nil,wpX_some,evI_any,evI_rd,evI_ad,evI_g,evG_u,evG_b,evG_tt,evG_ff,evG_tf,evG_ft,evO,evR,ev_t,ev_c,ev_f,putD_some,putD_none,put_at,cellsT,ldCells,mkT,lenA,binPV,add_bs,add_clk,add_ls,put_bs,put_clk,put_ls,kill_bs,kill_clk,kill_ls,empty_clk,empty_bs,Env.init,seqQ_norm,seqQ_exit,seqQ_ret,blkQ_norm,blkQ_exit,blkQ_ret,loopQ_norm,loopQ_exit,loopQ_ret,retP_ret,retP_norm,retE_ret,retE_norm,retS_ret,retS_norm,wpO_some,frA_fn,klA_p,klA_nil,klA_own,resVs,resV,resT,Option.bind_some,Option.bind_none,Option.map_some,List.getD_cons_zero,List.getD_cons_succ,List.getD_nil,List.length_cons,List.length_nil,List.length_map,List.map_cons,List.map_nil,List.drop_zero,List.drop_succ_cons,List.take_succ_cons,List.take_zero,List.drop_nil,List.take_nil,Nat.reduceEqDiff,Nat.reduceAdd,Nat.reduceLeDiff,Nat.zero_add,Nat.add_zero,Prod.mk.injEq,and_true,true_and,and_false,false_and,and_self,if_true,if_false,ite_true,ite_false,Bool.not_true,Bool.not_false,Bool.not_eq_true',reduceCtorEq,decide_true,decide_false,frTs,frT,frL_p,spS,ofPT_a,ofPT_g,ofPT_t,flat_i,flat_b,flat_s,flat_l,flat_g,flatp_i,flatp_b,flatp_s,flatp_l,klTs,klT,Bool.and_false,Bool.false_and,frL,frA_p,frA_nil,frA_own,ownT,intT,Bool.or_true,Bool.true_or,Bool.false_eq_true,frL_p,klL_p,ownT_p,O.adds,List.all_cons,List.all_nil,List.any_cons,List.any_nil,ownA,evO.bslRows,List.replicate_succ,List.replicate_zero,List.set_cons_zero,rowsA,over,List.cons_append,List.nil_append,List.append_nil,fillA,Bool.and_self,Bool.and_true,Bool.true_and,Bool.or_self,Bool.or_false,Bool.false_or,Nat.reduceMul,Nat.one_mul,Nat.lt_add_one,klL,Nat.le_refl,ite_self,Nat.reduceBEq]
          exact fin _ _ _ (by simp only [x_seq,x_reg,x_skip,x_exit,x_ret,x_block,x_if,wpC_t,wpC_f,wpI_cons,wpI_nil,wpX_some,evI_any,evI_rd,evI_ad,evI_g,evG_u,evG_b,evG_tt,evG_ff,evG_tf,evG_ft,evO,evR,ev_t,ev_c,ev_f,putD_some,putD_none,put_at,cellsT,ldCells,mkT,lenA,binPV,add_bs,add_clk,add_ls,put_bs,put_clk,put_ls,kill_bs,kill_clk,kill_ls,empty_clk,empty_bs,Env.init,seqQ_norm,seqQ_exit,seqQ_ret,blkQ_norm,blkQ_exit,blkQ_ret,loopQ_norm,loopQ_exit,loopQ_ret,retP_ret,retP_norm,retE_ret,retE_norm,retS_ret,retS_norm,wpO_some,frA_fn,klA_p,klA_nil,klA_own,resVs,resV,resT,Option.bind_some,Option.bind_none,Option.map_some,List.getD_cons_zero,List.getD_cons_succ,List.getD_nil,List.length_cons,List.length_nil,List.length_map,List.map_cons,List.map_nil,List.drop_zero,List.drop_succ_cons,List.take_succ_cons,List.take_zero,List.drop_nil,List.take_nil,Nat.reduceEqDiff,Nat.reduceAdd,Nat.reduceLeDiff,Nat.zero_add,Nat.add_zero,Prod.mk.injEq,and_true,true_and,and_false,false_and,and_self,if_true,if_false,ite_true,ite_false,Bool.not_true,Bool.not_false,Bool.not_eq_true',reduceCtorEq,decide_true,decide_false,frTs,frT,frL_p,spS,ofPT_a,ofPT_g,ofPT_t,flat_i,flat_b,flat_s,flat_l,flat_g,flatp_i,flatp_b,flatp_s,flatp_l,klTs,klT,Bool.and_false,Bool.false_and,frL,frA_p,frA_nil,frA_own,ownT,intT,Bool.or_true,Bool.true_or,Bool.false_eq_true,frL_p,klL_p,ownT_p,O.adds,List.all_cons,List.all_nil,List.any_cons,List.any_nil,ownA,evO.bslRows,List.replicate_succ,List.replicate_zero,List.set_cons_zero,rowsA,over,List.cons_append,List.nil_append,List.append_nil,fillA,Bool.and_self,Bool.and_true,Bool.true_and,Bool.or_self,Bool.or_false,Bool.false_or,Nat.reduceMul,Nat.one_mul,Nat.lt_add_one,klL,Nat.le_refl,ite_self,Nat.reduceBEq]) (by simp only [x_seq,x_reg,x_skip,x_exit,x_ret,x_block,x_if,wpC_t,wpC_f,wpI_cons,wpI_nil,wpX_some,evI_any,evI_rd,evI_ad,evI_g,evG_u,evG_b,evG_tt,evG_ff,evG_tf,evG_ft,evO,evR,ev_t,ev_c,ev_f,putD_some,putD_none,put_at,cellsT,ldCells,mkT,lenA,binPV,add_bs,add_clk,add_ls,put_bs,put_clk,put_ls,kill_bs,kill_clk,kill_ls,empty_clk,empty_bs,Env.init,seqQ_norm,seqQ_exit,seqQ_ret,blkQ_norm,blkQ_exit,blkQ_ret,loopQ_norm,loopQ_exit,loopQ_ret,retP_ret,retP_norm,retE_ret,retE_norm,retS_ret,retS_norm,wpO_some,frA_fn,klA_p,klA_nil,klA_own,resVs,resV,resT,Option.bind_some,Option.bind_none,Option.map_some,List.getD_cons_zero,List.getD_cons_succ,List.getD_nil,List.length_cons,List.length_nil,List.length_map,List.map_cons,List.map_nil,List.drop_zero,List.drop_succ_cons,List.take_succ_cons,List.take_zero,List.drop_nil,List.take_nil,Nat.reduceEqDiff,Nat.reduceAdd,Nat.reduceLeDiff,Nat.zero_add,Nat.add_zero,Prod.mk.injEq,and_true,true_and,and_false,false_and,and_self,if_true,if_false,ite_true,ite_false,Bool.not_true,Bool.not_false,Bool.not_eq_true',reduceCtorEq,decide_true,decide_false,frTs,frT,frL_p,spS,ofPT_a,ofPT_g,ofPT_t,flat_i,flat_b,flat_s,flat_l,flat_g,flatp_i,flatp_b,flatp_s,flatp_l,klTs,klT,Bool.and_false,Bool.false_and,frL,frA_p,frA_nil,frA_own,ownT,intT,Bool.or_true,Bool.true_or,Bool.false_eq_true,frL_p,klL_p,ownT_p,O.adds,List.all_cons,List.all_nil,List.any_cons,List.any_nil,ownA,evO.bslRows,List.replicate_succ,List.replicate_zero,List.set_cons_zero,rowsA,over,List.cons_append,List.nil_append,List.append_nil,fillA,Bool.and_self,Bool.and_true,Bool.true_and,Bool.or_self,Bool.or_false,Bool.false_or,Nat.reduceMul,Nat.one_mul,Nat.lt_add_one,klL,Nat.le_refl,ite_self,Nat.reduceBEq]) (by simp only [x_seq,x_reg,x_skip,x_exit,x_ret,x_block,x_if,wpC_t,wpC_f,wpI_cons,wpI_nil,wpX_some,evI_any,evI_rd,evI_ad,evI_g,evG_u,evG_b,evG_tt,evG_ff,evG_tf,evG_ft,evO,evR,ev_t,ev_c,ev_f,putD_some,putD_none,put_at,cellsT,ldCells,mkT,lenA,binPV,add_bs,add_clk,add_ls,put_bs,put_clk,put_ls,kill_bs,kill_clk,kill_ls,empty_clk,empty_bs,Env.init,seqQ_norm,seqQ_exit,seqQ_ret,blkQ_norm,blkQ_exit,blkQ_ret,loopQ_norm,loopQ_exit,loopQ_ret,retP_ret,retP_norm,retE_ret,retE_norm,retS_ret,retS_norm,wpO_some,frA_fn,klA_p,klA_nil,klA_own,resVs,resV,resT,Option.bind_some,Option.bind_none,Option.map_some,List.getD_cons_zero,List.getD_cons_succ,List.getD_nil,List.length_cons,List.length_nil,List.length_map,List.map_cons,List.map_nil,List.drop_zero,List.drop_succ_cons,List.take_succ_cons,List.take_zero,List.drop_nil,List.take_nil,Nat.reduceEqDiff,Nat.reduceAdd,Nat.reduceLeDiff,Nat.zero_add,Nat.add_zero,Prod.mk.injEq,and_true,true_and,and_false,false_and,and_self,if_true,if_false,ite_true,ite_false,Bool.not_true,Bool.not_false,Bool.not_eq_true',reduceCtorEq,decide_true,decide_false,frTs,frT,frL_p,spS,ofPT_a,ofPT_g,ofPT_t,flat_i,flat_b,flat_s,flat_l,flat_g,flatp_i,flatp_b,flatp_s,flatp_l,klTs,klT,Bool.and_false,Bool.false_and,frL,frA_p,frA_nil,frA_own,ownT,intT,Bool.or_true,Bool.true_or,Bool.false_eq_true,frL_p,klL_p,ownT_p,O.adds,List.all_cons,List.all_nil,List.any_cons,List.any_nil,ownA,evO.bslRows,List.replicate_succ,List.replicate_zero,List.set_cons_zero,rowsA,over,List.cons_append,List.nil_append,List.append_nil,fillA,Bool.and_self,Bool.and_true,Bool.true_and,Bool.or_self,Bool.or_false,Bool.false_or,Nat.reduceMul,Nat.one_mul,Nat.lt_add_one,klL,Nat.le_refl,ite_self,Nat.reduceBEq]) (by simp only [x_seq,x_reg,x_skip,x_exit,x_ret,x_block,x_if,wpC_t,wpC_f,wpI_cons,wpI_nil,wpX_some,evI_any,evI_rd,evI_ad,evI_g,evG_u,evG_b,evG_tt,evG_ff,evG_tf,evG_ft,evO,evR,ev_t,ev_c,ev_f,putD_some,putD_none,put_at,cellsT,ldCells,mkT,lenA,binPV,add_bs,add_clk,add_ls,put_bs,put_clk,put_ls,kill_bs,kill_clk,kill_ls,empty_clk,empty_bs,Env.init,seqQ_norm,seqQ_exit,seqQ_ret,blkQ_norm,blkQ_exit,blkQ_ret,loopQ_norm,loopQ_exit,loopQ_ret,retP_ret,retP_norm,retE_ret,retE_norm,retS_ret,retS_norm,wpO_some,frA_fn,klA_p,klA_nil,klA_own,resVs,resV,resT,Option.bind_some,Option.bind_none,Option.map_some,List.getD_cons_zero,List.getD_cons_succ,List.getD_nil,List.length_cons,List.length_nil,List.length_map,List.map_cons,List.map_nil,List.drop_zero,List.drop_succ_cons,List.take_succ_cons,List.take_zero,List.drop_nil,List.take_nil,Nat.reduceEqDiff,Nat.reduceAdd,Nat.reduceLeDiff,Nat.zero_add,Nat.add_zero,Prod.mk.injEq,and_true,true_and,and_false,false_and,and_self,if_true,if_false,ite_true,ite_false,Bool.not_true,Bool.not_false,Bool.not_eq_true',reduceCtorEq,decide_true,decide_false,frTs,frT,frL_p,spS,ofPT_a,ofPT_g,ofPT_t,flat_i,flat_b,flat_s,flat_l,flat_g,flatp_i,flatp_b,flatp_s,flatp_l,klTs,klT,Bool.and_false,Bool.false_and,frL,frA_p,frA_nil,frA_own,ownT,intT,Bool.or_true,Bool.true_or,Bool.false_eq_true,frL_p,klL_p,ownT_p,O.adds,List.all_cons,List.all_nil,List.any_cons,List.any_nil,ownA,evO.bslRows,List.replicate_succ,List.replicate_zero,List.set_cons_zero,rowsA,over,List.cons_append,List.nil_append,List.append_nil,fillA,Bool.and_self,Bool.and_true,Bool.true_and,Bool.or_self,Bool.or_false,Bool.false_or,Nat.reduceMul,Nat.one_mul,Nat.lt_add_one,klL,Nat.le_refl,ite_self,Nat.reduceBEq])
        · simp only [Bool.not_eq_false',Bool.not_eq_true',Bool.not_false,Bool.not_true,decide_eq_true_eq,decide_eq_false_iff_not,Int.natCast_inj] at h3
          rw [if_neg h3]
          simp only [x_seq,x_reg,x_skip,x_exit,x_ret,x_block,x_if,wpC_t,wpC_f,wpI_cons,wpI_nil,wpX_some,evI_any,evI_rd,evI_ad,evI_g,evG_u,evG_b,evG_tt,evG_ff,evG_tf,evG_ft,evO,evR,ev_t,ev_c,ev_f,putD_some,putD_none,put_at,cellsT,ldCells,mkT,lenA,binPV,add_bs,add_clk,add_ls,put_bs,put_clk,put_ls,kill_bs,kill_clk,kill_ls,empty_clk,empty_bs,Env.init,seqQ_norm,seqQ_exit,seqQ_ret,blkQ_norm,blkQ_exit,blkQ_ret,loopQ_norm,loopQ_exit,loopQ_ret,retP_ret,retP_norm,retE_ret,retE_norm,retS_ret,retS_norm,wpO_some,frA_fn,klA_p,klA_nil,klA_own,resVs,resV,resT,Option.bind_some,Option.bind_none,Option.map_some,List.getD_cons_zero,List.getD_cons_succ,List.getD_nil,List.length_cons,List.length_nil,List.length_map,List.map_cons,List.map_nil,List.drop_zero,List.drop_succ_cons,List.take_succ_cons,List.take_zero,List.drop_nil,List.take_nil,Nat.reduceEqDiff,Nat.reduceAdd,Nat.reduceLeDiff,Nat.zero_add,Nat.add_zero,Prod.mk.injEq,and_true,true_and,and_false,false_and,and_self,if_true,if_false,ite_true,ite_false,Bool.not_true,Bool.not_false,Bool.not_eq_true',reduceCtorEq,decide_true,decide_false,frTs,frT,frL_p,spS,ofPT_a,ofPT_g,ofPT_t,flat_i,flat_b,flat_s,flat_l,flat_g,flatp_i,flatp_b,flatp_s,flatp_l,klTs,klT,Bool.and_false,Bool.false_and,frL,frA_p,frA_nil,frA_own,ownT,intT,Bool.or_true,Bool.true_or,Bool.false_eq_true,frL_p,klL_p,ownT_p,O.adds,List.all_cons,List.all_nil,List.any_cons,List.any_nil,ownA,evO.bslRows,List.replicate_succ,List.replicate_zero,List.set_cons_zero,rowsA,over,List.cons_append,List.nil_append,List.append_nil,fillA,Bool.and_self,Bool.and_true,Bool.true_and,Bool.or_self,Bool.or_false,Bool.false_or,Nat.reduceMul,Nat.one_mul,Nat.lt_add_one,klL,Nat.le_refl,ite_self,Nat.reduceBEq]
          refine wpC_split (fun h4 => ?_) (fun h4 => ?_)
          · simp only [Bool.not_eq_false',Bool.not_eq_true',Bool.not_false,Bool.not_true,decide_eq_true_eq,decide_eq_false_iff_not,Int.natCast_inj] at h4
            rw [if_pos h4]
            simp only [x_seq,x_reg,x_skip,x_exit,x_ret,x_block,x_if,wpC_t,wpC_f,wpI_cons,wpI_nil,wpX_some,evI_any,evI_rd,evI_ad,evI_g,evG_u,evG_b,evG_tt,evG_ff,evG_tf,evG_ft,evO,evR,ev_t,ev_c,ev_f,putD_some,putD_none,put_at,cellsT,ldCells,mkT,lenA,binPV,add_bs,add_clk,add_ls,put_bs,put_clk,put_ls,kill_bs,kill_clk,kill_ls,empty_clk,empty_bs,Env.init,seqQ_norm,seqQ_exit,seqQ_ret,blkQ_norm,blkQ_exit,blkQ_ret,loopQ_norm,loopQ_exit,loopQ_ret,retP_ret,retP_norm,retE_ret,retE_norm,retS_ret,retS_norm,wpO_some,frA_fn,klA_p,klA_nil,klA_own,resVs,resV,resT,Option.bind_some,Option.bind_none,Option.map_some,List.getD_cons_zero,List.getD_cons_succ,List.getD_nil,List.length_cons,List.length_nil,List.length_map,List.map_cons,List.map_nil,List.drop_zero,List.drop_succ_cons,List.take_succ_cons,List.take_zero,List.drop_nil,List.take_nil,Nat.reduceEqDiff,Nat.reduceAdd,Nat.reduceLeDiff,Nat.zero_add,Nat.add_zero,Prod.mk.injEq,and_true,true_and,and_false,false_and,and_self,if_true,if_false,ite_true,ite_false,Bool.not_true,Bool.not_false,Bool.not_eq_true',reduceCtorEq,decide_true,decide_false,frTs,frT,frL_p,spS,ofPT_a,ofPT_g,ofPT_t,flat_i,flat_b,flat_s,flat_l,flat_g,flatp_i,flatp_b,flatp_s,flatp_l,klTs,klT,Bool.and_false,Bool.false_and,frL,frA_p,frA_nil,frA_own,ownT,intT,Bool.or_true,Bool.true_or,Bool.false_eq_true,frL_p,klL_p,ownT_p,O.adds,List.all_cons,List.all_nil,List.any_cons,List.any_nil,ownA,evO.bslRows,List.replicate_succ,List.replicate_zero,List.set_cons_zero,rowsA,over,List.cons_append,List.nil_append,List.append_nil,fillA,Bool.and_self,Bool.and_true,Bool.true_and,Bool.or_self,Bool.or_false,Bool.false_or,Nat.reduceMul,Nat.one_mul,Nat.lt_add_one,klL,Nat.le_refl,ite_self,Nat.reduceBEq]
            exact fin _ _ _ (by simp only [x_seq,x_reg,x_skip,x_exit,x_ret,x_block,x_if,wpC_t,wpC_f,wpI_cons,wpI_nil,wpX_some,evI_any,evI_rd,evI_ad,evI_g,evG_u,evG_b,evG_tt,evG_ff,evG_tf,evG_ft,evO,evR,ev_t,ev_c,ev_f,putD_some,putD_none,put_at,cellsT,ldCells,mkT,lenA,binPV,add_bs,add_clk,add_ls,put_bs,put_clk,put_ls,kill_bs,kill_clk,kill_ls,empty_clk,empty_bs,Env.init,seqQ_norm,seqQ_exit,seqQ_ret,blkQ_norm,blkQ_exit,blkQ_ret,loopQ_norm,loopQ_exit,loopQ_ret,retP_ret,retP_norm,retE_ret,retE_norm,retS_ret,retS_norm,wpO_some,frA_fn,klA_p,klA_nil,klA_own,resVs,resV,resT,Option.bind_some,Option.bind_none,Option.map_some,List.getD_cons_zero,List.getD_cons_succ,List.getD_nil,List.length_cons,List.length_nil,List.length_map,List.map_cons,List.map_nil,List.drop_zero,List.drop_succ_cons,List.take_succ_cons,List.take_zero,List.drop_nil,List.take_nil,Nat.reduceEqDiff,Nat.reduceAdd,Nat.reduceLeDiff,Nat.zero_add,Nat.add_zero,Prod.mk.injEq,and_true,true_and,and_false,false_and,and_self,if_true,if_false,ite_true,ite_false,Bool.not_true,Bool.not_false,Bool.not_eq_true',reduceCtorEq,decide_true,decide_false,frTs,frT,frL_p,spS,ofPT_a,ofPT_g,ofPT_t,flat_i,flat_b,flat_s,flat_l,flat_g,flatp_i,flatp_b,flatp_s,flatp_l,klTs,klT,Bool.and_false,Bool.false_and,frL,frA_p,frA_nil,frA_own,ownT,intT,Bool.or_true,Bool.true_or,Bool.false_eq_true,frL_p,klL_p,ownT_p,O.adds,List.all_cons,List.all_nil,List.any_cons,List.any_nil,ownA,evO.bslRows,List.replicate_succ,List.replicate_zero,List.set_cons_zero,rowsA,over,List.cons_append,List.nil_append,List.append_nil,fillA,Bool.and_self,Bool.and_true,Bool.true_and,Bool.or_self,Bool.or_false,Bool.false_or,Nat.reduceMul,Nat.one_mul,Nat.lt_add_one,klL,Nat.le_refl,ite_self,Nat.reduceBEq]) (by simp only [x_seq,x_reg,x_skip,x_exit,x_ret,x_block,x_if,wpC_t,wpC_f,wpI_cons,wpI_nil,wpX_some,evI_any,evI_rd,evI_ad,evI_g,evG_u,evG_b,evG_tt,evG_ff,evG_tf,evG_ft,evO,evR,ev_t,ev_c,ev_f,putD_some,putD_none,put_at,cellsT,ldCells,mkT,lenA,binPV,add_bs,add_clk,add_ls,put_bs,put_clk,put_ls,kill_bs,kill_clk,kill_ls,empty_clk,empty_bs,Env.init,seqQ_norm,seqQ_exit,seqQ_ret,blkQ_norm,blkQ_exit,blkQ_ret,loopQ_norm,loopQ_exit,loopQ_ret,retP_ret,retP_norm,retE_ret,retE_norm,retS_ret,retS_norm,wpO_some,frA_fn,klA_p,klA_nil,klA_own,resVs,resV,resT,Option.bind_some,Option.bind_none,Option.map_some,List.getD_cons_zero,List.getD_cons_succ,List.getD_nil,List.length_cons,List.length_nil,List.length_map,List.map_cons,List.map_nil,List.drop_zero,List.drop_succ_cons,List.take_succ_cons,List.take_zero,List.drop_nil,List.take_nil,Nat.reduceEqDiff,Nat.reduceAdd,Nat.reduceLeDiff,Nat.zero_add,Nat.add_zero,Prod.mk.injEq,and_true,true_and,and_false,false_and,and_self,if_true,if_false,ite_true,ite_false,Bool.not_true,Bool.not_false,Bool.not_eq_true',reduceCtorEq,decide_true,decide_false,frTs,frT,frL_p,spS,ofPT_a,ofPT_g,ofPT_t,flat_i,flat_b,flat_s,flat_l,flat_g,flatp_i,flatp_b,flatp_s,flatp_l,klTs,klT,Bool.and_false,Bool.false_and,frL,frA_p,frA_nil,frA_own,ownT,intT,Bool.or_true,Bool.true_or,Bool.false_eq_true,frL_p,klL_p,ownT_p,O.adds,List.all_cons,List.all_nil,List.any_cons,List.any_nil,ownA,evO.bslRows,List.replicate_succ,List.replicate_zero,List.set_cons_zero,rowsA,over,List.cons_append,List.nil_append,List.append_nil,fillA,Bool.and_self,Bool.and_true,Bool.true_and,Bool.or_self,Bool.or_false,Bool.false_or,Nat.reduceMul,Nat.one_mul,Nat.lt_add_one,klL,Nat.le_refl,ite_self,Nat.reduceBEq]) (by simp only [x_seq,x_reg,x_skip,x_exit,x_ret,x_block,x_if,wpC_t,wpC_f,wpI_cons,wpI_nil,wpX_some,evI_any,evI_rd,evI_ad,evI_g,evG_u,evG_b,evG_tt,evG_ff,evG_tf,evG_ft,evO,evR,ev_t,ev_c,ev_f,putD_some,putD_none,put_at,cellsT,ldCells,mkT,lenA,binPV,add_bs,add_clk,add_ls,put_bs,put_clk,put_ls,kill_bs,kill_clk,kill_ls,empty_clk,empty_bs,Env.init,seqQ_norm,seqQ_exit,seqQ_ret,blkQ_norm,blkQ_exit,blkQ_ret,loopQ_norm,loopQ_exit,loopQ_ret,retP_ret,retP_norm,retE_ret,retE_norm,retS_ret,retS_norm,wpO_some,frA_fn,klA_p,klA_nil,klA_own,resVs,resV,resT,Option.bind_some,Option.bind_none,Option.map_some,List.getD_cons_zero,List.getD_cons_succ,List.getD_nil,List.length_cons,List.length_nil,List.length_map,List.map_cons,List.map_nil,List.drop_zero,List.drop_succ_cons,List.take_succ_cons,List.take_zero,List.drop_nil,List.take_nil,Nat.reduceEqDiff,Nat.reduceAdd,Nat.reduceLeDiff,Nat.zero_add,Nat.add_zero,Prod.mk.injEq,and_true,true_and,and_false,false_and,and_self,if_true,if_false,ite_true,ite_false,Bool.not_true,Bool.not_false,Bool.not_eq_true',reduceCtorEq,decide_true,decide_false,frTs,frT,frL_p,spS,ofPT_a,ofPT_g,ofPT_t,flat_i,flat_b,flat_s,flat_l,flat_g,flatp_i,flatp_b,flatp_s,flatp_l,klTs,klT,Bool.and_false,Bool.false_and,frL,frA_p,frA_nil,frA_own,ownT,intT,Bool.or_true,Bool.true_or,Bool.false_eq_true,frL_p,klL_p,ownT_p,O.adds,List.all_cons,List.all_nil,List.any_cons,List.any_nil,ownA,evO.bslRows,List.replicate_succ,List.replicate_zero,List.set_cons_zero,rowsA,over,List.cons_append,List.nil_append,List.append_nil,fillA,Bool.and_self,Bool.and_true,Bool.true_and,Bool.or_self,Bool.or_false,Bool.false_or,Nat.reduceMul,Nat.one_mul,Nat.lt_add_one,klL,Nat.le_refl,ite_self,Nat.reduceBEq]) (by simp only [x_seq,x_reg,x_skip,x_exit,x_ret,x_block,x_if,wpC_t,wpC_f,wpI_cons,wpI_nil,wpX_some,evI_any,evI_rd,evI_ad,evI_g,evG_u,evG_b,evG_tt,evG_ff,evG_tf,evG_ft,evO,evR,ev_t,ev_c,ev_f,putD_some,putD_none,put_at,cellsT,ldCells,mkT,lenA,binPV,add_bs,add_clk,add_ls,put_bs,put_clk,put_ls,kill_bs,kill_clk,kill_ls,empty_clk,empty_bs,Env.init,seqQ_norm,seqQ_exit,seqQ_ret,blkQ_norm,blkQ_exit,blkQ_ret,loopQ_norm,loopQ_exit,loopQ_ret,retP_ret,retP_norm,retE_ret,retE_norm,retS_ret,retS_norm,wpO_some,frA_fn,klA_p,klA_nil,klA_own,resVs,resV,resT,Option.bind_some,Option.bind_none,Option.map_some,List.getD_cons_zero,List.getD_cons_succ,List.getD_nil,List.length_cons,List.length_nil,List.length_map,List.map_cons,List.map_nil,List.drop_zero,List.drop_succ_cons,List.take_succ_cons,List.take_zero,List.drop_nil,List.take_nil,Nat.reduceEqDiff,Nat.reduceAdd,Nat.reduceLeDiff,Nat.zero_add,Nat.add_zero,Prod.mk.injEq,and_true,true_and,and_false,false_and,and_self,if_true,if_false,ite_true,ite_false,Bool.not_true,Bool.not_false,Bool.not_eq_true',reduceCtorEq,decide_true,decide_false,frTs,frT,frL_p,spS,ofPT_a,ofPT_g,ofPT_t,flat_i,flat_b,flat_s,flat_l,flat_g,flatp_i,flatp_b,flatp_s,flatp_l,klTs,klT,Bool.and_false,Bool.false_and,frL,frA_p,frA_nil,frA_own,ownT,intT,Bool.or_true,Bool.true_or,Bool.false_eq_true,frL_p,klL_p,ownT_p,O.adds,List.all_cons,List.all_nil,List.any_cons,List.any_nil,ownA,evO.bslRows,List.replicate_succ,List.replicate_zero,List.set_cons_zero,rowsA,over,List.cons_append,List.nil_append,List.append_nil,fillA,Bool.and_self,Bool.and_true,Bool.true_and,Bool.or_self,Bool.or_false,Bool.false_or,Nat.reduceMul,Nat.one_mul,Nat.lt_add_one,klL,Nat.le_refl,ite_self,Nat.reduceBEq])
          · simp only [Bool.not_eq_false',Bool.not_eq_true',Bool.not_false,Bool.not_true,decide_eq_true_eq,decide_eq_false_iff_not,Int.natCast_inj] at h4
            rw [if_neg h4]
            simp only [x_seq,x_reg,x_skip,x_exit,x_ret,x_block,x_if,wpC_t,wpC_f,wpI_cons,wpI_nil,wpX_some,evI_any,evI_rd,evI_ad,evI_g,evG_u,evG_b,evG_tt,evG_ff,evG_tf,evG_ft,evO,evR,ev_t,ev_c,ev_f,putD_some,putD_none,put_at,cellsT,ldCells,mkT,lenA,binPV,add_bs,add_clk,add_ls,put_bs,put_clk,put_ls,kill_bs,kill_clk,kill_ls,empty_clk,empty_bs,Env.init,seqQ_norm,seqQ_exit,seqQ_ret,blkQ_norm,blkQ_exit,blkQ_ret,loopQ_norm,loopQ_exit,loopQ_ret,retP_ret,retP_norm,retE_ret,retE_norm,retS_ret,retS_norm,wpO_some,frA_fn,klA_p,klA_nil,klA_own,resVs,resV,resT,Option.bind_some,Option.bind_none,Option.map_some,List.getD_cons_zero,List.getD_cons_succ,List.getD_nil,List.length_cons,List.length_nil,List.length_map,List.map_cons,List.map_nil,List.drop_zero,List.drop_succ_cons,List.take_succ_cons,List.take_zero,List.drop_nil,List.take_nil,Nat.reduceEqDiff,Nat.reduceAdd,Nat.reduceLeDiff,Nat.zero_add,Nat.add_zero,Prod.mk.injEq,and_true,true_and,and_false,false_and,and_self,if_true,if_false,ite_true,ite_false,Bool.not_true,Bool.not_false,Bool.not_eq_true',reduceCtorEq,decide_true,decide_false,frTs,frT,frL_p,spS,ofPT_a,ofPT_g,ofPT_t,flat_i,flat_b,flat_s,flat_l,flat_g,flatp_i,flatp_b,flatp_s,flatp_l,klTs,klT,Bool.and_false,Bool.false_and,frL,frA_p,frA_nil,frA_own,ownT,intT,Bool.or_true,Bool.true_or,Bool.false_eq_true,frL_p,klL_p,ownT_p,O.adds,List.all_cons,List.all_nil,List.any_cons,List.any_nil,ownA,evO.bslRows,List.replicate_succ,List.replicate_zero,List.set_cons_zero,rowsA,over,List.cons_append,List.nil_append,List.append_nil,fillA,Bool.and_self,Bool.and_true,Bool.true_and,Bool.or_self,Bool.or_false,Bool.false_or,Nat.reduceMul,Nat.one_mul,Nat.lt_add_one,klL,Nat.le_refl,ite_self,Nat.reduceBEq]
            exact fin _ _ _ (by simp only [x_seq,x_reg,x_skip,x_exit,x_ret,x_block,x_if,wpC_t,wpC_f,wpI_cons,wpI_nil,wpX_some,evI_any,evI_rd,evI_ad,evI_g,evG_u,evG_b,evG_tt,evG_ff,evG_tf,evG_ft,evO,evR,ev_t,ev_c,ev_f,putD_some,putD_none,put_at,cellsT,ldCells,mkT,lenA,binPV,add_bs,add_clk,add_ls,put_bs,put_clk,put_ls,kill_bs,kill_clk,kill_ls,empty_clk,empty_bs,Env.init,seqQ_norm,seqQ_exit,seqQ_ret,blkQ_norm,blkQ_exit,blkQ_ret,loopQ_norm,loopQ_exit,loopQ_ret,retP_ret,retP_norm,retE_ret,retE_norm,retS_ret,retS_norm,wpO_some,frA_fn,klA_p,klA_nil,klA_own,resVs,resV,resT,Option.bind_some,Option.bind_none,Option.map_some,List.getD_cons_zero,List.getD_cons_succ,List.getD_nil,List.length_cons,List.length_nil,List.length_map,List.map_cons,List.map_nil,List.drop_zero,List.drop_succ_cons,List.take_succ_cons,List.take_zero,List.drop_nil,List.take_nil,Nat.reduceEqDiff,Nat.reduceAdd,Nat.reduceLeDiff,Nat.zero_add,Nat.add_zero,Prod.mk.injEq,and_true,true_and,and_false,false_and,and_self,if_true,if_false,ite_true,ite_false,Bool.not_true,Bool.not_false,Bool.not_eq_true',reduceCtorEq,decide_true,decide_false,frTs,frT,frL_p,spS,ofPT_a,ofPT_g,ofPT_t,flat_i,flat_b,flat_s,flat_l,flat_g,flatp_i,flatp_b,flatp_s,flatp_l,klTs,klT,Bool.and_false,Bool.false_and,frL,frA_p,frA_nil,frA_own,ownT,intT,Bool.or_true,Bool.true_or,Bool.false_eq_true,frL_p,klL_p,ownT_p,O.adds,List.all_cons,List.all_nil,List.any_cons,List.any_nil,ownA,evO.bslRows,List.replicate_succ,List.replicate_zero,List.set_cons_zero,rowsA,over,List.cons_append,List.nil_append,List.append_nil,fillA,Bool.and_self,Bool.and_true,Bool.true_and,Bool.or_self,Bool.or_false,Bool.false_or,Nat.reduceMul,Nat.one_mul,Nat.lt_add_one,klL,Nat.le_refl,ite_self,Nat.reduceBEq]) (by simp only [x_seq,x_reg,x_skip,x_exit,x_ret,x_block,x_if,wpC_t,wpC_f,wpI_cons,wpI_nil,wpX_some,evI_any,evI_rd,evI_ad,evI_g,evG_u,evG_b,evG_tt,evG_ff,evG_tf,evG_ft,evO,evR,ev_t,ev_c,ev_f,putD_some,putD_none,put_at,cellsT,ldCells,mkT,lenA,binPV,add_bs,add_clk,add_ls,put_bs,put_clk,put_ls,kill_bs,kill_clk,kill_ls,empty_clk,empty_bs,Env.init,seqQ_norm,seqQ_exit,seqQ_ret,blkQ_norm,blkQ_exit,blkQ_ret,loopQ_norm,loopQ_exit,loopQ_ret,retP_ret,retP_norm,retE_ret,retE_norm,retS_ret,retS_norm,wpO_some,frA_fn,klA_p,klA_nil,klA_own,resVs,resV,resT,Option.bind_some,Option.bind_none,Option.map_some,List.getD_cons_zero,List.getD_cons_succ,List.getD_nil,List.length_cons,List.length_nil,List.length_map,List.map_cons,List.map_nil,List.drop_zero,List.drop_succ_cons,List.take_succ_cons,List.take_zero,List.drop_nil,List.take_nil,Nat.reduceEqDiff,Nat.reduceAdd,Nat.reduceLeDiff,Nat.zero_add,Nat.add_zero,Prod.mk.injEq,and_true,true_and,and_false,false_and,and_self,if_true,if_false,ite_true,ite_false,Bool.not_true,Bool.not_false,Bool.not_eq_true',reduceCtorEq,decide_true,decide_false,frTs,frT,frL_p,spS,ofPT_a,ofPT_g,ofPT_t,flat_i,flat_b,flat_s,flat_l,flat_g,flatp_i,flatp_b,flatp_s,flatp_l,klTs,klT,Bool.and_false,Bool.false_and,frL,frA_p,frA_nil,frA_own,ownT,intT,Bool.or_true,Bool.true_or,Bool.false_eq_true,frL_p,klL_p,ownT_p,O.adds,List.all_cons,List.all_nil,List.any_cons,List.any_nil,ownA,evO.bslRows,List.replicate_succ,List.replicate_zero,List.set_cons_zero,rowsA,over,List.cons_append,List.nil_append,List.append_nil,fillA,Bool.and_self,Bool.and_true,Bool.true_and,Bool.or_self,Bool.or_false,Bool.false_or,Nat.reduceMul,Nat.one_mul,Nat.lt_add_one,klL,Nat.le_refl,ite_self,Nat.reduceBEq]) (by simp only [x_seq,x_reg,x_skip,x_exit,x_ret,x_block,x_if,wpC_t,wpC_f,wpI_cons,wpI_nil,wpX_some,evI_any,evI_rd,evI_ad,evI_g,evG_u,evG_b,evG_tt,evG_ff,evG_tf,evG_ft,evO,evR,ev_t,ev_c,ev_f,putD_some,putD_none,put_at,cellsT,ldCells,mkT,lenA,binPV,add_bs,add_clk,add_ls,put_bs,put_clk,put_ls,kill_bs,kill_clk,kill_ls,empty_clk,empty_bs,Env.init,seqQ_norm,seqQ_exit,seqQ_ret,blkQ_norm,blkQ_exit,blkQ_ret,loopQ_norm,loopQ_exit,loopQ_ret,retP_ret,retP_norm,retE_ret,retE_norm,retS_ret,retS_norm,wpO_some,frA_fn,klA_p,klA_nil,klA_own,resVs,resV,resT,Option.bind_some,Option.bind_none,Option.map_some,List.getD_cons_zero,List.getD_cons_succ,List.getD_nil,List.length_cons,List.length_nil,List.length_map,List.map_cons,List.map_nil,List.drop_zero,List.drop_succ_cons,List.take_succ_cons,List.take_zero,List.drop_nil,List.take_nil,Nat.reduceEqDiff,Nat.reduceAdd,Nat.reduceLeDiff,Nat.zero_add,Nat.add_zero,Prod.mk.injEq,and_true,true_and,and_false,false_and,and_self,if_true,if_false,ite_true,ite_false,Bool.not_true,Bool.not_false,Bool.not_eq_true',reduceCtorEq,decide_true,decide_false,frTs,frT,frL_p,spS,ofPT_a,ofPT_g,ofPT_t,flat_i,flat_b,flat_s,flat_l,flat_g,flatp_i,flatp_b,flatp_s,flatp_l,klTs,klT,Bool.and_false,Bool.false_and,frL,frA_p,frA_nil,frA_own,ownT,intT,Bool.or_true,Bool.true_or,Bool.false_eq_true,frL_p,klL_p,ownT_p,O.adds,List.all_cons,List.all_nil,List.any_cons,List.any_nil,ownA,evO.bslRows,List.replicate_succ,List.replicate_zero,List.set_cons_zero,rowsA,over,List.cons_append,List.nil_append,List.append_nil,fillA,Bool.and_self,Bool.and_true,Bool.true_and,Bool.or_self,Bool.or_false,Bool.false_or,Nat.reduceMul,Nat.one_mul,Nat.lt_add_one,klL,Nat.le_refl,ite_self,Nat.reduceBEq]) (by simp only [x_seq,x_reg,x_skip,x_exit,x_ret,x_block,x_if,wpC_t,wpC_f,wpI_cons,wpI_nil,wpX_some,evI_any,evI_rd,evI_ad,evI_g,evG_u,evG_b,evG_tt,evG_ff,evG_tf,evG_ft,evO,evR,ev_t,ev_c,ev_f,putD_some,putD_none,put_at,cellsT,ldCells,mkT,lenA,binPV,add_bs,add_clk,add_ls,put_bs,put_clk,put_ls,kill_bs,kill_clk,kill_ls,empty_clk,empty_bs,Env.init,seqQ_norm,seqQ_exit,seqQ_ret,blkQ_norm,blkQ_exit,blkQ_ret,loopQ_norm,loopQ_exit,loopQ_ret,retP_ret,retP_norm,retE_ret,retE_norm,retS_ret,retS_norm,wpO_some,frA_fn,klA_p,klA_nil,klA_own,resVs,resV,resT,Option.bind_some,Option.bind_none,Option.map_some,List.getD_cons_zero,List.getD_cons_succ,List.getD_nil,List.length_cons,List.length_nil,List.length_map,List.map_cons,List.map_nil,List.drop_zero,List.drop_succ_cons,List.take_succ_cons,List.take_zero,List.drop_nil,List.take_nil,Nat.reduceEqDiff,Nat.reduceAdd,Nat.reduceLeDiff,Nat.zero_add,Nat.add_zero,Prod.mk.injEq,and_true,true_and,and_false,false_and,and_self,if_true,if_false,ite_true,ite_false,Bool.not_true,Bool.not_false,Bool.not_eq_true',reduceCtorEq,decide_true,decide_false,frTs,frT,frL_p,spS,ofPT_a,ofPT_g,ofPT_t,flat_i,flat_b,flat_s,flat_l,flat_g,flatp_i,flatp_b,flatp_s,flatp_l,klTs,klT,Bool.and_false,Bool.false_and,frL,frA_p,frA_nil,frA_own,ownT,intT,Bool.or_true,Bool.true_or,Bool.false_eq_true,frL_p,klL_p,ownT_p,O.adds,List.all_cons,List.all_nil,List.any_cons,List.any_nil,ownA,evO.bslRows,List.replicate_succ,List.replicate_zero,List.set_cons_zero,rowsA,over,List.cons_append,List.nil_append,List.append_nil,fillA,Bool.and_self,Bool.and_true,Bool.true_and,Bool.or_self,Bool.or_false,Bool.false_or,Nat.reduceMul,Nat.one_mul,Nat.lt_add_one,klL,Nat.le_refl,ite_self,Nat.reduceBEq])
    · simp only [Bool.not_eq_false',Bool.not_eq_true',Bool.not_false,Bool.not_true,decide_eq_true_eq,decide_eq_false_iff_not,Int.natCast_inj] at h1
      rw [if_pos h1]
end Go.Proofs.Ytlgekplmbmkcmaa
end
section
set_option linter.unusedSimpArgs false
set_option linter.unusedVariables false
namespace Go.Proofs.Ytlgekplmbmkcmaa
open Go.Fx
mutual
def inst (ts : List T) : T → Int → T
  | .mk k n s l,b => if k = 1 then (if n < b then .mk k n s l else if n < b + ts.length then up b 0 (ts.getD (ts.length - 1 - (n - b)).toNat (.mk 0 0 [] [])) else .mk k (n - ts.length) s l) else .mk k n s (instL ts l (b + T.more (.mk k n s l)))
def instL (ts : List T) : List T → Int → List T
  | [],_ => []
  | t :: r,b => inst ts t b :: instL ts r b
end
theorem instL_map (ts : List T) (l : List T) (b : Int) : instL ts l b = l.map fun t => inst ts t b := by
  induction l with
  | nil => rfl
  | cons t l ih => simp [instL,ih]
mutual
def dep : T → Nat
  | .mk _ _ _ l => depL l + 1
def depL : List T → Nat
  | [] => 0
  | t :: r => max (dep t) (depL r)
end
theorem depL_mem {l : List T} {t : T} (h : t ∈ l) : dep t ≤ depL l := by
  induction l with
  | nil => simp at h
  | cons x l ih =>
    simp only [depL]
    rcases List.mem_cons.1 h with rfl | h
    · omega
    · have := ih h; omega
theorem tame_mem {l : List T} {t : T} (hl : tameL l = true) (h : t ∈ l) : tame t = true := by
  induction l with
  | nil => simp at h
  | cons x l ih =>
    simp only [tameL,Bool.and_eq_true] at hl
    rcases List.mem_cons.1 h with rfl | h
    · exact hl.1
    · exact ih hl.2 h
theorem loop59 (t : T) (ts : List T) (b : Int) (hl : t.l.length * 56 ≤ reachBytes) (hmb : -1099511627776 ≤ t.more ∧ t.more ≤ 1099511627776) (D : Nat) (hb : -1099511627776 * (1000 - (D + 1 : Nat)) ≤ b ∧ b ≤ 1099511627776 * (1000 - (D + 1 : Nat))) (hD : D + 1 ≤ 1000)
    (ih : ∀ v,v ∈ t.l → ∀ b : Int,-1099511627776 * (1000 - (D : Nat)) ≤ b ∧ b ≤ 1099511627776 * (1000 - (D : Nat)) → eP S 59 [.g (enc v),.a (.l (ts.map enc)),.a (.i .i64 b)] = some (.g (enc (inst ts v b)))) (Q : Ex → Env → St → Prop)
    (hQ : ∀ e' σ' X,σ'.bs (7,2) = some (.var [.p (.i .i64 t.k),.p (.i .i64 t.n),.p (.s t.s),X]) → frA σ' X = some (.l ((t.l.map fun v => inst ts v (b + t.more)).map enc)) → σ'.bs (6,1) = some (.var [.p (.i .i64 0),.p (.i .i64 0),.p (.s []),.nil]) → 3 ≤ σ'.clk →
      e' 6 = .a (.ptr (6,1) 0 0) → e' 7 = .a (.ptr (7,2) 0 0) → Q (.exit 0) e' σ') :
    ∀ n i e (σ : St) X,i + n = t.l.length → e 1 = .a (.p (.l (ts.map enc))) → e 2 = .a (.p (.i .i64 b)) → e 3 = .a (.ptr (3,0) 0 0) → e 6 = .a (.ptr (6,1) 0 0) → e 7 = .a (.ptr (7,2) 0 0) → e 8 = .a (.p (.i .i64 (i : Nat))) → 3 ≤ σ.clk →
      σ.bs (3,0) = some (.var [.p (.i .i64 t.k),.p (.i .i64 t.n),.p (.s t.s),.p (.l (t.l.map enc))]) → σ.bs (6,1) = some (.var [.p (.i .i64 0),.p (.i .i64 0),.p (.s []),.nil]) →
      σ.bs (7,2) = some (.var [.p (.i .i64 t.k),.p (.i .i64 t.n),.p (.s t.s),X]) →
      ((i = 0 ∧ X = .nil) ∨ ∃ c,X = .own (72,c) 0 i ∧ c < σ.clk ∧ σ.bs (72,c) = some (.row 4 24 (((t.l.take i).map fun v => inst ts v (b + t.more)).map enc))) → wp S false (.loop F59b0) e σ Q := by
  intro n
  induction n with
  | zero =>
    intro i e σ X hi e1 e2 e3 e6 e7 e8 hc h3 h6 h7 hX
    have hlt : ¬ ((i : Int) < (t.l.length : Int)) := by omega
    rw [x_loop,F59b0]
    simp only [e1,e2,e3,e6,e7,e8,h3,hlt,x_seq,x_reg,x_skip,x_exit,x_ret,x_block,x_if,wpC_t,wpC_f,wpI_cons,wpI_nil,wpX_some,evI_any,evI_rd,evI_ad,evI_g,evG_u,evG_b,evG_tt,evG_ff,evG_tf,evG_ft,evO,evR,ev_t,ev_c,ev_f,putD_some,putD_none,put_at,cellsT,ldCells,mkT,lenA,binPV,add_bs,add_clk,add_ls,put_bs,put_clk,put_ls,kill_bs,kill_clk,kill_ls,empty_clk,empty_bs,Env.init,seqQ_norm,seqQ_exit,seqQ_ret,blkQ_norm,blkQ_exit,blkQ_ret,loopQ_norm,loopQ_exit,loopQ_ret,retP_ret,retP_norm,retE_ret,retE_norm,retS_ret,retS_norm,wpO_some,frA_fn,klA_p,klA_nil,klA_own,resVs,resV,resT,Option.bind_some,Option.bind_none,Option.map_some,List.getD_cons_zero,List.getD_cons_succ,List.getD_nil,List.length_cons,List.length_nil,List.length_map,List.map_cons,List.map_nil,List.drop_zero,List.drop_succ_cons,List.take_succ_cons,List.take_zero,List.drop_nil,List.take_nil,Nat.reduceEqDiff,Nat.reduceAdd,Nat.reduceLeDiff,Nat.zero_add,Nat.add_zero,Prod.mk.injEq,and_true,true_and,and_false,false_and,and_self,if_true,if_false,ite_true,ite_false,Bool.not_true,Bool.not_false,Bool.not_eq_true',reduceCtorEq,decide_true,decide_false,frTs,frT,frL_p,spS,ofPT_a,ofPT_g,ofPT_t,flat_i,flat_b,flat_s,flat_l,flat_g,flatp_i,flatp_b,flatp_s,flatp_l,klTs,klT,Bool.and_false,Bool.false_and,frL,frA_p,frA_nil,frA_own,ownT,intT,Bool.or_true,Bool.true_or,Bool.false_eq_true,frL_p,klL_p,ownT_p,O.adds,List.all_cons,List.all_nil,List.any_cons,List.any_nil,ownA,evO.bslRows,List.replicate_succ,List.replicate_zero,List.set_cons_zero,rowsA,over,List.cons_append,List.nil_append,List.append_nil,fillA,Bool.and_self,Bool.and_true,Bool.true_and,Bool.or_self,Bool.or_false,Bool.false_or,Nat.reduceMul,Nat.one_mul,Nat.lt_add_one,klL,Nat.le_refl,ite_self,Nat.reduceBEq]
    refine hQ _ σ X h7 ?_ h6 hc ?_ ?_
    · rcases hX with ⟨rfl,rfl⟩ | ⟨c,rfl,hcl,hrow⟩
      · have : t.l = [] := List.eq_nil_of_length_eq_zero (by omega)
        simp [frA,this]
      · have : i = t.l.length := by omega
        subst this
        simp only [List.take_length] at hrow
        simp only [frA,hrow]
        simp [List.take_of_length_le]
    · simp only [e6,x_seq,x_reg,x_skip,x_exit,x_ret,x_block,x_if,wpC_t,wpC_f,wpI_cons,wpI_nil,wpX_some,evI_any,evI_rd,evI_ad,evI_g,evG_u,evG_b,evG_tt,evG_ff,evG_tf,evG_ft,evO,evR,ev_t,ev_c,ev_f,putD_some,putD_none,put_at,cellsT,ldCells,mkT,lenA,binPV,add_bs,add_clk,add_ls,put_bs,put_clk,put_ls,kill_bs,kill_clk,kill_ls,empty_clk,empty_bs,Env.init,seqQ_norm,seqQ_exit,seqQ_ret,blkQ_norm,blkQ_exit,blkQ_ret,loopQ_norm,loopQ_exit,loopQ_ret,retP_ret,retP_norm,retE_ret,retE_norm,retS_ret,retS_norm,wpO_some,frA_fn,klA_p,klA_nil,klA_own,resVs,resV,resT,Option.bind_some,Option.bind_none,Option.map_some,List.getD_cons_zero,List.getD_cons_succ,List.getD_nil,List.length_cons,List.length_nil,List.length_map,List.map_cons,List.map_nil,List.drop_zero,List.drop_succ_cons,List.take_succ_cons,List.take_zero,List.drop_nil,List.take_nil,Nat.reduceEqDiff,Nat.reduceAdd,Nat.reduceLeDiff,Nat.zero_add,Nat.add_zero,Prod.mk.injEq,and_true,true_and,and_false,false_and,and_self,if_true,if_false,ite_true,ite_false,Bool.not_true,Bool.not_false,Bool.not_eq_true',reduceCtorEq,decide_true,decide_false,frTs,frT,frL_p,spS,ofPT_a,ofPT_g,ofPT_t,flat_i,flat_b,flat_s,flat_l,flat_g,flatp_i,flatp_b,flatp_s,flatp_l,klTs,klT,Bool.and_false,Bool.false_and,frL,frA_p,frA_nil,frA_own,ownT,intT,Bool.or_true,Bool.true_or,Bool.false_eq_true,frL_p,klL_p,ownT_p,O.adds,List.all_cons,List.all_nil,List.any_cons,List.any_nil,ownA,evO.bslRows,List.replicate_succ,List.replicate_zero,List.set_cons_zero,rowsA,over,List.cons_append,List.nil_append,List.append_nil,fillA,Bool.and_self,Bool.and_true,Bool.true_and,Bool.or_self,Bool.or_false,Bool.false_or,Nat.reduceMul,Nat.one_mul,Nat.lt_add_one,klL,Nat.le_refl,ite_self,Nat.reduceBEq]
    · simp only [e7,x_seq,x_reg,x_skip,x_exit,x_ret,x_block,x_if,wpC_t,wpC_f,wpI_cons,wpI_nil,wpX_some,evI_any,evI_rd,evI_ad,evI_g,evG_u,evG_b,evG_tt,evG_ff,evG_tf,evG_ft,evO,evR,ev_t,ev_c,ev_f,putD_some,putD_none,put_at,cellsT,ldCells,mkT,lenA,binPV,add_bs,add_clk,add_ls,put_bs,put_clk,put_ls,kill_bs,kill_clk,kill_ls,empty_clk,empty_bs,Env.init,seqQ_norm,seqQ_exit,seqQ_ret,blkQ_norm,blkQ_exit,blkQ_ret,loopQ_norm,loopQ_exit,loopQ_ret,retP_ret,retP_norm,retE_ret,retE_norm,retS_ret,retS_norm,wpO_some,frA_fn,klA_p,klA_nil,klA_own,resVs,resV,resT,Option.bind_some,Option.bind_none,Option.map_some,List.getD_cons_zero,List.getD_cons_succ,List.getD_nil,List.length_cons,List.length_nil,List.length_map,List.map_cons,List.map_nil,List.drop_zero,List.drop_succ_cons,List.take_succ_cons,List.take_zero,List.drop_nil,List.take_nil,Nat.reduceEqDiff,Nat.reduceAdd,Nat.reduceLeDiff,Nat.zero_add,Nat.add_zero,Prod.mk.injEq,and_true,true_and,and_false,false_and,and_self,if_true,if_false,ite_true,ite_false,Bool.not_true,Bool.not_false,Bool.not_eq_true',reduceCtorEq,decide_true,decide_false,frTs,frT,frL_p,spS,ofPT_a,ofPT_g,ofPT_t,flat_i,flat_b,flat_s,flat_l,flat_g,flatp_i,flatp_b,flatp_s,flatp_l,klTs,klT,Bool.and_false,Bool.false_and,frL,frA_p,frA_nil,frA_own,ownT,intT,Bool.or_true,Bool.true_or,Bool.false_eq_true,frL_p,klL_p,ownT_p,O.adds,List.all_cons,List.all_nil,List.any_cons,List.any_nil,ownA,evO.bslRows,List.replicate_succ,List.replicate_zero,List.set_cons_zero,rowsA,over,List.cons_append,List.nil_append,List.append_nil,fillA,Bool.and_self,Bool.and_true,Bool.true_and,Bool.or_self,Bool.or_false,Bool.false_or,Nat.reduceMul,Nat.one_mul,Nat.lt_add_one,klL,Nat.le_refl,ite_self,Nat.reduceBEq]
  | succ n ihn =>
    intro i e σ X hi e1 e2 e3 e6 e7 e8 hc h3 h6 h7 hX
    have hlt : ((i : Int) < (t.l.length : Int)) := by omega
    have h0 : (0 : Int) ≤ (i : Int) := by omega
    obtain ⟨x,hx⟩ : ∃ x,t.l[i]? = some x := ⟨_,List.getElem?_eq_getElem (by omega)⟩
    have hx' : (t.l.map enc)[i]? = some (enc x) := by simp [hx]
    have het : [PV.i IntKind.i64 t.k,PV.i IntKind.i64 t.n,PV.s t.s,PV.l (t.l.map enc)] = enc t := (enc_eq t).symm
    have hm := more_ok t
    have hwb : IntKind.i64.wrap (b + t.more) = b + t.more := w_id _ (by omega)
    have hu := ih x (List.mem_of_getElem? hx) (b + t.more) (by omega)
    have hbs : (i + 1) * 56 ≤ 140737488355328 := by simp only [reachBytes] at hl; omega
    have hlb : i < 9223372036854775807 := by simp only [reachBytes] at hl; omega
    rw [x_loop,F59b0]
    rcases hX with ⟨rfl,rfl⟩ | ⟨c,rfl,hcl,hrow⟩
    · simp only [e1,e2,e3,e6,e7,e8,h3,h6,h7,hlt,h0,Int.toNat_natCast,hx',enc_len,enc_all,enc_take,enc_takep,het,hm,hwb,hu,Nat.reduceLeDiff,x_seq,x_reg,x_skip,x_exit,x_ret,x_block,x_if,wpC_t,wpC_f,wpI_cons,wpI_nil,wpX_some,evI_any,evI_rd,evI_ad,evI_g,evG_u,evG_b,evG_tt,evG_ff,evG_tf,evG_ft,evO,evR,ev_t,ev_c,ev_f,putD_some,putD_none,put_at,cellsT,ldCells,mkT,lenA,binPV,add_bs,add_clk,add_ls,put_bs,put_clk,put_ls,kill_bs,kill_clk,kill_ls,empty_clk,empty_bs,Env.init,seqQ_norm,seqQ_exit,seqQ_ret,blkQ_norm,blkQ_exit,blkQ_ret,loopQ_norm,loopQ_exit,loopQ_ret,retP_ret,retP_norm,retE_ret,retE_norm,retS_ret,retS_norm,wpO_some,frA_fn,klA_p,klA_nil,klA_own,resVs,resV,resT,Option.bind_some,Option.bind_none,Option.map_some,List.getD_cons_zero,List.getD_cons_succ,List.getD_nil,List.length_cons,List.length_nil,List.length_map,List.map_cons,List.map_nil,List.drop_zero,List.drop_succ_cons,List.take_succ_cons,List.take_zero,List.drop_nil,List.take_nil,Nat.reduceEqDiff,Nat.reduceAdd,Nat.reduceLeDiff,Nat.zero_add,Nat.add_zero,Prod.mk.injEq,and_true,true_and,and_false,false_and,and_self,if_true,if_false,ite_true,ite_false,Bool.not_true,Bool.not_false,Bool.not_eq_true',reduceCtorEq,decide_true,decide_false,frTs,frT,frL_p,spS,ofPT_a,ofPT_g,ofPT_t,flat_i,flat_b,flat_s,flat_l,flat_g,flatp_i,flatp_b,flatp_s,flatp_l,klTs,klT,Bool.and_false,Bool.false_and,frL,frA_p,frA_nil,frA_own,ownT,intT,Bool.or_true,Bool.true_or,Bool.false_eq_true,frL_p,klL_p,ownT_p,O.adds,List.all_cons,List.all_nil,List.any_cons,List.any_nil,ownA,evO.bslRows,List.replicate_succ,List.replicate_zero,List.set_cons_zero,rowsA,over,List.cons_append,List.nil_append,List.append_nil,fillA,Bool.and_self,Bool.and_true,Bool.true_and,Bool.or_self,Bool.or_false,Bool.false_or,Nat.reduceMul,Nat.one_mul,Nat.lt_add_one,klL,Nat.le_refl,ite_self,Nat.reduceBEq]
      refine ihn 1 _ _ (.own (72,σ.clk + 1) 0 1) (by omega) ?_ ?_ ?_ ?_ ?_ ?_ ?_ ?_ ?_ ?_ (.inr ⟨σ.clk + 1,rfl,?_,?_⟩)
      all_goals try simp only [e1,e2,e3,e6,e7,e8,h3,h6,h7,x_seq,x_reg,x_skip,x_exit,x_ret,x_block,x_if,wpC_t,wpC_f,wpI_cons,wpI_nil,wpX_some,evI_any,evI_rd,evI_ad,evI_g,evG_u,evG_b,evG_tt,evG_ff,evG_tf,evG_ft,evO,evR,ev_t,ev_c,ev_f,putD_some,putD_none,put_at,cellsT,ldCells,mkT,lenA,binPV,add_bs,add_clk,add_ls,put_bs,put_clk,put_ls,kill_bs,kill_clk,kill_ls,empty_clk,empty_bs,Env.init,seqQ_norm,seqQ_exit,seqQ_ret,blkQ_norm,blkQ_exit,blkQ_ret,loopQ_norm,loopQ_exit,loopQ_ret,retP_ret,retP_norm,retE_ret,retE_norm,retS_ret,retS_norm,wpO_some,frA_fn,klA_p,klA_nil,klA_own,resVs,resV,resT,Option.bind_some,Option.bind_none,Option.map_some,List.getD_cons_zero,List.getD_cons_succ,List.getD_nil,List.length_cons,List.length_nil,List.length_map,List.map_cons,List.map_nil,List.drop_zero,List.drop_succ_cons,List.take_succ_cons,List.take_zero,List.drop_nil,List.take_nil,Nat.reduceEqDiff,Nat.reduceAdd,Nat.reduceLeDiff,Nat.zero_add,Nat.add_zero,Prod.mk.injEq,and_true,true_and,and_false,false_and,and_self,if_true,if_false,ite_true,ite_false,Bool.not_true,Bool.not_false,Bool.not_eq_true',reduceCtorEq,decide_true,decide_false,frTs,frT,frL_p,spS,ofPT_a,ofPT_g,ofPT_t,flat_i,flat_b,flat_s,flat_l,flat_g,flatp_i,flatp_b,flatp_s,flatp_l,klTs,klT,Bool.and_false,Bool.false_and,frL,frA_p,frA_nil,frA_own,ownT,intT,Bool.or_true,Bool.true_or,Bool.false_eq_true,frL_p,klL_p,ownT_p,O.adds,List.all_cons,List.all_nil,List.any_cons,List.any_nil,ownA,evO.bslRows,List.replicate_succ,List.replicate_zero,List.set_cons_zero,rowsA,over,List.cons_append,List.nil_append,List.append_nil,fillA,Bool.and_self,Bool.and_true,Bool.true_and,Bool.or_self,Bool.or_false,Bool.false_or,Nat.reduceMul,Nat.one_mul,Nat.lt_add_one,klL,Nat.le_refl,ite_self,Nat.reduceBEq]
      · exact congrArg (fun z => TV.a (AV.p (PV.i .i64 z))) (wrap_succ 0 (by omega))
      · omega
      · simp [List.take_add_one,hx]
    · have hmin : (List.take i t.l).length = i := by simp; omega
      have htk : List.take i (((t.l.take i).map fun v => inst ts v (b + t.more)).map enc) = ((t.l.take i).map fun v => inst ts v (b + t.more)).map enc := List.take_of_length_le (by simp; omega)
      have hne : ¬ c = σ.clk := by omega
      have hne1 : ¬ c = σ.clk + 1 := by omega
      simp only [e1,e2,e3,e6,e7,e8,h3,h6,h7,hrow,hlt,h0,Int.toNat_natCast,hx',enc_len,enc_all,enc_take,enc_takep,het,hm,hwb,hu,hmin,htk,hbs,hne,hne1,Nat.reduceLeDiff,x_seq,x_reg,x_skip,x_exit,x_ret,x_block,x_if,wpC_t,wpC_f,wpI_cons,wpI_nil,wpX_some,evI_any,evI_rd,evI_ad,evI_g,evG_u,evG_b,evG_tt,evG_ff,evG_tf,evG_ft,evO,evR,ev_t,ev_c,ev_f,putD_some,putD_none,put_at,cellsT,ldCells,mkT,lenA,binPV,add_bs,add_clk,add_ls,put_bs,put_clk,put_ls,kill_bs,kill_clk,kill_ls,empty_clk,empty_bs,Env.init,seqQ_norm,seqQ_exit,seqQ_ret,blkQ_norm,blkQ_exit,blkQ_ret,loopQ_norm,loopQ_exit,loopQ_ret,retP_ret,retP_norm,retE_ret,retE_norm,retS_ret,retS_norm,wpO_some,frA_fn,klA_p,klA_nil,klA_own,resVs,resV,resT,Option.bind_some,Option.bind_none,Option.map_some,List.getD_cons_zero,List.getD_cons_succ,List.getD_nil,List.length_cons,List.length_nil,List.length_map,List.map_cons,List.map_nil,List.drop_zero,List.drop_succ_cons,List.take_succ_cons,List.take_zero,List.drop_nil,List.take_nil,Nat.reduceEqDiff,Nat.reduceAdd,Nat.reduceLeDiff,Nat.zero_add,Nat.add_zero,Prod.mk.injEq,and_true,true_and,and_false,false_and,and_self,if_true,if_false,ite_true,ite_false,Bool.not_true,Bool.not_false,Bool.not_eq_true',reduceCtorEq,decide_true,decide_false,frTs,frT,frL_p,spS,ofPT_a,ofPT_g,ofPT_t,flat_i,flat_b,flat_s,flat_l,flat_g,flatp_i,flatp_b,flatp_s,flatp_l,klTs,klT,Bool.and_false,Bool.false_and,frL,frA_p,frA_nil,frA_own,ownT,intT,Bool.or_true,Bool.true_or,Bool.false_eq_true,frL_p,klL_p,ownT_p,O.adds,List.all_cons,List.all_nil,List.any_cons,List.any_nil,ownA,evO.bslRows,List.replicate_succ,List.replicate_zero,List.set_cons_zero,rowsA,over,List.cons_append,List.nil_append,List.append_nil,fillA,Bool.and_self,Bool.and_true,Bool.true_and,Bool.or_self,Bool.or_false,Bool.false_or,Nat.reduceMul,Nat.one_mul,Nat.lt_add_one,klL,Nat.le_refl,ite_self,Nat.reduceBEq]
      refine ihn (i + 1) _ _ (.own (72,σ.clk + 1) 0 (i + 1)) (by omega) ?_ ?_ ?_ ?_ ?_ ?_ ?_ ?_ ?_ ?_ (.inr ⟨σ.clk + 1,rfl,?_,?_⟩)
      all_goals try simp only [e1,e2,e3,e6,e7,e8,h3,h6,h7,x_seq,x_reg,x_skip,x_exit,x_ret,x_block,x_if,wpC_t,wpC_f,wpI_cons,wpI_nil,wpX_some,evI_any,evI_rd,evI_ad,evI_g,evG_u,evG_b,evG_tt,evG_ff,evG_tf,evG_ft,evO,evR,ev_t,ev_c,ev_f,putD_some,putD_none,put_at,cellsT,ldCells,mkT,lenA,binPV,add_bs,add_clk,add_ls,put_bs,put_clk,put_ls,kill_bs,kill_clk,kill_ls,empty_clk,empty_bs,Env.init,seqQ_norm,seqQ_exit,seqQ_ret,blkQ_norm,blkQ_exit,blkQ_ret,loopQ_norm,loopQ_exit,loopQ_ret,retP_ret,retP_norm,retE_ret,retE_norm,retS_ret,retS_norm,wpO_some,frA_fn,klA_p,klA_nil,klA_own,resVs,resV,resT,Option.bind_some,Option.bind_none,Option.map_some,List.getD_cons_zero,List.getD_cons_succ,List.getD_nil,List.length_cons,List.length_nil,List.length_map,List.map_cons,List.map_nil,List.drop_zero,List.drop_succ_cons,List.take_succ_cons,List.take_zero,List.drop_nil,List.take_nil,Nat.reduceEqDiff,Nat.reduceAdd,Nat.reduceLeDiff,Nat.zero_add,Nat.add_zero,Prod.mk.injEq,and_true,true_and,and_false,false_and,and_self,if_true,if_false,ite_true,ite_false,Bool.not_true,Bool.not_false,Bool.not_eq_true',reduceCtorEq,decide_true,decide_false,frTs,frT,frL_p,spS,ofPT_a,ofPT_g,ofPT_t,flat_i,flat_b,flat_s,flat_l,flat_g,flatp_i,flatp_b,flatp_s,flatp_l,klTs,klT,Bool.and_false,Bool.false_and,frL,frA_p,frA_nil,frA_own,ownT,intT,Bool.or_true,Bool.true_or,Bool.false_eq_true,frL_p,klL_p,ownT_p,O.adds,List.all_cons,List.all_nil,List.any_cons,List.any_nil,ownA,evO.bslRows,List.replicate_succ,List.replicate_zero,List.set_cons_zero,rowsA,over,List.cons_append,List.nil_append,List.append_nil,fillA,Bool.and_self,Bool.and_true,Bool.true_and,Bool.or_self,Bool.or_false,Bool.false_or,Nat.reduceMul,Nat.one_mul,Nat.lt_add_one,klL,Nat.le_refl,ite_self,Nat.reduceBEq]
      · exact congrArg (fun z => TV.a (AV.p (PV.i .i64 z))) (wrap_succ i hlb)
      · omega
      · simp [List.take_add_one,hx]
theorem tame_more {k n : Int} {s : List UInt8} {l : List T} (h : tame (.mk k n s l) = true) : (-1099511627776 ≤ T.more (.mk k n s l) ∧ T.more (.mk k n s l) ≤ 1099511627776) ∧ tameL l = true ∧ (k = 1 → (-1099511627776 ≤ n ∧ n ≤ 1099511627776) ∧ l = []) := by
  have e0 : tame (.mk k n s l) = if (k ≠ 7 ∧ (n > 1099511627776 ∨ n < -1099511627776)) ∨ (k = 1 ∧ 0 < l.length) then false else tameL l := rfl
  rw [e0] at h
  split at h
  · cases h
  · rename_i hn
    refine ⟨?_,h,fun hk => ⟨by omega,List.eq_nil_of_length_eq_zero (by omega)⟩⟩
    show -1099511627776 ≤ (if k = 2 then 1 else if k = 6 then n else 0) ∧ (if k = 2 then 1 else if k = 6 then n else 0) ≤ 1099511627776
    split
    · omega
    · split <;> omega
end Go.Proofs.Ytlgekplmbmkcmaa
end
section
set_option linter.unusedSimpArgs false
set_option linter.unusedVariables false
namespace Go.Proofs.Ytlgekplmbmkcmaa
open Go.Fx
theorem T.ind {P : T → Prop} (h : ∀ k n s l,(∀ t,t ∈ l → P t) → P (.mk k n s l)) : ∀ t,P t := by
  intro t
  refine T.rec (motive_1 := P) (motive_2 := fun l => ∀ t,t ∈ l → P t) (fun k n s l ih => h k n s l ih) (by simp) (fun t l h1 h2 u hu => ?_) t
  rcases List.mem_cons.1 hu with rfl | hu
  · exact h1
  · exact h2 u hu
def var (n : Int) : T := .mk 1 n [] []
mutual

def V : T → Int → Nat → Prop
  | .mk k n s l,f,D => if k = 1 then 0 ≤ n ∧ n < f ∧ s = [] ∧ l = [] ∧ 1 ≤ D else 0 ≤ T.more (.mk k n s l) ∧ T.more (.mk k n s l) ≤ 8 ∧ 1 ≤ D ∧ VL l (f + T.more (.mk k n s l)) (D - 1)
def VL : List T → Int → Nat → Prop
  | [],_,_ => True
  | t :: r,f,D => V t f D ∧ VL r f D
end
theorem VL_all (l : List T) (f : Int) (D : Nat) : VL l f D ↔ ∀ t,t ∈ l → V t f D := by
  induction l with
  | nil => simp [VL]
  | cons t l ih => simp [VL,ih]
theorem V_mk (k n : Int) (s : List UInt8) (l : List T) (f : Int) (D : Nat) : V (.mk k n s l) f D ↔ if k = 1 then 0 ≤ n ∧ n < f ∧ s = [] ∧ l = [] ∧ 1 ≤ D else 0 ≤ T.more (.mk k n s l) ∧ T.more (.mk k n s l) ≤ 8 ∧ 1 ≤ D ∧ ∀ t,t ∈ l → V t (f + T.more (.mk k n s l)) (D - 1) := by
  rw [← VL_all]; rfl
def lr (m : Int) (r : Int → Int) : Int → Int := fun n => if n < m then n else r (n - m) + m
mutual
def ren (r : Int → Int) : T → T
  | .mk k n s l => if k = 1 then .mk k (r n) s l else .mk k n s (renL (lr (T.more (.mk k n s l)) r) l)
def renL (r : Int → Int) : List T → List T
  | [] => []
  | t :: l => ren r t :: renL r l
end
theorem renL_map (r : Int → Int) (l : List T) : renL r l = l.map (ren r) := by
  induction l with
  | nil => rfl
  | cons t l ih => simp [renL,ih]
theorem ren_mk (r : Int → Int) (k n : Int) (s : List UInt8) (l : List T) : ren r (.mk k n s l) = if k = 1 then .mk k (r n) s l else .mk k n s (l.map (ren (lr (T.more (.mk k n s l)) r))) := by rw [← renL_map]; rfl
def ls (m : Int) (σ : Int → T) : Int → T := fun n => if n < m then var n else ren (· + m) (σ (n - m))
mutual
def sub (σ : Int → T) : T → T
  | .mk k n s l => if k = 1 then σ n else .mk k n s (subL (ls (T.more (.mk k n s l)) σ) l)
def subL (σ : Int → T) : List T → List T
  | [] => []
  | t :: l => sub σ t :: subL σ l
end
theorem subL_map (σ : Int → T) (l : List T) : subL σ l = l.map (sub σ) := by
  induction l with
  | nil => rfl
  | cons t l ih => simp [subL,ih]
theorem sub_mk (σ : Int → T) (k n : Int) (s : List UInt8) (l : List T) : sub σ (.mk k n s l) = if k = 1 then σ n else .mk k n s (l.map (sub (ls (T.more (.mk k n s l)) σ))) := by rw [← subL_map]; rfl
theorem ren_v (r : Int → Int) (n : Int) : ren r (var n) = var (r n) := by unfold var; rw [ren_mk,if_pos rfl]
theorem map_ext {l : List T} {f g : T → T} (h : ∀ t,t ∈ l → f t = g t) : l.map f = l.map g := List.map_congr_left h
theorem ren_ext {t : T} : ∀ {f : Int} {D : Nat} {r q : Int → Int},V t f D → (∀ n,0 ≤ n → n < f → r n = q n) → ren r t = ren q t := by
  induction t using T.ind with
  | h k n s l ih =>
    intro f D r q h hr
    rw [V_mk] at h
    rw [ren_mk,ren_mk]
    split
    · rename_i hk; rw [if_pos hk] at h; rw [hr n h.1 h.2.1]
    · rename_i hk; rw [if_neg hk] at h
      congr 1
      refine map_ext fun t ht => ih t ht (h.2.2.2 t ht) fun m h0 hm => ?_
      unfold lr
      split
      · rfl
      · rw [hr _ (by omega) (by omega)]
theorem ren_ren {t : T} : ∀ {f : Int} {D : Nat} {r q : Int → Int},V t f D → (∀ n,0 ≤ n → n < f → 0 ≤ r n) → ren q (ren r t) = ren (fun n => q (r n)) t := by
  induction t using T.ind with
  | h k n s l ih =>
    intro f D r q h hr
    rw [V_mk] at h
    rw [ren_mk,ren_mk]
    split
    · rename_i hk; rw [ren_mk,if_pos hk]
    · rename_i hk; rw [if_neg hk] at h
      rw [ren_mk,if_neg hk,List.map_map]
      have e : T.more (.mk k n s (l.map (ren (lr (T.more (.mk k n s l)) r)))) = T.more (.mk k n s l) := rfl
      rw [e]
      congr 1
      refine map_ext fun t ht => ?_
      have hV := h.2.2.2 t ht
      rw [Function.comp_apply,ih t ht hV (fun m h0 hm => ?_)]
      · refine ren_ext hV fun m h0 hm => ?_
        unfold lr
        by_cases h1 : m < T.more (.mk k n s l)
        · simp only [h1,if_true]
        · simp only [h1,if_false]
          have := hr (m - T.more (.mk k n s l)) (by omega) (by omega)
          rw [if_neg (by omega)]
          congr 2; omega
      · unfold lr
        split
        · exact h0
        · have := hr (m - T.more (.mk k n s l)) (by omega) (by omega)
          omega
theorem ren_id {t : T} : ∀ {f : Int} {D : Nat} {r : Int → Int},V t f D → (∀ n,0 ≤ n → n < f → r n = n) → ren r t = t := by
  induction t using T.ind with
  | h k n s l ih =>
    intro f D r h hr
    rw [V_mk] at h
    rw [ren_mk]
    split
    · rename_i hk; rw [if_pos hk] at h; rw [hr n h.1 h.2.1]
    · rename_i hk; rw [if_neg hk] at h
      congr 1
      conv => rhs; rw [← List.map_id l]
      refine map_ext fun t ht => ih t ht (h.2.2.2 t ht) fun m h0 hm => ?_
      unfold lr
      split
      · rfl
      · rw [hr _ (by omega) (by omega)]; omega
theorem sub_ext {t : T} : ∀ {f : Int} {D : Nat} {σ τ : Int → T},V t f D → (∀ n,0 ≤ n → n < f → σ n = τ n) → sub σ t = sub τ t := by
  induction t using T.ind with
  | h k n s l ih =>
    intro f D σ τ h hr
    rw [V_mk] at h
    rw [sub_mk,sub_mk]
    split
    · rename_i hk; rw [if_pos hk] at h; rw [hr n h.1 h.2.1]
    · rename_i hk; rw [if_neg hk] at h
      congr 1
      refine map_ext fun t ht => ih t ht (h.2.2.2 t ht) fun m h0 hm => ?_
      unfold ls
      split
      · rfl
      · rw [hr _ (by omega) (by omega)]
theorem up_ren {t : T} : ∀ {g b f : Int} {D : Nat},V t g D → 0 ≤ f → 0 ≤ b → g + b + 8 * D ≤ 1152921504606846976 → f + 8 * D ≤ 1152921504606846976 → up b f t = ren (fun n => if n ≥ f then n + b else n) t := by
  induction t using T.ind with
  | h k n s l ih =>
    intro g b f D h hf hb h1 h2
    rw [V_mk] at h
    unfold up
    rw [ren_mk]
    split
    · rename_i hk; rw [if_pos hk] at h
      split
      · rw [w_id _ (by omega)]
      · rfl
    · rename_i hk; rw [if_neg hk] at h
      rw [upL_map,w_id _ (by omega)]
      congr 1
      refine map_ext fun t ht => ?_
      rw [ih t ht (h.2.2.2 t ht) (by omega) hb (by omega) (by omega)]
      refine ren_ext (h.2.2.2 t ht) fun m h0 hm => ?_
      unfold lr
      by_cases h3 : m < T.more (.mk k n s l)
      · rw [if_pos h3,if_neg (by omega)]
      · rw [if_neg h3]
        by_cases h4 : m ≥ f + T.more (.mk k n s l)
        · rw [if_pos h4]; show _ = (if m - T.more (.mk k n s l) ≥ f then m - T.more (.mk k n s l) + b else m - T.more (.mk k n s l)) + T.more (.mk k n s l); rw [if_pos (by omega)]; omega
        · rw [if_neg h4]; show _ = (if m - T.more (.mk k n s l) ≥ f then m - T.more (.mk k n s l) + b else m - T.more (.mk k n s l)) + T.more (.mk k n s l); rw [if_neg (by omega)]; omega
theorem up0_ren {t : T} {g b : Int} {D : Nat} (h : V t g D) (hb : 0 ≤ b) (h1 : g + b + 8 * D ≤ 1152921504606846976) (hg : 0 ≤ g) : up b 0 t = ren (· + b) t := by
  rw [up_ren h (by omega) hb h1 (by omega)]
  exact ren_ext h fun n h0 _ => by rw [if_pos h0]
def sput (p : Int) (u : T) (b : Int) : Int → T := fun n => if n = p + b then ren (· + b) u else if n > p + b then var (n - 1) else var n
theorem put_sub {t u : T} {p h : Int} {E : Nat} (hu : V u h E) (hp : 0 ≤ p) (hh : 0 ≤ h) : ∀ {g b : Int} {D : Nat},V t g D → 0 ≤ b → h + b + 8 * D + 8 * E ≤ 1152921504606846976 → g + 8 * D ≤ 1152921504606846976 → p + b + 8 * D ≤ 1152921504606846976 → put p u t b = sub (sput p u b) t := by
  induction t using T.ind with
  | h k n s l ih =>
    intro g b D hV hb h1 h2 h3
    rw [V_mk] at hV
    unfold put
    rw [sub_mk]
    split
    · rename_i hk; rw [if_pos hk] at hV
      unfold sput
      rw [w_id _ (by omega)]
      split
      · rw [up0_ren hu hb (by omega) hh]
      · split
        · rw [w_id _ (by omega)]; obtain ⟨_,_,rfl,rfl,_⟩ := hV; rw [hk]; rfl
        · obtain ⟨_,_,rfl,rfl,_⟩ := hV; rw [hk]; rfl
    · rename_i hk; rw [if_neg hk] at hV
      rw [putL_map,w_id _ (by omega)]
      congr 1
      refine map_ext fun t ht => ?_
      rw [ih t ht (hV.2.2.2 t ht) (by omega) (by omega) (by omega) (by omega)]
      refine sub_ext (hV.2.2.2 t ht) fun m h0 hm => ?_
      unfold ls sput
      by_cases h4 : m < T.more (.mk k n s l)
      · rw [if_pos h4,if_neg (by omega),if_neg (by omega)]
      · rw [if_neg h4]
        by_cases h5 : m = p + (b + T.more (.mk k n s l))
        · rw [if_pos h5,if_pos (by omega),ren_ren hu (by omega)]
          refine ren_ext hu fun j h0 hj => by omega
        · rw [if_neg h5,if_neg (c := m - T.more (.mk k n s l) = p + b) (by omega)]
          by_cases h6 : m > p + (b + T.more (.mk k n s l))
          · rw [if_pos h6,if_pos (by omega),ren_v]; congr 1; omega
          · rw [if_neg h6,if_neg (by omega),ren_v]; congr 1; omega
def sinst (ts : List T) (b : Int) : Int → T := fun n => if n < b then var n else if n < b + ts.length then ren (· + b) (ts.getD (ts.length - 1 - (n - b)).toNat (.mk 0 0 [] [])) else var (n - ts.length)
theorem inst_sub {t : T} {ts : List T} {h : Int} {E : Nat} (hts : ∀ u,u ∈ ts → V u h E) (hh : 0 ≤ h) : ∀ {g b : Int} {D : Nat},V t g D → 0 ≤ b → h + b + 8 * D + 8 * E ≤ 1152921504606846976 → g + 8 * D ≤ 1152921504606846976 → inst ts t b = sub (sinst ts b) t := by
  induction t using T.ind with
  | h k n s l ih =>
    intro g b D hV hb h1 h2
    have hget : ∀ m : Int,b ≤ m → m < b + ts.length → V (ts.getD (ts.length - 1 - (m - b)).toNat (.mk 0 0 [] [])) h E := by
      intro m hm1 hm2
      rw [List.getD_eq_getElem?_getD,List.getElem?_eq_getElem (by omega)]
      exact hts _ (List.getElem_mem _)
    rw [V_mk] at hV
    unfold inst
    rw [sub_mk]
    split
    · rename_i hk; rw [if_pos hk] at hV
      unfold sinst
      obtain ⟨h0,h3,rfl,rfl,_⟩ := hV
      split
      · rw [hk]; rfl
      · split
        · rw [up0_ren (hget n (by omega) (by omega)) hb (by omega) hh]
        · rw [hk]; rfl
    · rename_i hk; rw [if_neg hk] at hV
      rw [instL_map]
      congr 1
      refine map_ext fun t ht => ?_
      rw [ih t ht (hV.2.2.2 t ht) (by omega) (by omega) (by omega)]
      refine sub_ext (hV.2.2.2 t ht) fun m h0 hm => ?_
      unfold ls sinst
      by_cases h4 : m < T.more (.mk k n s l)
      · rw [if_pos h4,if_pos (by omega)]
      · rw [if_neg h4]
        by_cases h5 : m < b + T.more (.mk k n s l)
        · rw [if_pos h5,if_pos (by omega),ren_v]; congr 1; omega
        · rw [if_neg h5,if_neg (c := m - T.more (.mk k n s l) < b) (by omega)]
          by_cases h6 : m < b + T.more (.mk k n s l) + ts.length
          · rw [if_pos h6,if_pos (by omega)]
            have hx := hget (m - T.more (.mk k n s l)) (by omega) (by omega)
            rw [ren_ren hx (by omega)]
            have e : (ts.length : Int) - 1 - (m - (b + T.more (.mk k n s l))) = ts.length - 1 - (m - T.more (.mk k n s l) - b) := by omega
            rw [e]
            exact ren_ext hx fun j h0 hj => by omega
          · rw [if_neg h6,if_neg (by omega),ren_v]; congr 1; omega
end Go.Proofs.Ytlgekplmbmkcmaa
end
section
set_option linter.unusedSimpArgs false
set_option linter.unusedVariables false
namespace Go.Proofs.Ytlgekplmbmkcmaa
open Go.Fx
mutual
def sizeZ : T → Int
  | .mk _ _ _ l => sizeLZ l + 1
def sizeLZ : List T → Int
  | [] => 0
  | t :: r => sizeZ t + sizeLZ r
end
theorem sizeLZ_pos {l : List T} (h : ∀ t,t ∈ l → 1 ≤ sizeZ t) : 0 ≤ sizeLZ l := by
  induction l with
  | nil => simp [sizeLZ]
  | cons t l ih => have := h t (by simp); have := ih fun u hu => h u (by simp [hu]); simp only [sizeLZ]; omega
theorem sizeZ_pos (t : T) : 1 ≤ sizeZ t := by
  induction t using T.ind with
  | h k n s l ih => have := sizeLZ_pos ih; simp only [sizeZ]; omega
theorem sizeLZ_nn (l : List T) : 0 ≤ sizeLZ l := sizeLZ_pos fun t _ => sizeZ_pos t
theorem sizeLZ_mem {l : List T} {t : T} (h : t ∈ l) : sizeZ t ≤ sizeLZ l := by
  induction l with
  | nil => simp at h
  | cons x l ih =>
    have := sizeLZ_nn l; have := sizeZ_pos x
    simp only [sizeLZ]
    rcases List.mem_cons.1 h with rfl | h
    · omega
    · have := ih h; omega
mutual
theorem few_all : ∀ (t : T) (x y : Int),x ≤ 1099511627776 → y ≤ 1000 → few t x y ≥ 0 → (dep t : Int) ≤ y ∧ few t x y = x - sizeZ t
  | .mk k n s l,x,y,hx,hy,h => by
    simp only [few] at h ⊢
    split at h
    · omega
    · rename_i h1
      split at h
      · omega
      · rename_i h2
        rw [if_neg h1,if_neg h2]
        rw [w_id _ (by omega),w_id _ (by omega)] at h ⊢
        obtain ⟨h3,h4⟩ := few_allL l (x - 1) (y - 1) (by omega) (by omega) (by omega) h
        simp only [dep,sizeZ]; omega
theorem few_allL : ∀ (l : List T) (x y : Int),x ≤ 1099511627776 → 0 ≤ y → y ≤ 1000 → fewL l x y ≥ 0 → (depL l : Int) ≤ y ∧ fewL l x y = x - sizeLZ l
  | [],x,y,hx,hy0,hy,h => by simp only [fewL,depL,sizeLZ]; omega
  | t :: l,x,y,hx,hy0,hy,h => by
    simp only [fewL] at h ⊢
    split at h
    · omega
    · rename_i h1
      rw [if_neg h1]
      obtain ⟨h3,h4⟩ := few_all t x y hx hy (by omega)
      have := sizeZ_pos t
      obtain ⟨h5,h6⟩ := few_allL l (few t x y) y (by omega) hy0 hy h
      simp only [depL,sizeLZ]; omega
end
theorem small_all {t : T} {x : Int} (hx : x ≤ 1099511627776) (h : small t x = true) : dep t ≤ 600 ∧ sizeZ t ≤ x := by
  unfold small at h
  obtain ⟨h1,h2⟩ := few_all t x 600 hx (by omega) (by simpa using h)
  have : few t x 600 ≥ 0 := by simpa using h
  omega
mutual
theorem size_Z : ∀ (t : T),sizeZ t ≤ 1152921504606846976 → size t = sizeZ t
  | .mk k n s l,h => by
    simp only [sizeZ] at h ⊢
    simp only [size]
    rw [size_ZL l 1 (by omega) (by omega)]; omega
theorem size_ZL : ∀ (l : List T) (a : Int),1 ≤ a → a + sizeLZ l ≤ 1152921504606846977 → sizeL l a = a + sizeLZ l
  | [],a,_,_ => by simp [sizeL,sizeLZ]
  | t :: l,a,ha,h => by
    have := sizeLZ_nn l; have := sizeZ_pos t
    simp only [sizeLZ] at h ⊢
    simp only [sizeL]
    rw [size_Z t (by omega),w_id _ (by omega),size_ZL l _ (by omega) (by omega)]; omega
end
mutual
def usesZ : T → Int → Int
  | .mk k n s l,q => if k = 1 then (if n = q then 1 else 0) else usesLZ l (q + T.more (.mk k n s l))
def usesLZ : List T → Int → Int
  | [],_ => 0
  | t :: r,q => usesZ t q + usesLZ r q
end
theorem usesLZ_b {l : List T} (h : ∀ t,t ∈ l → ∀ q,0 ≤ usesZ t q ∧ usesZ t q ≤ sizeZ t) (q : Int) : 0 ≤ usesLZ l q ∧ usesLZ l q ≤ sizeLZ l := by
  induction l with
  | nil => simp [usesLZ,sizeLZ]
  | cons t l ih => have := h t (by simp) q; have := ih fun u hu => h u (by simp [hu]); simp only [sizeLZ,usesLZ]; omega
theorem usesZ_b (t : T) : ∀ q,0 ≤ usesZ t q ∧ usesZ t q ≤ sizeZ t := by
  induction t using T.ind with
  | h k n s l ih =>
    intro q
    have := usesLZ_b ih (q + T.more (.mk k n s l))
    have := sizeLZ_nn l
    unfold usesZ; simp only [sizeZ]
    split
    · split <;> omega
    · omega
theorem usesL_Z {l : List T} {q : Int} (h : ∀ t,t ∈ l → uses t q = usesZ t q) : ∀ a,0 ≤ a → a + sizeLZ l ≤ 1152921504606846977 → usesL l q a = a + usesLZ l q := by
  induction l with
  | nil => intro a _ _; simp [usesL,usesLZ]
  | cons t l ih =>
    intro a ha hs
    have := usesZ_b t q
    have := sizeLZ_nn l
    simp only [sizeLZ] at hs
    simp only [usesL,usesLZ]
    rw [h t (by simp),w_id _ (by omega),ih (fun u hu => h u (by simp [hu])) _ (by omega) (by omega)]; omega
theorem uses_Z {t : T} : ∀ {f q : Int} {D : Nat},V t f D → -1000 ≤ q → q + 8 * D ≤ 1152921504606846976 → sizeZ t ≤ 1152921504606846976 → uses t q = usesZ t q := by
  induction t using T.ind with
  | h k n s l ih =>
    intro f q D h hq hb hs
    rw [V_mk] at h
    unfold uses usesZ
    split
    · rfl
    · rename_i hk; rw [if_neg hk] at h
      rw [w_id _ (by omega)]
      simp only [sizeZ] at hs
      rw [usesL_Z (q := q + T.more (.mk k n s l)) (fun t ht => ih t ht (h.2.2.2 t ht) (by omega) (by omega) (by have := sizeLZ_mem ht; omega)) 0 (by omega) (by omega)]
      omega
theorem dep_mono {l : List T} {f : T → T} {d : Nat} (h : ∀ t,t ∈ l → dep (f t) ≤ d) : depL (l.map f) ≤ d := by
  induction l with
  | nil => simp [depL]
  | cons t l ih => have := h t (by simp); have := ih fun u hu => h u (by simp [hu]); simp only [List.map_cons,depL]; omega
theorem head_var {k n : Int} {s : List UInt8} {l : List T} {f : Int} {a : Bool} (h : head (.mk k n s l) f a = true) : (k = 1 → a = false ∧ 0 ≤ n ∧ n < f ∧ s = [] ∧ l = []) ∧ (k = 6 ↔ a = true) ∧ 0 ≤ T.more (.mk k n s l) ∧ T.more (.mk k n s l) ≤ 8 := by
  have e : head (.mk k n s l) f a = headC k n s l.length f a := rfl
  have em : T.more (.mk k n s l) = if k = 2 then 1 else if k = 6 then n else 0 := rfl
  rw [e] at h
  rw [em]
  unfold headC at h
  split at h
  · simp only [Bool.and_eq_true,decide_eq_true_eq] at h
    rename_i ha
    subst ha
    obtain ⟨⟨⟨⟨h1,h2⟩,h3⟩,h4⟩,h5⟩ := h
    subst h1
    simp; omega
  · rename_i ha
    have ha : a = false := by simpa using ha
    subst ha
    by_cases h1 : k = 1
    · subst h1
      simp at h
      simp
      exact ⟨h.1.2,h.2,h.1.1.1,h.1.1.2⟩
    · have h6 : k ≠ 6 := by
        rintro rfl
        simp at h
      simp [h1,h6]
      split <;> omega
theorem head_same {k n : Int} {s : List UInt8} {l l' : List T} {f g : Int} {a : Bool} (hk : k ≠ 1) (hl : l'.length = l.length) (h : head (.mk k n s l) f a = true) : head (.mk k n s l') g a = true := by
  have e : head (.mk k n s l) f a = headC k n s l.length f a := rfl
  have e' : head (.mk k n s l') g a = headC k n s l'.length g a := rfl
  rw [e] at h
  rw [e',hl]
  unfold headC at h ⊢
  rw [if_neg hk] at h ⊢
  exact h
theorem mayL_iff (k : Int) (all : List T) (free : Int) : ∀ (l : List T) (i : Nat),mayL k all l i free = true ↔ ∀ j t,l[j]? = some t → may t free (decide (k = 5) && decide (((i + j : Nat) : Int) > 0)) = true ∧ (k = 5 → dup all (i + j) t.s = false)
  | [],i => by simp [mayL]
  | t :: r,i => by
    simp only [mayL,Bool.and_eq_true]
    rw [mayL_iff k all free r (i + 1)]
    constructor
    · rintro ⟨⟨h1,h2⟩,h3⟩ j u hj
      cases j with
      | zero =>
        simp only [List.getElem?_cons_zero,Option.some.injEq] at hj
        subst hj
        refine ⟨by simpa using h1,fun hk => ?_⟩
        simpa [hk] using h2
      | succ j =>
        simp only [List.getElem?_cons_succ] at hj
        have := h3 j u hj
        rwa [show i + 1 + j = i + (j + 1) by omega] at this
    · intro h
      refine ⟨⟨?_,?_⟩,fun j u hj => ?_⟩
      · simpa using (h 0 t rfl).1
      · by_cases hk : k = 5
        · have := (h 0 t rfl).2 hk
          simp [hk]; simpa using this
        · simp [hk]
      · have := h (j + 1) u (by simpa using hj)
        rwa [show i + (j + 1) = i + 1 + j by omega] at this
theorem may_iff {k n : Int} {s : List UInt8} {l : List T} {f : Int} {a : Bool} (hf : 0 ≤ f) (hb : f + 8 ≤ 9223372036854775807) : may (.mk k n s l) f a = true ↔ head (.mk k n s l) f a = true ∧ ∀ j t,l[j]? = some t → may t (f + T.more (.mk k n s l)) (decide (k = 5) && decide (((j : Nat) : Int) > 0)) = true ∧ (k = 5 → dup l j t.s = false) := by
  have e : may (.mk k n s l) f a = if f < 0 then false else if head (.mk k n s l) f a then mayL k l l 0 (if k = 2 then w (f + 1) else if k = 6 then w (f + n) else f) else false := rfl
  rw [e,if_neg (by omega)]
  by_cases hh : head (.mk k n s l) f a = true
  · rw [if_pos hh,mayL_iff]
    have hm := (head_var hh).2.2
    have em : T.more (.mk k n s l) = if k = 2 then 1 else if k = 6 then n else 0 := rfl
    have hw : (if k = 2 then w (f + 1) else if k = 6 then w (f + n) else f) = f + T.more (.mk k n s l) := by
      rw [em] at hm ⊢
      split
      · rw [w_id _ (by omega)]
      · rename_i h2
        rw [if_neg h2] at hm
        split
        · rename_i h6; rw [if_pos h6] at hm; rw [w_id _ (by omega)]
        · omega
    rw [hw]
    simp only [hh,true_and,Nat.zero_add]
  · simp only [hh,if_false,false_and]; simp
theorem may_V {t : T} : ∀ {f : Int} {a : Bool} {D : Nat},may t f a = true → dep t ≤ D → 0 ≤ f → f + 8 * D ≤ 1152921504606846976 → V t f D := by
  induction t using T.ind with
  | h k n s l ih =>
    intro f a D h hd hf hb
    simp only [dep] at hd
    rw [may_iff hf (by omega)] at h
    obtain ⟨h1,h2⟩ := h
    obtain ⟨h3,h4,h5,h6⟩ := head_var h1
    rw [V_mk]
    split
    · rename_i hk; obtain ⟨_,h7,h8,h9,h10⟩ := h3 hk; exact ⟨h7,h8,h9,h10,by omega⟩
    · refine ⟨h5,h6,by omega,fun t ht => ?_⟩
      obtain ⟨j,hj⟩ := List.getElem?_of_mem ht
      exact ih t ht (h2 j t hj).1 (by have := depL_mem ht; omega) (by omega) (by omega)
theorem may_var {n f : Int} (h0 : 0 ≤ n) (h : n < f) : may (var n) f false = true := by
  have e : may (var n) f false = if f < 0 then false else if head (.mk 1 n [] []) f false then mayL 1 [] [] 0 (if (1 : Int) = 2 then w (f + 1) else if (1 : Int) = 6 then w (f + n) else f) else false := rfl
  rw [e,if_neg (by omega)]
  have e1 : head (.mk 1 n [] []) f false = headC 1 n [] 0 f false := rfl
  rw [e1,if_pos]
  · rfl
  · simp [headC,h0,h]
theorem dup_map {l : List T} {f : T → T} (h : ∀ j t,l[j]? = some t → 0 < j → (f t).s = t.s) (i : Nat) (s : List UInt8) (hi : i ≤ l.length) : dup (l.map f) i s = dup l i s := by
  unfold dup
  rw [← List.map_take,← List.map_drop,List.any_map,Bool.eq_iff_iff,List.any_eq_true,List.any_eq_true]
  have key : ∀ t,t ∈ (l.take i).drop 1 → (f t).s = t.s := by
    intro t ht
    obtain ⟨j,hj⟩ := List.getElem?_of_mem ht
    rw [List.getElem?_drop] at hj
    by_cases hji : 1 + j < i
    · rw [List.getElem?_take_of_lt hji] at hj
      exact h _ t hj (by omega)
    · rw [List.getElem?_take_eq_none (by omega)] at hj; cases hj
  exact ⟨fun ⟨t,ht,h1⟩ => ⟨t,ht,by rw [Function.comp_apply,key t ht] at h1; exact h1⟩,fun ⟨t,ht,h1⟩ => ⟨t,ht,by rw [Function.comp_apply,key t ht]; exact h1⟩⟩
theorem may_s {t : T} {f : Int} (hf : 0 ≤ f) (hb : f + 8 ≤ 9223372036854775807) (h : may t f true = true) : t.k = 6 := by
  obtain ⟨k,n,s,l⟩ := t
  rw [may_iff hf hb] at h
  exact (head_var h.1).2.1.2 rfl
theorem ren_s (t : T) (r : Int → Int) : (ren r t).s = t.s := by
  obtain ⟨k,n,s,l⟩ := t
  rw [ren_mk]; split <;> rfl
theorem sub_s {t : T} {σ : Int → T} (h : t.k = 6) : (sub σ t).s = t.s := by
  obtain ⟨k,n,s,l⟩ := t
  have h : k = 6 := h
  rw [sub_mk,if_neg (by omega)]; rfl
theorem may_ren {t : T} : ∀ {f g : Int} {D : Nat} {r : Int → Int} {a : Bool},may t f a = true → dep t ≤ D → (∀ n,0 ≤ n → n < f → 0 ≤ r n ∧ r n < g) → 0 ≤ f → 0 ≤ g → f + 8 * D ≤ 1152921504606846976 → g + 8 * D ≤ 1152921504606846976 → may (ren r t) g a = true := by
  induction t using T.ind with
  | h k n s l ih =>
    intro f g D r a h hd hr hf hg hb hb2
    simp only [dep] at hd
    rw [may_iff hf (by omega)] at h
    obtain ⟨h1,h2⟩ := h
    obtain ⟨h3,h4,h5,h6⟩ := head_var h1
    rw [ren_mk]
    split
    · rename_i hk; obtain ⟨rfl,h7,h8,rfl,rfl⟩ := h3 hk
      rw [hk]; exact may_var (hr n h7 h8).1 (hr n h7 h8).2
    · rename_i hk
      rw [may_iff hg (by omega)]
      refine ⟨head_same hk (by simp) h1,fun j t hj => ?_⟩
      rw [List.getElem?_map,Option.map_eq_some_iff] at hj
      obtain ⟨u,hu,rfl⟩ := hj
      obtain ⟨h7,h8⟩ := h2 j u hu
      have hm := List.mem_of_getElem? hu
      have hjl : j < l.length := (List.getElem?_eq_some_iff.1 hu).1
      have e : T.more (.mk k n s (l.map (ren (lr (T.more (.mk k n s l)) r)))) = T.more (.mk k n s l) := rfl
      rw [e]
      refine ⟨ih u hm h7 (D := D - 1) (by have := depL_mem hm; omega) (fun m h0 hm => ?_) (by omega) (by omega) (by omega) (by omega),fun hk5 => ?_⟩
      · unfold lr
        split
        · omega
        · have := hr (m - T.more (.mk k n s l)) (by omega) (by omega); omega
      · rw [dup_map (fun j t _ _ => ren_s t _) j _ (by omega),ren_s]; exact h8 hk5
theorem may_sub {t : T} : ∀ {f g : Int} {D E : Nat} {σ : Int → T} {a : Bool},may t f a = true → dep t ≤ D → (∀ n,0 ≤ n → n < f → may (σ n) g false = true ∧ dep (σ n) ≤ E) → 0 ≤ f → 0 ≤ g → f + 8 * D ≤ 1152921504606846976 → g + 8 * D + 8 * E ≤ 1152921504606846976 → 1 ≤ E → may (sub σ t) g a = true := by
  induction t using T.ind with
  | h k n s l ih =>
    intro f g D E σ a h hd hr hf hg hb hb2 hE
    simp only [dep] at hd
    rw [may_iff hf (by omega)] at h
    obtain ⟨h1,h2⟩ := h
    obtain ⟨h3,h4,h5,h6⟩ := head_var h1
    rw [sub_mk]
    split
    · rename_i hk; obtain ⟨rfl,h7,h8,rfl,rfl⟩ := h3 hk
      exact (hr n h7 h8).1
    · rename_i hk
      rw [may_iff hg (by omega)]
      refine ⟨head_same hk (by simp) h1,fun j t hj => ?_⟩
      rw [List.getElem?_map,Option.map_eq_some_iff] at hj
      obtain ⟨u,hu,rfl⟩ := hj
      obtain ⟨h7,h8⟩ := h2 j u hu
      have hm := List.mem_of_getElem? hu
      have hjl : j < l.length := (List.getElem?_eq_some_iff.1 hu).1
      have e : T.more (.mk k n s (l.map (sub (ls (T.more (.mk k n s l)) σ)))) = T.more (.mk k n s l) := rfl
      rw [e]
      refine ⟨ih u hm h7 (D := D - 1) (E := E) (by have := depL_mem hm; omega) (fun m h0 hm => ?_) (by omega) (by omega) (by omega) (by omega) hE,fun hk5 => ?_⟩
      · unfold ls
        split
        · exact ⟨may_var h0 (by omega),hE⟩
        · obtain ⟨h9,h10⟩ := hr (m - T.more (.mk k n s l)) (by omega) (by omega)
          refine ⟨may_ren (D := E) h9 h10 (fun i h0 hi => by omega) (by omega) (by omega) (by omega) (by omega),?_⟩
          have : ∀ (t : T) (r : Int → Int),dep (ren r t) = dep t := by
            intro t
            induction t using T.ind with
            | h k n s l ih =>
              intro r
              rw [ren_mk]
              split
              · rfl
              · simp only [dep]
                congr 1
                have : ∀ l' : List T,(∀ t,t ∈ l' → t ∈ l) → depL (l'.map (ren (lr (T.more (.mk k n s l)) r))) = depL l' := by
                  intro l'
                  induction l' with
                  | nil => intro _; rfl
                  | cons x l' ihl => intro hm; simp only [List.map_cons,depL]; rw [ih x (hm x (by simp)),ihl fun u hu => hm u (by simp [hu])]
                exact this l fun t ht => ht
          rw [this]; exact h10
      · have hs : ∀ j t,l[j]? = some t → 0 < j → (sub (ls (T.more (.mk k n s l)) σ) t).s = t.s := by
          intro j t hj h0
          refine sub_s ?_
          have := (h2 j t hj).1
          have hp : (decide (k = 5) && decide (((j : Nat) : Int) > 0)) = true := by simp [hk5,h0]
          rw [hp] at this
          exact may_s (by omega) (by omega) this
        rw [dup_map hs j _ (by omega)]
        cases j with
        | zero => simp [dup]
        | succ j => rw [hs _ u hu (by omega)]; exact h8 hk5
theorem dep_sub {t : T} : ∀ {f : Int} {D E : Nat} {σ : Int → T},V t f D → (∀ n,0 ≤ n → n < f → dep (σ n) ≤ E) → 1 ≤ E → dep (sub σ t) ≤ D + E := by
  have hren : ∀ (t : T) (r : Int → Int),dep (ren r t) = dep t := by
    intro t
    induction t using T.ind with
    | h k n s l ih =>
      intro r
      rw [ren_mk]
      split
      · rfl
      · simp only [dep]
        congr 1
        have : ∀ l' : List T,(∀ t,t ∈ l' → t ∈ l) → depL (l'.map (ren (lr (T.more (.mk k n s l)) r))) = depL l' := by
          intro l'
          induction l' with
          | nil => intro _; rfl
          | cons x l' ihl => intro hm; simp only [List.map_cons,depL]; rw [ih x (hm x (by simp)),ihl fun u hu => hm u (by simp [hu])]
        exact this l fun t ht => ht
  induction t using T.ind with
  | h k n s l ih =>
    intro f D E σ h hr hE
    rw [V_mk] at h
    rw [sub_mk]
    split
    · rename_i hk; rw [if_pos hk] at h; have := hr n h.1 h.2.1; omega
    · rename_i hk; rw [if_neg hk] at h
      simp only [dep]
      have := dep_mono (l := l) (f := sub (ls (T.more (.mk k n s l)) σ)) (d := D - 1 + E) fun t ht => ih t ht (h.2.2.2 t ht) (fun m h0 hm => ?_) hE
      · omega
      · unfold ls
        split
        · exact hE
        · rw [hren]; exact hr _ (by omega) (by omega)
end Go.Proofs.Ytlgekplmbmkcmaa
end
section
set_option linter.unusedSimpArgs false
set_option linter.unusedVariables false
namespace Go.Proofs.Ytlgekplmbmkcmaa
open Go.Fx
theorem May_ok {t : T} (ht : T.Ok t) (f : Int) : eP S 27 [.g (enc t),.a (.i .i64 f)] = some (.a (.b (may t f false))) := by
  have h := may_ok ht f false
  refine x_fn (orcS 27) (fc := F27) rfl rfl ?_
  simp only [F27,enc_len,enc_takep,enc_flat,h,x_seq,x_reg,x_skip,x_exit,x_ret,x_block,x_if,wpC_t,wpC_f,wpI_cons,wpI_nil,wpX_some,evI_any,evI_rd,evI_ad,evI_g,evG_u,evG_b,evG_tt,evG_ff,evG_tf,evG_ft,evO,evR,ev_t,ev_c,ev_f,putD_some,putD_none,put_at,cellsT,ldCells,mkT,lenA,binPV,add_bs,add_clk,add_ls,put_bs,put_clk,put_ls,kill_bs,kill_clk,kill_ls,empty_clk,empty_bs,Env.init,seqQ_norm,seqQ_exit,seqQ_ret,blkQ_norm,blkQ_exit,blkQ_ret,loopQ_norm,loopQ_exit,loopQ_ret,retP_ret,retP_norm,retE_ret,retE_norm,retS_ret,retS_norm,wpO_some,frA_fn,klA_p,klA_nil,klA_own,resVs,resV,resT,Option.bind_some,Option.bind_none,Option.map_some,List.getD_cons_zero,List.getD_cons_succ,List.getD_nil,List.length_cons,List.length_nil,List.length_map,List.map_cons,List.map_nil,List.drop_zero,List.drop_succ_cons,List.take_succ_cons,List.take_zero,List.drop_nil,List.take_nil,Nat.reduceEqDiff,Nat.reduceAdd,Nat.reduceLeDiff,Nat.zero_add,Nat.add_zero,Prod.mk.injEq,and_true,true_and,and_false,false_and,and_self,if_true,if_false,ite_true,ite_false,Bool.not_true,Bool.not_false,Bool.not_eq_true',reduceCtorEq,decide_true,decide_false,frTs,frT,frL_p,spS,ofPT_a,ofPT_g,ofPT_t,flat_i,flat_b,flat_s,flat_l,flat_g,flatp_i,flatp_b,flatp_s,flatp_l,klTs,klT,Bool.and_false,Bool.false_and,frL,frA_p,frA_nil,frA_own,ownT,intT,Bool.or_true,Bool.true_or,Bool.false_eq_true,frL_p,klL_p,ownT_p,O.adds,List.all_cons,List.all_nil,List.any_cons,List.any_nil,ownA,evO.bslRows,List.replicate_succ,List.replicate_zero,List.set_cons_zero,rowsA,over,List.cons_append,List.nil_append,List.append_nil,fillA,Bool.and_self,Bool.and_true,Bool.true_and,Bool.or_self,Bool.or_false,Bool.false_or,Nat.reduceMul,Nat.one_mul,Nat.lt_add_one,klL,Nat.le_refl,ite_self,Nat.reduceBEq]
theorem put0 {t u : T} {g h p : Int} {D E : Nat} (ht : V t g D) (hu : V u h E) (hg : 0 ≤ g ∧ g ≤ 5000) (hh : 0 ≤ h ∧ h ≤ 5000) (hp : 0 ≤ p ∧ p ≤ 5000) (hD : D ≤ 5000) (hE : E ≤ 5000) (b : Int) (hb : 0 ≤ b ∧ b ≤ 5000) : put p u t b = sub (sput p u b) t :=
  put_sub hu hp.1 hh.1 ht hb.1 (by omega) (by omega) (by omega)
end Go.Proofs.Ytlgekplmbmkcmaa
end
section
set_option linter.unusedSimpArgs false
set_option linter.unusedVariables false
set_option maxHeartbeats 4000000
set_option maxRecDepth 10000
namespace Go.Proofs.Ytlgekplmbmkcmaa
open Go.Fx
abbrev zT : T := .mk 0 0 [] []
theorem Ok_getD {l : List T} (h : ∀ t,t ∈ l → T.Ok t) {j : Nat} (hj : j < l.length) : T.Ok (l.getD j zT) := by
  rw [List.getD_eq_getElem?_getD,List.getElem?_eq_getElem hj]; exact h _ (List.getElem_mem _)
end Go.Proofs.Ytlgekplmbmkcmaa
end
section
set_option linter.unusedSimpArgs false
set_option linter.unusedVariables false
namespace Go.Proofs.Ytlgekplmbmkcmaa
open Go.Fx
theorem instb8_ok {ts : List T} (hts : ∀ t,t ∈ ts → T.Ok t) (hlen : ts.length ≤ 8) {t : T} (ht : T.Ok t) : ∀ D : Nat,dep t ≤ D → D ≤ 1000 → tame t = true → ∀ b : Int,-1099511627776 * (1000 - (D : Nat)) ≤ b ∧ b ≤ 1099511627776 * (1000 - (D : Nat)) →
    eP S 59 [.g (enc t),.a (.l (ts.map enc)),.a (.i .i64 b)] = some (.g (enc (inst ts t b))) := by
  induction ht with
  | mk k n s l hk hn hs hl h ih =>
    intro D hd hD htm b hb
    obtain ⟨D,rfl⟩ : ∃ D',D = D' + 1 := ⟨D - 1,by simp only [dep] at hd; omega⟩
    obtain ⟨hmore,htl,hvar⟩ := tame_more htm
    have e0 : inst ts (.mk k n s l) b = if k = 1 then (if n < b then .mk k n s l else if n < b + ts.length then up b 0 (ts.getD (ts.length - 1 - (n - b)).toNat (.mk 0 0 [] [])) else .mk k (n - ts.length) s l) else .mk k n s ((l.map fun t => inst ts t (b + T.more (.mk k n s l)))) := by rw [← instL_map]; rfl
    rw [e0]
    refine x_fn (orcS 59) (fc := F59) rfl rfl ?_
    simp only [F59,enc,encL_map,enc_len,x_seq,x_reg,x_skip,x_exit,x_ret,x_block,x_if,wpC_t,wpC_f,wpI_cons,wpI_nil,wpX_some,evI_any,evI_rd,evI_ad,evI_g,evG_u,evG_b,evG_tt,evG_ff,evG_tf,evG_ft,evO,evR,ev_t,ev_c,ev_f,putD_some,putD_none,put_at,cellsT,ldCells,mkT,lenA,binPV,add_bs,add_clk,add_ls,put_bs,put_clk,put_ls,kill_bs,kill_clk,kill_ls,empty_clk,empty_bs,Env.init,seqQ_norm,seqQ_exit,seqQ_ret,blkQ_norm,blkQ_exit,blkQ_ret,loopQ_norm,loopQ_exit,loopQ_ret,retP_ret,retP_norm,retE_ret,retE_norm,retS_ret,retS_norm,wpO_some,frA_fn,klA_p,klA_nil,klA_own,resVs,resV,resT,Option.bind_some,Option.bind_none,Option.map_some,List.getD_cons_zero,List.getD_cons_succ,List.getD_nil,List.length_cons,List.length_nil,List.length_map,List.map_cons,List.map_nil,List.drop_zero,List.drop_succ_cons,List.take_succ_cons,List.take_zero,List.drop_nil,List.take_nil,Nat.reduceEqDiff,Nat.reduceAdd,Nat.reduceLeDiff,Nat.zero_add,Nat.add_zero,Prod.mk.injEq,and_true,true_and,and_false,false_and,and_self,if_true,if_false,ite_true,ite_false,Bool.not_true,Bool.not_false,Bool.not_eq_true',reduceCtorEq,decide_true,decide_false,frTs,frT,frL_p,spS,ofPT_a,ofPT_g,ofPT_t,flat_i,flat_b,flat_s,flat_l,flat_g,flatp_i,flatp_b,flatp_s,flatp_l,klTs,klT,Bool.and_false,Bool.false_and,frL,frA_p,frA_nil,frA_own,ownT,intT,Bool.or_true,Bool.true_or,Bool.false_eq_true,frL_p,klL_p,ownT_p,O.adds,List.all_cons,List.all_nil,List.any_cons,List.any_nil,ownA,evO.bslRows,List.replicate_succ,List.replicate_zero,List.set_cons_zero,rowsA,over,List.cons_append,List.nil_append,List.append_nil,fillA,Bool.and_self,Bool.and_true,Bool.true_and,Bool.or_self,Bool.or_false,Bool.false_or,Nat.reduceMul,Nat.one_mul,Nat.lt_add_one,klL,Nat.le_refl,ite_self,Nat.reduceBEq]
    refine wpC_split (fun h1 => ?_) (fun h1 => ?_)
    · have hk1 : k = 1 := by simpa using h1
      obtain ⟨hn1,rfl⟩ := hvar hk1
      rw [if_pos hk1]
      simp only [h1,x_seq,x_reg,x_skip,x_exit,x_ret,x_block,x_if,wpC_t,wpC_f,wpI_cons,wpI_nil,wpX_some,evI_any,evI_rd,evI_ad,evI_g,evG_u,evG_b,evG_tt,evG_ff,evG_tf,evG_ft,evO,evR,ev_t,ev_c,ev_f,putD_some,putD_none,put_at,cellsT,ldCells,mkT,lenA,binPV,add_bs,add_clk,add_ls,put_bs,put_clk,put_ls,kill_bs,kill_clk,kill_ls,empty_clk,empty_bs,Env.init,seqQ_norm,seqQ_exit,seqQ_ret,blkQ_norm,blkQ_exit,blkQ_ret,loopQ_norm,loopQ_exit,loopQ_ret,retP_ret,retP_norm,retE_ret,retE_norm,retS_ret,retS_norm,wpO_some,frA_fn,klA_p,klA_nil,klA_own,resVs,resV,resT,Option.bind_some,Option.bind_none,Option.map_some,List.getD_cons_zero,List.getD_cons_succ,List.getD_nil,List.length_cons,List.length_nil,List.length_map,List.map_cons,List.map_nil,List.drop_zero,List.drop_succ_cons,List.take_succ_cons,List.take_zero,List.drop_nil,List.take_nil,Nat.reduceEqDiff,Nat.reduceAdd,Nat.reduceLeDiff,Nat.zero_add,Nat.add_zero,Prod.mk.injEq,and_true,true_and,and_false,false_and,and_self,if_true,if_false,ite_true,ite_false,Bool.not_true,Bool.not_false,Bool.not_eq_true',reduceCtorEq,decide_true,decide_false,frTs,frT,frL_p,spS,ofPT_a,ofPT_g,ofPT_t,flat_i,flat_b,flat_s,flat_l,flat_g,flatp_i,flatp_b,flatp_s,flatp_l,klTs,klT,Bool.and_false,Bool.false_and,frL,frA_p,frA_nil,frA_own,ownT,intT,Bool.or_true,Bool.true_or,Bool.false_eq_true,frL_p,klL_p,ownT_p,O.adds,List.all_cons,List.all_nil,List.any_cons,List.any_nil,ownA,evO.bslRows,List.replicate_succ,List.replicate_zero,List.set_cons_zero,rowsA,over,List.cons_append,List.nil_append,List.append_nil,fillA,Bool.and_self,Bool.and_true,Bool.true_and,Bool.or_self,Bool.or_false,Bool.false_or,Nat.reduceMul,Nat.one_mul,Nat.lt_add_one,klL,Nat.le_refl,ite_self,Nat.reduceBEq]
      have hw1 : IntKind.i64.wrap (b + (ts.length : Int)) = b + ts.length := w_id _ (by omega)
      refine wpC_split (fun h2 => ?_) (fun h2 => ?_)
      · have hk2 : n < b := by simpa using h2
        rw [if_pos hk2]
        simp only [h1,h2,enc,encL_map,x_seq,x_reg,x_skip,x_exit,x_ret,x_block,x_if,wpC_t,wpC_f,wpI_cons,wpI_nil,wpX_some,evI_any,evI_rd,evI_ad,evI_g,evG_u,evG_b,evG_tt,evG_ff,evG_tf,evG_ft,evO,evR,ev_t,ev_c,ev_f,putD_some,putD_none,put_at,cellsT,ldCells,mkT,lenA,binPV,add_bs,add_clk,add_ls,put_bs,put_clk,put_ls,kill_bs,kill_clk,kill_ls,empty_clk,empty_bs,Env.init,seqQ_norm,seqQ_exit,seqQ_ret,blkQ_norm,blkQ_exit,blkQ_ret,loopQ_norm,loopQ_exit,loopQ_ret,retP_ret,retP_norm,retE_ret,retE_norm,retS_ret,retS_norm,wpO_some,frA_fn,klA_p,klA_nil,klA_own,resVs,resV,resT,Option.bind_some,Option.bind_none,Option.map_some,List.getD_cons_zero,List.getD_cons_succ,List.getD_nil,List.length_cons,List.length_nil,List.length_map,List.map_cons,List.map_nil,List.drop_zero,List.drop_succ_cons,List.take_succ_cons,List.take_zero,List.drop_nil,List.take_nil,Nat.reduceEqDiff,Nat.reduceAdd,Nat.reduceLeDiff,Nat.zero_add,Nat.add_zero,Prod.mk.injEq,and_true,true_and,and_false,false_and,and_self,if_true,if_false,ite_true,ite_false,Bool.not_true,Bool.not_false,Bool.not_eq_true',reduceCtorEq,decide_true,decide_false,frTs,frT,frL_p,spS,ofPT_a,ofPT_g,ofPT_t,flat_i,flat_b,flat_s,flat_l,flat_g,flatp_i,flatp_b,flatp_s,flatp_l,klTs,klT,Bool.and_false,Bool.false_and,frL,frA_p,frA_nil,frA_own,ownT,intT,Bool.or_true,Bool.true_or,Bool.false_eq_true,frL_p,klL_p,ownT_p,O.adds,List.all_cons,List.all_nil,List.any_cons,List.any_nil,ownA,evO.bslRows,List.replicate_succ,List.replicate_zero,List.set_cons_zero,rowsA,over,List.cons_append,List.nil_append,List.append_nil,fillA,Bool.and_self,Bool.and_true,Bool.true_and,Bool.or_self,Bool.or_false,Bool.false_or,Nat.reduceMul,Nat.one_mul,Nat.lt_add_one,klL,Nat.le_refl,ite_self,Nat.reduceBEq]
      · have hk2 : ¬ n < b := by simpa using h2
        rw [if_neg hk2]
        simp only [h1,h2,hw1,x_seq,x_reg,x_skip,x_exit,x_ret,x_block,x_if,wpC_t,wpC_f,wpI_cons,wpI_nil,wpX_some,evI_any,evI_rd,evI_ad,evI_g,evG_u,evG_b,evG_tt,evG_ff,evG_tf,evG_ft,evO,evR,ev_t,ev_c,ev_f,putD_some,putD_none,put_at,cellsT,ldCells,mkT,lenA,binPV,add_bs,add_clk,add_ls,put_bs,put_clk,put_ls,kill_bs,kill_clk,kill_ls,empty_clk,empty_bs,Env.init,seqQ_norm,seqQ_exit,seqQ_ret,blkQ_norm,blkQ_exit,blkQ_ret,loopQ_norm,loopQ_exit,loopQ_ret,retP_ret,retP_norm,retE_ret,retE_norm,retS_ret,retS_norm,wpO_some,frA_fn,klA_p,klA_nil,klA_own,resVs,resV,resT,Option.bind_some,Option.bind_none,Option.map_some,List.getD_cons_zero,List.getD_cons_succ,List.getD_nil,List.length_cons,List.length_nil,List.length_map,List.map_cons,List.map_nil,List.drop_zero,List.drop_succ_cons,List.take_succ_cons,List.take_zero,List.drop_nil,List.take_nil,Nat.reduceEqDiff,Nat.reduceAdd,Nat.reduceLeDiff,Nat.zero_add,Nat.add_zero,Prod.mk.injEq,and_true,true_and,and_false,false_and,and_self,if_true,if_false,ite_true,ite_false,Bool.not_true,Bool.not_false,Bool.not_eq_true',reduceCtorEq,decide_true,decide_false,frTs,frT,frL_p,spS,ofPT_a,ofPT_g,ofPT_t,flat_i,flat_b,flat_s,flat_l,flat_g,flatp_i,flatp_b,flatp_s,flatp_l,klTs,klT,Bool.and_false,Bool.false_and,frL,frA_p,frA_nil,frA_own,ownT,intT,Bool.or_true,Bool.true_or,Bool.false_eq_true,frL_p,klL_p,ownT_p,O.adds,List.all_cons,List.all_nil,List.any_cons,List.any_nil,ownA,evO.bslRows,List.replicate_succ,List.replicate_zero,List.set_cons_zero,rowsA,over,List.cons_append,List.nil_append,List.append_nil,fillA,Bool.and_self,Bool.and_true,Bool.true_and,Bool.or_self,Bool.or_false,Bool.false_or,Nat.reduceMul,Nat.one_mul,Nat.lt_add_one,klL,Nat.le_refl,ite_self,Nat.reduceBEq]
        refine wpC_split (fun h3 => ?_) (fun h3 => ?_)
        · have hk3 : n < b + ts.length := by simpa using h3
          rw [if_pos hk3]
          have hw2 : IntKind.i64.wrap ((ts.length : Int) - 1) = ts.length - 1 := w_id _ (by omega)
          have hw3 : IntKind.i64.wrap (n - b) = n - b := w_id _ (by omega)
          have hw4 : IntKind.i64.wrap ((ts.length : Int) - 1 - (n - b)) = ts.length - 1 - (n - b) := w_id _ (by omega)
          have hlt : (ts.length : Int) - 1 - (n - b) < ts.length := by omega
          have h0 : 0 ≤ (ts.length : Int) - 1 - (n - b) := by omega
          obtain ⟨x,hx⟩ : ∃ x,ts[((ts.length : Int) - 1 - (n - b)).toNat]? = some x := ⟨_,List.getElem?_eq_getElem (by omega)⟩
          have hx' : (ts.map enc)[((ts.length : Int) - 1 - (n - b)).toNat]? = some (enc x) := by simp [hx]
          have hg : ts.getD ((ts.length : Int) - 1 - (n - b)).toNat (.mk 0 0 [] []) = x := by rw [List.getD_eq_getElem?_getD,hx]; rfl
          have hup := up_ok (hts x (List.mem_of_getElem? hx)) b 0
          rw [hg]
          simp only [h1,h2,h3,hw2,hw3,hw4,hlt,h0,hx',enc_len,enc_takep,enc_take,enc_all,enc_flat,hup,x_seq,x_reg,x_skip,x_exit,x_ret,x_block,x_if,wpC_t,wpC_f,wpI_cons,wpI_nil,wpX_some,evI_any,evI_rd,evI_ad,evI_g,evG_u,evG_b,evG_tt,evG_ff,evG_tf,evG_ft,evO,evR,ev_t,ev_c,ev_f,putD_some,putD_none,put_at,cellsT,ldCells,mkT,lenA,binPV,add_bs,add_clk,add_ls,put_bs,put_clk,put_ls,kill_bs,kill_clk,kill_ls,empty_clk,empty_bs,Env.init,seqQ_norm,seqQ_exit,seqQ_ret,blkQ_norm,blkQ_exit,blkQ_ret,loopQ_norm,loopQ_exit,loopQ_ret,retP_ret,retP_norm,retE_ret,retE_norm,retS_ret,retS_norm,wpO_some,frA_fn,klA_p,klA_nil,klA_own,resVs,resV,resT,Option.bind_some,Option.bind_none,Option.map_some,List.getD_cons_zero,List.getD_cons_succ,List.getD_nil,List.length_cons,List.length_nil,List.length_map,List.map_cons,List.map_nil,List.drop_zero,List.drop_succ_cons,List.take_succ_cons,List.take_zero,List.drop_nil,List.take_nil,Nat.reduceEqDiff,Nat.reduceAdd,Nat.reduceLeDiff,Nat.zero_add,Nat.add_zero,Prod.mk.injEq,and_true,true_and,and_false,false_and,and_self,if_true,if_false,ite_true,ite_false,Bool.not_true,Bool.not_false,Bool.not_eq_true',reduceCtorEq,decide_true,decide_false,frTs,frT,frL_p,spS,ofPT_a,ofPT_g,ofPT_t,flat_i,flat_b,flat_s,flat_l,flat_g,flatp_i,flatp_b,flatp_s,flatp_l,klTs,klT,Bool.and_false,Bool.false_and,frL,frA_p,frA_nil,frA_own,ownT,intT,Bool.or_true,Bool.true_or,Bool.false_eq_true,frL_p,klL_p,ownT_p,O.adds,List.all_cons,List.all_nil,List.any_cons,List.any_nil,ownA,evO.bslRows,List.replicate_succ,List.replicate_zero,List.set_cons_zero,rowsA,over,List.cons_append,List.nil_append,List.append_nil,fillA,Bool.and_self,Bool.and_true,Bool.true_and,Bool.or_self,Bool.or_false,Bool.false_or,Nat.reduceMul,Nat.one_mul,Nat.lt_add_one,klL,Nat.le_refl,ite_self,Nat.reduceBEq]
        · have hk3 : ¬ n < b + ts.length := by simpa using h3
          rw [if_neg hk3]
          have hw2 : IntKind.i64.wrap (n - (ts.length : Int)) = n - ts.length := w_id _ (by omega)
          simp only [h1,h2,h3,hw2,enc,encL_map,x_seq,x_reg,x_skip,x_exit,x_ret,x_block,x_if,wpC_t,wpC_f,wpI_cons,wpI_nil,wpX_some,evI_any,evI_rd,evI_ad,evI_g,evG_u,evG_b,evG_tt,evG_ff,evG_tf,evG_ft,evO,evR,ev_t,ev_c,ev_f,putD_some,putD_none,put_at,cellsT,ldCells,mkT,lenA,binPV,add_bs,add_clk,add_ls,put_bs,put_clk,put_ls,kill_bs,kill_clk,kill_ls,empty_clk,empty_bs,Env.init,seqQ_norm,seqQ_exit,seqQ_ret,blkQ_norm,blkQ_exit,blkQ_ret,loopQ_norm,loopQ_exit,loopQ_ret,retP_ret,retP_norm,retE_ret,retE_norm,retS_ret,retS_norm,wpO_some,frA_fn,klA_p,klA_nil,klA_own,resVs,resV,resT,Option.bind_some,Option.bind_none,Option.map_some,List.getD_cons_zero,List.getD_cons_succ,List.getD_nil,List.length_cons,List.length_nil,List.length_map,List.map_cons,List.map_nil,List.drop_zero,List.drop_succ_cons,List.take_succ_cons,List.take_zero,List.drop_nil,List.take_nil,Nat.reduceEqDiff,Nat.reduceAdd,Nat.reduceLeDiff,Nat.zero_add,Nat.add_zero,Prod.mk.injEq,and_true,true_and,and_false,false_and,and_self,if_true,if_false,ite_true,ite_false,Bool.not_true,Bool.not_false,Bool.not_eq_true',reduceCtorEq,decide_true,decide_false,frTs,frT,frL_p,spS,ofPT_a,ofPT_g,ofPT_t,flat_i,flat_b,flat_s,flat_l,flat_g,flatp_i,flatp_b,flatp_s,flatp_l,klTs,klT,Bool.and_false,Bool.false_and,frL,frA_p,frA_nil,frA_own,ownT,intT,Bool.or_true,Bool.true_or,Bool.false_eq_true,frL_p,klL_p,ownT_p,O.adds,List.all_cons,List.all_nil,List.any_cons,List.any_nil,ownA,evO.bslRows,List.replicate_succ,List.replicate_zero,List.set_cons_zero,rowsA,over,List.cons_append,List.nil_append,List.append_nil,fillA,Bool.and_self,Bool.and_true,Bool.true_and,Bool.or_self,Bool.or_false,Bool.false_or,Nat.reduceMul,Nat.one_mul,Nat.lt_add_one,klL,Nat.le_refl,ite_self,Nat.reduceBEq]
    · have hk1 : ¬ k = 1 := by simpa using h1
      rw [if_neg hk1]
      simp only [h1,x_seq,x_reg,x_skip,x_exit,x_ret,x_block,x_if,wpC_t,wpC_f,wpI_cons,wpI_nil,wpX_some,evI_any,evI_rd,evI_ad,evI_g,evG_u,evG_b,evG_tt,evG_ff,evG_tf,evG_ft,evO,evR,ev_t,ev_c,ev_f,putD_some,putD_none,put_at,cellsT,ldCells,mkT,lenA,binPV,add_bs,add_clk,add_ls,put_bs,put_clk,put_ls,kill_bs,kill_clk,kill_ls,empty_clk,empty_bs,Env.init,seqQ_norm,seqQ_exit,seqQ_ret,blkQ_norm,blkQ_exit,blkQ_ret,loopQ_norm,loopQ_exit,loopQ_ret,retP_ret,retP_norm,retE_ret,retE_norm,retS_ret,retS_norm,wpO_some,frA_fn,klA_p,klA_nil,klA_own,resVs,resV,resT,Option.bind_some,Option.bind_none,Option.map_some,List.getD_cons_zero,List.getD_cons_succ,List.getD_nil,List.length_cons,List.length_nil,List.length_map,List.map_cons,List.map_nil,List.drop_zero,List.drop_succ_cons,List.take_succ_cons,List.take_zero,List.drop_nil,List.take_nil,Nat.reduceEqDiff,Nat.reduceAdd,Nat.reduceLeDiff,Nat.zero_add,Nat.add_zero,Prod.mk.injEq,and_true,true_and,and_false,false_and,and_self,if_true,if_false,ite_true,ite_false,Bool.not_true,Bool.not_false,Bool.not_eq_true',reduceCtorEq,decide_true,decide_false,frTs,frT,frL_p,spS,ofPT_a,ofPT_g,ofPT_t,flat_i,flat_b,flat_s,flat_l,flat_g,flatp_i,flatp_b,flatp_s,flatp_l,klTs,klT,Bool.and_false,Bool.false_and,frL,frA_p,frA_nil,frA_own,ownT,intT,Bool.or_true,Bool.true_or,Bool.false_eq_true,frL_p,klL_p,ownT_p,O.adds,List.all_cons,List.all_nil,List.any_cons,List.any_nil,ownA,evO.bslRows,List.replicate_succ,List.replicate_zero,List.set_cons_zero,rowsA,over,List.cons_append,List.nil_append,List.append_nil,fillA,Bool.and_self,Bool.and_true,Bool.true_and,Bool.or_self,Bool.or_false,Bool.false_or,Nat.reduceMul,Nat.one_mul,Nat.lt_add_one,klL,Nat.le_refl,ite_self,Nat.reduceBEq]
      refine loop59 (.mk k n s l) ts b hl hmore D hb (by omega) (fun v hv b hb => ih v hv D (by have := depL_mem (l := l) hv; simp only [dep] at hd; omega) (by omega) (tame_mem htl hv) b hb) _ ?_ l.length 0 _ _ .nil (by simp [T.l]) ?_ ?_ ?_ ?_ ?_ ?_ ?_ ?_ ?_ ?_ (.inl ⟨rfl,rfl⟩)
      · intro e' σ' X g1 g2 g3 g4 g5 g6
        simp only [T.k,T.n,T.s,T.l] at g1 g2
        simp only [g1,g3,g4,g5,g6,x_seq,x_reg,x_skip,x_exit,x_ret,x_block,x_if,wpC_t,wpC_f,wpI_cons,wpI_nil,wpX_some,evI_any,evI_rd,evI_ad,evI_g,evG_u,evG_b,evG_tt,evG_ff,evG_tf,evG_ft,evO,evR,ev_t,ev_c,ev_f,putD_some,putD_none,put_at,cellsT,ldCells,mkT,lenA,binPV,add_bs,add_clk,add_ls,put_bs,put_clk,put_ls,kill_bs,kill_clk,kill_ls,empty_clk,empty_bs,Env.init,seqQ_norm,seqQ_exit,seqQ_ret,blkQ_norm,blkQ_exit,blkQ_ret,loopQ_norm,loopQ_exit,loopQ_ret,retP_ret,retP_norm,retE_ret,retE_norm,retS_ret,retS_norm,wpO_some,frA_fn,klA_p,klA_nil,klA_own,resVs,resV,resT,Option.bind_some,Option.bind_none,Option.map_some,List.getD_cons_zero,List.getD_cons_succ,List.getD_nil,List.length_cons,List.length_nil,List.length_map,List.map_cons,List.map_nil,List.drop_zero,List.drop_succ_cons,List.take_succ_cons,List.take_zero,List.drop_nil,List.take_nil,Nat.reduceEqDiff,Nat.reduceAdd,Nat.reduceLeDiff,Nat.zero_add,Nat.add_zero,Prod.mk.injEq,and_true,true_and,and_false,false_and,and_self,if_true,if_false,ite_true,ite_false,Bool.not_true,Bool.not_false,Bool.not_eq_true',reduceCtorEq,decide_true,decide_false,frTs,frT,frL_p,spS,ofPT_a,ofPT_g,ofPT_t,flat_i,flat_b,flat_s,flat_l,flat_g,flatp_i,flatp_b,flatp_s,flatp_l,klTs,klT,Bool.and_false,Bool.false_and,frL,frA_p,frA_nil,frA_own,ownT,intT,Bool.or_true,Bool.true_or,Bool.false_eq_true,frL_p,klL_p,ownT_p,O.adds,List.all_cons,List.all_nil,List.any_cons,List.any_nil,ownA,evO.bslRows,List.replicate_succ,List.replicate_zero,List.set_cons_zero,rowsA,over,List.cons_append,List.nil_append,List.append_nil,fillA,Bool.and_self,Bool.and_true,Bool.true_and,Bool.or_self,Bool.or_false,Bool.false_or,Nat.reduceMul,Nat.one_mul,Nat.lt_add_one,klL,Nat.le_refl,ite_self,Nat.reduceBEq]
        simp only [frA_put_var g3,g2,x_seq,x_reg,x_skip,x_exit,x_ret,x_block,x_if,wpC_t,wpC_f,wpI_cons,wpI_nil,wpX_some,evI_any,evI_rd,evI_ad,evI_g,evG_u,evG_b,evG_tt,evG_ff,evG_tf,evG_ft,evO,evR,ev_t,ev_c,ev_f,putD_some,putD_none,put_at,cellsT,ldCells,mkT,lenA,binPV,add_bs,add_clk,add_ls,put_bs,put_clk,put_ls,kill_bs,kill_clk,kill_ls,empty_clk,empty_bs,Env.init,seqQ_norm,seqQ_exit,seqQ_ret,blkQ_norm,blkQ_exit,blkQ_ret,loopQ_norm,loopQ_exit,loopQ_ret,retP_ret,retP_norm,retE_ret,retE_norm,retS_ret,retS_norm,wpO_some,frA_fn,klA_p,klA_nil,klA_own,resVs,resV,resT,Option.bind_some,Option.bind_none,Option.map_some,List.getD_cons_zero,List.getD_cons_succ,List.getD_nil,List.length_cons,List.length_nil,List.length_map,List.map_cons,List.map_nil,List.drop_zero,List.drop_succ_cons,List.take_succ_cons,List.take_zero,List.drop_nil,List.take_nil,Nat.reduceEqDiff,Nat.reduceAdd,Nat.reduceLeDiff,Nat.zero_add,Nat.add_zero,Prod.mk.injEq,and_true,true_and,and_false,false_and,and_self,if_true,if_false,ite_true,ite_false,Bool.not_true,Bool.not_false,Bool.not_eq_true',reduceCtorEq,decide_true,decide_false,frTs,frT,frL_p,spS,ofPT_a,ofPT_g,ofPT_t,flat_i,flat_b,flat_s,flat_l,flat_g,flatp_i,flatp_b,flatp_s,flatp_l,klTs,klT,Bool.and_false,Bool.false_and,frL,frA_p,frA_nil,frA_own,ownT,intT,Bool.or_true,Bool.true_or,Bool.false_eq_true,frL_p,klL_p,ownT_p,O.adds,List.all_cons,List.all_nil,List.any_cons,List.any_nil,ownA,evO.bslRows,List.replicate_succ,List.replicate_zero,List.set_cons_zero,rowsA,over,List.cons_append,List.nil_append,List.append_nil,fillA,Bool.and_self,Bool.and_true,Bool.true_and,Bool.or_self,Bool.or_false,Bool.false_or,Nat.reduceMul,Nat.one_mul,Nat.lt_add_one,klL,Nat.le_refl,ite_self,Nat.reduceBEq]
        simp [enc,encL_map]
      all_goals simp only [T.k,T.n,T.s,T.l,x_seq,x_reg,x_skip,x_exit,x_ret,x_block,x_if,wpC_t,wpC_f,wpI_cons,wpI_nil,wpX_some,evI_any,evI_rd,evI_ad,evI_g,evG_u,evG_b,evG_tt,evG_ff,evG_tf,evG_ft,evO,evR,ev_t,ev_c,ev_f,putD_some,putD_none,put_at,cellsT,ldCells,mkT,lenA,binPV,add_bs,add_clk,add_ls,put_bs,put_clk,put_ls,kill_bs,kill_clk,kill_ls,empty_clk,empty_bs,Env.init,seqQ_norm,seqQ_exit,seqQ_ret,blkQ_norm,blkQ_exit,blkQ_ret,loopQ_norm,loopQ_exit,loopQ_ret,retP_ret,retP_norm,retE_ret,retE_norm,retS_ret,retS_norm,wpO_some,frA_fn,klA_p,klA_nil,klA_own,resVs,resV,resT,Option.bind_some,Option.bind_none,Option.map_some,List.getD_cons_zero,List.getD_cons_succ,List.getD_nil,List.length_cons,List.length_nil,List.length_map,List.map_cons,List.map_nil,List.drop_zero,List.drop_succ_cons,List.take_succ_cons,List.take_zero,List.drop_nil,List.take_nil,Nat.reduceEqDiff,Nat.reduceAdd,Nat.reduceLeDiff,Nat.zero_add,Nat.add_zero,Prod.mk.injEq,and_true,true_and,and_false,false_and,and_self,if_true,if_false,ite_true,ite_false,Bool.not_true,Bool.not_false,Bool.not_eq_true',reduceCtorEq,decide_true,decide_false,frTs,frT,frL_p,spS,ofPT_a,ofPT_g,ofPT_t,flat_i,flat_b,flat_s,flat_l,flat_g,flatp_i,flatp_b,flatp_s,flatp_l,klTs,klT,Bool.and_false,Bool.false_and,frL,frA_p,frA_nil,frA_own,ownT,intT,Bool.or_true,Bool.true_or,Bool.false_eq_true,frL_p,klL_p,ownT_p,O.adds,List.all_cons,List.all_nil,List.any_cons,List.any_nil,ownA,evO.bslRows,List.replicate_succ,List.replicate_zero,List.set_cons_zero,rowsA,over,List.cons_append,List.nil_append,List.append_nil,fillA,Bool.and_self,Bool.and_true,Bool.true_and,Bool.or_self,Bool.or_false,Bool.false_or,Nat.reduceMul,Nat.one_mul,Nat.lt_add_one,klL,Nat.le_refl,ite_self,Nat.reduceBEq]
      · rfl
      all_goals omega
theorem inst8_ok {ts : List T} (hts : ∀ t,t ∈ ts → T.Ok t) (hlen : ts.length ≤ 8) {t : T} (ht : T.Ok t) (hd : dep t ≤ 600) (htm : tame t = true) : eP S 26 [.g (enc t),.a (.l (ts.map enc))] = some (.g (enc (inst ts t 0))) := by
  have h := instb8_ok hts hlen ht 600 hd (by omega) htm 0 (by omega)
  refine x_fn (orcS 26) (fc := F26) rfl rfl ?_
  simp only [F26,enc_len,enc_takep,enc_flat,h,x_seq,x_reg,x_skip,x_exit,x_ret,x_block,x_if,wpC_t,wpC_f,wpI_cons,wpI_nil,wpX_some,evI_any,evI_rd,evI_ad,evI_g,evG_u,evG_b,evG_tt,evG_ff,evG_tf,evG_ft,evO,evR,ev_t,ev_c,ev_f,putD_some,putD_none,put_at,cellsT,ldCells,mkT,lenA,binPV,add_bs,add_clk,add_ls,put_bs,put_clk,put_ls,kill_bs,kill_clk,kill_ls,empty_clk,empty_bs,Env.init,seqQ_norm,seqQ_exit,seqQ_ret,blkQ_norm,blkQ_exit,blkQ_ret,loopQ_norm,loopQ_exit,loopQ_ret,retP_ret,retP_norm,retE_ret,retE_norm,retS_ret,retS_norm,wpO_some,frA_fn,klA_p,klA_nil,klA_own,resVs,resV,resT,Option.bind_some,Option.bind_none,Option.map_some,List.getD_cons_zero,List.getD_cons_succ,List.getD_nil,List.length_cons,List.length_nil,List.length_map,List.map_cons,List.map_nil,List.drop_zero,List.drop_succ_cons,List.take_succ_cons,List.take_zero,List.drop_nil,List.take_nil,Nat.reduceEqDiff,Nat.reduceAdd,Nat.reduceLeDiff,Nat.zero_add,Nat.add_zero,Prod.mk.injEq,and_true,true_and,and_false,false_and,and_self,if_true,if_false,ite_true,ite_false,Bool.not_true,Bool.not_false,Bool.not_eq_true',reduceCtorEq,decide_true,decide_false,frTs,frT,frL_p,spS,ofPT_a,ofPT_g,ofPT_t,flat_i,flat_b,flat_s,flat_l,flat_g,flatp_i,flatp_b,flatp_s,flatp_l,klTs,klT,Bool.and_false,Bool.false_and,frL,frA_p,frA_nil,frA_own,ownT,intT,Bool.or_true,Bool.true_or,Bool.false_eq_true,frL_p,klL_p,ownT_p,O.adds,List.all_cons,List.all_nil,List.any_cons,List.any_nil,ownA,evO.bslRows,List.replicate_succ,List.replicate_zero,List.set_cons_zero,rowsA,over,List.cons_append,List.nil_append,List.append_nil,fillA,Bool.and_self,Bool.and_true,Bool.true_and,Bool.or_self,Bool.or_false,Bool.false_or,Nat.reduceMul,Nat.one_mul,Nat.lt_add_one,klL,Nat.le_refl,ite_self,Nat.reduceBEq]
theorem Ok_inst8 {ts : List T} (hts : ∀ t,t ∈ ts → T.Ok t) (hlen : ts.length ≤ 8) {t : T} (ht : T.Ok t) : tame t = true → ∀ b : Int,T.Ok (inst ts t b) := by
  induction ht with
  | mk k n s l hk hn hs hl h ih =>
    intro htm b
    obtain ⟨hmore,htl,hvar⟩ := tame_more htm
    unfold inst
    split
    · rename_i hk1
      obtain ⟨hn1,rfl⟩ := hvar hk1
      split
      · exact .mk k n s [] hk hn hs hl h
      · split
        · rename_i h1 h2
          exact Ok_up b (Ok_getD hts (by omega)) 0
        · have := wf_w (n - ts.length)
          rw [w_id _ (by omega)] at this
          exact .mk k _ s [] hk this hs hl h
    · rw [instL_map]
      refine .mk k n s _ hk hn hs (by simpa using hl) fun t ht => ?_
      obtain ⟨u,hu,rfl⟩ := List.mem_map.1 ht
      exact ih u hu (tame_mem htl hu) _
end Go.Proofs.Ytlgekplmbmkcmaa
end
section
set_option linter.unusedSimpArgs false
set_option linter.unusedVariables false
namespace Go.Fx
variable {S : Seat}
theorem evY_up {cp : FuncId → List PT → Option PT} {cs : Cal → List TV → St → Option (TV × St)} {sp : FuncId → Bool} {j k : Nat} (h : j ≤ k) (l : Nat) (args : List TV) (σ : St) : Le (evY cp cs sp j l args σ) (evY cp cs sp k l args σ) := by
  induction h with
  | refl => exact Le.refl _
  | step _ ih => exact ih.trans (evY_le (fun _ _ => Le.refl _) (fun _ _ _ => Le.refl _) _ l args σ)
theorem eS_y_of {n l : Nat} {args : List TV} {σ : St} {x : TV × St} (h : evY (eP S) (eS S) S.sp n l args σ = some x) : eS S (.y l) args σ = some x := by
  have hl := evY_lim (cp := eP S) (cs := eS S) (sp := S.sp) (fun f ps => eP_lim S f ps) (fun f vs σ => eS_lim S f vs σ) n l args σ
  obtain ⟨k,hk⟩ := hl.ex _ h
  refine (eS_some S).2 ⟨max k n + 1,?_⟩
  rw [evS]
  exact evY_up (Nat.le_max_right k n) l args σ _ (hl.mono (Nat.le_max_left k n) _ hk)
theorem y_round {l : Nat} {args : List TV} {σ : St} {r : LRec} (hr : σ.ls[l]? = some r) (hn : args.length = r.params.length) {K : TV → St → Prop}
    (h : wp S true r.assign (putAll r.env r.params args) σ fun x e1 σ1 => x = .norm ∧ ∃ r1,σ1.ls[l]? = some r1 ∧ r1.st = .ready ∧ wp S true r.body e1 (setL σ1 l { r1 with st := .busy }) fun y e2 σ2 =>
      ∃ r2,σ2.ls[l]? = some r2 ∧ (if y = .norm then K (.a (.p (.b true))) (setL σ2 l { r2 with st := .ready,pend := none }) else K (.a (.p (.b false))) (setL σ2 l { r2 with st := .done,pend := some y }))) :
    ∃ v σ',eS S (.y l) args σ = some (v,σ') ∧ K v σ' := by
  obtain ⟨n1,⟨x,e1,σ1⟩,h1,hx,r1,hr1,hst,n2,⟨y,e2,σ2⟩,h2,r2,hr2,hK⟩ := h
  simp only at hx hr1 hst h2 hr2 hK
  subst hx
  have a := evW_le (Nat.le_max_left n1 n2) true r.assign _ _ _ h1
  have b := evW_le (Nat.le_max_right n1 n2) true r.body _ _ _ h2
  simp only [evW] at a b
  by_cases hy : y = .norm
  · subst hy
    rw [if_pos rfl] at hK
    refine ⟨_,_,eS_y_of (n := max n1 n2) ?_,hK⟩
    simp only [evY,hr,hn,if_true,a,Option.bind_some,hr1,hst,b,hr2]
  · rw [if_neg hy] at hK
    refine ⟨_,_,eS_y_of (n := max n1 n2) ?_,hK⟩
    simp only [evY,hr,hn,if_true,a,Option.bind_some,hr1,hst,b,hr2,if_neg hy]
theorem wp_rng {f : X} {ps : List Nat} {assign body : C} {e : Env} {σ : St} {Q : Ex → Env → St → Prop} {g : FuncId} {caps : List Key} (hf : ev e f = .a (.fn g caps))
    (h : ∃ v σ1,eS S (.f g) (.a (.yl σ.ls.length) :: caps.map fun s => .a (.ptr s 0 0)) { σ with ls := σ.ls ++ [{ env := e,params := ps,assign := assign,body := body,st := .ready,pend := none }] } = some (v,σ1) ∧
      ∃ r,σ1.ls[σ.ls.length]? = some r ∧ r.st ≠ .busy ∧ Q (r.pend.getD .norm) e (setL σ1 σ.ls.length { r with st := .gone })) : wp S false (.rng f ps assign body) e σ Q := by
  obtain ⟨v,σ1,h1,r,hr,hs,hQ⟩ := h
  refine ⟨1,(r.pend.getD .norm,e,setL σ1 σ.ls.length { r with st := .gone }),?_,hQ⟩
  simp only [evW,evC,Bool.false_eq_true,if_false,hf,h1,Option.bind_some,hr,if_neg hs]
theorem setL_bs (σ : St) (l : Nat) (r : LRec) : (setL σ l r).bs = σ.bs := rfl
theorem setL_clk (σ : St) (l : Nat) (r : LRec) : (setL σ l r).clk = σ.clk := rfl
theorem setL_ls (σ : St) (l : Nat) (r : LRec) : (setL σ l r).ls = σ.ls.set l r := rfl
end Go.Fx
end
section
set_option linter.unusedSimpArgs false
set_option linter.unusedVariables false
set_option maxHeartbeats 4000000
set_option maxRecDepth 10000
namespace Go.Proofs.Ytlgekplmbmkcmaa
open Go.Fx
def binds (t : T) : Int := if t.l.length = 0 then 0 else if t.k = 2 then 1 else if t.k = 6 then (if 8 < (if 0 > t.n then 0 else t.n) then 8 else (if 0 > t.n then 0 else t.n)) else 0
theorem binds_ok (t : T) : eP S 78 [.g (enc t)] = some (.a (.i .i64 (binds t))) := by
  refine x_fn (orcS _) (fc := F78) rfl rfl ?_
  obtain ⟨k,n,s,l⟩ := t
  unfold binds
  simp only [T.k,T.n,T.l]
  by_cases h0 : l.length = 0
  · obtain rfl : l = [] := List.eq_nil_of_length_eq_zero h0
    simp only [F78,enc,encL,List.length_nil,spS,Int.cast_ofNat_Int,fxa,fxc,fxE,fxL,fxI,nxE,evO,evR,cellsT,ldCells,mkT,lenA,binPV,Env.init,resV,resT,frT,klT,ownT,intT,O.adds,ownA,rowsA,over,wrOk,keysT,keysA,ne_eq,if_true,if_false,ite_self,Nat.reduceLT,Nat.reduceSub,Nat.reduceBEq,Nat.reduceEqDiff,Nat.reduceAdd,Nat.reduceLeDiff,reduceCtorEq,Nat.reduceMul]
  · have h0' : ¬ (l.length : Int) = 0 := by omega
    by_cases h1 : k = 2
    · simp only [F78,enc,encL_map,h0,h0',h1,List.length_map,spS,fxa,fxc,fxE,fxL,fxI,nxE,evO,evR,cellsT,ldCells,mkT,lenA,binPV,Env.init,resV,resT,frT,klT,ownT,intT,O.adds,ownA,rowsA,over,wrOk,keysT,keysA,ne_eq,if_true,if_false,ite_self,Nat.reduceLT,Nat.reduceSub,Nat.reduceBEq,Nat.reduceEqDiff,Nat.reduceAdd,Nat.reduceLeDiff,reduceCtorEq,Nat.reduceMul]
    · by_cases h2 : k = 6
      · simp only [F78,enc,encL_map,h0,h0',h1,h2,List.length_map,spS,Int.reduceEq,fxa,fxc,fxE,fxL,fxI,nxE,evO,evR,cellsT,ldCells,mkT,lenA,binPV,Env.init,resV,resT,frT,klT,ownT,intT,O.adds,ownA,rowsA,over,wrOk,keysT,keysA,ne_eq,if_true,if_false,ite_self,Nat.reduceLT,Nat.reduceSub,Nat.reduceBEq,Nat.reduceEqDiff,Nat.reduceAdd,Nat.reduceLeDiff,reduceCtorEq,Nat.reduceMul]
        first
          | rfl
          | (by_cases g1 : 0 > n
             · simp [g1]
             · simp only [g1,if_false]; split <;> rfl)
      · simp only [F78,enc,encL_map,h0,h0',h1,h2,List.length_map,spS,fxa,fxc,fxE,fxL,fxI,nxE,evO,evR,cellsT,ldCells,mkT,lenA,binPV,Env.init,resV,resT,frT,klT,ownT,intT,O.adds,ownA,rowsA,over,wrOk,keysT,keysA,ne_eq,if_true,if_false,ite_self,Nat.reduceLT,Nat.reduceSub,Nat.reduceBEq,Nat.reduceEqDiff,Nat.reduceAdd,Nat.reduceLeDiff,reduceCtorEq,Nat.reduceMul]
theorem uses_fn (t : T) (σ : St) : eS S (.f 67) [.g ((enc t).map .p)] σ = some (.a (.fn 75 [(1,σ.clk)]),σ.add 1 (.var ((enc t).map .p))) := by
  refine x_fnX (fc := F67) rfl rfl ?_
  have e4 : (enc t).map AV.p = [.p (.i .i64 t.k),.p (.i .i64 t.n),.p (.s t.s),.p (.l (t.l.map enc))] := by rw [enc_eq]; rfl
  rw [e4]
  simp only [F67,capsOf,fxa,fxc,fxE,fxL,fxI,nxE,evO,evR,cellsT,ldCells,mkT,lenA,binPV,Env.init,resV,resT,frT,klT,ownT,intT,O.adds,ownA,rowsA,over,wrOk,keysT,keysA,ne_eq,if_true,if_false,ite_self,Nat.reduceLT,Nat.reduceSub,Nat.reduceBEq,Nat.reduceEqDiff,Nat.reduceAdd,Nat.reduceLeDiff,reduceCtorEq,Nat.reduceMul]
def zT0 : T := .mk 0 0 [] []
def lastB (t : T) : Int := if t.k = 6 then w (t.n - binds t) else 0
def useB (t : T) : List Int := (List.range (binds t).toNat).map fun i : Nat => w (uses (t.l.getD 0 zT0) (w (lastB t + (((binds t).toNat : Int) - 1 - (i : Int)))))
mutual
def ofT : T → List Int
  | .mk k n s l => useB (.mk k n s l) ++ ofTL l
def ofTL : List T → List Int
  | [] => []
  | t :: r => ofT t ++ ofTL r
end
theorem ofTL_app : ∀ (l r : List T),ofTL (l ++ r) = ofTL l ++ ofTL r
  | [],r => rfl
  | t :: l,r => by simp only [List.cons_append,ofTL,ofTL_app l r,List.append_assoc]
structure Kp (c0 : Nat) (σ σ' : St) : Prop where
  clk : σ.clk ≤ σ'.clk
  ls : σ'.ls = σ.ls
  bs : ∀ key : Key,(key.1 = 2 ∨ key.1 = 6) → c0 ≤ key.2 → key.2 < σ.clk → σ'.bs key = σ.bs key
theorem Kp.refl (c0 : Nat) (σ : St) : Kp c0 σ σ := ⟨Nat.le_refl _,rfl,fun _ _ _ _ => rfl⟩
theorem Kp.trans {c0 : Nat} {σ τ υ : St} (h : Kp c0 σ τ) (g : Kp c0 τ υ) : Kp c0 σ υ :=
  ⟨Nat.le_trans h.clk g.clk,g.ls.trans h.ls,fun k h1 h2 h3 => (g.bs k h1 h2 (Nat.lt_of_lt_of_le h3 h.clk)).trans (h.bs k h1 h2 h3)⟩
theorem Kp.add {c0 : Nat} {σ τ : St} (h : Kp c0 σ τ) (d : Nat) (b : Blk) : Kp c0 σ (τ.add d b) :=
  ⟨Nat.le_trans h.clk (by simp only [add_clk]; omega),h.ls,fun k h1 h2 h3 => by
    have h4 := h.clk
    have : ¬ k = (d,τ.clk) := by rintro rfl; simp at h3; omega
    simp only [add_bs,this,if_false]; exact h.bs k h1 h2 h3⟩
theorem Kp.put {c0 : Nat} {σ τ : St} (h : Kp c0 σ τ) {k : Key} (hk : σ.clk ≤ k.2) (b : Blk) : Kp c0 σ (τ.put k b) :=
  ⟨h.clk,h.ls,fun j h1 h2 h3 => by
    have : ¬ j = k := by rintro rfl; omega
    simp only [put_bs,this,if_false]; exact h.bs j h1 h2 h3⟩
structure Yl (l c0 : Nat) (L : List Int) (I : List Int → St → Prop) : Prop where
  st : ∀ pre σ σ',I pre σ → σ.clk ≤ σ'.clk → σ'.ls = σ.ls → (∀ key : Key,key.2 < σ.clk → σ'.bs key = σ.bs key) → I pre σ'
  call : ∀ pre x post σ,L = pre ++ x :: post → I pre σ → c0 ≤ σ.clk → ∃ σ',eS S (.y l) [.a (.p (.i .i64 x))] σ = some (.a (.p (.b true)),σ') ∧ I (pre ++ [x]) σ' ∧ Kp c0 σ σ'
theorem Yl.add {l c0 : Nat} {L : List Int} {I : List Int → St → Prop} (Y : Yl l c0 L I) {pre : List Int} {σ : St} (h : I pre σ) (d : Nat) (b : Blk) : I pre (σ.add d b) := by
  refine Y.st pre σ _ h (by simp only [add_clk]; omega) rfl fun key hk => ?_
  have : ¬ key = (d,σ.clk) := by rintro rfl; simp at hk
  simp only [add_bs,this,if_false]
theorem Yl.addput {l c0 : Nat} {L : List Int} {I : List Int → St → Prop} (Y : Yl l c0 L I) {pre : List Int} {σ : St} (h : I pre σ) (d : Nat) (b b' : Blk) : I pre ((σ.add d b).put (d,σ.clk) b') := by
  refine Y.st pre σ _ h (by simp only [put_clk,add_clk]; omega) rfl fun key hk => ?_
  have : ¬ key = (d,σ.clk) := by rintro rfl; simp at hk
  simp only [put_bs,add_bs,this,if_false]
theorem useB_len (t : T) : (useB t).length = (binds t).toNat := by unfold useB; simp
theorem useB_get {t : T} {i : Nat} (h : i < (binds t).toNat) : (useB t)[i]? = some (w (uses (t.l.getD 0 zT0) (w (lastB t + (((binds t).toNat : Int) - 1 - (i : Int)))))) := by
  unfold useB
  rw [List.getElem?_map,List.getElem?_range h]; rfl
theorem binds_le (t : T) : 0 ≤ binds t ∧ binds t ≤ 8 := by
  unfold binds
  repeat' split
  all_goals omega
theorem binds_ne {t : T} (h : 0 < binds t) : t.l ≠ [] := by
  intro h0
  unfold binds at h
  rw [h0] at h
  simp at h
theorem clo_use {l c0 : Nat} {L : List Int} {I : List Int → St → Prop} (Y : Yl l c0 L I) {t : T} (ht : T.Ok t) {pre post : List Int} (hL : L = pre ++ useB t ++ post) {cb : Nat} {σ : St} (hI : I pre σ) (hc : c0 ≤ cb) (hcb : cb < σ.clk) (hb : σ.bs (2,cb) = some (.var [.yl l])) :
    ∃ σ',eS S (.f 77) [.g ((enc t).map .p),.a (.ptr (2,cb) 0 0)] σ = some (.a (.p (.b true)),σ') ∧ I (pre ++ useB t) σ' ∧ Kp c0 σ σ' := by
  refine x_fnR (fc := F77) rfl rfl ?_
  have hbl := binds_le t
  have c1 := binds_ok t
  have e4 : (enc t).map AV.p = [.p (.i .i64 t.k),.p (.i .i64 t.n),.p (.s t.s),.p (.l (t.l.map enc))] := by rw [enc_eq]; rfl
  have e4' := enc_eq t
  have ne0 : ¬ (2,cb) = (2,σ.clk) := by simp; omega
  have hlen : t.l.length * 56 ≤ reachBytes := by cases ht; assumption
  obtain ⟨N,hN⟩ : ∃ N : Nat,(binds t).toNat = N := ⟨_,rfl⟩
  have hN' : binds t = (N : Int) := by omega
  have hw1 : IntKind.i64.wrap ((N : Int) - 1) = (N : Int) - 1 := wrap_in _ (by omega)
  have hul := useB_len t
  rw [hN] at hul
  have hloop : ∀ (e : Env),e 1 = .a (.ptr (2,cb) 0 0) → e 2 = .a (.ptr (2,σ.clk) 0 0) → e 5 = .a (.p (.i .i64 (lastB t))) → e 6 = .a (.p (.i .i64 ((N : Int) - 1))) →
      wp S false (.loop F77b0) e (σ.add 2 (.var ((enc t).map .p))) (fun x e' σ' => x = .exit 0 ∧ I (pre ++ useB t) σ' ∧ Kp c0 σ σ') := by
    intro e e1 e2 e5 e6
    refine loop_nat N (fun i e τ => e 1 = .a (.ptr (2,cb) 0 0) ∧ e 2 = .a (.ptr (2,σ.clk) 0 0) ∧ e 5 = .a (.p (.i .i64 (lastB t))) ∧ e 6 = .a (.p (.i .i64 ((N : Int) - 1 - i))) ∧
      I (pre ++ (useB t).take i) τ ∧ Kp c0 σ τ ∧ τ.bs (2,cb) = some (.var [.yl l]) ∧ τ.bs (2,σ.clk) = some (.var ((enc t).map .p)) ∧ σ.clk < τ.clk) (i0 := 0) (Nat.zero_le _) ?_ ?_ ?_
    · refine ⟨e1,e2,e5,by rw [e6]; simp,by simpa using Y.add hI 2 _,(Kp.refl _ _).add _ _,?_,?_,by simp only [add_clk]; omega⟩
      · simp only [add_bs,ne0,if_false]; exact hb
      · simp only [add_bs,if_true]
    · rintro i e τ hi ⟨e1,e2,e5,e6,hIi,hK,b1,b2,hclk⟩
      have hx0 := binds_ne (t := t) (by omega)
      obtain ⟨x0,r0,hl0⟩ : ∃ x0 r0,t.l = x0 :: r0 := by
        cases h : t.l with
        | nil => exact absurd h hx0
        | cons a b => exact ⟨a,b,rfl⟩
      have hx0' : (t.l.map enc)[0]? = some (enc x0) := by rw [hl0]; rfl
      have hxo : T.Ok x0 := by
        cases ht with
        | mk k n s l hk hn hs hl h => exact h x0 (by have : l = x0 :: r0 := hl0; rw [this]; simp)
      have hget := useB_get (t := t) (i := i) (by omega)
      have hgd : t.l.getD 0 zT0 = x0 := by rw [hl0]; rfl
      rw [hN,hgd] at hget
      obtain ⟨u,hu⟩ : ∃ u,w (uses x0 (w (lastB t + ((N : Int) - 1 - i)))) = u := ⟨_,rfl⟩
      have c2 := subUses_ok hxo (w (lastB t + ((N : Int) - 1 - i))) (w_range _)
      rw [hu] at c2 hget
      have htk : (useB t).take (i + 1) = (useB t).take i ++ [u] := by rw [List.take_add_one,hget]; rfl
      have hLi : L = (pre ++ (useB t).take i) ++ u :: ((useB t).drop (i + 1) ++ post) := by
        have hd : useB t = (useB t).take i ++ u :: (useB t).drop (i + 1) := by
          have hlt : i < (useB t).length := by omega
          rw [List.getElem?_eq_getElem hlt] at hget
          have := List.take_append_drop i (useB t)
          rw [List.drop_eq_getElem_cons hlt,Option.some.inj hget] at this
          exact this.symm
        rw [hL]
        conv => lhs; rw [hd]
        simp
      obtain ⟨τ',c3,hI2,hK2⟩ := Y.call _ u _ τ hLi hIi (by have := hK.clk; omega)
      have hge : (N : Int) - 1 - i ≥ 0 := by omega
      have hws : IntKind.i64.wrap ((N : Int) - 1 - i - 1) = (N : Int) - 1 - ((i + 1 : Nat) : Int) := by rw [wrap_in _ (by omega)]; omega
      have hl1 : (0 : Int) < (t.l.length : Int) := by rw [hl0]; simp only [List.length_cons]; omega
      have b1' := (hK2.bs (2,cb) (.inl rfl) hc (by show cb < τ.clk; omega)).trans b1
      have b2' := (hK2.bs (2,σ.clk) (.inl rfl) (by show c0 ≤ σ.clk; omega) (by show σ.clk < τ.clk; omega)).trans b2
      rw [e4] at b2
      have e5x := enc_eq x0
      simp only [F77b0,e1,e2,e5,e6,b1,b2,hge,hws,hl1,hx0',enc_len,enc_take,enc_all,c2,c3,w,Int.le_refl,Int.toNat_zero,List.length_map,spS,fxa,fxc,fxE,fxL,fxI,nxE,evO,evR,cellsT,ldCells,mkT,lenA,binPV,Env.init,resV,resT,frT,klT,ownT,intT,O.adds,ownA,rowsA,over,wrOk,keysT,keysA,ne_eq,if_true,if_false,ite_self,Nat.reduceLT,Nat.reduceSub,Nat.reduceBEq,Nat.reduceEqDiff,Nat.reduceAdd,Nat.reduceLeDiff,reduceCtorEq,Nat.reduceMul]
      rw [htk,← List.append_assoc]
      exact ⟨hI2,hK.trans hK2,b1',b2',by have := hK2.clk; omega⟩
    · rintro e τ ⟨e1,e2,e5,e6,hIi,hK,b1,b2,hclk⟩
      have hge : ¬ (N : Int) - 1 - (N : Nat) ≥ 0 := by omega
      rw [← hul,List.take_length] at hIi
      simp only [F77b0,e1,e2,e5,e6,hge,spS,fxa,fxc,fxE,fxL,fxI,nxE,evO,evR,cellsT,ldCells,mkT,lenA,binPV,Env.init,resV,resT,frT,klT,ownT,intT,O.adds,ownA,rowsA,over,wrOk,keysT,keysA,ne_eq,if_true,if_false,ite_self,Nat.reduceLT,Nat.reduceSub,Nat.reduceBEq,Nat.reduceEqDiff,Nat.reduceAdd,Nat.reduceLeDiff,reduceCtorEq,Nat.reduceMul]
      exact ⟨hIi,hK⟩
  rw [e4'] at c1
  rw [hN'] at c1
  rw [e4] at hloop ⊢
  by_cases h6 : t.k = 6
  · have hlb : lastB t = IntKind.i64.wrap (t.n - (N : Int)) := by unfold lastB; rw [if_pos h6,hN']
    rw [h6] at c1 hloop ⊢
    rw [hlb] at hloop
    simp only [F77,c1,hw1,spS,fxa,fxc,fxE,fxL,fxI,nxE,evO,evR,cellsT,ldCells,mkT,lenA,binPV,Env.init,resV,resT,frT,klT,ownT,intT,O.adds,ownA,rowsA,over,wrOk,keysT,keysA,ne_eq,if_true,if_false,ite_self,Nat.reduceLT,Nat.reduceSub,Nat.reduceBEq,Nat.reduceEqDiff,Nat.reduceAdd,Nat.reduceLeDiff,reduceCtorEq,Nat.reduceMul]
    refine Go.Fx.wp_mono (hloop _ ?_ ?_ ?_ ?_) ?_
    all_goals first
      | rfl
      | (rintro x e' τ ⟨rfl,hI1,hK1⟩
         simp only [fxa,fxc,fxE,fxL,fxI,nxE,evO,evR,cellsT,ldCells,mkT,lenA,binPV,Env.init,resV,resT,frT,klT,ownT,intT,O.adds,ownA,rowsA,over,wrOk,keysT,keysA,ne_eq,if_true,if_false,ite_self,Nat.reduceLT,Nat.reduceSub,Nat.reduceBEq,Nat.reduceEqDiff,Nat.reduceAdd,Nat.reduceLeDiff,reduceCtorEq,Nat.reduceMul]
         exact ⟨hI1,hK1⟩)
  · have hlb : lastB t = 0 := by unfold lastB; rw [if_neg h6]
    rw [hlb] at hloop
    simp only [F77,c1,h6,hw1,spS,fxa,fxc,fxE,fxL,fxI,nxE,evO,evR,cellsT,ldCells,mkT,lenA,binPV,Env.init,resV,resT,frT,klT,ownT,intT,O.adds,ownA,rowsA,over,wrOk,keysT,keysA,ne_eq,if_true,if_false,ite_self,Nat.reduceLT,Nat.reduceSub,Nat.reduceBEq,Nat.reduceEqDiff,Nat.reduceAdd,Nat.reduceLeDiff,reduceCtorEq,Nat.reduceMul]
    refine Go.Fx.wp_mono (hloop _ ?_ ?_ ?_ ?_) ?_
    all_goals first
      | rfl
      | (rintro x e' τ ⟨rfl,hI1,hK1⟩
         simp only [fxa,fxc,fxE,fxL,fxI,nxE,evO,evR,cellsT,ldCells,mkT,lenA,binPV,Env.init,resV,resT,frT,klT,ownT,intT,O.adds,ownA,rowsA,over,wrOk,keysT,keysA,ne_eq,if_true,if_false,ite_self,Nat.reduceLT,Nat.reduceSub,Nat.reduceBEq,Nat.reduceEqDiff,Nat.reduceAdd,Nat.reduceLeDiff,reduceCtorEq,Nat.reduceMul]
         exact ⟨hI1,hK1⟩)
theorem all_loop {l c0 : Nat} {L : List Int} {I : List Int → St → Prop} (Y : Yl l c0 L I) {ts : List T} {cb : Nat} (hc : c0 ≤ cb) (hl : ts.length * 56 ≤ reachBytes)
    (ih : ∀ t ∈ ts,∀ (pre post : List Int) (σ : St),L = pre ++ ofT t ++ post → I pre σ → cb < σ.clk → σ.bs (2,cb) = some (.var [.yl l]) → ∃ σ',eS S (.f 76) [.g ((enc t).map .p),.a (.fn 77 [(2,cb)])] σ = some (.a (.p (.b true)),σ') ∧ I (pre ++ ofT t) σ' ∧ Kp c0 σ σ')
    {pre post : List Int} (hL : L = pre ++ ofTL ts ++ post) {σ : St} (hI : I pre σ) (hcb : cb < σ.clk) (hb : σ.bs (2,cb) = some (.var [.yl l])) (e : Env)
    (e1 : e 1 = .a (.fn 77 [(2,cb)])) (e12 : e 12 = .a (.p (.l (ts.map enc)))) (e13 : e 13 = .a (.p (.i .i64 (ts.length : Nat)))) (e14 : e 14 = .a (.p (.i .i64 0))) :
    wp S false (.loop F76b0) e σ (fun x e' σ' => x = .exit 0 ∧ I (pre ++ ofTL ts) σ' ∧ Kp c0 σ σ') := by
  refine loop_nat ts.length (fun i e τ => e 1 = .a (.fn 77 [(2,cb)]) ∧ e 12 = .a (.p (.l (ts.map enc))) ∧ e 13 = .a (.p (.i .i64 (ts.length : Nat))) ∧ e 14 = .a (.p (.i .i64 (i : Nat))) ∧
    I (pre ++ ofTL (ts.take i)) τ ∧ Kp c0 σ τ ∧ τ.bs (2,cb) = some (.var [.yl l]) ∧ cb < τ.clk) (i0 := 0) (Nat.zero_le _) ⟨e1,e12,e13,e14,by simpa [ofTL] using hI,Kp.refl _ _,hb,hcb⟩ ?_ ?_
  · rintro i e τ hi ⟨e1,e12,e13,e14,hIi,hK,b1,hclk⟩
    obtain ⟨x,hx⟩ : ∃ x,ts[i]? = some x := ⟨_,List.getElem?_eq_getElem hi⟩
    have hx' : (ts.map enc)[i]? = some (enc x) := by simp [hx]
    have hxm := List.mem_of_getElem? hx
    have hlt : ((i : Nat) : Int) < (ts.length : Int) := by omega
    have hge : (0 : Int) ≤ ((i : Nat) : Int) := by omega
    have hlb : i < 9223372036854775807 := by simp only [reachBytes] at hl; omega
    have hw := wrap_succ i hlb
    have ne0 : ¬ (2,cb) = (6,τ.clk) := by simp
    have e4 : (enc x).map AV.p = [.p (.i .i64 x.k),.p (.i .i64 x.n),.p (.s x.s),.p (.l (x.l.map enc))] := by rw [enc_eq]; rfl
    have hLi : L = (pre ++ ofTL (ts.take i)) ++ ofT x ++ (ofTL (ts.drop (i + 1)) ++ post) := by
      have : ofTL ts = ofTL (ts.take i) ++ (ofT x ++ ofTL (ts.drop (i + 1))) := by
        conv => lhs; rw [← List.take_append_drop i ts,drop_consT hx]
        rw [ofTL_app]; rfl
      rw [hL,this]; simp
    have hs1 : ofTL (ts.take (i + 1)) = ofTL (ts.take i) ++ ofT x := by rw [take_succT hx,ofTL_app]; simp [ofTL]
    obtain ⟨τ1,c1,hI1,hK1⟩ := ih x hxm _ _ ((τ.add 6 (.var [.p (.i .i64 0),.p (.i .i64 0),.p (.s []),.nil])).put (6,τ.clk) (.var ((enc x).map .p))) hLi (Y.addput hIi 6 _ _) (by simp only [put_clk,add_clk]; omega) (by simp only [put_bs,add_bs,ne0,if_false]; exact b1)
    have hK2 : Kp c0 τ τ1 := (((Kp.refl c0 τ).add 6 _).put (by exact Nat.le_refl _) _).trans hK1
    have b1' := (hK2.bs (2,cb) (.inl rfl) hc hclk).trans b1
    rw [hs1]
    rw [e4] at c1
    simp only [F76b0,e1,e12,e13,e14,hlt,hge,hw,hx',e4,enc_len,enc_take,enc_all,c1,Int.toNat_natCast,List.length_map,spS,fxa,fxc,fxE,fxL,fxI,nxE,evO,evR,cellsT,ldCells,mkT,lenA,binPV,Env.init,resV,resT,frT,klT,ownT,intT,O.adds,ownA,rowsA,over,wrOk,keysT,keysA,ne_eq,if_true,if_false,ite_self,Nat.reduceLT,Nat.reduceSub,Nat.reduceBEq,Nat.reduceEqDiff,Nat.reduceAdd,Nat.reduceLeDiff,reduceCtorEq,Nat.reduceMul]
    rw [← List.append_assoc]
    exact ⟨hI1,hK.trans hK2,b1',by have := hK2.clk; omega⟩
  · rintro e τ ⟨e1,e12,e13,e14,hIi,hK,b1,hclk⟩
    have hlt : ¬ ((ts.length : Nat) : Int) < (ts.length : Int) := by omega
    rw [List.take_length] at hIi
    simp only [F76b0,e1,e12,e13,e14,hlt,spS,fxa,fxc,fxE,fxL,fxI,nxE,evO,evR,cellsT,ldCells,mkT,lenA,binPV,Env.init,resV,resT,frT,klT,ownT,intT,O.adds,ownA,rowsA,over,wrOk,keysT,keysA,ne_eq,if_true,if_false,ite_self,Nat.reduceLT,Nat.reduceSub,Nat.reduceBEq,Nat.reduceEqDiff,Nat.reduceAdd,Nat.reduceLeDiff,reduceCtorEq,Nat.reduceMul]
    exact ⟨hIi,hK⟩
theorem all_use {l c0 : Nat} {L : List Int} {I : List Int → St → Prop} (Y : Yl l c0 L I) {cb : Nat} (hc : c0 ≤ cb) : ∀ {t : T},T.Ok t → ∀ (pre post : List Int) (σ : St),L = pre ++ ofT t ++ post → I pre σ → cb < σ.clk → σ.bs (2,cb) = some (.var [.yl l]) →
    ∃ σ',eS S (.f 76) [.g ((enc t).map .p),.a (.fn 77 [(2,cb)])] σ = some (.a (.p (.b true)),σ') ∧ I (pre ++ ofT t) σ' ∧ Kp c0 σ σ' := by
  intro t ht
  induction ht with
  | mk k n s l hk hn hs hl h ih =>
    intro pre post σ hL hI hcb hb
    refine x_fnR (fc := F76) rfl rfl ?_
    have hT : T.Ok (.mk k n s l) := .mk k n s l hk hn hs hl h
    have e4 : (enc (.mk k n s l)).map AV.p = [.p (.i .i64 k),.p (.i .i64 n),.p (.s s),.p (.l (l.map enc))] := by rw [enc_eq]; rfl
    have ne0 : ¬ (2,cb) = (2,σ.clk) := by simp; omega
    have hLt : ofT (.mk k n s l) = useB (.mk k n s l) ++ ofTL l := rfl
    rw [hLt] at hL ⊢
    obtain ⟨τ,c1,hI1,hK1⟩ := clo_use Y hT (pre := pre) (post := ofTL l ++ post) (by rw [hL]; simp) (cb := cb) (σ := σ.add 2 (.var ((enc (.mk k n s l)).map .p))) (Y.add hI 2 _) hc (by simp only [add_clk]; omega) (by simp only [add_bs,ne0,if_false]; exact hb)
    have hK0 : Kp c0 σ τ := ((Kp.refl c0 σ).add 2 _).trans hK1
    have b1 := (hK0.bs (2,cb) (.inl rfl) hc hcb).trans hb
    have b2 := hK1.bs (2,σ.clk) (.inl rfl) (by show c0 ≤ σ.clk; omega) (by simp only [add_clk]; omega)
    rw [e4] at c1 b2 ⊢
    simp only [add_bs,if_true] at b2
    have hckl := hK0.clk
    simp only [F76,c1,b2,List.length_map,spS,fxa,fxc,fxE,fxL,fxI,nxE,evO,evR,cellsT,ldCells,mkT,lenA,binPV,Env.init,resV,resT,frT,klT,ownT,intT,O.adds,ownA,rowsA,over,wrOk,keysT,keysA,ne_eq,if_true,if_false,ite_self,Nat.reduceLT,Nat.reduceSub,Nat.reduceBEq,Nat.reduceEqDiff,Nat.reduceAdd,Nat.reduceLeDiff,reduceCtorEq,Nat.reduceMul]
    refine Go.Fx.wp_mono (all_loop Y hc hl (fun t ht pre post σ hL hI hcb hb => ih t ht pre post σ hL hI hcb hb) (pre := pre ++ useB (.mk k n s l)) (post := post) (by rw [hL]; simp) hI1 (by omega) b1 _ ?_ ?_ ?_ ?_) ?_
    all_goals first
      | rfl
      | (rintro x e' τ' ⟨rfl,hI2,hK2⟩
         simp only [fxa,fxc,fxE,fxL,fxI,nxE,evO,evR,cellsT,ldCells,mkT,lenA,binPV,Env.init,resV,resT,frT,klT,ownT,intT,O.adds,ownA,rowsA,over,wrOk,keysT,keysA,ne_eq,if_true,if_false,ite_self,Nat.reduceLT,Nat.reduceSub,Nat.reduceBEq,Nat.reduceEqDiff,Nat.reduceAdd,Nat.reduceLeDiff,reduceCtorEq,Nat.reduceMul]
         rw [← List.append_assoc]
         exact ⟨hI2,hK0.trans hK2⟩)
theorem iter_use {l : Nat} {I : List Int → St → Prop} {t : T} (ht : T.Ok t) {σ : St} (Y : Yl l σ.clk (ofT t) I) (hI : I [] σ) {kn : Key} (hn : σ.bs kn = some (.var ((enc t).map .p))) (hlt : kn.2 < σ.clk) :
    ∃ σ',eS S (.f 75) [.a (.yl l),.a (.ptr kn 0 0)] σ = some (.u,σ') ∧ I (ofT t) σ' ∧ Kp σ.clk σ σ' := by
  refine x_fnR (fc := F75) rfl rfl ?_
  have ne0 : ¬ kn = (2,σ.clk) := by rintro rfl; simp at hlt
  obtain ⟨τ,c1,hI1,hK1⟩ := all_use Y (Nat.le_refl _) ht [] [] (σ.add 2 (.var [.yl l])) (by simp) (Y.add hI 2 _) (by simp only [add_clk]; omega) (by simp only [add_bs,if_true])
  have e4 : (enc t).map AV.p = [.p (.i .i64 t.k),.p (.i .i64 t.n),.p (.s t.s),.p (.l (t.l.map enc))] := by rw [enc_eq]; rfl
  rw [e4] at hn c1
  simp only [F75,hn,ne0,c1,capsOf,spS,fxa,fxc,fxE,fxL,fxI,nxE,evO,evR,cellsT,ldCells,mkT,lenA,binPV,Env.init,resV,resT,frT,klT,ownT,intT,O.adds,ownA,rowsA,over,wrOk,keysT,keysA,ne_eq,if_true,if_false,ite_self,Nat.reduceLT,Nat.reduceSub,Nat.reduceBEq,Nat.reduceEqDiff,Nat.reduceAdd,Nat.reduceLeDiff,reduceCtorEq,Nat.reduceMul]
  exact ⟨by simpa using hI1,((Kp.refl _ σ).add 2 _).trans hK1⟩
end Go.Proofs.Ytlgekplmbmkcmaa
end
section
set_option linter.unusedSimpArgs false
set_option linter.unusedVariables false
set_option maxHeartbeats 4000000
set_option maxRecDepth 10000
namespace Go.Proofs.Ytlgekplmbmkcmaa
open Go.Fx
theorem rng_uses {t : T} (ht : T.Ok t) {E : Env} {σ : St} {kn : Key} {f : X} {p : Nat} {assign body : C} {Q : Ex → Env → St → Prop} (hf : ev E f = .a (.fn 75 [kn])) (hn : σ.bs kn = some (.var ((enc t).map .p))) (hlt : kn.2 < σ.clk) (hls : σ.ls = [])
    (I : List Int → St → Prop) (hst : ∀ pre σ σ',I pre σ → σ.clk ≤ σ'.clk → (∀ key : Key,key.2 < σ.clk → σ'.bs key = σ.bs key) → I pre σ') (hI : I [] σ)
    (step : ∀ pre x post τ r0,ofT t = pre ++ x :: post → I pre τ → σ.clk ≤ τ.clk → τ.ls = [r0] → wp S true assign (E.put p (.a (.p (.i .i64 x)))) τ fun z e1 σ1 => z = .norm ∧ σ1.ls = τ.ls ∧
      wp S true body e1 (setL σ1 0 { r0 with st := .busy }) fun y e2 σ2 => y = .norm ∧ σ2.ls = (setL σ1 0 { r0 with st := .busy }).ls ∧ I (pre ++ [x]) σ2 ∧ τ.clk ≤ σ2.clk ∧ ∀ key : Key,(key.1 = 2 ∨ key.1 = 6) → σ.clk ≤ key.2 → key.2 < τ.clk → σ2.bs key = τ.bs key)
    (hQ : ∀ σ' r,I (ofT t) σ' → σ'.ls = [r] → σ.clk ≤ σ'.clk → Q .norm E σ') : wp S false (.rng f [p] assign body) E σ Q := by
  refine wp_rng hf ?_
  rw [hls]
  simp only [List.length_nil,List.nil_append,List.map_cons,List.map_nil]
  obtain ⟨r0,hr0⟩ : ∃ r0 : LRec,r0 = { env := E,params := [p],assign := assign,body := body,st := .ready,pend := none } := ⟨_,rfl⟩
  rw [← hr0]
  have Y : Yl 0 σ.clk (ofT t) (fun pre τ => I pre τ ∧ τ.ls = [r0] ∧ σ.clk ≤ τ.clk) := by
    refine ⟨fun pre τ τ' ⟨h1,h2,h3⟩ k1 k2 k3 => ⟨hst pre τ τ' h1 k1 k3,k2.trans h2,Nat.le_trans h3 k1⟩,?_⟩
    rintro pre x post τ hL ⟨h1,h2,h3⟩ _
    have hs := step pre x post τ r0 hL h1 h3 h2
    obtain ⟨v,τ',g1,g2⟩ := y_round (S := S) (l := 0) (args := [.a (.p (.i .i64 x))]) (σ := τ) (r := r0) (by rw [h2]; rfl) (by rw [hr0]; rfl)
      (K := fun v τ' => v = .a (.p (.b true)) ∧ (I (pre ++ [x]) τ' ∧ τ'.ls = [r0] ∧ σ.clk ≤ τ'.clk) ∧ Kp σ.clk τ τ') (by
        have ra : r0.assign = assign := by rw [hr0]
        have rb : r0.body = body := by rw [hr0]
        have re : r0.env = E := by rw [hr0]
        have rp : r0.params = [p] := by rw [hr0]
        have rs : r0.st = .ready := by rw [hr0]
        rw [ra,rb,re,rp]
        refine Go.Fx.wp_mono hs ?_
        rintro z e1 σ1 ⟨rfl,g1,g2⟩
        refine ⟨rfl,r0,by rw [g1,h2]; rfl,rs,?_⟩
        refine Go.Fx.wp_mono g2 ?_
        rintro y e2 σ2 ⟨rfl,k1,k2,k3,k4⟩
        have hl1 : (setL σ1 0 { r0 with st := .busy }).ls = [{ r0 with st := .busy }] := by rw [setL_ls,g1,h2]; rfl
        rw [hl1] at k1
        refine ⟨{ r0 with st := .busy },by rw [k1]; rfl,?_⟩
        rw [if_pos rfl]
        have hback : (setL σ2 0 { ({ r0 with st := LSt.busy } : LRec) with st := .ready,pend := none }).ls = [r0] := by rw [setL_ls,k1,hr0]; rfl
        refine ⟨rfl,⟨hst _ σ2 _ k2 (Nat.le_refl _) (fun _ _ => rfl),hback,by rw [setL_clk]; omega⟩,⟨by rw [setL_clk]; exact k3,by rw [hback,h2],fun key a b c => by rw [setL_bs]; exact k4 key a b c⟩⟩)
    obtain ⟨rfl,g3,g4⟩ := g2
    exact ⟨τ',g1,g3,g4⟩
  obtain ⟨σ1,hc,⟨h1,h2,h3⟩,hK⟩ := iter_use ht (σ := { σ with ls := [r0] }) Y ⟨hst [] σ _ hI (Nat.le_refl _) (fun _ _ => rfl),rfl,Nat.le_refl _⟩ hn hlt
  refine ⟨_,σ1,hc,r0,by rw [h2]; rfl,by rw [hr0]; simp,?_⟩
  have hp0 : r0.pend = none := by rw [hr0]
  rw [hp0]
  exact hQ _ _ (hst _ σ1 _ h1 (Nat.le_refl _) (fun _ _ => rfl)) (by rw [setL_ls,h2]; rfl) (by rw [setL_clk]; exact h3)
def fanW (a n : Int) : Int := w (a + (if 0 > w (n - 1) then 0 else w (n - 1)))
def fansW (l : List Int) : Int := l.foldl fanW 0
def dropW (a n : Int) : Int := if n = 0 then w (a + 1) else a
def dropsW (l : List Int) : Int := l.foldl dropW 0
theorem fansW_app (l : List Int) (x : Int) : fansW (l ++ [x]) = fanW (fansW l) x := by unfold fansW; rw [List.foldl_append]; rfl
theorem dropsW_app (l : List Int) (x : Int) : dropsW (l ++ [x]) = dropW (dropsW l) x := by unfold dropsW; rw [List.foldl_append]; rfl
theorem Fans_ok {t : T} (ht : T.Ok t) : eP S 41 [.g (enc t)] = some (.a (.i .i64 (fansW (ofT t)))) := by
  refine x_fn (orcS _) (fc := F41) rfl rfl ?_
  have e4 : (enc t).map AV.p = [.p (.i .i64 t.k),.p (.i .i64 t.n),.p (.s t.s),.p (.l (t.l.map enc))] := by rw [enc_eq]; rfl
  have e4' := enc_eq t
  have c1 := uses_fn t (((St.empty.add 1 (.var ((enc t).map .p))).add 3 (.var [.p (.i .i64 0)])).put (3,1) (.var [.p (.i .i64 0)]))
  rw [e4] at c1
  rw [e4']
  simp only [F41,c1,spS,fxa,fxc,fxE,fxL,fxI,nxE,evO,evR,cellsT,ldCells,mkT,lenA,binPV,Env.init,resV,resT,frT,klT,ownT,intT,O.adds,ownA,rowsA,over,wrOk,keysT,keysA,ne_eq,if_true,if_false,ite_self,Nat.reduceLT,Nat.reduceSub,Nat.reduceBEq,Nat.reduceEqDiff,Nat.reduceAdd,Nat.reduceLeDiff,reduceCtorEq,Nat.reduceMul]
  refine rng_uses ht (kn := (1,2)) rfl (by rw [e4]; rfl) (by show 2 < 3; omega) rfl (fun pre τ => τ.bs (3,1) = some (.var [.p (.i .i64 (fansW pre))]) ∧ 1 < τ.clk) ?_ ?_ ?_ ?_
  · rintro pre σ σ' ⟨h1,h2⟩ h3 h4
    exact ⟨(h4 _ h2).trans h1,by omega⟩
  · exact ⟨rfl,by show 1 < 3; omega⟩
  · rintro pre x post τ r0 hL ⟨h1,h2⟩ hc hls
    simp only [setL_bs,setL_clk,h1,spS,fxa,fxc,fxE,fxL,fxI,nxE,evO,evR,cellsT,ldCells,mkT,lenA,binPV,Env.init,resV,resT,frT,klT,ownT,intT,O.adds,ownA,rowsA,over,wrOk,keysT,keysA,ne_eq,if_true,if_false,ite_self,Nat.reduceLT,Nat.reduceSub,Nat.reduceBEq,Nat.reduceEqDiff,Nat.reduceAdd,Nat.reduceLeDiff,reduceCtorEq,Nat.reduceMul]
    refine ⟨⟨by rw [fansW_app]; rfl,h2⟩,fun key hk _ _ => ?_⟩
    rw [if_neg]; rintro rfl; simp at hk
  · rintro σ' r ⟨h1,h2⟩ hls hc
    simp only [h1,spS,fxa,fxc,fxE,fxL,fxI,nxE,evO,evR,cellsT,ldCells,mkT,lenA,binPV,Env.init,resV,resT,frT,klT,ownT,intT,O.adds,ownA,rowsA,over,wrOk,keysT,keysA,ne_eq,if_true,if_false,ite_self,Nat.reduceLT,Nat.reduceSub,Nat.reduceBEq,Nat.reduceEqDiff,Nat.reduceAdd,Nat.reduceLeDiff,reduceCtorEq,Nat.reduceMul]
theorem Affine_ok {t : T} (ht : T.Ok t) : eP S 39 [.g (enc t)] = some (.a (.b (decide (fansW (ofT t) = 0)))) := by
  refine x_fn (orcS _) (fc := F39) rfl rfl ?_
  have c1 := Fans_ok ht
  rw [enc_eq] at c1 ⊢
  simp only [F39,c1,spS,fxa,fxc,fxE,fxL,fxI,nxE,evO,evR,cellsT,ldCells,mkT,lenA,binPV,Env.init,resV,resT,frT,klT,ownT,intT,O.adds,ownA,rowsA,over,wrOk,keysT,keysA,ne_eq,if_true,if_false,ite_self,Nat.reduceLT,Nat.reduceSub,Nat.reduceBEq,Nat.reduceEqDiff,Nat.reduceAdd,Nat.reduceLeDiff,reduceCtorEq,Nat.reduceMul]
theorem Drops_ok {t : T} (ht : T.Ok t) : eP S 42 [.g (enc t)] = some (.a (.i .i64 (dropsW (ofT t)))) := by
  refine x_fn (orcS _) (fc := F42) rfl rfl ?_
  have e4 : (enc t).map AV.p = [.p (.i .i64 t.k),.p (.i .i64 t.n),.p (.s t.s),.p (.l (t.l.map enc))] := by rw [enc_eq]; rfl
  have e4' := enc_eq t
  have c1 := uses_fn t (((St.empty.add 1 (.var ((enc t).map .p))).add 3 (.var [.p (.i .i64 0)])).put (3,1) (.var [.p (.i .i64 0)]))
  rw [e4] at c1
  rw [e4']
  simp only [F42,c1,spS,fxa,fxc,fxE,fxL,fxI,nxE,evO,evR,cellsT,ldCells,mkT,lenA,binPV,Env.init,resV,resT,frT,klT,ownT,intT,O.adds,ownA,rowsA,over,wrOk,keysT,keysA,ne_eq,if_true,if_false,ite_self,Nat.reduceLT,Nat.reduceSub,Nat.reduceBEq,Nat.reduceEqDiff,Nat.reduceAdd,Nat.reduceLeDiff,reduceCtorEq,Nat.reduceMul]
  refine rng_uses ht (kn := (1,2)) rfl (by rw [e4]; rfl) (by show 2 < 3; omega) rfl (fun pre τ => τ.bs (3,1) = some (.var [.p (.i .i64 (dropsW pre))]) ∧ 1 < τ.clk) ?_ ?_ ?_ ?_
  · rintro pre σ σ' ⟨h1,h2⟩ h3 h4
    exact ⟨(h4 _ h2).trans h1,by omega⟩
  · exact ⟨rfl,by show 1 < 3; omega⟩
  · rintro pre x post τ r0 hL ⟨h1,h2⟩ hc hls
    by_cases hx : x = 0
    · subst hx
      simp only [setL_bs,setL_clk,h1,spS,fxa,fxc,fxE,fxL,fxI,nxE,evO,evR,cellsT,ldCells,mkT,lenA,binPV,Env.init,resV,resT,frT,klT,ownT,intT,O.adds,ownA,rowsA,over,wrOk,keysT,keysA,ne_eq,if_true,if_false,ite_self,Nat.reduceLT,Nat.reduceSub,Nat.reduceBEq,Nat.reduceEqDiff,Nat.reduceAdd,Nat.reduceLeDiff,reduceCtorEq,Nat.reduceMul]
      refine ⟨⟨by rw [dropsW_app]; rfl,h2⟩,fun key hk _ _ => ?_⟩
      rw [if_neg]; rintro rfl; simp at hk
    · have hd : dropsW (pre ++ [x]) = dropsW pre := by rw [dropsW_app]; unfold dropW; rw [if_neg hx]
      simp only [setL_bs,setL_clk,h1,hx,hd,spS,fxa,fxc,fxE,fxL,fxI,nxE,evO,evR,cellsT,ldCells,mkT,lenA,binPV,Env.init,resV,resT,frT,klT,ownT,intT,O.adds,ownA,rowsA,over,wrOk,keysT,keysA,ne_eq,if_true,if_false,ite_self,Nat.reduceLT,Nat.reduceSub,Nat.reduceBEq,Nat.reduceEqDiff,Nat.reduceAdd,Nat.reduceLeDiff,reduceCtorEq,Nat.reduceMul]
      exact ⟨h2,fun _ _ _ _ => trivial⟩
  · rintro σ' r ⟨h1,h2⟩ hls hc
    simp only [h1,spS,fxa,fxc,fxE,fxL,fxI,nxE,evO,evR,cellsT,ldCells,mkT,lenA,binPV,Env.init,resV,resT,frT,klT,ownT,intT,O.adds,ownA,rowsA,over,wrOk,keysT,keysA,ne_eq,if_true,if_false,ite_self,Nat.reduceLT,Nat.reduceSub,Nat.reduceBEq,Nat.reduceEqDiff,Nat.reduceAdd,Nat.reduceLeDiff,reduceCtorEq,Nat.reduceMul]
theorem seq_ok {t : T} (ht : T.Ok t) (hlen : (ofT t).length ≤ 1099511627776) {σ : St} {kn : Key} (hn : σ.bs kn = some (.var ((enc t).map .p))) (hlt : kn.2 < σ.clk) (hls : σ.ls = []) :
    ∃ v σ',eS S (.f 74) [.a .nil,.a (.fn 75 [kn])] σ = some (.a v,σ') ∧ frA σ' v = some (.l ((ofT t).map encI)) := by
  obtain ⟨v,σ',h1,x,rfl,h2⟩ := x_fnS (K := fun v σ' => ∃ x,v = .a x ∧ frA σ' x = some (.l ((ofT t).map encI))) (fc := F74) (g := 74) (args := [.a .nil,.a (.fn 75 [kn])]) (σ := σ) rfl rfl (by
    have ne0 : ¬ kn = (2,σ.clk) := by rintro rfl; simp at hlt
    simp only [F74,spS,fxa,fxc,fxE,fxL,fxI,nxE,evO,evR,cellsT,ldCells,mkT,lenA,binPV,Env.init,resV,resT,frT,klT,ownT,intT,O.adds,ownA,rowsA,over,wrOk,keysT,keysA,ne_eq,if_true,if_false,ite_self,Nat.reduceLT,Nat.reduceSub,Nat.reduceBEq,Nat.reduceEqDiff,Nat.reduceAdd,Nat.reduceLeDiff,reduceCtorEq,Nat.reduceMul]
    refine rng_uses ht (kn := kn) rfl (by simp only [add_bs,ne0,if_false]; exact hn) (by simp only [add_clk]; omega) hls (fun pre τ => ∃ x,τ.bs (2,σ.clk) = some (.var [x]) ∧ σ.clk < τ.clk ∧ (pre = [] ∧ x = .nil ∨ ∃ q : Nat,x = .own (11,q) 0 pre.length ∧ τ.bs (11,q) = some (.row 1 3 (pre.map encI)) ∧ q < τ.clk)) ?_ ?_ ?_ ?_
    · rintro pre τ τ' ⟨x,h1,h2,h3⟩ h4 h5
      refine ⟨x,(h5 _ h2).trans h1,by omega,?_⟩
      rcases h3 with h3 | ⟨q,e1,e2,e3⟩
      · exact .inl h3
      · exact .inr ⟨q,e1,(h5 _ e3).trans e2,by omega⟩
    · exact ⟨.nil,by simp only [add_bs,if_true],by simp only [add_clk]; omega,.inl ⟨rfl,rfl⟩⟩
    · rintro pre x post τ r0 hL ⟨y,h1,h2,h3⟩ hc hls2
      simp only [add_clk] at hc
      have hpl : pre.length < (ofT t).length := by rw [hL]; simp only [List.length_append,List.length_cons]; omega
      have hbb : (pre.length + 1) * 8 ≤ 140737488355328 := by omega
      rcases h3 with ⟨rfl,rfl⟩ | ⟨q,rfl,e2,e3⟩
      · simp only [setL_bs,setL_clk,h1,Nat.zero_add,Nat.one_mul,Nat.reduceLeDiff,Nat.zero_lt_one,spS,fxa,fxc,fxE,fxL,fxI,nxE,evO,evR,cellsT,ldCells,mkT,lenA,binPV,Env.init,resV,resT,frT,klT,ownT,intT,O.adds,ownA,rowsA,over,wrOk,keysT,keysA,ne_eq,if_true,if_false,ite_self,Nat.reduceLT,Nat.reduceSub,Nat.reduceBEq,Nat.reduceEqDiff,Nat.reduceAdd,Nat.reduceLeDiff,reduceCtorEq,Nat.reduceMul]
        refine ⟨⟨_,rfl,by omega,.inr ⟨τ.clk + 1,rfl,by rw [if_pos rfl]; rfl,by omega⟩⟩,by omega,fun key hk h5 h6 => ?_⟩
        have a1 : ¬ key = (2,σ.clk) := by rintro rfl; simp only at h5; omega
        have a2 : ¬ key = (11,τ.clk + 1) := by rintro rfl; simp at hk
        have a3 : ¬ key = (10,τ.clk) := by rintro rfl; simp at hk
        simp only [a1,a2,a3,if_false]
      · have htk2 : List.take pre.length (pre.map encI) = pre.map encI := List.take_of_length_le (by simp)
        have nq : ¬ q = τ.clk ∧ ¬ q = τ.clk + 1 := by omega
        simp only [setL_bs,setL_clk,h1,e2,nq,htk2,hbb,List.length_map,Nat.le_refl,Nat.zero_add,Nat.one_mul,spS,fxa,fxc,fxE,fxL,fxI,nxE,evO,evR,cellsT,ldCells,mkT,lenA,binPV,Env.init,resV,resT,frT,klT,ownT,intT,O.adds,ownA,rowsA,over,wrOk,keysT,keysA,ne_eq,if_true,if_false,ite_self,Nat.reduceLT,Nat.reduceSub,Nat.reduceBEq,Nat.reduceEqDiff,Nat.reduceAdd,Nat.reduceLeDiff,reduceCtorEq,Nat.reduceMul]
        refine ⟨⟨_,rfl,by omega,.inr ⟨τ.clk + 1,by simp,by rw [if_pos rfl]; simp [encI],by omega⟩⟩,by omega,fun key hk h5 h6 => ?_⟩
        have a1 : ¬ key = (2,σ.clk) := by rintro rfl; simp only at h5; omega
        have a2 : ¬ key = (11,τ.clk + 1) := by rintro rfl; simp at hk
        have a3 : ¬ key = (10,τ.clk) := by rintro rfl; simp at hk
        have a4 : ¬ key = (11,q) := by rintro rfl; simp at hk
        simp only [a1,a2,a3,a4,if_false]
    · rintro σ' r ⟨y,h1,h2,h3⟩ hls2 hc
      rcases h3 with ⟨h0,rfl⟩ | ⟨q,rfl,e2,e3⟩
      · simp only [h1,spS,fxa,fxc,fxE,fxL,fxI,nxE,evO,evR,cellsT,ldCells,mkT,lenA,binPV,Env.init,resV,resT,frT,klT,ownT,intT,O.adds,ownA,rowsA,over,wrOk,keysT,keysA,ne_eq,if_true,if_false,ite_self,Nat.reduceLT,Nat.reduceSub,Nat.reduceBEq,Nat.reduceEqDiff,Nat.reduceAdd,Nat.reduceLeDiff,reduceCtorEq,Nat.reduceMul]
        exact ⟨_,rfl,by rw [h0]; rfl⟩
      · simp only [h1,spS,fxa,fxc,fxE,fxL,fxI,nxE,evO,evR,cellsT,ldCells,mkT,lenA,binPV,Env.init,resV,resT,frT,klT,ownT,intT,O.adds,ownA,rowsA,over,wrOk,keysT,keysA,ne_eq,if_true,if_false,ite_self,Nat.reduceLT,Nat.reduceSub,Nat.reduceBEq,Nat.reduceEqDiff,Nat.reduceAdd,Nat.reduceLeDiff,reduceCtorEq,Nat.reduceMul]
        refine ⟨_,rfl,?_⟩
        simp only [frA,e2,List.length_map,Nat.zero_add,Nat.le_refl,if_true,List.drop_zero]
        rw [List.take_of_length_le (by simp)])
  exact ⟨x,σ',h1,h2⟩
theorem Of_ok {t : T} (ht : T.Ok t) (hlen : (ofT t).length ≤ 1099511627776) : eP S 37 [.g (enc t)] = some (.a (.l ((ofT t).map encI))) := by
  refine x_fn (orcS _) (fc := F37) rfl rfl ?_
  have e4 : (enc t).map AV.p = [.p (.i .i64 t.k),.p (.i .i64 t.n),.p (.s t.s),.p (.l (t.l.map enc))] := by rw [enc_eq]; rfl
  have e4' := enc_eq t
  have c1 := uses_fn t (St.empty.add 1 (.var ((enc t).map .p)))
  obtain ⟨v,σ',c2,hv⟩ := seq_ok ht hlen (σ := (St.empty.add 1 (.var ((enc t).map .p))).add 1 (.var ((enc t).map .p))) (kn := (1,1)) (by rfl) (by show 1 < 2; omega) rfl
  have c3 : eS S (.f 66) [.a (.fn 75 [(1,1)])] ((St.empty.add 1 (.var ((enc t).map .p))).add 1 (.var ((enc t).map .p))) = some (.a v,σ') := by
    refine x_fnX (fc := F66) rfl rfl ?_
    simp only [F66,c2,frA_fn,spS,fxa,fxc,fxE,fxL,fxI,nxE,evO,evR,cellsT,ldCells,mkT,lenA,binPV,Env.init,resV,resT,frT,klT,ownT,intT,O.adds,ownA,rowsA,over,wrOk,keysT,keysA,ne_eq,if_true,if_false,ite_self,Nat.reduceLT,Nat.reduceSub,Nat.reduceBEq,Nat.reduceEqDiff,Nat.reduceAdd,Nat.reduceLeDiff,reduceCtorEq,Nat.reduceMul]
  rw [e4] at c1 c3
  rw [e4']
  simp only [F37,c1,c3,hv,frA_fn,spS,fxa,fxc,fxE,fxL,fxI,nxE,evO,evR,cellsT,ldCells,mkT,lenA,binPV,Env.init,resV,resT,frT,klT,ownT,intT,O.adds,ownA,rowsA,over,wrOk,keysT,keysA,ne_eq,if_true,if_false,ite_self,Nat.reduceLT,Nat.reduceSub,Nat.reduceBEq,Nat.reduceEqDiff,Nat.reduceAdd,Nat.reduceLeDiff,reduceCtorEq,Nat.reduceMul]
end Go.Proofs.Ytlgekplmbmkcmaa
end
section
set_option linter.unusedSimpArgs false
set_option linter.unusedVariables false
set_option maxHeartbeats 4000000
set_option maxRecDepth 10000
namespace Go.Proofs.Ytlgekplmbmkcmaa
open Go.Fx
theorem allI (l : List Int) : (l.map encI).all (fun r => decide (r.length = 1)) = true := by simp [encI]
theorem mapI {l : List Int} {i : Nat} {x : Int} (h : l[i]? = some x) : (l.map encI)[i]? = some [.i .i64 x] := by rw [List.getElem?_map,h]; rfl
theorem drop_consI {l : List Int} {i : Nat} {x : Int} (h : l[i]? = some x) : l.drop i = x :: l.drop (i + 1) := by
  obtain ⟨hi,rfl⟩ := List.getElem?_eq_some_iff.1 h
  rw [List.drop_eq_getElem_cons hi]
theorem Ints_ok {l m : List Int} (hl : l.length ≤ 1099511627776) : eP S 34 [.a (.l (l.map encI)),.a (.l (m.map encI))] = some (.a (.b (decide (l = m)))) := by
  refine x_fn (orcS _) (fc := F34) rfl rfl ?_
  by_cases hlm : l.length = m.length
  case neg =>
    have h1 : ¬ (l.length : Int) = (m.length : Int) := by omega
    have h2 : ¬ l = m := fun h => hlm (by rw [h])
    simp only [F34,h1,h2,List.length_map,spS,fxa,fxc,fxE,fxL,fxI,nxE,evO,evR,cellsT,ldCells,mkT,lenA,binPV,Env.init,resV,resT,frT,klT,ownT,intT,O.adds,ownA,rowsA,over,wrOk,keysT,keysA,ne_eq,if_true,if_false,ite_self,Nat.reduceLT,Nat.reduceSub,Nat.reduceBEq,Nat.reduceEqDiff,Nat.reduceAdd,Nat.reduceLeDiff,reduceCtorEq,Nat.reduceMul]
  have h1 : (l.length : Int) = (m.length : Int) := by omega
  simp only [F34,h1,List.length_map,spS,fxa,fxc,fxE,fxL,fxI,nxE,evO,evR,cellsT,ldCells,mkT,lenA,binPV,Env.init,resV,resT,frT,klT,ownT,intT,O.adds,ownA,rowsA,over,wrOk,keysT,keysA,ne_eq,if_true,if_false,ite_self,Nat.reduceLT,Nat.reduceSub,Nat.reduceBEq,Nat.reduceEqDiff,Nat.reduceAdd,Nat.reduceLeDiff,reduceCtorEq,Nat.reduceMul]
  refine loop_nat l.length (fun i e τ => e 0 = .a (.p (.l (l.map encI))) ∧ e 1 = .a (.p (.l (m.map encI))) ∧ e 5 = .a (.p (.i .i64 (i : Nat))) ∧ (l.drop i = m.drop i ↔ l = m)) (i0 := 0) (Nat.zero_le _) ⟨rfl,rfl,rfl,by simp⟩ ?_ ?_
  · rintro i e τ hi ⟨e0,e1,e5,hd⟩
    obtain ⟨x,hx⟩ : ∃ x,l[i]? = some x := ⟨_,List.getElem?_eq_getElem hi⟩
    obtain ⟨y,hy⟩ : ∃ y,m[i]? = some y := ⟨_,List.getElem?_eq_getElem (by omega)⟩
    have hx' := mapI hx
    have hy' := mapI hy
    have hlt : ((i : Nat) : Int) < (l.length : Int) := by omega
    have hlt2 : ((i : Nat) : Int) < (m.length : Int) := by omega
    have hge : (0 : Int) ≤ ((i : Nat) : Int) := by omega
    have hw := wrap_succ i (by omega)
    rw [drop_consI hx,drop_consI hy] at hd
    by_cases hxy : x = y
    · subst hxy
      simp only [List.cons.injEq,true_and] at hd
      simp only [F34b0,e0,e1,e5,hlt,hlt2,hge,hw,hx',hy',allI,Int.toNat_natCast,List.length_map,List.length_cons,List.length_nil,spS,fxa,fxc,fxE,fxL,fxI,nxE,evO,evR,cellsT,ldCells,mkT,lenA,binPV,Env.init,resV,resT,frT,klT,ownT,intT,O.adds,ownA,rowsA,over,wrOk,keysT,keysA,ne_eq,if_true,if_false,ite_self,Nat.reduceLT,Nat.reduceSub,Nat.reduceBEq,Nat.reduceEqDiff,Nat.reduceAdd,Nat.reduceLeDiff,reduceCtorEq,Nat.reduceMul]
      exact hd
    · have hne : ¬ l = m := fun h => hxy (by have := hd.2 h; simp only [List.cons.injEq] at this; exact this.1)
      simp only [F34b0,e0,e1,e5,hlt,hlt2,hge,hx',hy',hxy,hne,allI,Int.toNat_natCast,List.length_map,List.length_cons,List.length_nil,spS,fxa,fxc,fxE,fxL,fxI,nxE,evO,evR,cellsT,ldCells,mkT,lenA,binPV,Env.init,resV,resT,frT,klT,ownT,intT,O.adds,ownA,rowsA,over,wrOk,keysT,keysA,ne_eq,if_true,if_false,ite_self,Nat.reduceLT,Nat.reduceSub,Nat.reduceBEq,Nat.reduceEqDiff,Nat.reduceAdd,Nat.reduceLeDiff,reduceCtorEq,Nat.reduceMul]
  · rintro e τ ⟨e0,e1,e5,hd⟩
    obtain rfl : l = m := by
      apply hd.1
      rw [List.drop_length,hlm,List.drop_length]
    have hlt : ¬ ((l.length : Nat) : Int) < (l.length : Int) := by omega
    simp only [F34b0,e0,e1,e5,hlt,List.length_map,spS,fxa,fxc,fxE,fxL,fxI,nxE,evO,evR,cellsT,ldCells,mkT,lenA,binPV,Env.init,resV,resT,frT,klT,ownT,intT,O.adds,ownA,rowsA,over,wrOk,keysT,keysA,ne_eq,if_true,if_false,ite_self,Nat.reduceLT,Nat.reduceSub,Nat.reduceBEq,Nat.reduceEqDiff,Nat.reduceAdd,Nat.reduceLeDiff,reduceCtorEq,Nat.reduceMul]
end Go.Proofs.Ytlgekplmbmkcmaa
end
section
set_option linter.unusedSimpArgs false
set_option linter.unusedVariables false
set_option maxHeartbeats 4000000
set_option maxRecDepth 10000
namespace Go.Proofs.Ytlgekplmbmkcmaa
open Go.Fx
theorem w_eq {x y : Int} (h : ∃ k : Int,x = y + k * 18446744073709551616) : w x = w y := by
  obtain ⟨k,rfl⟩ := h
  simp only [w,IntKind.wrap_i64]; omega
theorem w_k (x : Int) : ∃ k : Int,w x = x + k * 18446744073709551616 := by
  simp only [w,IntKind.wrap_i64]
  exact ⟨-((x + 9223372036854775808) / 18446744073709551616),by omega⟩
def refN (t : T) : Nat := if t.k = 6 ∧ t.l.length ≠ 0 then (if t.n < 8 then t.n.toNat else 8) else 0
def refB (t : T) : List Int := (if t.k = 2 ∧ t.l.length ≠ 0 then [uses (t.l.getD 0 zT0) 0] else []) ++ (List.range (refN t)).map fun i : Nat => uses (t.l.getD 0 zT0) (w (w (t.n - 1) - (i : Int)))
theorem refB_eq (t : T) : refB t = useB t := by
  unfold refB useB
  by_cases h0 : t.l.length = 0
  · have hb : binds t = 0 := by unfold binds; rw [if_pos h0]
    have hr : refN t = 0 := by unfold refN; rw [if_neg (by rintro ⟨_,h⟩; exact h h0)]
    rw [hb,hr,if_neg (by rintro ⟨_,h⟩; exact h h0)]; rfl
  · by_cases h1 : t.k = 2
    · have hb : binds t = 1 := by unfold binds; rw [if_neg h0,if_pos h1]
      have hr : refN t = 0 := by unfold refN; rw [if_neg (by rintro ⟨h,_⟩; omega)]
      have hl : lastB t = 0 := by unfold lastB; rw [if_neg (by omega)]
      rw [hb,hr,hl,if_pos ⟨h1,h0⟩]
      have hw0 : w (0 + (((1 : Int).toNat : Int) - 1 - ((0 : Nat) : Int))) = 0 := by decide
      simp only [List.range_zero,List.map_nil,List.append_nil]
      show [_] = [w (uses (t.l.getD 0 zT0) (w (0 + (((1 : Int).toNat : Int) - 1 - ((0 : Nat) : Int)))))]
      rw [hw0,uses_w]
    · rw [if_neg (by rintro ⟨h,_⟩; exact h1 h)]
      by_cases h2 : t.k = 6
      · have hb : (binds t).toNat = refN t := by
          have hr : refN t = if t.n < 8 then t.n.toNat else 8 := by unfold refN; rw [if_pos ⟨h2,h0⟩]
          have hb0 : binds t = if 8 < (if 0 > t.n then 0 else t.n) then 8 else (if 0 > t.n then 0 else t.n) := by unfold binds; rw [if_neg h0,if_neg h1,if_pos h2]
          rw [hb0,hr]
          repeat' split
          all_goals first | rfl | omega
        rw [hb,List.nil_append]
        refine List.map_congr_left fun i hi => ?_
        have hi := List.mem_range.1 hi
        rw [uses_w]
        have hbi : binds t = (refN t : Int) := by have := binds_le t; omega
        have hl : lastB t = w (t.n - (refN t : Int)) := by unfold lastB; rw [if_pos h2,hbi]
        rw [hl]
        refine congrArg (uses _) (w_eq ?_)
        obtain ⟨a,ha⟩ := w_k (t.n - 1)
        obtain ⟨b,hb2⟩ := w_k (t.n - (refN t : Int))
        rw [ha,hb2]
        exact ⟨a - b,by rw [Int.sub_mul]; omega⟩
      · have hb : binds t = 0 := by unfold binds; rw [if_neg h0,if_neg h1,if_neg h2]
        have hr : refN t = 0 := by unfold refN; rw [if_neg (by rintro ⟨h,_⟩; exact h2 h)]
        rw [hb,hr]; rfl
end Go.Proofs.Ytlgekplmbmkcmaa
end
section
set_option linter.unusedSimpArgs false
set_option linter.unusedVariables false
set_option maxHeartbeats 4000000
set_option maxRecDepth 10000
namespace Go.Proofs.Ytlgekplmbmkcmaa
open Go.Fx
def rfanW (a n : Int) : Int := if n > 1 then w (a + w (n - 1)) else a
def rfansW (l : List Int) : Int := l.foldl rfanW 0
theorem depL_app : ∀ (l r : List T),depL (l ++ r) = max (depL l) (depL r)
  | [],r => by simp [depL]
  | t :: l,r => by simp only [List.cons_append,depL,depL_app l r,Nat.max_assoc]
theorem Depth_ok : ∀ {t : T},T.Ok t → dep t ≤ 1099511627776 → eP S 32 [.g (enc t)] = some (.a (.i .i64 (dep t : Nat))) := by
  intro t ht
  induction ht with
  | mk k n s l hk hn hs hl h ih =>
    intro hd
    simp only [dep] at hd
    refine x_fn (orcS _) (fc := F32) rfl rfl ?_
    simp only [F32,enc,encL_map,spS,fxa,fxc,fxE,fxL,fxI,nxE,evO,evR,cellsT,ldCells,mkT,lenA,binPV,Env.init,resV,resT,frT,klT,ownT,intT,O.adds,ownA,rowsA,over,wrOk,keysT,keysA,ne_eq,if_true,if_false,ite_self,Nat.reduceLT,Nat.reduceSub,Nat.reduceBEq,Nat.reduceEqDiff,Nat.reduceAdd,Nat.reduceLeDiff,reduceCtorEq,Nat.reduceMul]
    refine loop_nat l.length (fun i e τ => e 1 = .a (.ptr (1,0) 0 0) ∧ e 3 = .a (.p (.i .i64 (depL (l.take i) : Nat))) ∧ e 4 = .a (.p (.i .i64 (i : Nat))) ∧ τ.bs (1,0) = some (.var [.p (.i .i64 k),.p (.i .i64 n),.p (.s s),.p (.l (l.map enc))])) (i0 := 0) (Nat.zero_le _) ⟨rfl,rfl,rfl,rfl⟩ ?_ ?_
    · rintro i e τ hi ⟨e1,e3,e4,b1⟩
      obtain ⟨x,hx⟩ : ∃ x,l[i]? = some x := ⟨_,List.getElem?_eq_getElem hi⟩
      have hx' : (l.map enc)[i]? = some (enc x) := by simp [hx]
      have hxm := List.mem_of_getElem? hx
      have hlt : ((i : Nat) : Int) < (l.length : Int) := by omega
      have hge : (0 : Int) ≤ ((i : Nat) : Int) := by omega
      have hlb : i < 9223372036854775807 := by simp only [reachBytes] at hl; omega
      have hw := wrap_succ i hlb
      have c1 := ih x hxm (by have := depL_mem hxm; omega)
      have hs1 : depL (l.take (i + 1)) = max (depL (l.take i)) (dep x) := by rw [take_succT hx,depL_app]; simp [depL]
      rw [hs1]
      by_cases hm : (dep x : Int) > (depL (l.take i) : Int)
      · have : max (depL (l.take i)) (dep x) = dep x := by omega
        rw [this]
        simp only [F32b0,e1,e3,e4,b1,hlt,hge,hw,hx',hm,enc_len,enc_take,enc_all,c1,Int.toNat_natCast,List.length_map,spS,fxa,fxc,fxE,fxL,fxI,nxE,evO,evR,cellsT,ldCells,mkT,lenA,binPV,Env.init,resV,resT,frT,klT,ownT,intT,O.adds,ownA,rowsA,over,wrOk,keysT,keysA,ne_eq,if_true,if_false,ite_self,Nat.reduceLT,Nat.reduceSub,Nat.reduceBEq,Nat.reduceEqDiff,Nat.reduceAdd,Nat.reduceLeDiff,reduceCtorEq,Nat.reduceMul]
      · have : max (depL (l.take i)) (dep x) = depL (l.take i) := by omega
        rw [this]
        simp only [F32b0,e1,e3,e4,b1,hlt,hge,hw,hx',hm,enc_len,enc_take,enc_all,c1,Int.toNat_natCast,List.length_map,spS,fxa,fxc,fxE,fxL,fxI,nxE,evO,evR,cellsT,ldCells,mkT,lenA,binPV,Env.init,resV,resT,frT,klT,ownT,intT,O.adds,ownA,rowsA,over,wrOk,keysT,keysA,ne_eq,if_true,if_false,ite_self,Nat.reduceLT,Nat.reduceSub,Nat.reduceBEq,Nat.reduceEqDiff,Nat.reduceAdd,Nat.reduceLeDiff,reduceCtorEq,Nat.reduceMul]
    · rintro e τ ⟨e1,e3,e4,b1⟩
      have hlt : ¬ ((l.length : Nat) : Int) < (l.length : Int) := by omega
      have hw := wrap_succ (depL l) (by omega)
      rw [List.take_length] at e3
      simp only [F32b0,e1,e3,e4,b1,hlt,hw,dep,List.length_map,spS,fxa,fxc,fxE,fxL,fxI,nxE,evO,evR,cellsT,ldCells,mkT,lenA,binPV,Env.init,resV,resT,frT,klT,ownT,intT,O.adds,ownA,rowsA,over,wrOk,keysT,keysA,ne_eq,if_true,if_false,ite_self,Nat.reduceLT,Nat.reduceSub,Nat.reduceBEq,Nat.reduceEqDiff,Nat.reduceAdd,Nat.reduceLeDiff,reduceCtorEq,Nat.reduceMul]
mutual
def vars : T → Int
  | .mk k _ _ l => varsL l (if k = 1 then 1 else 0)
def varsL : List T → Int → Int
  | [],a => a
  | t :: r,a => varsL r (w (a + vars t))
end
theorem v11_ok (n : Int) : eP S 61 [.a (.i .i64 n)] = some (.g (enc (.mk 1 n [] []))) := by
  refine x_fn (orcS _) (fc := F61) rfl rfl ?_
  simp only [F61,enc,encL_map,List.map_nil,spS,fxa,fxc,fxE,fxL,fxI,nxE,evO,evR,cellsT,ldCells,mkT,lenA,binPV,Env.init,resV,resT,frT,klT,ownT,intT,O.adds,ownA,rowsA,over,wrOk,keysT,keysA,ne_eq,if_true,if_false,ite_self,Nat.reduceLT,Nat.reduceSub,Nat.reduceBEq,Nat.reduceEqDiff,Nat.reduceAdd,Nat.reduceLeDiff,reduceCtorEq,Nat.reduceMul]
theorem lam11_ok (t : T) : eP S 45 [.g (enc t)] = some (.g (enc (.mk 2 0 [] [t]))) := by
  have e0 : enc (.mk 2 0 [] [t]) = [.i .i64 2,.i .i64 0,.s [],.l [enc t]] := rfl
  rw [e0]
  refine x_fn (orcS _) (fc := F45) rfl rfl ?_
  simp only [F45,enc_len,enc_takep,x_seq,x_reg,x_skip,x_exit,x_ret,x_block,x_if,wpC_t,wpC_f,wpI_cons,wpI_nil,wpX_some,evI_any,evI_rd,evI_ad,evI_g,evG_u,evG_b,evG_tt,evG_ff,evG_tf,evG_ft,evO,evR,ev_t,ev_c,ev_f,putD_some,putD_none,put_at,cellsT,ldCells,mkT,lenA,binPV,add_bs,add_clk,add_ls,put_bs,put_clk,put_ls,kill_bs,kill_clk,kill_ls,empty_clk,empty_bs,Env.init,seqQ_norm,seqQ_exit,seqQ_ret,blkQ_norm,blkQ_exit,blkQ_ret,loopQ_norm,loopQ_exit,loopQ_ret,retP_ret,retP_norm,retE_ret,retE_norm,retS_ret,retS_norm,wpO_some,frA_fn,klA_p,klA_nil,klA_own,resVs,resV,resT,Option.bind_some,Option.bind_none,Option.map_some,List.getD_cons_zero,List.getD_cons_succ,List.getD_nil,List.length_cons,List.length_nil,List.length_map,List.map_cons,List.map_nil,List.drop_zero,List.drop_succ_cons,List.take_succ_cons,List.take_zero,List.drop_nil,List.take_nil,Nat.reduceEqDiff,Nat.reduceAdd,Nat.reduceLeDiff,Nat.zero_add,Nat.add_zero,Prod.mk.injEq,and_true,true_and,and_false,false_and,and_self,if_true,if_false,ite_true,ite_false,Bool.not_true,Bool.not_false,Bool.not_eq_true',reduceCtorEq,decide_true,decide_false,frTs,frT,frL_p,spS,ofPT_a,ofPT_g,ofPT_t,flat_i,flat_b,flat_s,flat_l,flat_g,flatp_i,flatp_b,flatp_s,flatp_l,klTs,klT,Bool.and_false,Bool.false_and,frL,frA_p,frA_nil,frA_own,ownT,intT,Bool.or_true,Bool.true_or,Bool.false_eq_true,frL_p,klL_p,ownT_p,O.adds,List.all_cons,List.all_nil,List.any_cons,List.any_nil,ownA,evO.bslRows,List.replicate_succ,List.replicate_zero,List.set_cons_zero,rowsA,over,List.cons_append,List.nil_append,List.append_nil,fillA,Bool.and_self,Bool.and_true,Bool.true_and,Bool.or_self,Bool.or_false,Bool.false_or,Nat.reduceMul,Nat.one_mul,Nat.lt_add_one,klL,Nat.le_refl,ite_self,Nat.reduceBEq]
theorem app11_ok (t u : T) : eP S 46 [.g (enc t),.g (enc u)] = some (.g (enc (.mk 3 0 [] [t,u]))) := by
  have e0 : enc (.mk 3 0 [] [t,u]) = [.i .i64 3,.i .i64 0,.s [],.l [enc t,enc u]] := rfl
  rw [e0]
  refine x_fn (orcS _) (fc := F46) rfl rfl ?_
  simp only [F46,enc_len,enc_takep,List.set_cons_succ,Nat.reduceLT,Int.cast_ofNat_Int,Int.reduceLE,Int.reduceLT,Int.reduceToNat,Int.reduceAdd,Int.reduceSub,Int.reduceNeg,x_seq,x_reg,x_skip,x_exit,x_ret,x_block,x_if,wpC_t,wpC_f,wpI_cons,wpI_nil,wpX_some,evI_any,evI_rd,evI_ad,evI_g,evG_u,evG_b,evG_tt,evG_ff,evG_tf,evG_ft,evO,evR,ev_t,ev_c,ev_f,putD_some,putD_none,put_at,cellsT,ldCells,mkT,lenA,binPV,add_bs,add_clk,add_ls,put_bs,put_clk,put_ls,kill_bs,kill_clk,kill_ls,empty_clk,empty_bs,Env.init,seqQ_norm,seqQ_exit,seqQ_ret,blkQ_norm,blkQ_exit,blkQ_ret,loopQ_norm,loopQ_exit,loopQ_ret,retP_ret,retP_norm,retE_ret,retE_norm,retS_ret,retS_norm,wpO_some,frA_fn,klA_p,klA_nil,klA_own,resVs,resV,resT,Option.bind_some,Option.bind_none,Option.map_some,List.getD_cons_zero,List.getD_cons_succ,List.getD_nil,List.length_cons,List.length_nil,List.length_map,List.map_cons,List.map_nil,List.drop_zero,List.drop_succ_cons,List.take_succ_cons,List.take_zero,List.drop_nil,List.take_nil,Nat.reduceEqDiff,Nat.reduceAdd,Nat.reduceLeDiff,Nat.zero_add,Nat.add_zero,Prod.mk.injEq,and_true,true_and,and_false,false_and,and_self,if_true,if_false,ite_true,ite_false,Bool.not_true,Bool.not_false,Bool.not_eq_true',reduceCtorEq,decide_true,decide_false,frTs,frT,frL_p,spS,ofPT_a,ofPT_g,ofPT_t,flat_i,flat_b,flat_s,flat_l,flat_g,flatp_i,flatp_b,flatp_s,flatp_l,klTs,klT,Bool.and_false,Bool.false_and,frL,frA_p,frA_nil,frA_own,ownT,intT,Bool.or_true,Bool.true_or,Bool.false_eq_true,frL_p,klL_p,ownT_p,O.adds,List.all_cons,List.all_nil,List.any_cons,List.any_nil,ownA,evO.bslRows,List.replicate_succ,List.replicate_zero,List.set_cons_zero,rowsA,over,List.cons_append,List.nil_append,List.append_nil,fillA,Bool.and_self,Bool.and_true,Bool.true_and,Bool.or_self,Bool.or_false,Bool.false_or,Nat.reduceMul,Nat.one_mul,Nat.lt_add_one,klL,Nat.le_refl,ite_self,Nat.reduceBEq]
end Go.Proofs.Ytlgekplmbmkcmaa
end
section
set_option linter.unusedSimpArgs false
set_option linter.unusedVariables false
set_option maxHeartbeats 4000000
set_option maxRecDepth 10000
namespace Go.Proofs.Ytlgekplmbmkcmaa
open Go.Fx
theorem Ok_lam {t : T} (ht : T.Ok t) : T.Ok (.mk 2 0 [] [t]) := .mk 2 0 [] [t] (by decide) (by decide) (by simp [reachBytes]) (by simp [reachBytes]) (by simpa using ht)
theorem Ok_app {t u : T} (ht : T.Ok t) (hu : T.Ok u) : T.Ok (.mk 3 0 [] [t,u]) := .mk 3 0 [] [t,u] (by decide) (by decide) (by simp [reachBytes]) (by simp [reachBytes]) (by simp [ht,hu])
end Go.Proofs.Ytlgekplmbmkcmaa
end
section
set_option linter.unusedSimpArgs false
set_option linter.unusedVariables false
namespace Go.Proofs.Ytlgekplmbmkcmaa
open Go.Fx
mutual
theorem ofT_size : ∀ t : T,((ofT t).length : Int) ≤ 8 * sizeZ t
  | .mk k n s l => by
    have h := ofTL_size l
    have hb := binds_le (.mk k n s l)
    simp only [ofT,sizeZ,List.length_append,useB_len]; omega
theorem ofTL_size : ∀ l : List T,((ofTL l).length : Int) ≤ 8 * sizeLZ l
  | [] => by simp [ofTL,sizeLZ]
  | t :: r => by
    have h1 := ofT_size t
    have h2 := ofTL_size r
    simp only [ofTL,sizeLZ,List.length_append]; omega
end
mutual
theorem uses_rng : ∀ (t : T) (q : Int),vn t ≤ 1073741824 → 0 ≤ uses t q ∧ uses t q ≤ vn t
  | .mk k n s l,q,h => by
    unfold vn at h
    unfold uses vn
    split
    · split <;> simp
    · rename_i hk
      rw [if_neg hk] at h
      have := usesL_rng l (w (q + T.more (.mk k n s l))) 0 (by omega) (by omega)
      omega
theorem usesL_rng : ∀ (l : List T) (q a : Int),0 ≤ a → a + vnL l ≤ 2147483648 → a ≤ usesL l q a ∧ usesL l q a ≤ a + vnL l
  | [],q,a,h0,h => by simp [usesL,vnL]
  | t :: r,q,a,h0,h => by
    simp only [vnL] at h
    have h1 := uses_rng' t q (by omega)
    have hw : w (a + uses t q) = a + uses t q := wrap_in _ (by omega)
    have h2 := usesL_rng r q (a + uses t q) (by omega) (by omega)
    simp only [usesL,vnL,hw]; omega
theorem uses_rng' : ∀ (t : T) (q : Int),vn t ≤ 2147483648 → 0 ≤ uses t q ∧ uses t q ≤ vn t
  | .mk k n s l,q,h => by
    unfold vn at h
    unfold uses vn
    split
    · split <;> simp
    · rename_i hk
      rw [if_neg hk] at h
      have := usesL_rng l (w (q + T.more (.mk k n s l))) 0 (by omega) (by omega)
      omega
end
theorem useB_rng {t : T} (h : vnL t.l ≤ 1073741824) : ∀ x ∈ useB t,0 ≤ x ∧ x ≤ 1073741824 := by
  intro x hx
  unfold useB at hx
  obtain ⟨i,hi,rfl⟩ := List.mem_map.1 hx
  rw [uses_w]
  have hv : vn (t.l.getD 0 zT0) ≤ 1073741824 := by
    cases hl : t.l with
    | nil => show vn zT0 ≤ _; decide
    | cons a b => rw [hl] at h; show vn a ≤ _; simp only [vnL] at h; omega
  have := uses_rng (t.l.getD 0 zT0) (w (lastB t + (((binds t).toNat : Int) - 1 - (i : Int)))) hv
  omega
mutual

def vnA : T → Nat
  | .mk k _ _ l => (if k = 1 then 1 else 0) + vnAL l
def vnAL : List T → Nat
  | [] => 0
  | t :: r => vnA t + vnAL r
end
mutual
theorem vn_A : ∀ t : T,vn t ≤ vnA t ∧ (vnA t : Int) ≤ sizeZ t
  | .mk k n s l => by
    have h := vnL_A l
    simp only [vn,vnA,sizeZ]
    split <;> omega
theorem vnL_A : ∀ l : List T,vnL l ≤ vnAL l ∧ (vnAL l : Int) ≤ sizeLZ l
  | [] => by simp [vnL,vnAL,sizeLZ]
  | t :: r => by
    have h1 := vn_A t
    have h2 := vnL_A r
    simp only [vnL,vnAL,sizeLZ]; omega
end
mutual
theorem ofT_rng : ∀ t : T,vnA t ≤ 1073741824 → ∀ x ∈ ofT t,0 ≤ x ∧ x ≤ 1073741824
  | .mk k n s l,h => by
    intro x hx
    simp only [vnA] at h
    simp only [ofT,List.mem_append] at hx
    rcases hx with hx | hx
    · exact useB_rng (t := .mk k n s l) (by show vnL l ≤ _; have := (vnL_A l).1; omega) x hx
    · exact ofTL_rng l (by omega) x hx
theorem ofTL_rng : ∀ l : List T,vnAL l ≤ 1073741824 → ∀ x ∈ ofTL l,0 ≤ x ∧ x ≤ 1073741824
  | [],_ => by intro x hx; simp [ofTL] at hx
  | t :: r,h => by
    intro x hx
    simp only [vnAL] at h
    simp only [ofTL,List.mem_append] at hx
    rcases hx with hx | hx
    · exact ofT_rng t (by omega) x hx
    · exact ofTL_rng r (by omega) x hx
end
def fanZ (x : Int) : Int := if x > 1 then x - 1 else 0
def dropZ (x : Int) : Int := if x = 0 then 1 else 0
def sumZ (f : Int → Int) (l : List Int) : Int := (l.map f).sum
theorem sumZ_cons (f : Int → Int) (x : Int) (r : List Int) : sumZ f (x :: r) = f x + sumZ f r := by simp [sumZ]
theorem foldl_sum {g : Int → Int → Int} {f : Int → Int} {B : Int} (hg : ∀ a x,0 ≤ a → a ≤ 2305843009213693952 → 0 ≤ x → x ≤ B → g a x = a + f x) (hf : ∀ x,0 ≤ x → x ≤ B → 0 ≤ f x ∧ f x ≤ B) (hB : 0 ≤ B) :
    ∀ (l : List Int) (a : Int),(∀ x ∈ l,0 ≤ x ∧ x ≤ B) → 0 ≤ a → a + l.length * B ≤ 2305843009213693952 → l.foldl g a = a + sumZ f l
  | [],a,_,_,_ => by simp [sumZ]
  | x :: l,a,hx,h0,hb => by
    have h1 := hx x (by simp)
    have h2 := hf x h1.1 h1.2
    have hll : (((x :: l).length : Nat) : Int) * B = (l.length : Int) * B + B := by simp only [List.length_cons]; rw [show ((l.length + 1 : Nat) : Int) = (l.length : Int) + 1 by omega,Int.add_mul]; omega
    rw [hll] at hb
    have hnn : 0 ≤ (l.length : Int) * B := Int.mul_nonneg (by omega) hB
    rw [List.foldl_cons,hg a x h0 (by omega) h1.1 h1.2,sumZ_cons,foldl_sum hg hf hB l (a + f x) (fun y hy => hx y (by simp [hy])) (by omega) (by omega)]
    omega
theorem fan_eq {l : List Int} (hx : ∀ x ∈ l,0 ≤ x ∧ x ≤ 1073741824) (hl : l.length ≤ 1048576) : fansW l = sumZ fanZ l ∧ rfansW l = sumZ fanZ l ∧ dropsW l = sumZ dropZ l := by
  have hb : (0 : Int) + l.length * 1073741824 ≤ 2305843009213693952 := by omega
  refine ⟨?_,?_,?_⟩
  · have := foldl_sum (g := fanW) (f := fanZ) (B := 1073741824) (fun a x h1 h2 h3 h4 => by
      unfold fanW fanZ
      have h5 : w (x - 1) = x - 1 := wrap_in _ (by omega)
      rw [h5]
      split
      · rw [if_neg (by omega)]; exact wrap_in _ (by omega)
      · split
        · exact wrap_in _ (by omega)
        · rw [show x - 1 = 0 by omega]; exact wrap_in _ (by omega)) (fun x h1 h2 => by unfold fanZ; split <;> omega) (by omega) l 0 hx (by omega) hb
    rw [Int.zero_add] at this; exact this
  · have := foldl_sum (g := rfanW) (f := fanZ) (B := 1073741824) (fun a x h1 h2 h3 h4 => by
      unfold rfanW fanZ
      have h5 : w (x - 1) = x - 1 := wrap_in _ (by omega)
      rw [h5]
      split
      · exact wrap_in _ (by omega)
      · omega) (fun x h1 h2 => by unfold fanZ; split <;> omega) (by omega) l 0 hx (by omega) hb
    rw [Int.zero_add] at this; exact this
  · have := foldl_sum (g := dropW) (f := dropZ) (B := 1073741824) (fun a x h1 h2 h3 h4 => by
      unfold dropW dropZ
      split
      · exact wrap_in _ (by omega)
      · omega) (fun x h1 h2 => by unfold dropZ; split <;> omega) (by omega) l 0 hx (by omega) hb
    rw [Int.zero_add] at this; exact this
structure Sml (t : T) : Prop where
  v : vn t ≤ 1073741824
  a : vnA t ≤ 1073741824
  l : (ofT t).length ≤ 1048576
  r : ∀ x ∈ ofT t,0 ≤ x ∧ x ≤ 1073741824
  d : dep t ≤ 600
theorem sml_of {t : T} {x : Int} (hx : x ≤ 2000) (h : small t x = true) : Sml t ∧ sizeZ t ≤ x := by
  obtain ⟨h1,h2⟩ := small_all (by omega) h
  have a1 := vn_A t
  have a2 := ofT_size t
  exact ⟨⟨by omega,by omega,by omega,ofT_rng t (by omega),h1⟩,h2⟩
end Go.Proofs.Ytlgekplmbmkcmaa
end
section
set_option linter.unusedSimpArgs false
set_option linter.unusedVariables false
set_option maxHeartbeats 4000000
set_option maxRecDepth 10000
namespace Go.Proofs.Ytlgekplmbmkcmaa
open Go.Fx
def vT (n : Int) : T := .mk 1 n [] []
def lamT (t : T) : T := .mk 2 0 [] [t]
def appT (t u : T) : T := .mk 3 0 [] [t,u]
def fxA : T := lamT (lamT (appT (vT 1) (vT 1)))
def fxB : T := .mk 6 2 [65] [appT (vT 0) (appT (vT 0) (vT 5))]
def fxC : T := appT (vT 4) (appT (vT 1) (vT 4))
def fxI : T := lamT (vT 0)
theorem Ok_vT {n : Int} (h : (Lit.int .i64 n).wf = true) : T.Ok (vT n) := .mk 1 n [] [] (by decide) h (by simp [reachBytes]) (by simp [reachBytes]) (by simp)
theorem Ok_fxA : T.Ok fxA := Ok_lam (Ok_lam (Ok_app (Ok_vT (by decide)) (Ok_vT (by decide))))
theorem Ok_fxB : T.Ok fxB := .mk 6 2 [65] _ (by decide) (by decide) (by simp [reachBytes]) (by simp [reachBytes]) (by
  intro t ht
  rw [List.mem_singleton] at ht
  subst ht
  exact Ok_app (Ok_vT (by decide)) (Ok_app (Ok_vT (by decide)) (Ok_vT (by decide))))
theorem Ok_fxC : T.Ok fxC := Ok_app (Ok_vT (by decide)) (Ok_app (Ok_vT (by decide)) (Ok_vT (by decide)))
theorem Ok_fxI : T.Ok fxI := Ok_lam (Ok_vT (by decide))
theorem fixed11_ok : eP S 33 [] = some (.a (.b true)) := by
  refine x_fn (orcS _) (fc := F33) rfl rfl ?_
  have v0 := v11_ok 0
  have v1 := v11_ok 1
  have v4 := v11_ok 4
  have v5 := v11_ok 5
  have a1 := app11_ok (vT 1) (vT 1)
  have l1 := lam11_ok (appT (vT 1) (vT 1))
  have l2 := lam11_ok (lamT (appT (vT 1) (vT 1)))
  have a2 := app11_ok (vT 0) (vT 5)
  have a3 := app11_ok (vT 0) (appT (vT 0) (vT 5))
  have a4 := app11_ok (vT 1) (vT 4)
  have a5 := app11_ok (vT 4) (appT (vT 1) (vT 4))
  have l3 := lam11_ok (vT 0)
  have f1 := Of_ok Ok_fxA (by decide +kernel)
  rw [show ofT fxA = [2,0] by decide +kernel] at f1
  have f2 := Fans_ok Ok_fxA
  rw [show fansW (ofT fxA) = 1 by decide +kernel] at f2
  have f3 := Drops_ok Ok_fxA
  rw [show dropsW (ofT fxA) = 1 by decide +kernel] at f3
  have f4 := Affine_ok Ok_fxA
  rw [show decide (fansW (ofT fxA) = 0) = false by decide +kernel] at f4
  have f5 := Affine_ok Ok_fxI
  rw [show decide (fansW (ofT fxI) = 0) = true by decide +kernel] at f5
  have f6 := Of_ok Ok_fxB (by decide +kernel)
  rw [show ofT fxB = [0,2] by decide +kernel] at f6
  have f7 := Free_ok Ok_fxB (by decide +kernel)
  rw [show freeT fxB = [3] by decide +kernel] at f7
  have f8 := Free_ok Ok_fxC (by decide +kernel)
  rw [show freeT fxC = [1,4] by decide +kernel] at f8
  have f9 := Free_ok Ok_fxA (by decide +kernel)
  rw [show freeT fxA = [] by decide +kernel] at f9
  have i1 := Ints_ok (l := [2,0]) (m := [2,0]) (by decide)
  have i2 := Ints_ok (l := [0,2]) (m := [0,2]) (by decide)
  have i3 := Ints_ok (l := [3]) (m := [3]) (by decide)
  have i4 := Ints_ok (l := [1,4]) (m := [1,4]) (by decide)
  simp only [fxA,fxB,fxC,fxI,vT,lamT,appT,enc,encL,encI,List.map_cons,List.map_nil,decide_true] at v0 v1 v4 v5 a1 l1 l2 a2 a3 a4 a5 l3 f1 f2 f3 f4 f5 f6 f7 f8 f9 i1 i2 i3 i4
  simp only [F33,v0,v1,v4,v5,a1,l1,l2,a2,a3,a4,a5,l3,f1,f2,f3,f4,f5,f6,f7,f8,f9,i1,i2,i3,i4,List.set_cons_succ,List.set_cons_zero,List.replicate,Nat.reduceLT,PT.flat,PV.flat,List.all_cons,List.all_nil,x_fz,fzS,fz1,ne_eq,not_false_eq_true,not_true_eq_false,Int.cast_ofNat_Int,Int.reduceLE,Int.reduceLT,Int.reduceToNat,Int.reduceAdd,Int.reduceSub,Int.reduceNeg,spS,fxa,fxc,fxE,fxL,fxI,nxE,evO,evR,cellsT,ldCells,mkT,lenA,binPV,Env.init,resV,resT,frT,klT,ownT,intT,O.adds,ownA,rowsA,over,wrOk,keysT,keysA,ne_eq,if_true,if_false,ite_self,Nat.reduceLT,Nat.reduceSub,Nat.reduceBEq,Nat.reduceEqDiff,Nat.reduceAdd,Nat.reduceLeDiff,reduceCtorEq,Nat.reduceMul]
end Go.Proofs.Ytlgekplmbmkcmaa
end
section
set_option linter.unusedSimpArgs false
set_option linter.unusedVariables false
namespace Go.Proofs.Ytlgekplmbmkcmaa
open Go.Fx
theorem usesZ_mk (k n : Int) (s : List UInt8) (l : List T) (q : Int) : usesZ (.mk k n s l) q = if k = 1 then (if n = q then 1 else 0) else usesLZ l (q + T.more (.mk k n s l)) := rfl
theorem usesLZ_pos {l : List T} {q : Int} : 0 < usesLZ l q ↔ ∃ t ∈ l,0 < usesZ t q := by
  induction l with
  | nil => simp [usesLZ]
  | cons t l ih =>
    have h1 := usesZ_b t q
    have h2 := usesLZ_b (fun t _ => usesZ_b t) q (l := l)
    simp only [usesLZ,List.mem_cons,exists_eq_or_imp,← ih]
    omega
theorem more_eq (k n : Int) (s : List UInt8) (l : List T) : T.more (.mk k n s l) = if k = 2 then 1 else if k = 6 then n else 0 := rfl
theorem usesZ_hi {t : T} : ∀ {f q : Int} {D : Nat},V t f D → f ≤ q → usesZ t q = 0 := by
  induction t using T.ind with
  | h k n s l ih =>
    intro f q D hV hq
    rw [V_mk] at hV
    rw [usesZ_mk]
    by_cases hk : k = 1
    · rw [if_pos hk] at hV ⊢
      rw [if_neg (by omega)]
    · rw [if_neg hk] at hV ⊢
      obtain ⟨h1,h2,h3,h4⟩ := hV
      have hb := usesLZ_b (fun t _ => usesZ_b t) (q + T.more (.mk k n s l)) (l := l)
      by_cases h0 : 0 < usesLZ l (q + T.more (.mk k n s l))
      · obtain ⟨t,ht,h5⟩ := usesLZ_pos.1 h0
        have := ih t ht (h4 t ht) (q := q + T.more (.mk k n s l)) (by omega)
        omega
      · omega
end Go.Proofs.Ytlgekplmbmkcmaa
end
section
set_option linter.unusedSimpArgs false
set_option linter.unusedVariables false
namespace Go.Proofs.Ytlgekplmbmkcmaa
open Go.Fx
def mo (k n : Int) : Nat := (if k = 2 then 1 else if k = 6 then n else 0 : Int).toNat
def bZ (k n : Int) (l : List T) : List Int := if k = 1 then [] else (List.range (mo k n)).map fun i : Nat => usesLZ l ((mo k n : Int) - 1 - (i : Int))
mutual
def ofZ : T → List Int
  | .mk k n _ l => bZ k n l ++ ofZL l
def ofZL : List T → List Int
  | [] => []
  | t :: r => ofZ t ++ ofZL r
end
theorem head_len {k n : Int} {s : List UInt8} {l : List T} {f : Int} {a : Bool} (h : head (.mk k n s l) f a = true) (hk : k = 2 ∨ k = 6) : l.length = 1 := by
  have e : head (.mk k n s l) f a = headC k n s l.length f a := rfl
  rw [e] at h
  unfold headC at h
  rcases hk with rfl | rfl
  · split at h
    · simp at h
    · simp at h; omega
  · split at h
    · simp at h; omega
    · simp at h
theorem ofTL_eq {l : List T} (h : ∀ t ∈ l,ofT t = ofZ t) : ofTL l = ofZL l := by
  induction l with
  | nil => rfl
  | cons t l ih => simp only [ofTL,ofZL]; rw [h t (by simp),ih fun u hu => h u (by simp [hu])]
theorem ofT_Z {t : T} : ∀ {f : Int} {a : Bool} {D : Nat},may t f a = true → dep t ≤ D → 0 ≤ f → f + 8 * D ≤ 1099511627776 → sizeZ t ≤ 1099511627776 → ofT t = ofZ t := by
  induction t using T.ind with
  | h k n s l ih =>
    intro f a D h hd hf hb hsz
    have hd' : depL l + 1 ≤ D := hd
    have hsz' : sizeLZ l + 1 ≤ 1099511627776 := hsz
    rw [may_iff hf (by omega)] at h
    obtain ⟨h1,h2⟩ := h
    obtain ⟨h3,h4,h5,h6⟩ := head_var h1
    show useB (.mk k n s l) ++ ofTL l = bZ k n l ++ ofZL l
    rw [ofTL_eq fun t ht => by
      obtain ⟨j,hj⟩ := List.getElem?_of_mem ht
      exact ih t ht (h2 j t hj).1 (D := D - 1) (by have := depL_mem ht; omega) (by omega) (by omega) (by have := sizeLZ_mem ht; omega)]
    congr 1
    rw [← refB_eq]
    unfold refB bZ
    have hlen := head_len h1
    by_cases hk1 : k = 1
    · obtain ⟨_,_,_,_,rfl⟩ := h3 hk1
      have hr : refN (.mk k n s []) = 0 := by unfold refN; rw [if_neg (fun h => h.2 rfl)]
      rw [if_pos hk1,hr,if_neg (fun h => h.2 rfl)]; rfl
    rw [if_neg hk1]
    by_cases hk2 : k = 2
    · have hl := hlen (.inl hk2)
      obtain ⟨c,rfl⟩ : ∃ c,l = [c] := by
        match l,hl with
        | [c],_ => exact ⟨c,rfl⟩
      have hr : refN (.mk k n s [c]) = 0 := by unfold refN; rw [if_neg (fun h => by have : k = 6 := h.1; omega)]
      have hc : V c (f + T.more (.mk k n s [c])) (D - 1) := may_V (h2 0 c rfl).1 (by have := depL_mem (l := [c]) (t := c) (by simp); omega) (by omega) (by omega)
      have hs : sizeZ c ≤ 1099511627776 := by have := sizeLZ_mem (l := [c]) (t := c) (by simp); omega
      rw [hr,if_pos ⟨hk2,by show [c].length ≠ 0; simp⟩]
      subst hk2
      show [uses c 0] = [usesLZ [c] ((1 : Int) - 1 - 0)]
      rw [uses_Z hc (by omega) (by omega) (by omega)]
      show [usesZ c 0] = [usesZ c ((1 : Int) - 1 - 0) + 0]
      simp
    by_cases hk6 : k = 6
    · have hl := hlen (.inr hk6)
      obtain ⟨c,rfl⟩ : ∃ c,l = [c] := by
        match l,hl with
        | [c],_ => exact ⟨c,rfl⟩
      have hm : T.more (.mk k n s [c]) = n := by rw [more_eq,if_neg hk2,if_pos hk6]
      rw [hm] at h5 h6
      have hmo : mo k n = n.toNat := by unfold mo; rw [if_neg hk2,if_pos hk6]
      have hr : refN (.mk k n s [c]) = n.toNat := by
        unfold refN
        rw [if_pos ⟨hk6,by show [c].length ≠ 0; simp⟩]
        show (if n < 8 then n.toNat else 8) = n.toNat
        split <;> omega
      have hc : V c (f + T.more (.mk k n s [c])) (D - 1) := may_V (h2 0 c rfl).1 (by have := depL_mem (l := [c]) (t := c) (by simp); omega) (by omega) (by omega)
      have hs : sizeZ c ≤ 1099511627776 := by have := sizeLZ_mem (l := [c]) (t := c) (by simp); omega
      rw [hr,hmo,if_neg (fun h => hk2 h.1),List.nil_append]
      refine List.map_congr_left fun i hi => ?_
      have hi := List.mem_range.1 hi
      show uses c (w (w (n - 1) - (i : Int))) = usesZ c (((n.toNat : Nat) : Int) - 1 - (i : Int)) + 0
      rw [w_id (n - 1) (by omega),w_id (n - 1 - (i : Int)) (by omega),uses_Z hc (by omega) (by omega) (by omega),show ((n.toNat : Nat) : Int) - 1 - (i : Int) = n - 1 - (i : Int) by omega]
      omega
    · have hr : refN (.mk k n s l) = 0 := by unfold refN; rw [if_neg (fun h => hk6 h.1)]
      have hmo : mo k n = 0 := by unfold mo; rw [if_neg hk2,if_neg hk6]; rfl
      rw [hr,hmo,if_neg (fun h => hk2 h.1)]; rfl
def upTo (g : Int → Int) (m : Nat) : Int := ((List.range m).map fun i : Nat => g (i : Int)).sum
theorem upTo_succ (g : Int → Int) (m : Nat) : upTo g (m + 1) = upTo g m + g (m : Int) := by
  unfold upTo; rw [List.range_succ,List.map_append,List.sum_append]; simp
theorem upTo_rev (g : Int → Int) : ∀ m : Nat,((List.range m).map fun i : Nat => g ((m : Int) - 1 - (i : Int))).sum = upTo g m
  | 0 => rfl
  | m + 1 => by
    rw [List.range_succ_eq_map,List.map_cons,List.sum_cons,List.map_map,upTo_succ]
    have h1 : ((m + 1 : Nat) : Int) - 1 - ((0 : Nat) : Int) = (m : Int) := by omega
    have h2 : ((List.range m).map ((fun i : Nat => g (((m + 1 : Nat) : Int) - 1 - (i : Int))) ∘ Nat.succ)) = (List.range m).map fun i : Nat => g ((m : Int) - 1 - (i : Int)) := by
      refine List.map_congr_left fun i _ => ?_
      show g (((m + 1 : Nat) : Int) - 1 - ((i + 1 : Nat) : Int)) = _
      rw [show ((m + 1 : Nat) : Int) - 1 - ((i + 1 : Nat) : Int) = (m : Int) - 1 - (i : Int) by omega]
    rw [h1,h2,upTo_rev g m]; omega
theorem upTo_zero {g : Int → Int} : ∀ m : Nat,(∀ i : Nat,i < m → g (i : Int) = 0) → upTo g m = 0
  | 0,_ => rfl
  | m + 1,h => by rw [upTo_succ,upTo_zero m fun i hi => h i (by omega),h m (by omega)]; rfl
end Go.Proofs.Ytlgekplmbmkcmaa
end
section
set_option linter.unusedSimpArgs false
set_option linter.unusedVariables false
set_option maxHeartbeats 4000000
set_option maxRecDepth 10000
namespace Go.Proofs.Ytlgekplmbmkcmaa
open Go.Fx
theorem sumZ_le {f : Int → Int} {B : Int} : ∀ {l : List Int},(∀ x ∈ l,0 ≤ f x ∧ f x ≤ B) → 0 ≤ sumZ f l ∧ sumZ f l ≤ l.length * B
  | [],_ => by simp [sumZ]
  | x :: l,h => by
    have h1 := h x (by simp)
    have h2 := sumZ_le (l := l) fun y hy => h y (by simp [hy])
    have hll : (((x :: l).length : Nat) : Int) * B = (l.length : Int) * B + B := by simp only [List.length_cons]; rw [show ((l.length + 1 : Nat) : Int) = (l.length : Int) + 1 by omega,Int.add_mul]; omega
    rw [sumZ_cons,hll]; omega
end Go.Proofs.Ytlgekplmbmkcmaa
end
section
set_option linter.unusedSimpArgs false
set_option linter.unusedVariables false
namespace Go.Proofs.Ytlgekplmbmkcmaa
open Go.Fx
theorem ren_closed {u : T} {E : Nat} (hu : V u 0 E) (r : Int → Int) : ren r u = u := ren_id hu fun n _ _ => by omega
theorem sput_eq {u : T} {E : Nat} (hu : V u 0 E) (b n : Int) : sput 0 u b n = if n = b then u else if n > b then var (n - 1) else var n := by
  unfold sput
  rw [Int.zero_add,ren_closed hu]
theorem usesZ_var (n q : Int) : usesZ (var n) q = if n = q then 1 else 0 := by unfold var; rw [usesZ_mk,if_pos rfl]
theorem usesLZ_map {l : List T} {F : T → T} {q r : Int} (h : ∀ t ∈ l,usesZ (F t) q = usesZ t r) : usesLZ (l.map F) q = usesLZ l r := by
  induction l with
  | nil => rfl
  | cons t l ih => simp only [List.map_cons,usesLZ]; rw [h t (by simp),ih fun u hu => h u (by simp [hu])]
theorem ofZ_var (n : Int) : ofZ (var n) = [] := by unfold var; simp [ofZ,bZ,ofZL]
end Go.Proofs.Ytlgekplmbmkcmaa
end
section
set_option linter.unusedSimpArgs false
set_option linter.unusedVariables false
set_option maxHeartbeats 4000000
set_option maxRecDepth 10000
namespace Go.Proofs.Ytlgekplmbmkcmaa
open Go.Fx
structure Nums (t : T) : Prop where
  v : vn t ≤ 1073741824
  l : (ofT t).length ≤ 1048576
  f : fansW (ofT t) = sumZ fanZ (ofT t)
  d : dropsW (ofT t) = sumZ dropZ (ofT t)
  bf : 0 ≤ sumZ fanZ (ofT t) ∧ sumZ fanZ (ofT t) ≤ 1125899906842624
  bd : 0 ≤ sumZ dropZ (ofT t) ∧ sumZ dropZ (ofT t) ≤ 1048576
theorem nums_of {t : T} (h : sizeZ t ≤ 100000) : Nums t := by
  have h1 := vn_A t
  have h2 := ofT_size t
  have hr := ofT_rng t (by omega)
  have q := fan_eq hr (by omega)
  have k1 := sumZ_le (f := fanZ) (B := 1073741824) (l := ofT t) fun x hx => by have := hr x hx; unfold fanZ; split <;> omega
  have k2 := sumZ_le (f := dropZ) (B := 1) (l := ofT t) fun x hx => by unfold dropZ; split <;> omega
  exact ⟨by omega,by omega,q.1,q.2.2,by omega,by omega⟩
end Go.Proofs.Ytlgekplmbmkcmaa
end
section
set_option linter.unusedSimpArgs false
set_option linter.unusedVariables false
set_option maxHeartbeats 4000000
set_option maxRecDepth 10000
namespace Go.Proofs.Ytlgekplmbmkcmaa
open Go.Fx
theorem fanZ_nn {x : Int} : 0 ≤ fanZ x := by unfold fanZ; split <;> omega
theorem sumZ_nn {f : Int → Int} (hf : ∀ x,0 ≤ f x) : ∀ l,0 ≤ sumZ f l
  | [] => by simp [sumZ]
  | x :: l => by rw [sumZ_cons]; have := hf x; have := sumZ_nn hf l; omega
end Go.Proofs.Ytlgekplmbmkcmaa
end
section
set_option linter.unusedSimpArgs false
set_option linter.unusedVariables false
namespace Go.Proofs.Ytlgekplmbmkcmaa
open Go.Fx
def aff (t : T) : Prop := ∀ x ∈ ofZ t,x ≤ 1
theorem mem_ofZL {l : List T} {x : Int} : x ∈ ofZL l ↔ ∃ t ∈ l,x ∈ ofZ t := by
  induction l with
  | nil => simp [ofZL]
  | cons t l ih => simp only [ofZL,List.mem_append,ih,List.mem_cons,exists_eq_or_imp]
theorem aff_mk {k n : Int} {s : List UInt8} {l : List T} : aff (.mk k n s l) ↔ (∀ x ∈ bZ k n l,x ≤ 1) ∧ ∀ t ∈ l,aff t := by
  unfold aff
  simp only [ofZ,List.mem_append,mem_ofZL]
  constructor
  · exact fun h => ⟨fun x hx => h x (.inl hx),fun t ht x hx => h x (.inr ⟨t,ht,hx⟩)⟩
  · rintro ⟨h1,h2⟩ x (hx | ⟨t,ht,hx⟩)
    · exact h1 x hx
    · exact h2 t ht x hx
theorem aff_sum {l : List Int} : sumZ fanZ l = 0 ↔ ∀ x ∈ l,x ≤ 1 := by
  induction l with
  | nil => simp [sumZ]
  | cons x l ih =>
    have h1 := @fanZ_nn x
    have h2 := sumZ_nn (f := fanZ) (fun _ => fanZ_nn) l
    have h3 : fanZ x = 0 ↔ x ≤ 1 := by unfold fanZ; split <;> omega
    rw [sumZ_cons]
    simp only [List.mem_cons,forall_eq_or_imp,← ih,← h3]
    omega
theorem aff_var (n : Int) : aff (var n) := by unfold aff; rw [ofZ_var]; simp
def mput (U : Int → T) (m : Nat) (b : Int) : Int → T := fun n => if n < b then var n else if n < b + m then U (n - b) else var (n - m)
section
variable {U : Int → T} {m E : Nat} (hU : ∀ j : Int,0 ≤ j → j < m → V (U j) 0 E)
include hU
theorem ls_mput {b k : Int} (hb : 0 ≤ b) (n : Int) : ls k (mput U m b) n = mput U m (b + k) n := by
  unfold ls mput
  by_cases h1 : n < k
  · rw [if_pos h1,if_pos (by omega)]
  · rw [if_neg h1]
    by_cases h2 : n - k < b
    · rw [if_pos h2,if_pos (by omega),ren_v,show n - k + k = n by omega]
    · rw [if_neg h2,if_neg (c := n < b + k) (by omega)]
      by_cases h3 : n - k < b + m
      · rw [if_pos h3,if_pos (by omega),ren_closed (hU _ (by omega) (by omega)),show n - k - b = n - (b + k) by omega]
      · rw [if_neg h3,if_neg (by omega),ren_v,show n - k - m + k = n - m by omega]
theorem usesZ_mput {t : T} : ∀ {f b q : Int} {D : Nat},V t f D → 0 ≤ b → 0 ≤ q → q < b → usesZ (sub (mput U m b) t) q = usesZ t q := by
  induction t using T.ind with
  | h k n s l ih =>
    intro f b q D hV hb hq hqb
    rw [V_mk] at hV
    rw [sub_mk,usesZ_mk]
    by_cases hk : k = 1
    · rw [if_pos hk] at hV
      rw [if_pos hk,if_pos hk]
      unfold mput
      by_cases h1 : n < b
      · rw [if_pos h1,usesZ_var]
      · rw [if_neg h1,if_neg (c := n = q) (by omega)]
        by_cases h2 : n < b + m
        · rw [if_pos h2,usesZ_hi (hU _ (by omega) (by omega)) hq]
        · rw [if_neg h2,usesZ_var,if_neg (by omega)]
    · rw [if_neg hk] at hV
      obtain ⟨h1,h2,h3,h4⟩ := hV
      rw [if_neg hk,if_neg hk,usesZ_mk,if_neg hk]
      have hm : T.more (.mk k n s (l.map (sub (ls (T.more (.mk k n s l)) (mput U m b))))) = T.more (.mk k n s l) := rfl
      rw [hm]
      exact usesLZ_map fun t ht => by
        rw [sub_ext (τ := mput U m (b + T.more (.mk k n s l))) (h4 t ht) fun n _ _ => ls_mput hU hb n,ih t ht (h4 t ht) (by omega) (by omega) (by omega)]
theorem bZ_mput {k n : Int} {s : List UInt8} {l : List T} {f b : Int} {D : Nat} (hV : V (.mk k n s l) f D) (hk : k ≠ 1) (hb : 0 ≤ b) : T.more (.mk k n s l) = (mo k n : Int) ∧ (∀ t ∈ l,V t (f + mo k n) (D - 1)) ∧ (∀ t ∈ l,sub (ls (mo k n : Int) (mput U m b)) t = sub (mput U m (b + mo k n)) t) ∧ bZ k n (l.map (sub (ls (mo k n : Int) (mput U m b)))) = bZ k n l := by
  rw [V_mk,if_neg hk] at hV
  obtain ⟨h1,h2,h3,h4⟩ := hV
  have hM : T.more (.mk k n s l) = (mo k n : Int) := by
    have : (mo k n : Int) = if k = 2 then 1 else if k = 6 then n else 0 := by
      unfold mo
      rw [more_eq] at h1
      omega
    rw [this]; rfl
  rw [hM] at h4
  have hext : ∀ t ∈ l,sub (ls (mo k n : Int) (mput U m b)) t = sub (mput U m (b + mo k n)) t := fun t ht => sub_ext (h4 t ht) fun n _ _ => ls_mput hU hb n
  refine ⟨hM,h4,hext,?_⟩
  unfold bZ
  rw [if_neg hk,if_neg hk]
  refine List.map_congr_left fun i hi => ?_
  have hi := List.mem_range.1 hi
  exact usesLZ_map fun t ht => by
    rw [hext t ht,usesZ_mput hU (h4 t ht) (by omega) (by omega) (by omega)]
theorem aff_mput (hA : ∀ j : Int,0 ≤ j → j < m → aff (U j)) {t : T} : ∀ {f b : Int} {D : Nat},V t f D → 0 ≤ b → aff t → aff (sub (mput U m b) t) := by
  induction t using T.ind with
  | h k n s l ih =>
    intro f b D hV hb ha
    rw [sub_mk]
    by_cases hk : k = 1
    · rw [if_pos hk]
      unfold mput
      by_cases h1 : n < b
      · rw [if_pos h1]; exact aff_var n
      · rw [if_neg h1]
        by_cases h2 : n < b + m
        · rw [if_pos h2]; exact hA _ (by omega) (by omega)
        · rw [if_neg h2]; exact aff_var _
    · rw [if_neg hk]
      obtain ⟨hM,h4,hext,hbz⟩ := bZ_mput hU hV hk hb
      rw [hM]
      rw [aff_mk] at ha ⊢
      rw [hbz]
      refine ⟨ha.1,fun u hu => ?_⟩
      obtain ⟨t,ht,rfl⟩ := List.mem_map.1 hu
      rw [hext t ht]
      exact ih t ht (h4 t ht) (by omega) (ha.2 t ht)
omit hU in
theorem upTo_mul {g h z : Int → Int} : ∀ m : Nat,upTo (fun j => (g j + h j) * z j) m = upTo (fun j => g j * z j) m + upTo (fun j => h j * z j) m
  | 0 => rfl
  | m + 1 => by rw [upTo_succ,upTo_succ,upTo_succ,upTo_mul m,Int.add_mul]; omega
omit hU in
theorem upTo_pick (z : Int → Int) (n : Int) : ∀ m : Nat,upTo (fun j => (if n = j then 1 else 0) * z j) m = if 0 ≤ n ∧ n < m then z n else 0
  | 0 => by rw [if_neg (by omega)]; rfl
  | m + 1 => by
    rw [upTo_succ,upTo_pick z n m]
    by_cases h : n = (m : Int)
    · subst h
      rw [if_neg (by omega),if_pos rfl,if_pos (by omega)]; omega
    · rw [if_neg (c := n = (m : Int)) h,Int.zero_mul]
      by_cases h2 : 0 ≤ n ∧ n < m
      · rw [if_pos h2,if_pos (by omega)]; omega
      · rw [if_neg h2,if_neg (by omega)]; rfl
omit hU in
theorem upTo_le {g h : Int → Int} : ∀ m : Nat,(∀ i : Nat,i < m → g i ≤ h i) → upTo g m ≤ upTo h m
  | 0,_ => by simp [upTo]
  | m + 1,hh => by
    rw [upTo_succ,upTo_succ]
    have h1 := upTo_le m fun i hi => hh i (by omega)
    have h2 := hh m (by omega)
    omega
omit hU in
theorem sizeLZ_up {z : Int → Int} {F : T → T} {B : Int} : ∀ {l : List T},(∀ t ∈ l,sizeZ (F t) = sizeZ t + upTo (fun j => usesZ t (B + j) * z j) m) → sizeLZ (l.map F) = sizeLZ l + upTo (fun j => usesLZ l (B + j) * z j) m
  | [],_ => by
    have : upTo (fun j => usesLZ [] (B + j) * z j) m = 0 := upTo_zero m fun _ _ => by simp [usesLZ]
    rw [this]; rfl
  | t :: l,h => by
    have h1 := h t (by simp)
    have h2 := sizeLZ_up (l := l) fun u hu => h u (by simp [hu])
    have h3 : upTo (fun j => usesLZ (t :: l) (B + j) * z j) m = upTo (fun j => usesZ t (B + j) * z j) m + upTo (fun j => usesLZ l (B + j) * z j) m := upTo_mul m
    simp only [List.map_cons,sizeLZ]
    rw [h3,h1,h2]; omega
theorem size_mput {t : T} : ∀ {f b : Int} {D : Nat},V t f D → 0 ≤ b → sizeZ (sub (mput U m b) t) = sizeZ t + upTo (fun j => usesZ t (b + j) * (sizeZ (U j) - 1)) m := by
  induction t using T.ind with
  | h k n s l ih =>
    intro f b D hV hb
    rw [sub_mk]
    by_cases hk : k = 1
    · have hV' := hV
      rw [V_mk,if_pos hk] at hV'
      obtain ⟨h0,h1,rfl,rfl,h5⟩ := hV'
      rw [if_pos hk]
      have hu : ∀ j : Int,usesZ (.mk k n [] []) (b + j) = if n - b = j then 1 else 0 := fun j => by
        rw [usesZ_mk,if_pos hk]
        by_cases h : n = b + j
        · rw [if_pos h,if_pos (by omega)]
        · rw [if_neg h,if_neg (by omega)]
      simp only [hu]
      rw [upTo_pick (fun j => sizeZ (U j) - 1) (n - b) m]
      have hs : sizeZ (.mk k n [] []) = 1 := rfl
      rw [hs]
      unfold mput
      by_cases h1 : n < b
      · rw [if_pos h1,if_neg (by omega)]; rfl
      · rw [if_neg h1]
        by_cases h2 : n < b + m
        · rw [if_pos h2,if_pos (by omega)]; omega
        · rw [if_neg h2,if_neg (by omega)]; rfl
    · rw [if_neg hk]
      obtain ⟨hM,h4,hext,hbz⟩ := bZ_mput hU hV hk hb
      rw [hM]
      have hL := sizeLZ_up (m := m) (z := fun j => sizeZ (U j) - 1) (B := b + mo k n) (l := l) (F := sub (ls (mo k n : Int) (mput U m b))) fun t ht => by rw [hext t ht]; exact ih t ht (h4 t ht) (by omega)
      have hu : ∀ j : Int,usesZ (.mk k n s l) (b + j) = usesLZ l (b + mo k n + j) := fun j => by
        rw [usesZ_mk,if_neg hk,hM]; congr 1; omega
      simp only [hu]
      show sizeLZ (l.map _) + 1 = sizeLZ l + 1 + _
      rw [hL]; omega
end
theorem mput_good {U : Int → T} {m : Nat} (hm : m ≤ 100) {t : T} (ht : may t m false = true) (dt : dep t ≤ 600) (hU : ∀ j : Int,0 ≤ j → j < m → may (U j) 0 false = true ∧ dep (U j) ≤ 600 ∧ aff (U j)) (at' : aff t) (hu : ∀ j : Int,0 ≤ j → j < m → usesZ t j ≤ 1) {Z : Int} (hz : sizeZ t + upTo (fun j => sizeZ (U j)) m ≤ Z) (hZ : Z ≤ 100000) :
    ofT (sub (mput U m 0) t) = ofZ (sub (mput U m 0) t) ∧ aff (sub (mput U m 0) t) ∧ sizeZ (sub (mput U m 0) t) ≤ Z := by
  have vt : V t m 600 := may_V ht dt (by omega) (by omega)
  have vU : ∀ j : Int,0 ≤ j → j < m → V (U j) 0 600 := fun j h0 h1 => may_V (hU j h0 h1).1 (hU j h0 h1).2.1 (by omega) (by omega)
  have hσ : ∀ n : Int,0 ≤ n → n < m → may (mput U m 0 n) 0 false = true ∧ dep (mput U m 0 n) ≤ 600 := by
    intro n h0 hn
    unfold mput
    rw [if_neg (by omega),if_pos (by omega),Int.sub_zero]
    exact ⟨(hU n h0 hn).1,(hU n h0 hn).2.1⟩
  have mx := may_sub (g := 0) (D := 600) (E := 600) ht dt hσ (by omega) (by omega) (by omega) (by omega) (by omega)
  have dx := dep_sub (E := 600) vt (fun n h0 hn => (hσ n h0 hn).2) (by omega)
  have hs := size_mput vU vt (b := 0) (by omega)
  have hle : upTo (fun j => usesZ t (0 + j) * (sizeZ (U j) - 1)) m ≤ upTo (fun j => sizeZ (U j)) m := upTo_le m fun i hi => by
    have h1 := usesZ_b t (0 + i)
    have h2 := hu i (by omega) (by omega)
    have h3 := sizeZ_pos (U i)
    rw [Int.zero_add] at h1 ⊢
    have : usesZ t i * (sizeZ (U i) - 1) ≤ 1 * (sizeZ (U i) - 1) := Int.mul_le_mul_of_nonneg_right h2 (by omega)
    omega
  refine ⟨?_,aff_mput vU (fun j h0 h1 => (hU j h0 h1).2.2) vt (by omega) at',by omega⟩
  exact ofT_Z mx dx (by omega) (by omega) (by omega)
theorem head_n {k n : Int} {s : List UInt8} {l : List T} {f : Int} {a : Bool} (h : head (.mk k n s l) f a = true) : k = 7 ∨ (k = 1 ∧ 0 ≤ n ∧ n < f) ∨ (k ≠ 1 ∧ 0 ≤ n ∧ n ≤ 8) := by
  have e : head (.mk k n s l) f a = headC k n s l.length f a := rfl
  rw [e] at h
  unfold headC at h
  repeat' split at h
  all_goals simp at h
  all_goals omega
theorem may_tame {t : T} : ∀ {f : Int} {a : Bool} {D : Nat},may t f a = true → dep t ≤ D → 0 ≤ f → f + 8 * D ≤ 1099511627776 → tame t = true := by
  induction t using T.ind with
  | h k n s l ih =>
    intro f a D h hd hf hb
    have hd' : depL l + 1 ≤ D := hd
    rw [may_iff hf (by omega)] at h
    obtain ⟨h1,h2⟩ := h
    obtain ⟨h3,h4,h5,h6⟩ := head_var h1
    have h7 := head_n h1
    have hl : tameL l = true := by
      have : ∀ t ∈ l,tame t = true := fun t ht => by
        obtain ⟨j,hj⟩ := List.getElem?_of_mem ht
        exact ih t ht (h2 j t hj).1 (D := D - 1) (by have := depL_mem ht; omega) (by omega) (by omega)
      clear h2 ih h1 h3 h5 h6 h7 hd hd' hb
      induction l with
      | nil => rfl
      | cons t l ih2 => simp only [tameL,Bool.and_eq_true]; exact ⟨this t (by simp),ih2 fun u hu => this u (by simp [hu])⟩
    have e0 : tame (.mk k n s l) = if (k ≠ 7 ∧ (n > 1099511627776 ∨ n < -1099511627776)) ∨ (k = 1 ∧ 0 < l.length) then false else tameL l := rfl
    rw [e0,if_neg,hl]
    rintro (⟨g1,g2⟩ | ⟨g1,g2⟩)
    · omega
    · obtain ⟨_,_,_,_,rfl⟩ := h3 g1
      simp at g2
theorem may_up {t : T} : ∀ {f g : Int} {a : Bool} {D : Nat},may t f a = true → dep t ≤ D → 0 ≤ f → f ≤ g → g + 8 * D ≤ 9223372036854775807 → may t g a = true := by
  induction t using T.ind with
  | h k n s l ih =>
    intro f g a D h hd hf hfg hb
    have hd' : depL l + 1 ≤ D := hd
    rw [may_iff hf (by omega)] at h
    obtain ⟨h1,h2⟩ := h
    obtain ⟨h3,h4,h5,h6⟩ := head_var h1
    by_cases hk : k = 1
    · obtain ⟨rfl,h7,h8,rfl,rfl⟩ := h3 hk
      subst hk
      exact may_var h7 (by omega)
    · rw [may_iff (by omega) (by omega)]
      refine ⟨head_same hk rfl h1,fun j t hj => ⟨?_,(h2 j t hj).2⟩⟩
      have ht := List.mem_of_getElem? hj
      exact ih t ht (h2 j t hj).1 (D := D - 1) (by have := depL_mem ht; omega) (by omega) (by omega) (by omega)
end Go.Proofs.Ytlgekplmbmkcmaa
end
