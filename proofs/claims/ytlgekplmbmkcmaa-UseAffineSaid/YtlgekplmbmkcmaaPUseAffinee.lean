/- Part 5 of what is proved for the law UseAffine: it returns true,whatever the input. No condition. -/
import Derived.Test.YtlgekplmbmkcmaaChecked
import Derived.Test.YtlgekplmbmkcmaaRows
import Derived.Test.YtlgekplmbmkcmaaPUseAffined
section
set_option linter.unusedSimpArgs false
set_option linter.unusedVariables false
set_option maxHeartbeats 4000000
set_option maxRecDepth 10000
namespace Go.Proofs.Ytlgekplmbmkcmaa
open Go.Fx
theorem allI (l : List Int) : (l.map encI).all (fun r => decide (r.length = 1)) = true := by simp [encI]
theorem mapI {l : List Int} {i : Nat} {x : Int} (h : l[i]? = some x) : (l.map encI)[i]? = some [.i .i64 x] := by rw [List.getElem?_map,h]; rfl
theorem drop_consI {l : List Int} {i : Nat} {x : Int} (h : l[i]? = some x) : l.drop i = x :: l.drop (i + 1) := by
  obtain ⟨hi,rfl⟩ := List.getElem?_eq_some_iff.1 h
  rw [List.drop_eq_getElem_cons hi]
theorem Ints_ok {l m : List Int} (hl : l.length ≤ 1099511627776) : eP S 34 [.a (.l (l.map encI)),.a (.l (m.map encI))] = some (.a (.b (decide (l = m)))) := by
  refine x_fn (orcS _) (fc := F34) rfl rfl ?_
  by_cases hlm : l.length = m.length
  case neg =>
    have h1 : ¬ (l.length : Int) = (m.length : Int) := by omega
    have h2 : ¬ l = m := fun h => hlm (by rw [h])
    simp only [F34,h1,h2,List.length_map,spS,fxa,fxc,fxE,fxL,fxI,nxE,evO,evR,cellsT,ldCells,mkT,lenA,binPV,Env.init,resV,resT,frT,klT,ownT,intT,O.adds,ownA,rowsA,over,wrOk,keysT,keysA,ne_eq,if_true,if_false,ite_self,Nat.reduceLT,Nat.reduceSub,Nat.reduceBEq,Nat.reduceEqDiff,Nat.reduceAdd,Nat.reduceLeDiff,reduceCtorEq,Nat.reduceMul]
  have h1 : (l.length : Int) = (m.length : Int) := by omega
  simp only [F34,h1,List.length_map,spS,fxa,fxc,fxE,fxL,fxI,nxE,evO,evR,cellsT,ldCells,mkT,lenA,binPV,Env.init,resV,resT,frT,klT,ownT,intT,O.adds,ownA,rowsA,over,wrOk,keysT,keysA,ne_eq,if_true,if_false,ite_self,Nat.reduceLT,Nat.reduceSub,Nat.reduceBEq,Nat.reduceEqDiff,Nat.reduceAdd,Nat.reduceLeDiff,reduceCtorEq,Nat.reduceMul]
  refine loop_nat l.length (fun i e τ => e 0 = .a (.p (.l (l.map encI))) ∧ e 1 = .a (.p (.l (m.map encI))) ∧ e 5 = .a (.p (.i .i64 (i : Nat))) ∧ (l.drop i = m.drop i ↔ l = m)) (i0 := 0) (Nat.zero_le _) ⟨rfl,rfl,rfl,by simp⟩ ?_ ?_
  · rintro i e τ hi ⟨e0,e1,e5,hd⟩
    obtain ⟨x,hx⟩ : ∃ x,l[i]? = some x := ⟨_,List.getElem?_eq_getElem hi⟩
    obtain ⟨y,hy⟩ : ∃ y,m[i]? = some y := ⟨_,List.getElem?_eq_getElem (by omega)⟩
    have hx' := mapI hx
    have hy' := mapI hy
    have hlt : ((i : Nat) : Int) < (l.length : Int) := by omega
    have hlt2 : ((i : Nat) : Int) < (m.length : Int) := by omega
    have hge : (0 : Int) ≤ ((i : Nat) : Int) := by omega
    have hw := wrap_succ i (by omega)
    rw [drop_consI hx,drop_consI hy] at hd
    by_cases hxy : x = y
    · subst hxy
      simp only [List.cons.injEq,true_and] at hd
      simp only [F34b0,e0,e1,e5,hlt,hlt2,hge,hw,hx',hy',allI,Int.toNat_natCast,List.length_map,List.length_cons,List.length_nil,spS,fxa,fxc,fxE,fxL,fxI,nxE,evO,evR,cellsT,ldCells,mkT,lenA,binPV,Env.init,resV,resT,frT,klT,ownT,intT,O.adds,ownA,rowsA,over,wrOk,keysT,keysA,ne_eq,if_true,if_false,ite_self,Nat.reduceLT,Nat.reduceSub,Nat.reduceBEq,Nat.reduceEqDiff,Nat.reduceAdd,Nat.reduceLeDiff,reduceCtorEq,Nat.reduceMul]
      exact hd
    · have hne : ¬ l = m := fun h => hxy (by have := hd.2 h; simp only [List.cons.injEq] at this; exact this.1)
      simp only [F34b0,e0,e1,e5,hlt,hlt2,hge,hx',hy',hxy,hne,allI,Int.toNat_natCast,List.length_map,List.length_cons,List.length_nil,spS,fxa,fxc,fxE,fxL,fxI,nxE,evO,evR,cellsT,ldCells,mkT,lenA,binPV,Env.init,resV,resT,frT,klT,ownT,intT,O.adds,ownA,rowsA,over,wrOk,keysT,keysA,ne_eq,if_true,if_false,ite_self,Nat.reduceLT,Nat.reduceSub,Nat.reduceBEq,Nat.reduceEqDiff,Nat.reduceAdd,Nat.reduceLeDiff,reduceCtorEq,Nat.reduceMul]
  · rintro e τ ⟨e0,e1,e5,hd⟩
    obtain rfl : l = m := by
      apply hd.1
      rw [List.drop_length,hlm,List.drop_length]
    have hlt : ¬ ((l.length : Nat) : Int) < (l.length : Int) := by omega
    simp only [F34b0,e0,e1,e5,hlt,List.length_map,spS,fxa,fxc,fxE,fxL,fxI,nxE,evO,evR,cellsT,ldCells,mkT,lenA,binPV,Env.init,resV,resT,frT,klT,ownT,intT,O.adds,ownA,rowsA,over,wrOk,keysT,keysA,ne_eq,if_true,if_false,ite_self,Nat.reduceLT,Nat.reduceSub,Nat.reduceBEq,Nat.reduceEqDiff,Nat.reduceAdd,Nat.reduceLeDiff,reduceCtorEq,Nat.reduceMul]
end Go.Proofs.Ytlgekplmbmkcmaa
end
section
set_option linter.unusedSimpArgs false
set_option linter.unusedVariables false
set_option maxHeartbeats 4000000
set_option maxRecDepth 10000
namespace Go.Proofs.Ytlgekplmbmkcmaa
open Go.Fx
theorem w_eq {x y : Int} (h : ∃ k : Int,x = y + k * 18446744073709551616) : w x = w y := by
  obtain ⟨k,rfl⟩ := h
  simp only [w,IntKind.wrap_i64]; omega
theorem w_k (x : Int) : ∃ k : Int,w x = x + k * 18446744073709551616 := by
  simp only [w,IntKind.wrap_i64]
  exact ⟨-((x + 9223372036854775808) / 18446744073709551616),by omega⟩
def refN (t : T) : Nat := if t.k = 6 ∧ t.l.length ≠ 0 then (if t.n < 8 then t.n.toNat else 8) else 0
def refB (t : T) : List Int := (if t.k = 2 ∧ t.l.length ≠ 0 then [uses (t.l.getD 0 zT0) 0] else []) ++ (List.range (refN t)).map fun i : Nat => uses (t.l.getD 0 zT0) (w (w (t.n - 1) - (i : Int)))
theorem refB_eq (t : T) : refB t = useB t := by
  unfold refB useB
  by_cases h0 : t.l.length = 0
  · have hb : binds t = 0 := by unfold binds; rw [if_pos h0]
    have hr : refN t = 0 := by unfold refN; rw [if_neg (by rintro ⟨_,h⟩; exact h h0)]
    rw [hb,hr,if_neg (by rintro ⟨_,h⟩; exact h h0)]; rfl
  · by_cases h1 : t.k = 2
    · have hb : binds t = 1 := by unfold binds; rw [if_neg h0,if_pos h1]
      have hr : refN t = 0 := by unfold refN; rw [if_neg (by rintro ⟨h,_⟩; omega)]
      have hl : lastB t = 0 := by unfold lastB; rw [if_neg (by omega)]
      rw [hb,hr,hl,if_pos ⟨h1,h0⟩]
      have hw0 : w (0 + (((1 : Int).toNat : Int) - 1 - ((0 : Nat) : Int))) = 0 := by decide
      simp only [List.range_zero,List.map_nil,List.append_nil]
      show [_] = [w (uses (t.l.getD 0 zT0) (w (0 + (((1 : Int).toNat : Int) - 1 - ((0 : Nat) : Int)))))]
      rw [hw0,uses_w]
    · rw [if_neg (by rintro ⟨h,_⟩; exact h1 h)]
      by_cases h2 : t.k = 6
      · have hb : (binds t).toNat = refN t := by
          have hr : refN t = if t.n < 8 then t.n.toNat else 8 := by unfold refN; rw [if_pos ⟨h2,h0⟩]
          have hb0 : binds t = if 8 < (if 0 > t.n then 0 else t.n) then 8 else (if 0 > t.n then 0 else t.n) := by unfold binds; rw [if_neg h0,if_neg h1,if_pos h2]
          rw [hb0,hr]
          repeat' split
          all_goals first | rfl | omega
        rw [hb,List.nil_append]
        refine List.map_congr_left fun i hi => ?_
        have hi := List.mem_range.1 hi
        rw [uses_w]
        have hbi : binds t = (refN t : Int) := by have := binds_le t; omega
        have hl : lastB t = w (t.n - (refN t : Int)) := by unfold lastB; rw [if_pos h2,hbi]
        rw [hl]
        refine congrArg (uses _) (w_eq ?_)
        obtain ⟨a,ha⟩ := w_k (t.n - 1)
        obtain ⟨b,hb2⟩ := w_k (t.n - (refN t : Int))
        rw [ha,hb2]
        exact ⟨a - b,by rw [Int.sub_mul]; omega⟩
      · have hb : binds t = 0 := by unfold binds; rw [if_neg h0,if_neg h1,if_neg h2]
        have hr : refN t = 0 := by unfold refN; rw [if_neg (by rintro ⟨h,_⟩; exact h2 h)]
        rw [hb,hr]; rfl
end Go.Proofs.Ytlgekplmbmkcmaa
end
section
set_option linter.unusedSimpArgs false
set_option linter.unusedVariables false
set_option maxHeartbeats 4000000
set_option maxRecDepth 10000
namespace Go.Proofs.Ytlgekplmbmkcmaa
open Go.Fx
def rfanW (a n : Int) : Int := if n > 1 then w (a + w (n - 1)) else a
def rfansW (l : List Int) : Int := l.foldl rfanW 0
theorem depL_app : ∀ (l r : List T),depL (l ++ r) = max (depL l) (depL r)
  | [],r => by simp [depL]
  | t :: l,r => by simp only [List.cons_append,depL,depL_app l r,Nat.max_assoc]
theorem Depth_ok : ∀ {t : T},T.Ok t → dep t ≤ 1099511627776 → eP S 32 [.g (enc t)] = some (.a (.i .i64 (dep t : Nat))) := by
  intro t ht
  induction ht with
  | mk k n s l hk hn hs hl h ih =>
    intro hd
    simp only [dep] at hd
    refine x_fn (orcS _) (fc := F32) rfl rfl ?_
    simp only [F32,enc,encL_map,spS,fxa,fxc,fxE,fxL,fxI,nxE,evO,evR,cellsT,ldCells,mkT,lenA,binPV,Env.init,resV,resT,frT,klT,ownT,intT,O.adds,ownA,rowsA,over,wrOk,keysT,keysA,ne_eq,if_true,if_false,ite_self,Nat.reduceLT,Nat.reduceSub,Nat.reduceBEq,Nat.reduceEqDiff,Nat.reduceAdd,Nat.reduceLeDiff,reduceCtorEq,Nat.reduceMul]
    refine loop_nat l.length (fun i e τ => e 1 = .a (.ptr (1,0) 0 0) ∧ e 3 = .a (.p (.i .i64 (depL (l.take i) : Nat))) ∧ e 4 = .a (.p (.i .i64 (i : Nat))) ∧ τ.bs (1,0) = some (.var [.p (.i .i64 k),.p (.i .i64 n),.p (.s s),.p (.l (l.map enc))])) (i0 := 0) (Nat.zero_le _) ⟨rfl,rfl,rfl,rfl⟩ ?_ ?_
    · rintro i e τ hi ⟨e1,e3,e4,b1⟩
      obtain ⟨x,hx⟩ : ∃ x,l[i]? = some x := ⟨_,List.getElem?_eq_getElem hi⟩
      have hx' : (l.map enc)[i]? = some (enc x) := by simp [hx]
      have hxm := List.mem_of_getElem? hx
      have hlt : ((i : Nat) : Int) < (l.length : Int) := by omega
      have hge : (0 : Int) ≤ ((i : Nat) : Int) := by omega
      have hlb : i < 9223372036854775807 := by simp only [reachBytes] at hl; omega
      have hw := wrap_succ i hlb
      have c1 := ih x hxm (by have := depL_mem hxm; omega)
      have hs1 : depL (l.take (i + 1)) = max (depL (l.take i)) (dep x) := by rw [take_succT hx,depL_app]; simp [depL]
      rw [hs1]
      by_cases hm : (dep x : Int) > (depL (l.take i) : Int)
      · have : max (depL (l.take i)) (dep x) = dep x := by omega
        rw [this]
        simp only [F32b0,e1,e3,e4,b1,hlt,hge,hw,hx',hm,enc_len,enc_take,enc_all,c1,Int.toNat_natCast,List.length_map,spS,fxa,fxc,fxE,fxL,fxI,nxE,evO,evR,cellsT,ldCells,mkT,lenA,binPV,Env.init,resV,resT,frT,klT,ownT,intT,O.adds,ownA,rowsA,over,wrOk,keysT,keysA,ne_eq,if_true,if_false,ite_self,Nat.reduceLT,Nat.reduceSub,Nat.reduceBEq,Nat.reduceEqDiff,Nat.reduceAdd,Nat.reduceLeDiff,reduceCtorEq,Nat.reduceMul]
      · have : max (depL (l.take i)) (dep x) = depL (l.take i) := by omega
        rw [this]
        simp only [F32b0,e1,e3,e4,b1,hlt,hge,hw,hx',hm,enc_len,enc_take,enc_all,c1,Int.toNat_natCast,List.length_map,spS,fxa,fxc,fxE,fxL,fxI,nxE,evO,evR,cellsT,ldCells,mkT,lenA,binPV,Env.init,resV,resT,frT,klT,ownT,intT,O.adds,ownA,rowsA,over,wrOk,keysT,keysA,ne_eq,if_true,if_false,ite_self,Nat.reduceLT,Nat.reduceSub,Nat.reduceBEq,Nat.reduceEqDiff,Nat.reduceAdd,Nat.reduceLeDiff,reduceCtorEq,Nat.reduceMul]
    · rintro e τ ⟨e1,e3,e4,b1⟩
      have hlt : ¬ ((l.length : Nat) : Int) < (l.length : Int) := by omega
      have hw := wrap_succ (depL l) (by omega)
      rw [List.take_length] at e3
      simp only [F32b0,e1,e3,e4,b1,hlt,hw,dep,List.length_map,spS,fxa,fxc,fxE,fxL,fxI,nxE,evO,evR,cellsT,ldCells,mkT,lenA,binPV,Env.init,resV,resT,frT,klT,ownT,intT,O.adds,ownA,rowsA,over,wrOk,keysT,keysA,ne_eq,if_true,if_false,ite_self,Nat.reduceLT,Nat.reduceSub,Nat.reduceBEq,Nat.reduceEqDiff,Nat.reduceAdd,Nat.reduceLeDiff,reduceCtorEq,Nat.reduceMul]
mutual
def vars : T → Int
  | .mk k _ _ l => varsL l (if k = 1 then 1 else 0)
def varsL : List T → Int → Int
  | [],a => a
  | t :: r,a => varsL r (w (a + vars t))
end
theorem v11_ok (n : Int) : eP S 61 [.a (.i .i64 n)] = some (.g (enc (.mk 1 n [] []))) := by
  refine x_fn (orcS _) (fc := F61) rfl rfl ?_
  simp only [F61,enc,encL_map,List.map_nil,spS,fxa,fxc,fxE,fxL,fxI,nxE,evO,evR,cellsT,ldCells,mkT,lenA,binPV,Env.init,resV,resT,frT,klT,ownT,intT,O.adds,ownA,rowsA,over,wrOk,keysT,keysA,ne_eq,if_true,if_false,ite_self,Nat.reduceLT,Nat.reduceSub,Nat.reduceBEq,Nat.reduceEqDiff,Nat.reduceAdd,Nat.reduceLeDiff,reduceCtorEq,Nat.reduceMul]
theorem lam11_ok (t : T) : eP S 45 [.g (enc t)] = some (.g (enc (.mk 2 0 [] [t]))) := by
  have e0 : enc (.mk 2 0 [] [t]) = [.i .i64 2,.i .i64 0,.s [],.l [enc t]] := rfl
  rw [e0]
  refine x_fn (orcS _) (fc := F45) rfl rfl ?_
  simp only [F45,enc_len,enc_takep,x_seq,x_reg,x_skip,x_exit,x_ret,x_block,x_if,wpC_t,wpC_f,wpI_cons,wpI_nil,wpX_some,evI_any,evI_rd,evI_ad,evI_g,evG_u,evG_b,evG_tt,evG_ff,evG_tf,evG_ft,evO,evR,ev_t,ev_c,ev_f,putD_some,putD_none,put_at,cellsT,ldCells,mkT,lenA,binPV,add_bs,add_clk,add_ls,put_bs,put_clk,put_ls,kill_bs,kill_clk,kill_ls,empty_clk,empty_bs,Env.init,seqQ_norm,seqQ_exit,seqQ_ret,blkQ_norm,blkQ_exit,blkQ_ret,loopQ_norm,loopQ_exit,loopQ_ret,retP_ret,retP_norm,retE_ret,retE_norm,retS_ret,retS_norm,wpO_some,frA_fn,klA_p,klA_nil,klA_own,resVs,resV,resT,Option.bind_some,Option.bind_none,Option.map_some,List.getD_cons_zero,List.getD_cons_succ,List.getD_nil,List.length_cons,List.length_nil,List.length_map,List.map_cons,List.map_nil,List.drop_zero,List.drop_succ_cons,List.take_succ_cons,List.take_zero,List.drop_nil,List.take_nil,Nat.reduceEqDiff,Nat.reduceAdd,Nat.reduceLeDiff,Nat.zero_add,Nat.add_zero,Prod.mk.injEq,and_true,true_and,and_false,false_and,and_self,if_true,if_false,ite_true,ite_false,Bool.not_true,Bool.not_false,Bool.not_eq_true',reduceCtorEq,decide_true,decide_false,frTs,frT,frL_p,spS,ofPT_a,ofPT_g,ofPT_t,flat_i,flat_b,flat_s,flat_l,flat_g,flatp_i,flatp_b,flatp_s,flatp_l,klTs,klT,Bool.and_false,Bool.false_and,frL,frA_p,frA_nil,frA_own,ownT,intT,Bool.or_true,Bool.true_or,Bool.false_eq_true,frL_p,klL_p,ownT_p,O.adds,List.all_cons,List.all_nil,List.any_cons,List.any_nil,ownA,evO.bslRows,List.replicate_succ,List.replicate_zero,List.set_cons_zero,rowsA,over,List.cons_append,List.nil_append,List.append_nil,fillA,Bool.and_self,Bool.and_true,Bool.true_and,Bool.or_self,Bool.or_false,Bool.false_or,Nat.reduceMul,Nat.one_mul,Nat.lt_add_one,klL,Nat.le_refl,ite_self,Nat.reduceBEq]
theorem app11_ok (t u : T) : eP S 46 [.g (enc t),.g (enc u)] = some (.g (enc (.mk 3 0 [] [t,u]))) := by
  have e0 : enc (.mk 3 0 [] [t,u]) = [.i .i64 3,.i .i64 0,.s [],.l [enc t,enc u]] := rfl
  rw [e0]
  refine x_fn (orcS _) (fc := F46) rfl rfl ?_
  simp only [F46,enc_len,enc_takep,List.set_cons_succ,Nat.reduceLT,Int.cast_ofNat_Int,Int.reduceLE,Int.reduceLT,Int.reduceToNat,Int.reduceAdd,Int.reduceSub,Int.reduceNeg,x_seq,x_reg,x_skip,x_exit,x_ret,x_block,x_if,wpC_t,wpC_f,wpI_cons,wpI_nil,wpX_some,evI_any,evI_rd,evI_ad,evI_g,evG_u,evG_b,evG_tt,evG_ff,evG_tf,evG_ft,evO,evR,ev_t,ev_c,ev_f,putD_some,putD_none,put_at,cellsT,ldCells,mkT,lenA,binPV,add_bs,add_clk,add_ls,put_bs,put_clk,put_ls,kill_bs,kill_clk,kill_ls,empty_clk,empty_bs,Env.init,seqQ_norm,seqQ_exit,seqQ_ret,blkQ_norm,blkQ_exit,blkQ_ret,loopQ_norm,loopQ_exit,loopQ_ret,retP_ret,retP_norm,retE_ret,retE_norm,retS_ret,retS_norm,wpO_some,frA_fn,klA_p,klA_nil,klA_own,resVs,resV,resT,Option.bind_some,Option.bind_none,Option.map_some,List.getD_cons_zero,List.getD_cons_succ,List.getD_nil,List.length_cons,List.length_nil,List.length_map,List.map_cons,List.map_nil,List.drop_zero,List.drop_succ_cons,List.take_succ_cons,List.take_zero,List.drop_nil,List.take_nil,Nat.reduceEqDiff,Nat.reduceAdd,Nat.reduceLeDiff,Nat.zero_add,Nat.add_zero,Prod.mk.injEq,and_true,true_and,and_false,false_and,and_self,if_true,if_false,ite_true,ite_false,Bool.not_true,Bool.not_false,Bool.not_eq_true',reduceCtorEq,decide_true,decide_false,frTs,frT,frL_p,spS,ofPT_a,ofPT_g,ofPT_t,flat_i,flat_b,flat_s,flat_l,flat_g,flatp_i,flatp_b,flatp_s,flatp_l,klTs,klT,Bool.and_false,Bool.false_and,frL,frA_p,frA_nil,frA_own,ownT,intT,Bool.or_true,Bool.true_or,Bool.false_eq_true,frL_p,klL_p,ownT_p,O.adds,List.all_cons,List.all_nil,List.any_cons,List.any_nil,ownA,evO.bslRows,List.replicate_succ,List.replicate_zero,List.set_cons_zero,rowsA,over,List.cons_append,List.nil_append,List.append_nil,fillA,Bool.and_self,Bool.and_true,Bool.true_and,Bool.or_self,Bool.or_false,Bool.false_or,Nat.reduceMul,Nat.one_mul,Nat.lt_add_one,klL,Nat.le_refl,ite_self,Nat.reduceBEq]
end Go.Proofs.Ytlgekplmbmkcmaa
end
section
set_option linter.unusedSimpArgs false
set_option linter.unusedVariables false
namespace Go.Proofs.Ytlgekplmbmkcmaa
open Go.Fx
theorem T.ind {P : T → Prop} (h : ∀ k n s l,(∀ t,t ∈ l → P t) → P (.mk k n s l)) : ∀ t,P t := by
  intro t
  refine T.rec (motive_1 := P) (motive_2 := fun l => ∀ t,t ∈ l → P t) (fun k n s l ih => h k n s l ih) (by simp) (fun t l h1 h2 u hu => ?_) t
  rcases List.mem_cons.1 hu with rfl | hu
  · exact h1
  · exact h2 u hu
def var (n : Int) : T := .mk 1 n [] []
def lr (m : Int) (r : Int → Int) : Int → Int := fun n => if n < m then n else r (n - m) + m
mutual
def ren (r : Int → Int) : T → T
  | .mk k n s l => if k = 1 then .mk k (r n) s l else .mk k n s (renL (lr (T.more (.mk k n s l)) r) l)
def renL (r : Int → Int) : List T → List T
  | [] => []
  | t :: l => ren r t :: renL r l
end
def ls (m : Int) (σ : Int → T) : Int → T := fun n => if n < m then var n else ren (· + m) (σ (n - m))
mutual
def sub (σ : Int → T) : T → T
  | .mk k n s l => if k = 1 then σ n else .mk k n s (subL (ls (T.more (.mk k n s l)) σ) l)
def subL (σ : Int → T) : List T → List T
  | [] => []
  | t :: l => sub σ t :: subL σ l
end
end Go.Proofs.Ytlgekplmbmkcmaa
end
section
set_option linter.unusedSimpArgs false
set_option linter.unusedVariables false
namespace Go.Proofs.Ytlgekplmbmkcmaa
open Go.Fx
mutual
def sizeZ : T → Int
  | .mk _ _ _ l => sizeLZ l + 1
def sizeLZ : List T → Int
  | [] => 0
  | t :: r => sizeZ t + sizeLZ r
end
theorem sizeLZ_pos {l : List T} (h : ∀ t,t ∈ l → 1 ≤ sizeZ t) : 0 ≤ sizeLZ l := by
  induction l with
  | nil => simp [sizeLZ]
  | cons t l ih => have := h t (by simp); have := ih fun u hu => h u (by simp [hu]); simp only [sizeLZ]; omega
theorem sizeZ_pos (t : T) : 1 ≤ sizeZ t := by
  induction t using T.ind with
  | h k n s l ih => have := sizeLZ_pos ih; simp only [sizeZ]; omega
mutual
theorem few_all : ∀ (t : T) (x y : Int),x ≤ 1099511627776 → y ≤ 1000 → few t x y ≥ 0 → (dep t : Int) ≤ y ∧ few t x y = x - sizeZ t
  | .mk k n s l,x,y,hx,hy,h => by
    simp only [few] at h ⊢
    split at h
    · omega
    · rename_i h1
      split at h
      · omega
      · rename_i h2
        rw [if_neg h1,if_neg h2]
        rw [w_id _ (by omega),w_id _ (by omega)] at h ⊢
        obtain ⟨h3,h4⟩ := few_allL l (x - 1) (y - 1) (by omega) (by omega) (by omega) h
        simp only [dep,sizeZ]; omega
theorem few_allL : ∀ (l : List T) (x y : Int),x ≤ 1099511627776 → 0 ≤ y → y ≤ 1000 → fewL l x y ≥ 0 → (depL l : Int) ≤ y ∧ fewL l x y = x - sizeLZ l
  | [],x,y,hx,hy0,hy,h => by simp only [fewL,depL,sizeLZ]; omega
  | t :: l,x,y,hx,hy0,hy,h => by
    simp only [fewL] at h ⊢
    split at h
    · omega
    · rename_i h1
      rw [if_neg h1]
      obtain ⟨h3,h4⟩ := few_all t x y hx hy (by omega)
      have := sizeZ_pos t
      obtain ⟨h5,h6⟩ := few_allL l (few t x y) y (by omega) hy0 hy h
      simp only [depL,sizeLZ]; omega
end
theorem small_all {t : T} {x : Int} (hx : x ≤ 1099511627776) (h : small t x = true) : dep t ≤ 600 ∧ sizeZ t ≤ x := by
  unfold small at h
  obtain ⟨h1,h2⟩ := few_all t x 600 hx (by omega) (by simpa using h)
  have : few t x 600 ≥ 0 := by simpa using h
  omega
end Go.Proofs.Ytlgekplmbmkcmaa
end
section
set_option linter.unusedSimpArgs false
set_option linter.unusedVariables false
namespace Go.Proofs.Ytlgekplmbmkcmaa
open Go.Fx
theorem May_ok {t : T} (ht : T.Ok t) (f : Int) : eP S 27 [.g (enc t),.a (.i .i64 f)] = some (.a (.b (may t f false))) := by
  have h := may_ok ht f false
  refine x_fn (orcS 27) (fc := F27) rfl rfl ?_
  simp only [F27,enc_len,enc_takep,enc_flat,h,x_seq,x_reg,x_skip,x_exit,x_ret,x_block,x_if,wpC_t,wpC_f,wpI_cons,wpI_nil,wpX_some,evI_any,evI_rd,evI_ad,evI_g,evG_u,evG_b,evG_tt,evG_ff,evG_tf,evG_ft,evO,evR,ev_t,ev_c,ev_f,putD_some,putD_none,put_at,cellsT,ldCells,mkT,lenA,binPV,add_bs,add_clk,add_ls,put_bs,put_clk,put_ls,kill_bs,kill_clk,kill_ls,empty_clk,empty_bs,Env.init,seqQ_norm,seqQ_exit,seqQ_ret,blkQ_norm,blkQ_exit,blkQ_ret,loopQ_norm,loopQ_exit,loopQ_ret,retP_ret,retP_norm,retE_ret,retE_norm,retS_ret,retS_norm,wpO_some,frA_fn,klA_p,klA_nil,klA_own,resVs,resV,resT,Option.bind_some,Option.bind_none,Option.map_some,List.getD_cons_zero,List.getD_cons_succ,List.getD_nil,List.length_cons,List.length_nil,List.length_map,List.map_cons,List.map_nil,List.drop_zero,List.drop_succ_cons,List.take_succ_cons,List.take_zero,List.drop_nil,List.take_nil,Nat.reduceEqDiff,Nat.reduceAdd,Nat.reduceLeDiff,Nat.zero_add,Nat.add_zero,Prod.mk.injEq,and_true,true_and,and_false,false_and,and_self,if_true,if_false,ite_true,ite_false,Bool.not_true,Bool.not_false,Bool.not_eq_true',reduceCtorEq,decide_true,decide_false,frTs,frT,frL_p,spS,ofPT_a,ofPT_g,ofPT_t,flat_i,flat_b,flat_s,flat_l,flat_g,flatp_i,flatp_b,flatp_s,flatp_l,klTs,klT,Bool.and_false,Bool.false_and,frL,frA_p,frA_nil,frA_own,ownT,intT,Bool.or_true,Bool.true_or,Bool.false_eq_true,frL_p,klL_p,ownT_p,O.adds,List.all_cons,List.all_nil,List.any_cons,List.any_nil,ownA,evO.bslRows,List.replicate_succ,List.replicate_zero,List.set_cons_zero,rowsA,over,List.cons_append,List.nil_append,List.append_nil,fillA,Bool.and_self,Bool.and_true,Bool.true_and,Bool.or_self,Bool.or_false,Bool.false_or,Nat.reduceMul,Nat.one_mul,Nat.lt_add_one,klL,Nat.le_refl,ite_self,Nat.reduceBEq]
end Go.Proofs.Ytlgekplmbmkcmaa
end
section
set_option linter.unusedSimpArgs false
set_option linter.unusedVariables false
set_option maxHeartbeats 4000000
set_option maxRecDepth 10000
namespace Go.Proofs.Ytlgekplmbmkcmaa
open Go.Fx
theorem Ok_lam {t : T} (ht : T.Ok t) : T.Ok (.mk 2 0 [] [t]) := .mk 2 0 [] [t] (by decide) (by decide) (by simp [reachBytes]) (by simp [reachBytes]) (by simpa using ht)
theorem Ok_app {t u : T} (ht : T.Ok t) (hu : T.Ok u) : T.Ok (.mk 3 0 [] [t,u]) := .mk 3 0 [] [t,u] (by decide) (by decide) (by simp [reachBytes]) (by simp [reachBytes]) (by simp [ht,hu])
end Go.Proofs.Ytlgekplmbmkcmaa
end
section
set_option linter.unusedSimpArgs false
set_option linter.unusedVariables false
namespace Go.Proofs.Ytlgekplmbmkcmaa
open Go.Fx
mutual
theorem ofT_size : ∀ t : T,((ofT t).length : Int) ≤ 8 * sizeZ t
  | .mk k n s l => by
    have h := ofTL_size l
    have hb := binds_le (.mk k n s l)
    simp only [ofT,sizeZ,List.length_append,useB_len]; omega
theorem ofTL_size : ∀ l : List T,((ofTL l).length : Int) ≤ 8 * sizeLZ l
  | [] => by simp [ofTL,sizeLZ]
  | t :: r => by
    have h1 := ofT_size t
    have h2 := ofTL_size r
    simp only [ofTL,sizeLZ,List.length_append]; omega
end
mutual
theorem uses_rng : ∀ (t : T) (q : Int),vn t ≤ 1073741824 → 0 ≤ uses t q ∧ uses t q ≤ vn t
  | .mk k n s l,q,h => by
    unfold vn at h
    unfold uses vn
    split
    · split <;> simp
    · rename_i hk
      rw [if_neg hk] at h
      have := usesL_rng l (w (q + T.more (.mk k n s l))) 0 (by omega) (by omega)
      omega
theorem usesL_rng : ∀ (l : List T) (q a : Int),0 ≤ a → a + vnL l ≤ 2147483648 → a ≤ usesL l q a ∧ usesL l q a ≤ a + vnL l
  | [],q,a,h0,h => by simp [usesL,vnL]
  | t :: r,q,a,h0,h => by
    simp only [vnL] at h
    have h1 := uses_rng' t q (by omega)
    have hw : w (a + uses t q) = a + uses t q := wrap_in _ (by omega)
    have h2 := usesL_rng r q (a + uses t q) (by omega) (by omega)
    simp only [usesL,vnL,hw]; omega
theorem uses_rng' : ∀ (t : T) (q : Int),vn t ≤ 2147483648 → 0 ≤ uses t q ∧ uses t q ≤ vn t
  | .mk k n s l,q,h => by
    unfold vn at h
    unfold uses vn
    split
    · split <;> simp
    · rename_i hk
      rw [if_neg hk] at h
      have := usesL_rng l (w (q + T.more (.mk k n s l))) 0 (by omega) (by omega)
      omega
end
theorem useB_rng {t : T} (h : vnL t.l ≤ 1073741824) : ∀ x ∈ useB t,0 ≤ x ∧ x ≤ 1073741824 := by
  intro x hx
  unfold useB at hx
  obtain ⟨i,hi,rfl⟩ := List.mem_map.1 hx
  rw [uses_w]
  have hv : vn (t.l.getD 0 zT0) ≤ 1073741824 := by
    cases hl : t.l with
    | nil => show vn zT0 ≤ _; decide
    | cons a b => rw [hl] at h; show vn a ≤ _; simp only [vnL] at h; omega
  have := uses_rng (t.l.getD 0 zT0) (w (lastB t + (((binds t).toNat : Int) - 1 - (i : Int)))) hv
  omega
mutual

def vnA : T → Nat
  | .mk k _ _ l => (if k = 1 then 1 else 0) + vnAL l
def vnAL : List T → Nat
  | [] => 0
  | t :: r => vnA t + vnAL r
end
mutual
theorem vn_A : ∀ t : T,vn t ≤ vnA t ∧ (vnA t : Int) ≤ sizeZ t
  | .mk k n s l => by
    have h := vnL_A l
    simp only [vn,vnA,sizeZ]
    split <;> omega
theorem vnL_A : ∀ l : List T,vnL l ≤ vnAL l ∧ (vnAL l : Int) ≤ sizeLZ l
  | [] => by simp [vnL,vnAL,sizeLZ]
  | t :: r => by
    have h1 := vn_A t
    have h2 := vnL_A r
    simp only [vnL,vnAL,sizeLZ]; omega
end
mutual
theorem ofT_rng : ∀ t : T,vnA t ≤ 1073741824 → ∀ x ∈ ofT t,0 ≤ x ∧ x ≤ 1073741824
  | .mk k n s l,h => by
    intro x hx
    simp only [vnA] at h
    simp only [ofT,List.mem_append] at hx
    rcases hx with hx | hx
    · exact useB_rng (t := .mk k n s l) (by show vnL l ≤ _; have := (vnL_A l).1; omega) x hx
    · exact ofTL_rng l (by omega) x hx
theorem ofTL_rng : ∀ l : List T,vnAL l ≤ 1073741824 → ∀ x ∈ ofTL l,0 ≤ x ∧ x ≤ 1073741824
  | [],_ => by intro x hx; simp [ofTL] at hx
  | t :: r,h => by
    intro x hx
    simp only [vnAL] at h
    simp only [ofTL,List.mem_append] at hx
    rcases hx with hx | hx
    · exact ofT_rng t (by omega) x hx
    · exact ofTL_rng r (by omega) x hx
end
def fanZ (x : Int) : Int := if x > 1 then x - 1 else 0
def dropZ (x : Int) : Int := if x = 0 then 1 else 0
def sumZ (f : Int → Int) (l : List Int) : Int := (l.map f).sum
theorem sumZ_app (f : Int → Int) (l r : List Int) : sumZ f (l ++ r) = sumZ f l + sumZ f r := by simp [sumZ]
theorem sumZ_cons (f : Int → Int) (x : Int) (r : List Int) : sumZ f (x :: r) = f x + sumZ f r := by simp [sumZ]
theorem foldl_sum {g : Int → Int → Int} {f : Int → Int} {B : Int} (hg : ∀ a x,0 ≤ a → a ≤ 2305843009213693952 → 0 ≤ x → x ≤ B → g a x = a + f x) (hf : ∀ x,0 ≤ x → x ≤ B → 0 ≤ f x ∧ f x ≤ B) (hB : 0 ≤ B) :
    ∀ (l : List Int) (a : Int),(∀ x ∈ l,0 ≤ x ∧ x ≤ B) → 0 ≤ a → a + l.length * B ≤ 2305843009213693952 → l.foldl g a = a + sumZ f l
  | [],a,_,_,_ => by simp [sumZ]
  | x :: l,a,hx,h0,hb => by
    have h1 := hx x (by simp)
    have h2 := hf x h1.1 h1.2
    have hll : (((x :: l).length : Nat) : Int) * B = (l.length : Int) * B + B := by simp only [List.length_cons]; rw [show ((l.length + 1 : Nat) : Int) = (l.length : Int) + 1 by omega,Int.add_mul]; omega
    rw [hll] at hb
    have hnn : 0 ≤ (l.length : Int) * B := Int.mul_nonneg (by omega) hB
    rw [List.foldl_cons,hg a x h0 (by omega) h1.1 h1.2,sumZ_cons,foldl_sum hg hf hB l (a + f x) (fun y hy => hx y (by simp [hy])) (by omega) (by omega)]
    omega
theorem fan_eq {l : List Int} (hx : ∀ x ∈ l,0 ≤ x ∧ x ≤ 1073741824) (hl : l.length ≤ 1048576) : fansW l = sumZ fanZ l ∧ rfansW l = sumZ fanZ l ∧ dropsW l = sumZ dropZ l := by
  have hb : (0 : Int) + l.length * 1073741824 ≤ 2305843009213693952 := by omega
  refine ⟨?_,?_,?_⟩
  · have := foldl_sum (g := fanW) (f := fanZ) (B := 1073741824) (fun a x h1 h2 h3 h4 => by
      unfold fanW fanZ
      have h5 : w (x - 1) = x - 1 := wrap_in _ (by omega)
      rw [h5]
      split
      · rw [if_neg (by omega)]; exact wrap_in _ (by omega)
      · split
        · exact wrap_in _ (by omega)
        · rw [show x - 1 = 0 by omega]; exact wrap_in _ (by omega)) (fun x h1 h2 => by unfold fanZ; split <;> omega) (by omega) l 0 hx (by omega) hb
    rw [Int.zero_add] at this; exact this
  · have := foldl_sum (g := rfanW) (f := fanZ) (B := 1073741824) (fun a x h1 h2 h3 h4 => by
      unfold rfanW fanZ
      have h5 : w (x - 1) = x - 1 := wrap_in _ (by omega)
      rw [h5]
      split
      · exact wrap_in _ (by omega)
      · omega) (fun x h1 h2 => by unfold fanZ; split <;> omega) (by omega) l 0 hx (by omega) hb
    rw [Int.zero_add] at this; exact this
  · have := foldl_sum (g := dropW) (f := dropZ) (B := 1073741824) (fun a x h1 h2 h3 h4 => by
      unfold dropW dropZ
      split
      · exact wrap_in _ (by omega)
      · omega) (fun x h1 h2 => by unfold dropZ; split <;> omega) (by omega) l 0 hx (by omega) hb
    rw [Int.zero_add] at this; exact this
structure Sml (t : T) : Prop where
  v : vn t ≤ 1073741824
  a : vnA t ≤ 1073741824
  l : (ofT t).length ≤ 1048576
  r : ∀ x ∈ ofT t,0 ≤ x ∧ x ≤ 1073741824
  d : dep t ≤ 600
theorem sml_of {t : T} {x : Int} (hx : x ≤ 2000) (h : small t x = true) : Sml t ∧ sizeZ t ≤ x := by
  obtain ⟨h1,h2⟩ := small_all (by omega) h
  have a1 := vn_A t
  have a2 := ofT_size t
  exact ⟨⟨by omega,by omega,by omega,ofT_rng t (by omega),h1⟩,h2⟩
end Go.Proofs.Ytlgekplmbmkcmaa
end
section
set_option linter.unusedSimpArgs false
set_option linter.unusedVariables false
set_option maxHeartbeats 4000000
set_option maxRecDepth 10000
namespace Go.Proofs.Ytlgekplmbmkcmaa
open Go.Fx
def vT (n : Int) : T := .mk 1 n [] []
def lamT (t : T) : T := .mk 2 0 [] [t]
def appT (t u : T) : T := .mk 3 0 [] [t,u]
def fxA : T := lamT (lamT (appT (vT 1) (vT 1)))
def fxB : T := .mk 6 2 [65] [appT (vT 0) (appT (vT 0) (vT 5))]
def fxC : T := appT (vT 4) (appT (vT 1) (vT 4))
def fxI : T := lamT (vT 0)
theorem Ok_vT {n : Int} (h : (Lit.int .i64 n).wf = true) : T.Ok (vT n) := .mk 1 n [] [] (by decide) h (by simp [reachBytes]) (by simp [reachBytes]) (by simp)
theorem Ok_fxA : T.Ok fxA := Ok_lam (Ok_lam (Ok_app (Ok_vT (by decide)) (Ok_vT (by decide))))
theorem Ok_fxB : T.Ok fxB := .mk 6 2 [65] _ (by decide) (by decide) (by simp [reachBytes]) (by simp [reachBytes]) (by
  intro t ht
  rw [List.mem_singleton] at ht
  subst ht
  exact Ok_app (Ok_vT (by decide)) (Ok_app (Ok_vT (by decide)) (Ok_vT (by decide))))
theorem Ok_fxC : T.Ok fxC := Ok_app (Ok_vT (by decide)) (Ok_app (Ok_vT (by decide)) (Ok_vT (by decide)))
theorem Ok_fxI : T.Ok fxI := Ok_lam (Ok_vT (by decide))
theorem fixed11_ok : eP S 33 [] = some (.a (.b true)) := by
  refine x_fn (orcS _) (fc := F33) rfl rfl ?_
  have v0 := v11_ok 0
  have v1 := v11_ok 1
  have v4 := v11_ok 4
  have v5 := v11_ok 5
  have a1 := app11_ok (vT 1) (vT 1)
  have l1 := lam11_ok (appT (vT 1) (vT 1))
  have l2 := lam11_ok (lamT (appT (vT 1) (vT 1)))
  have a2 := app11_ok (vT 0) (vT 5)
  have a3 := app11_ok (vT 0) (appT (vT 0) (vT 5))
  have a4 := app11_ok (vT 1) (vT 4)
  have a5 := app11_ok (vT 4) (appT (vT 1) (vT 4))
  have l3 := lam11_ok (vT 0)
  have f1 := Of_ok Ok_fxA (by decide +kernel)
  rw [show ofT fxA = [2,0] by decide +kernel] at f1
  have f2 := Fans_ok Ok_fxA
  rw [show fansW (ofT fxA) = 1 by decide +kernel] at f2
  have f3 := Drops_ok Ok_fxA
  rw [show dropsW (ofT fxA) = 1 by decide +kernel] at f3
  have f4 := Affine_ok Ok_fxA
  rw [show decide (fansW (ofT fxA) = 0) = false by decide +kernel] at f4
  have f5 := Affine_ok Ok_fxI
  rw [show decide (fansW (ofT fxI) = 0) = true by decide +kernel] at f5
  have f6 := Of_ok Ok_fxB (by decide +kernel)
  rw [show ofT fxB = [0,2] by decide +kernel] at f6
  have f7 := Free_ok Ok_fxB (by decide +kernel)
  rw [show freeT fxB = [3] by decide +kernel] at f7
  have f8 := Free_ok Ok_fxC (by decide +kernel)
  rw [show freeT fxC = [1,4] by decide +kernel] at f8
  have f9 := Free_ok Ok_fxA (by decide +kernel)
  rw [show freeT fxA = [] by decide +kernel] at f9
  have i1 := Ints_ok (l := [2,0]) (m := [2,0]) (by decide)
  have i2 := Ints_ok (l := [0,2]) (m := [0,2]) (by decide)
  have i3 := Ints_ok (l := [3]) (m := [3]) (by decide)
  have i4 := Ints_ok (l := [1,4]) (m := [1,4]) (by decide)
  simp only [fxA,fxB,fxC,fxI,vT,lamT,appT,enc,encL,encI,List.map_cons,List.map_nil,decide_true] at v0 v1 v4 v5 a1 l1 l2 a2 a3 a4 a5 l3 f1 f2 f3 f4 f5 f6 f7 f8 f9 i1 i2 i3 i4
  simp only [F33,v0,v1,v4,v5,a1,l1,l2,a2,a3,a4,a5,l3,f1,f2,f3,f4,f5,f6,f7,f8,f9,i1,i2,i3,i4,List.set_cons_succ,List.set_cons_zero,List.replicate,Nat.reduceLT,PT.flat,PV.flat,List.all_cons,List.all_nil,x_fz,fzS,fz1,ne_eq,not_false_eq_true,not_true_eq_false,Int.cast_ofNat_Int,Int.reduceLE,Int.reduceLT,Int.reduceToNat,Int.reduceAdd,Int.reduceSub,Int.reduceNeg,spS,fxa,fxc,fxE,fxL,fxI,nxE,evO,evR,cellsT,ldCells,mkT,lenA,binPV,Env.init,resV,resT,frT,klT,ownT,intT,O.adds,ownA,rowsA,over,wrOk,keysT,keysA,ne_eq,if_true,if_false,ite_self,Nat.reduceLT,Nat.reduceSub,Nat.reduceBEq,Nat.reduceEqDiff,Nat.reduceAdd,Nat.reduceLeDiff,reduceCtorEq,Nat.reduceMul]
end Go.Proofs.Ytlgekplmbmkcmaa
end
section
set_option linter.unusedSimpArgs false
set_option linter.unusedVariables false
set_option maxHeartbeats 4000000
set_option maxRecDepth 10000
namespace Go.Proofs.Ytlgekplmbmkcmaa
open Go.Fx
theorem ofT_lam (a : T) : ofT (lamT a) = uses a 0 :: ofT a := by
  have h : useB (lamT a) = [uses a 0] := by rw [← refB_eq]; rfl
  show useB (lamT a) ++ (ofT a ++ []) = _
  rw [h]; simp
theorem ofT_app (a b : T) : ofT (appT a b) = ofT a ++ ofT b := by
  have h : useB (appT a b) = [] := by rw [← refB_eq]; rfl
  show useB (appT a b) ++ (ofT a ++ (ofT b ++ [])) = _
  rw [h]; simp
theorem fanZ_nn {x : Int} : 0 ≤ fanZ x := by unfold fanZ; split <;> omega
theorem sumZ_nn {f : Int → Int} (hf : ∀ x,0 ≤ f x) : ∀ l,0 ≤ sumZ f l
  | [] => by simp [sumZ]
  | x :: l => by rw [sumZ_cons]; have := hf x; have := sumZ_nn hf l; omega
theorem ofTL_mem {l : List T} {x : T} (h : x ∈ l) : ∃ p q,ofTL l = p ++ ofT x ++ q := by
  induction l with
  | nil => simp at h
  | cons t l ih =>
    rcases List.mem_cons.1 h with rfl | h
    · exact ⟨[],ofTL l,by simp [ofTL]⟩
    · obtain ⟨p,q,e⟩ := ih h
      exact ⟨ofT t ++ p,q,by simp [ofTL,e]⟩
theorem ofT_part {t x : T} (h : x ∈ t.l) : ∃ p q,ofT t = p ++ ofT x ++ q := by
  obtain ⟨k,n,s,l⟩ := t
  obtain ⟨p,q,e⟩ := ofTL_mem (l := l) h
  exact ⟨useB (.mk k n s l) ++ p,q,by show useB _ ++ ofTL l = _; rw [e]; simp⟩
theorem fan_zero {l p q r : List Int} (e : l = p ++ q ++ r) (h : sumZ fanZ l = 0) : sumZ fanZ q = 0 := by
  rw [e,sumZ_app,sumZ_app] at h
  have h1 := sumZ_nn (f := fanZ) (fun _ => fanZ_nn) p
  have h2 := sumZ_nn (f := fanZ) (fun _ => fanZ_nn) q
  have h3 := sumZ_nn (f := fanZ) (fun _ => fanZ_nn) r
  omega
theorem part_fan {t x : T} (hS : Sml t) (h : x ∈ t.l) : fansW (ofT x) = sumZ fanZ (ofT x) ∧ (fansW (ofT t) = 0 → fansW (ofT x) = 0) := by
  obtain ⟨p,q,e⟩ := ofT_part h
  have hx : ∀ y ∈ ofT x,0 ≤ y ∧ y ≤ 1073741824 := fun y hy => hS.r y (by rw [e]; simp [hy])
  have hl : (ofT x).length ≤ 1048576 := by have := hS.l; rw [e] at this; simp only [List.length_append] at this; omega
  have h1 := (fan_eq hx hl).1
  have h2 := (fan_eq hS.r hS.l).1
  refine ⟨h1,fun h0 => ?_⟩
  rw [h1]
  rw [h2] at h0
  exact fan_zero e h0
theorem lam_fan {a : T} (hS : Sml a) : fansW (ofT (lamT a)) = fanZ (uses a 0) + sumZ fanZ (ofT a) := by
  have hu := uses_rng a 0 hS.v
  have hv := hS.v
  have hl := hS.l
  rw [ofT_lam]
  have h1 := fan_eq (l := [uses a 0]) (by intro x hx; rw [List.mem_singleton] at hx; subst hx; omega) (by simp)
  have hb : sumZ fanZ (ofT a) ≤ 1048576 * 1073741824 ∧ 0 ≤ sumZ fanZ (ofT a) := by
    have : ∀ l : List Int,(∀ x ∈ l,0 ≤ x ∧ x ≤ 1073741824) → sumZ fanZ l ≤ l.length * 1073741824 := by
      intro l
      induction l with
      | nil => intro _; simp [sumZ]
      | cons y l ih =>
        intro h
        have := ih fun x hx => h x (by simp [hx])
        have h2 := h y (by simp)
        rw [sumZ_cons]
        have h3 : fanZ y ≤ 1073741824 := by unfold fanZ; split <;> omega
        simp only [List.length_cons]; omega
    have h4 := this _ hS.r
    exact ⟨by omega,sumZ_nn (fun _ => fanZ_nn) _⟩
  have := foldl_sum (g := fanW) (f := fanZ) (B := 1073741824) (fun a x h1 h2 h3 h4 => by
      unfold fanW fanZ
      have h5 : w (x - 1) = x - 1 := wrap_in _ (by omega)
      rw [h5]
      split
      · rw [if_neg (by omega)]; exact wrap_in _ (by omega)
      · split
        · exact wrap_in _ (by omega)
        · rw [show x - 1 = 0 by omega]; exact wrap_in _ (by omega)) (fun x h1 h2 => by unfold fanZ; split <;> omega) (by omega) (uses a 0 :: ofT a) 0
      (by intro x hx; rcases List.mem_cons.1 hx with rfl | hx; omega; exact hS.r x hx) (by omega) (by simp only [List.length_cons]; omega)
  rw [Int.zero_add,sumZ_cons] at this
  exact this
theorem app_fan {a b : T} (hA : Sml a) (hB : Sml b) : fansW (ofT (appT a b)) = sumZ fanZ (ofT a) + sumZ fanZ (ofT b) := by
  have h1 := hA.l
  have h2 := hB.l
  rw [ofT_app]
  have := foldl_sum (g := fanW) (f := fanZ) (B := 1073741824) (fun a x h1 h2 h3 h4 => by
      unfold fanW fanZ
      have h5 : w (x - 1) = x - 1 := wrap_in _ (by omega)
      rw [h5]
      split
      · rw [if_neg (by omega)]; exact wrap_in _ (by omega)
      · split
        · exact wrap_in _ (by omega)
        · rw [show x - 1 = 0 by omega]; exact wrap_in _ (by omega)) (fun x h1 h2 => by unfold fanZ; split <;> omega) (by omega) (ofT a ++ ofT b) 0
      (by intro x hx; rcases List.mem_append.1 hx with hx | hx; exact hA.r x hx; exact hB.r x hx) (by omega) (by simp only [List.length_append]; omega)
  rw [Int.zero_add,sumZ_app] at this
  exact this
theorem useAffine_law {a b : T} (ha : T.Ok a) (hb : T.Ok b) : eP S 13 [.g (enc a),.g (enc b)] = some (.a (.b true)) := by
  have f0 := fixed11_ok
  have a1 := small_ok ha 100
  have a2 := small_ok hb 100
  have m1 := May_ok ha 4
  have m2 := May_ok hb 4
  have ea := enc_eq a
  have eb := enc_eq b
  refine x_fn (orcS _) (fc := F13) rfl rfl ?_
  cases hs : small a 100 with
  | false =>
    rw [hs,ea] at a1
    rw [ea,eb]
    simp only [F13,f0,a1,spS,fxa,fxc,fxE,fxL,fxI,nxE,evO,evR,cellsT,ldCells,mkT,lenA,binPV,Env.init,resV,resT,frT,klT,ownT,intT,O.adds,ownA,rowsA,over,wrOk,keysT,keysA,ne_eq,if_true,if_false,ite_self,Nat.reduceLT,Nat.reduceSub,Nat.reduceBEq,Nat.reduceEqDiff,Nat.reduceAdd,Nat.reduceLeDiff,reduceCtorEq,Nat.reduceMul]
  | true =>
  obtain ⟨hA,hza⟩ := sml_of (by omega) hs
  have d1 := Depth_ok ha (by have := hA.d; omega)
  rw [hs] at a1
  by_cases hd1 : ((dep a : Nat) : Int) > 200
  · rw [ea] at a1 d1 ⊢
    rw [eb]
    simp only [F13,f0,a1,d1,hd1,spS,fxa,fxc,fxE,fxL,fxI,nxE,evO,evR,cellsT,ldCells,mkT,lenA,binPV,Env.init,resV,resT,frT,klT,ownT,intT,O.adds,ownA,rowsA,over,wrOk,keysT,keysA,ne_eq,if_true,if_false,ite_self,Nat.reduceLT,Nat.reduceSub,Nat.reduceBEq,Nat.reduceEqDiff,Nat.reduceAdd,Nat.reduceLeDiff,reduceCtorEq,Nat.reduceMul]
  cases hs2 : small b 100 with
  | false =>
    rw [hs2,eb] at a2
    rw [ea] at a1 d1 ⊢
    rw [eb]
    simp only [F13,f0,a1,a2,d1,hd1,spS,fxa,fxc,fxE,fxL,fxI,nxE,evO,evR,cellsT,ldCells,mkT,lenA,binPV,Env.init,resV,resT,frT,klT,ownT,intT,O.adds,ownA,rowsA,over,wrOk,keysT,keysA,ne_eq,if_true,if_false,ite_self,Nat.reduceLT,Nat.reduceSub,Nat.reduceBEq,Nat.reduceEqDiff,Nat.reduceAdd,Nat.reduceLeDiff,reduceCtorEq,Nat.reduceMul]
  | true =>
  obtain ⟨hB,hzb⟩ := sml_of (by omega) hs2
  have d2 := Depth_ok hb (by have := hB.d; omega)
  rw [hs2] at a2
  by_cases hd2 : ((dep b : Nat) : Int) > 200
  · rw [ea] at a1 d1 ⊢
    rw [eb] at a2 d2 ⊢
    simp only [F13,f0,a1,a2,d1,d2,hd1,hd2,spS,fxa,fxc,fxE,fxL,fxI,nxE,evO,evR,cellsT,ldCells,mkT,lenA,binPV,Env.init,resV,resT,frT,klT,ownT,intT,O.adds,ownA,rowsA,over,wrOk,keysT,keysA,ne_eq,if_true,if_false,ite_self,Nat.reduceLT,Nat.reduceSub,Nat.reduceBEq,Nat.reduceEqDiff,Nat.reduceAdd,Nat.reduceLeDiff,reduceCtorEq,Nat.reduceMul]
  cases hm1 : may a 4 false with
  | false =>
    rw [hm1] at m1
    rw [ea] at a1 d1 m1 ⊢
    rw [eb] at a2 d2 ⊢
    simp only [F13,f0,a1,a2,d1,d2,hd1,hd2,m1,spS,fxa,fxc,fxE,fxL,fxI,nxE,evO,evR,cellsT,ldCells,mkT,lenA,binPV,Env.init,resV,resT,frT,klT,ownT,intT,O.adds,ownA,rowsA,over,wrOk,keysT,keysA,ne_eq,if_true,if_false,ite_self,Nat.reduceLT,Nat.reduceSub,Nat.reduceBEq,Nat.reduceEqDiff,Nat.reduceAdd,Nat.reduceLeDiff,reduceCtorEq,Nat.reduceMul]
  | true =>
  cases hm2 : may b 4 false with
  | false =>
    rw [hm1] at m1
    rw [hm2] at m2
    rw [ea] at a1 d1 m1 ⊢
    rw [eb] at a2 d2 m2 ⊢
    simp only [F13,f0,a1,a2,d1,d2,hd1,hd2,m1,m2,spS,fxa,fxc,fxE,fxL,fxI,nxE,evO,evR,cellsT,ldCells,mkT,lenA,binPV,Env.init,resV,resT,frT,klT,ownT,intT,O.adds,ownA,rowsA,over,wrOk,keysT,keysA,ne_eq,if_true,if_false,ite_self,Nat.reduceLT,Nat.reduceSub,Nat.reduceBEq,Nat.reduceEqDiff,Nat.reduceAdd,Nat.reduceLeDiff,reduceCtorEq,Nat.reduceMul]
  | true =>
  rw [hm1] at m1
  rw [hm2] at m2
  have b1 := Affine_ok ha
  have b2 := Affine_ok hb
  have b3 := Fans_ok ha
  have b4 := app11_ok a b
  have b5 := Affine_ok (Ok_app ha hb)
  have b6 := lam11_ok a
  have b7 := Affine_ok (Ok_lam ha)
  have b8 := uses_ok ha 0
  have q1 := (fan_eq hA.r hA.l).1
  have q2 := (fan_eq hB.r hB.l).1
  have q3 : fansW (ofT (.mk 3 0 [] [a,b])) = _ := app_fan hA hB
  have q4 : fansW (ofT (.mk 2 0 [] [a])) = _ := lam_fan hA
  have hnA := sumZ_nn (f := fanZ) (fun _ => fanZ_nn) (ofT a)
  have hnB := sumZ_nn (f := fanZ) (fun _ => fanZ_nn) (ofT b)
  rw [q3] at b5
  rw [q4] at b7
  have hpart : ∀ x ∈ a.l,fansW (ofT a) = 0 → fansW (ofT x) = 0 := fun x hx => (part_fan hA hx).2
  rw [q1] at b1 b3 hpart
  rw [q2] at b2
  obtain ⟨fa,hfa⟩ : ∃ z,sumZ fanZ (ofT a) = z := ⟨_,rfl⟩
  obtain ⟨fb,hfb⟩ : ∃ z,sumZ fanZ (ofT b) = z := ⟨_,rfl⟩
  rw [hfa] at b1 b3 b5 b7 hnA hpart
  rw [hfb] at b2 b5 hnB
  have hll : a.l.length * 56 ≤ reachBytes := by cases ha; assumption
  have hok : ∀ x ∈ a.l,T.Ok x := by
    cases ha with
    | mk k n s l hk hn hs hl h => exact h
  obtain ⟨u,hu⟩ : ∃ u,uses a 0 = u := ⟨_,rfl⟩
  have hu0 : 0 ≤ u := by rw [← hu]; exact (uses_rng a 0 hA.v).1
  rw [hu] at b7 b8
  have r1 : decide (fa + fb = 0) = (decide (fa = 0) && decide (fb = 0)) := by
    by_cases h1 : fa = 0 <;> by_cases h2 : fb = 0 <;> simp [h1,h2] <;> omega
  have r2 : decide (fanZ u + fa = 0) = (decide (fa = 0) && decide (u < 2)) := by
    have hf : fanZ u = 0 ↔ u < 2 := by unfold fanZ; split <;> omega
    have hf0 := @fanZ_nn u
    by_cases h1 : fa = 0
    · by_cases h2 : u < 2
      · have := hf.2 h2; simp [h1,h2,this]
      · have : ¬ fanZ u = 0 := fun h => h2 (hf.1 h)
        simp [h1,h2,this]
    · have : ¬ fanZ u + fa = 0 := by omega
      simp [h1,this]
  rw [r1] at b5
  rw [r2] at b7
  have hx3 : enc (.mk 3 0 [] [a,b]) = [.i .i64 3,.i .i64 0,.s [],.l [enc a,enc b]] := rfl
  have hx2 : enc (.mk 2 0 [] [a]) = [.i .i64 2,.i .i64 0,.s [],.l [enc a]] := rfl
  rw [hx3] at b4 b5
  rw [hx2] at b6 b7
  rw [ea] at a1 d1 m1 b1 b3 b4 b5 b6 b7 b8 ⊢
  rw [eb] at a2 d2 m2 b2 b4 b5 ⊢
  simp only [F13,f0,a1,a2,d1,d2,hd1,hd2,m1,m2,spS,fxa,fxc,fxE,fxL,fxI,nxE,evO,evR,cellsT,ldCells,mkT,lenA,binPV,Env.init,resV,resT,frT,klT,ownT,intT,O.adds,ownA,rowsA,over,wrOk,keysT,keysA,ne_eq,if_true,if_false,ite_self,Nat.reduceLT,Nat.reduceSub,Nat.reduceBEq,Nat.reduceEqDiff,Nat.reduceAdd,Nat.reduceLeDiff,reduceCtorEq,Nat.reduceMul]
  refine loop_nat a.l.length (fun i e τ => e 2 = .a (.ptr (2,0) 0 0) ∧ e 3 = .a (.ptr (3,1) 0 0) ∧ e 5 = .a (.p (.i .i64 (i : Nat))) ∧ τ.bs (2,0) = some (.var [.p (.i .i64 a.k),.p (.i .i64 a.n),.p (.s a.s),.p (.l (a.l.map enc))]) ∧ τ.bs (3,1) = some (.var [.p (.i .i64 b.k),.p (.i .i64 b.n),.p (.s b.s),.p (.l (b.l.map enc))])) (i0 := 0) (Nat.zero_le _) ⟨rfl,rfl,rfl,rfl,rfl⟩ ?_ ?_
  · rintro i e τ hi ⟨e2,e3,e5,s2,s3⟩
    obtain ⟨x,hx⟩ : ∃ x,a.l[i]? = some x := ⟨_,List.getElem?_eq_getElem hi⟩
    have hx' : (a.l.map enc)[i]? = some (enc x) := by simp [hx]
    have hxm := List.mem_of_getElem? hx
    have hlt : ((i : Nat) : Int) < (a.l.length : Int) := by omega
    have hge : (0 : Int) ≤ ((i : Nat) : Int) := by omega
    have hlb : i < 9223372036854775807 := by simp only [reachBytes] at hll; omega
    have hw := wrap_succ i hlb
    have c1 := Affine_ok (hok x hxm)
    by_cases h0 : fa = 0
    · have hx0 := hpart x hxm h0
      rw [hx0] at c1
      simp only [F13b0,e2,e3,e5,s2,s3,hlt,hge,hw,hx',enc_len,enc_take,enc_all,b1,c1,h0,Int.toNat_natCast,List.length_map,spS,fxa,fxc,fxE,fxL,fxI,nxE,evO,evR,cellsT,ldCells,mkT,lenA,binPV,Env.init,resV,resT,frT,klT,ownT,intT,O.adds,ownA,rowsA,over,wrOk,keysT,keysA,ne_eq,if_true,if_false,ite_self,Nat.reduceLT,Nat.reduceSub,Nat.reduceBEq,Nat.reduceEqDiff,Nat.reduceAdd,Nat.reduceLeDiff,reduceCtorEq,Nat.reduceMul]
    · simp only [F13b0,e2,e3,e5,s2,s3,hlt,hge,hw,b1,h0,List.length_map,spS,fxa,fxc,fxE,fxL,fxI,nxE,evO,evR,cellsT,ldCells,mkT,lenA,binPV,Env.init,resV,resT,frT,klT,ownT,intT,O.adds,ownA,rowsA,over,wrOk,keysT,keysA,ne_eq,if_true,if_false,ite_self,Nat.reduceLT,Nat.reduceSub,Nat.reduceBEq,Nat.reduceEqDiff,Nat.reduceAdd,Nat.reduceLeDiff,reduceCtorEq,Nat.reduceMul]
  · rintro e τ ⟨e2,e3,e5,s2,s3⟩
    have hlt : ¬ ((a.l.length : Nat) : Int) < (a.l.length : Int) := by omega
    by_cases g1 : fa = 0
    · by_cases g2 : fb = 0
      · by_cases g3 : u < 2
        · simp only [F13b0,e2,e3,e5,s2,s3,hlt,b1,b2,b3,b4,b5,b6,b7,b8,g1,g2,g3,decide_true,decide_false,Bool.and_true,Bool.true_and,List.length_map,spS,fxa,fxc,fxE,fxL,fxI,nxE,evO,evR,cellsT,ldCells,mkT,lenA,binPV,Env.init,resV,resT,frT,klT,ownT,intT,O.adds,ownA,rowsA,over,wrOk,keysT,keysA,ne_eq,if_true,if_false,ite_self,Nat.reduceLT,Nat.reduceSub,Nat.reduceBEq,Nat.reduceEqDiff,Nat.reduceAdd,Nat.reduceLeDiff,reduceCtorEq,Nat.reduceMul]
        · simp only [F13b0,e2,e3,e5,s2,s3,hlt,b1,b2,b3,b4,b5,b6,b7,b8,g1,g2,g3,decide_true,decide_false,Bool.and_true,Bool.true_and,Bool.and_false,Bool.false_and,List.length_map,spS,fxa,fxc,fxE,fxL,fxI,nxE,evO,evR,cellsT,ldCells,mkT,lenA,binPV,Env.init,resV,resT,frT,klT,ownT,intT,O.adds,ownA,rowsA,over,wrOk,keysT,keysA,ne_eq,if_true,if_false,ite_self,Nat.reduceLT,Nat.reduceSub,Nat.reduceBEq,Nat.reduceEqDiff,Nat.reduceAdd,Nat.reduceLeDiff,reduceCtorEq,Nat.reduceMul]
      · by_cases g3 : u < 2
        · simp only [F13b0,e2,e3,e5,s2,s3,hlt,b1,b2,b3,b4,b5,b6,b7,b8,g1,g2,g3,decide_true,decide_false,Bool.and_true,Bool.true_and,Bool.and_false,Bool.false_and,List.length_map,spS,fxa,fxc,fxE,fxL,fxI,nxE,evO,evR,cellsT,ldCells,mkT,lenA,binPV,Env.init,resV,resT,frT,klT,ownT,intT,O.adds,ownA,rowsA,over,wrOk,keysT,keysA,ne_eq,if_true,if_false,ite_self,Nat.reduceLT,Nat.reduceSub,Nat.reduceBEq,Nat.reduceEqDiff,Nat.reduceAdd,Nat.reduceLeDiff,reduceCtorEq,Nat.reduceMul]
        · simp only [F13b0,e2,e3,e5,s2,s3,hlt,b1,b2,b3,b4,b5,b6,b7,b8,g1,g2,g3,decide_true,decide_false,Bool.and_true,Bool.true_and,Bool.and_false,Bool.false_and,List.length_map,spS,fxa,fxc,fxE,fxL,fxI,nxE,evO,evR,cellsT,ldCells,mkT,lenA,binPV,Env.init,resV,resT,frT,klT,ownT,intT,O.adds,ownA,rowsA,over,wrOk,keysT,keysA,ne_eq,if_true,if_false,ite_self,Nat.reduceLT,Nat.reduceSub,Nat.reduceBEq,Nat.reduceEqDiff,Nat.reduceAdd,Nat.reduceLeDiff,reduceCtorEq,Nat.reduceMul]
    · simp only [F13b0,e2,e3,e5,s2,s3,hlt,b1,b2,b3,b4,b5,b6,b7,b8,g1,decide_true,decide_false,Bool.and_true,Bool.true_and,Bool.and_false,Bool.false_and,List.length_map,spS,fxa,fxc,fxE,fxL,fxI,nxE,evO,evR,cellsT,ldCells,mkT,lenA,binPV,Env.init,resV,resT,frT,klT,ownT,intT,O.adds,ownA,rowsA,over,wrOk,keysT,keysA,ne_eq,if_true,if_false,ite_self,Nat.reduceLT,Nat.reduceSub,Nat.reduceBEq,Nat.reduceEqDiff,Nat.reduceAdd,Nat.reduceLeDiff,reduceCtorEq,Nat.reduceMul]
end Go.Proofs.Ytlgekplmbmkcmaa
end
section
set_option linter.unusedSimpArgs false
set_option linter.unusedVariables false
namespace Go.Proofs.Ytlgekplmbmkcmaa
open Go.Fx
theorem cells24 : Try.prog.cellsOf 24 = 4 := by kernel_rfl
theorem bytes24 : Try.prog.bytesOf 24 = 56 := by kernel_rfl
theorem cells3 : Try.prog.cellsOf 3 = 1 := by kernel_rfl
theorem cells9 : Try.prog.cellsOf 9 = 1 := by kernel_rfl
theorem cells22 : Try.prog.cellsOf 22 = 1 := by kernel_rfl
theorem len4 {α : Type} {l : List α} (h : l.length = 4) : ∃ a b c d,l = [a,b,c,d] := by
  match l,h with
  | [a,b,c,d],_ => exact ⟨a,b,c,d,rfl⟩
theorem ct_int {n : Nat} {qs : List PV} (h : CT Try.prog n 3 qs) : ∃ i,qs = [.i .i64 i] ∧ (Lit.int .i64 i).wf = true := by
  cases n with
  | zero => exact h.elim
  | succ n => simp only [CT,Try.underlying3] at h; exact h
theorem ct_term : ∀ {n : Nat} {qs : List PV},CT Try.prog n 24 qs → ∃ t,T.Ok t ∧ qs = enc t := by
  intro n
  induction n using Nat.strongRecOn with
  | _ n ih =>
    intro qs h
    cases n with
    | zero => exact h.elim
    | succ n =>
      simp only [CT,Try.underlying24,cells24] at h
      obtain ⟨hl,hf⟩ := h
      obtain ⟨q0,q1,q2,q3,rfl⟩ := len4 hl
      · have f0 : CT Try.prog n 3 (List.take (Try.prog.cellsOf 3) [q0,q1,q2,q3]) := hf _ (Array.mem_of_getElem? (i := 0) rfl)
        have f1 : CT Try.prog n 3 (List.take (Try.prog.cellsOf 3) [q1,q2,q3]) := hf _ (Array.mem_of_getElem? (i := 1) rfl)
        have f2 : CT Try.prog n 9 (List.take (Try.prog.cellsOf 9) [q2,q3]) := hf _ (Array.mem_of_getElem? (i := 2) rfl)
        have f3 : CT Try.prog n 22 (List.take (Try.prog.cellsOf 22) [q3]) := hf _ (Array.mem_of_getElem? (i := 3) rfl)
        rw [cells3] at f0 f1
        rw [cells9] at f2
        rw [cells22] at f3
        have f0 : CT Try.prog n 3 [q0] := f0
        have f1 : CT Try.prog n 3 [q1] := f1
        have f2 : CT Try.prog n 9 [q2] := f2
        have f3 : CT Try.prog n 22 [q3] := f3
        obtain ⟨k,e0,hk⟩ := ct_int f0
        obtain ⟨m,e1,hm⟩ := ct_int f1
        cases n with
        | zero => exact f0.elim
        | succ n =>
          simp only [CT,Try.underlying9] at f2
          simp only [CT,Try.underlying22,bytes24] at f3
          obtain ⟨s,e2,hs⟩ := f2
          obtain ⟨rows,e3,hr,hrow⟩ := f3
          simp only [List.cons.injEq,and_true] at e0 e1 e2 e3
          subst e0 e1 e2 e3
          have : ∀ (rows : List (List PV)),(∀ r,r ∈ rows → r.length = Try.prog.cellsOf 24 ∧ CT Try.prog n 24 r) → ∃ l : List T,rows = l.map enc ∧ ∀ t,t ∈ l → T.Ok t := by
            intro rows
            induction rows with
            | nil => intro _; exact ⟨[],rfl,fun t ht => by simp at ht⟩
            | cons r rows ihr =>
              intro h
              obtain ⟨t,ht,rfl⟩ := ih n (by omega) (h r (by simp)).2
              obtain ⟨l,rfl,hl⟩ := ihr fun r hr => h r (by simp [hr])
              exact ⟨t :: l,rfl,fun u hu => by rcases List.mem_cons.1 hu with rfl | hu; exact ht; exact hl u hu⟩
          obtain ⟨l,rfl,hall⟩ := this rows hrow
          exact ⟨.mk k m s l,.mk k m s l hk hm hs (by simpa using hr) hall,by simp [enc,encL_map]⟩
theorem agg24 : aggT Try.prog 24 = true := by simp only [aggT,Try.underlying24,aggD]
theorem at_term {p : PT} (h : AT Try.prog 24 p ∧ p.isG = aggT Try.prog 24) : ∃ t,T.Ok t ∧ p = .g (enc t) := by
  obtain ⟨h1,h2⟩ := h
  rw [agg24] at h2
  cases p with
  | g qs => obtain ⟨n,hn⟩ := h1; obtain ⟨t,ht,rfl⟩ := ct_term hn; exact ⟨t,ht,rfl⟩
  | _ => simp [PT.isG] at h2
def lawTs : List TypeId := [3,9,22,24,25]
theorem lawTsOk : closedTs Try.prog lawTs = true := by kernel_rfl
theorem own : ownKnob Try.prog.godebug = none := by kernel_rfl
theorem laidOut : laidOutB Try.prog = true := by kernel_rfl
end Go.Proofs.Ytlgekplmbmkcmaa
end
namespace Go.Proofs.Ytlgekplmbmkcmaa.useAffine
open Go.Fx Go.ChangeShapes Go.WideShapes Go.ChangeAt Go.RowKit
theorem law (ps : List PT) (h : F2 (fun t p => AT Try.checked.prog t p ∧ p.isG = aggT Try.checked.prog t) Try.f13.params.toList ps) : eP S 13 ps = some (.a (.b true)) := by
  have h' : F2 (fun t p => AT Try.prog t p ∧ p.isG = aggT Try.prog t) [24,24] ps := by rw [Try.params13] at h; exact h
  obtain _ | ⟨h1,r1⟩ := h'
  obtain _ | ⟨h2,r2⟩ := r1
  obtain _ | _ := r2
  obtain ⟨a1,k1,rfl⟩ := at_term h1
  obtain ⟨a2,k2,rfl⟩ := at_term h2
  exact useAffine_law k1 k2
set_option maxRecDepth 100000 in
theorem lifted (os : Os) (started : os.Started) (H : Type) (enc : TypeId × Value → H) :
    ReturnsInHanded {} Try.checked os 13 .any (Rows.useAffineSpec.pre6 enc Try.prog Try.f13 Rows.useAffineRow.domain false) (Rows.useAffineSpec.post enc Try.prog Try.f13 false true false false) := by
  refine row_ok (C := Try.checked) (eqs := []) (S := S) (ts := lawTs) (tb := 4) own started (by kernel_rfl) Try.func13 laidOut
    (ChangeSpec.witness6 (enc := enc) (C := Try.checked) false ⟨#[],#[.agg #[.int .i64 0,.int .i64 0,.string ByteArray.empty,.slice none 0 0],.agg #[.int .i64 0,.int .i64 0,.string ByteArray.empty,.slice none 0 0]],[]⟩ 8 (by kernel_rfl) (by kernel_rfl) (by kernel_rfl) (by kernel_rfl))
    lawTsOk (by kernel_rfl) rfl Try.underlying4 rfl ?_ seatOk law
  intro ds hd
  match ds,hd with
  | [d1,d2],_ => rfl
theorem over : Rows.useAffineRow.holds Try.pinned (OpenSpec.ofChange Rows.useAffineSpec) :=
  OpenClaim.holds_of_wide 13 Try.f13 rfl rfl rfl rfl rfl rfl rfl ⟨rfl,rfl,rfl,rfl,rfl⟩ rfl rfl rfl rfl rfl (by kernel_rfl) Try.func13 (by kernel_rfl)
    (of_decide_eq_true (by kernel_rfl)) (by unfold Func.isWrapper; first | (rw [if_pos (by decide +kernel)]; kernel_rfl) | (rw [if_neg (by decide +kernel)]; exact ⟨rfl,rfl⟩))
    (fun os started H enc _ => lifted os started H enc)
theorem proved : Rows.UseAffineSaid := over
#print axioms proved
end Go.Proofs.Ytlgekplmbmkcmaa.useAffine
