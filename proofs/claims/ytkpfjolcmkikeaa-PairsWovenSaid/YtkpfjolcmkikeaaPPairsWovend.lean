/- Part 4 of what is proved for the law PairsWoven: it returns true,whatever the input. No condition. -/
import Derived.Test.YtkpfjolcmkikeaaPPairsWovenc
section
set_option linter.unusedSimpArgs false
set_option linter.unusedVariables false
set_option maxHeartbeats 4000000
set_option maxRecDepth 10000
namespace Go.Proofs.Ytkpfjolcmkikeaa
open Go.Fx
theorem RCopy_ok {n : Nt} (hn : n.ns.length * 88 ≤ 140737488355328) (hne : n.ns ≠ []) (σ : St) :
    ∃ v σ',eS S (.f 51) [.g ((encT n).map .p)] σ = some (v,σ') ∧ ∃ k : Key,v = .g [.own k 0 n.ns.length,.p (.i .i64 n.cap)] ∧
      σ'.bs k = some (.row 6 41 (n.ns.map encN)) ∧ σ.clk ≤ k.2 ∧ k.2 < σ'.clk ∧ σ'.ls = σ.ls ∧ ∀ s : Key,s.2 < σ.clk → σ'.bs s = σ.bs s := by
  refine x_fnS (fc := F51) rfl rfl ?_
  obtain ⟨c,hc⟩ : ∃ c,σ.clk = c := ⟨_,rfl⟩
  have hpos : 0 < n.ns.length := List.length_pos_iff.2 hne
  simp only [F51,hc,fxa,fxc,fxE,fxL,fxI,nxE,evO,evR,cellsT,ldCells,mkT,lenA,binPV,Env.init,resV,resT,frT,klT,ownT,intT,O.adds,ownA,rowsA,over,wrOk,keysT,keysA,ne_eq,if_true,if_false,ite_self,Nat.reduceLT,Nat.reduceSub,Nat.reduceBEq,Nat.reduceEqDiff,Nat.reduceAdd,Nat.reduceLeDiff,reduceCtorEq,Nat.reduceMul]
  have hold : ∀ {s : Key} {d k : Nat},s.2 < c → ¬ s = (d,c + k) := by rintro s d k hs rfl; simp at hs; omega
  have hold0 : ∀ {s : Key} {d : Nat},s.2 < c → ¬ s = (d,c) := by rintro s d hs rfl; simp at hs
  refine loop_nat n.ns.length (fun i e σ' => e 1 = .a (.ptr (1,c) 0 0) ∧ e 2 = .a (.ptr (2,c + 1) 0 0) ∧ e 3 = .a (.ptr (3,c + 1 + 1) 0 0) ∧ e 4 = .a (.p (.i .i64 (i : Nat))) ∧ σ'.bs (1,c) = some (.var [.p (.l (n.ns.map encN)),.p (.i .i64 n.cap)]) ∧ σ'.bs (2,c + 1) = some (.var [.nil,.p (.i .i64 0)]) ∧
    (∃ x,σ'.bs (3,c + 1 + 1) = some (.var [x,.p (.i .i64 n.cap)]) ∧ (i = 0 ∧ x = .nil ∨ ∃ q : Nat,x = .own (23,q) 0 i ∧ σ'.bs (23,q) = some (.row 6 41 ((n.ns.take i).map encN)) ∧ c + 2 < q ∧ q < σ'.clk)) ∧ c + 3 ≤ σ'.clk ∧ σ'.ls = σ.ls ∧ ∀ s : Key,s.2 < c → σ'.bs s = σ.bs s) (i0 := 0) (Nat.zero_le _) ?_ ?_ ?_
  · refine ⟨?_,?_,?_,?_,?_,?_,⟨.nil,?_,.inl ⟨rfl,rfl⟩⟩,?_,?_,fun s hs => ?_⟩ <;> simp only [hc,fxa,fxc,fxE,fxL,fxI,nxE,evO,evR,cellsT,ldCells,mkT,lenA,binPV,Env.init,resV,resT,frT,klT,ownT,intT,O.adds,ownA,rowsA,over,wrOk,keysT,keysA,ne_eq,if_true,if_false,ite_self,Nat.reduceLT,Nat.reduceSub,Nat.reduceBEq,Nat.reduceEqDiff,Nat.reduceAdd,Nat.reduceLeDiff,reduceCtorEq,Nat.reduceMul]
    all_goals first | rfl | omega | skip
    simp only [hold hs,hold0 hs,Nat.add_assoc,if_false]
  · rintro i e σ' hi ⟨e1,e2,e3,e4,s1,s2,⟨x,s3,hx⟩,hclk,hls,hs⟩
    obtain ⟨y,hy⟩ : ∃ y,n.ns[i]? = some y := ⟨_,List.getElem?_eq_getElem hi⟩
    have hy' := mapGet encN hy
    have hlt : ((i : Nat) : Int) < (n.ns.length : Int) := by omega
    have hge : (0 : Int) ≤ ((i : Nat) : Int) := by omega
    have htk : (n.ns.take (i + 1)).map encN = (n.ns.take i).map encN ++ [encN y] := by rw [List.take_add_one,hy]; simp
    have hb : (i + 1) * 88 ≤ 140737488355328 := by omega
    have hlen : (List.take i n.ns).length = i := by rw [List.length_take]; omega
    have hold' : ∀ {s : Key} {d : Nat},s.2 < c → ¬ s = (d,σ'.clk) ∧ ¬ s = (d,σ'.clk + 1) := by rintro s d hs; exact ⟨by rintro rfl; simp at hs; omega,by rintro rfl; simp at hs; omega⟩
    have hne1 : ∀ d : Nat,¬ c = σ'.clk ∧ ¬ c = σ'.clk + 1 ∧ ¬ c + 1 = σ'.clk ∧ ¬ c + 1 = σ'.clk + 1 ∧ ¬ c + 1 + 1 = σ'.clk ∧ ¬ c + 1 + 1 = σ'.clk + 1 := by intro d; omega
    rcases hx with ⟨rfl,rfl⟩ | ⟨q,rfl,hq,hq1,hq2⟩
    · simp only [F51b0,e1,e2,e3,e4,s1,s2,s3,hlt,hge,hy',Int.toNat_natCast,Nat.zero_add,Nat.one_mul,Nat.reduceLeDiff,fxa,fxc,fxE,fxL,fxI,nxE,evO,evR,cellsT,ldCells,mkT,lenA,binPV,Env.init,resV,resT,frT,klT,ownT,intT,O.adds,ownA,rowsA,over,wrOk,keysT,keysA,ne_eq,if_true,if_false,ite_self,Nat.reduceLT,Nat.reduceSub,Nat.reduceBEq,Nat.reduceEqDiff,Nat.reduceAdd,Nat.reduceLeDiff,reduceCtorEq,Nat.reduceMul]
      refine ⟨by rw [wrap_succ 0 (by omega)],⟨.own (23,σ'.clk + 1) 0 1,rfl,.inr ⟨σ'.clk + 1,rfl,?_,by omega,by omega⟩⟩,by omega,hls,fun s h => ?_⟩
      · rw [htk]; simp [encN]
      · have h3 : ¬ s = (3,c + 1 + 1) := by rintro rfl; simp at h; omega
        simp only [(hold' (d := 22) h).1,(hold' (d := 23) h).2,h3,if_false]; exact hs s h
    · have h1 : ¬ q = σ'.clk := by omega
      have h2 : ¬ q = σ'.clk + 1 := by omega
      have hle : i ≤ ((n.ns.take i).map encN).length := by simp; omega
      have htk2 : List.take i ((n.ns.take i).map encN) = (n.ns.take i).map encN := List.take_of_length_le (by simp; omega)
      simp only [F51b0,e1,e2,e3,e4,s1,s2,s3,hq,hlt,hge,hy',hb,hlen,h1,h2,htk2,List.length_map,Nat.le_refl,Int.toNat_natCast,Nat.zero_add,Nat.one_mul,Nat.reduceLeDiff,fxa,fxc,fxE,fxL,fxI,nxE,evO,evR,cellsT,ldCells,mkT,lenA,binPV,Env.init,resV,resT,frT,klT,ownT,intT,O.adds,ownA,rowsA,over,wrOk,keysT,keysA,ne_eq,if_true,if_false,ite_self,Nat.reduceLT,Nat.reduceSub,Nat.reduceBEq,Nat.reduceEqDiff,Nat.reduceAdd,Nat.reduceLeDiff,reduceCtorEq,Nat.reduceMul]
      refine ⟨by rw [wrap_succ i (by omega)],⟨.own (23,σ'.clk + 1) 0 (i + 1),rfl,.inr ⟨σ'.clk + 1,rfl,?_,by omega,by omega⟩⟩,by omega,hls,fun s h => ?_⟩
      · rw [htk]; simp [encN]
      · have h3 : ¬ s = (3,c + 1 + 1) := by rintro rfl; simp at h; omega
        have h4 : ¬ s = (23,q) := by rintro rfl; simp at h; omega
        simp only [(hold' (d := 22) h).1,(hold' (d := 23) h).2,h3,h4,if_false]; exact hs s h
  · rintro e σ' ⟨e1,e2,e3,e4,s1,s2,⟨x,s3,hx⟩,hclk,hls,hs⟩
    have hlt : ¬ ((n.ns.length : Nat) : Int) < (n.ns.length : Int) := by omega
    rcases hx with ⟨h0,_⟩ | ⟨q,rfl,hq,hq1,hq2⟩
    · omega
    · rw [List.take_length] at hq
      simp only [F51b0,e1,e2,e3,e4,s1,s2,s3,hq,hlt,fxa,fxc,fxE,fxL,fxI,nxE,evO,evR,cellsT,ldCells,mkT,lenA,binPV,Env.init,resV,resT,frT,klT,ownT,intT,O.adds,ownA,rowsA,over,wrOk,keysT,keysA,ne_eq,if_true,if_false,ite_self,Nat.reduceLT,Nat.reduceSub,Nat.reduceBEq,Nat.reduceEqDiff,Nat.reduceAdd,Nat.reduceLeDiff,reduceCtorEq,Nat.reduceMul]
      refine ⟨(23,q),rfl,?_,by simp; omega,by simpa using hq2,hls,fun s h => ?_⟩
      · rw [if_neg (by simp)]; exact hq
      · have h2 : ¬ s = (2,c + 1) := by rintro rfl; simp at h; omega
        simp only [h2,if_false]; exact hs s h
end Go.Proofs.Ytkpfjolcmkikeaa
end
section
set_option linter.unusedSimpArgs false
set_option linter.unusedVariables false
set_option maxHeartbeats 4000000
set_option maxRecDepth 10000
namespace Go.Proofs.Ytkpfjolcmkikeaa
open Go.Fx
theorem Rset_ok {n : Nt} {p : Pt} (q : Pt) (hn : n.Ok) (h : n.has p = true) : eP S 121 [.g (encT n),.g (encP p),.g (encP q)] = some (.g (encT (n.set p q))) := by
  have hp := has_iff.1 h
  have g := getN (l := n.ns) hp.1 hp.2.1
  have hx : (n.nd p.n).Ok := hn.nd _ (nd_mem hp.1 hp.2.1)
  have hto := hx.to
  have hns := hn.ns
  have h4 := hp.2.2.2
  have g2 := getP (l := (n.nd p.n).to) hp.2.2.1 h4
  obtain ⟨σ0,hσ0⟩ : ∃ σ0,σ0 = (((St.empty.add 3 (.var ((encT n).map .p))).add 4 (.var ((encP p).map .p))).add 5 (.var ((encP q).map .p))).add 6 (.var [.nil,.p (.i .i64 0)]) := ⟨_,rfl⟩
  obtain ⟨v,σ1,hcall,k,rfl,sk,hk1,hk2,hls,hold⟩ := RCopy_ok (n := n) (by simpa using hns) (by intro h; rw [h] at hp; simp at hp; omega) σ0
  have hclk : σ0.clk = 4 := by rw [hσ0]; rfl
  rw [hclk] at hk1 hold
  have s3 : σ1.bs (3,0) = some (.var ((encT n).map .p)) := by rw [hold _ (by simp),hσ0]; simp [add_bs,add_clk,empty_clk]
  have s4 : σ1.bs (4,1) = some (.var ((encP p).map .p)) := by rw [hold _ (by simp),hσ0]; simp [add_bs,add_clk,empty_clk]
  have s5 : σ1.bs (5,2) = some (.var ((encP q).map .p)) := by rw [hold _ (by simp),hσ0]; simp [add_bs,add_clk,empty_clk]
  have s6 : σ1.bs (6,3) = some (.var [.nil,.p (.i .i64 0)]) := by rw [hold _ (by simp),hσ0]; simp [add_bs,add_clk,empty_clk]
  rw [hσ0] at hcall
  obtain ⟨x,hxe⟩ : ∃ x,n.ns.getD p.n.toNat zN = x := ⟨_,rfl⟩
  simp only [Nt.nd,hxe] at h4 g g2 hto
  simp only [encT,encP,List.map_cons,List.map_nil,List.length_map] at hcall s3 s4 s5 s6
  obtain ⟨c,hc⟩ : ∃ c,σ1.clk = c := ⟨_,rfl⟩
  have n1 : ∀ d j : Nat,¬ k = (d,c + j) := by rintro d j rfl; simp at hk2; omega
  have n1' : ∀ d i j : Nat,¬ k = (d,c + i + j) := by rintro d i j rfl; simp at hk2; omega
  have n5' : ∀ d i j : Nat,¬ (d,c + i + j) = k := fun d i j e => n1' d i j e.symm
  have n2 : ∀ d : Nat,¬ k = (d,c) := by rintro d rfl; simp at hk2; omega
  have n3 : ¬ k = (3,0) ∧ ¬ k = (4,1) ∧ ¬ k = (5,2) ∧ ¬ k = (6,3) := by refine ⟨?_,?_,?_,?_⟩ <;> (rintro rfl; simp at hk1)
  have n7 : ¬ (3,0) = k ∧ ¬ (4,1) = k ∧ ¬ (5,2) = k ∧ ¬ (6,3) = k := ⟨fun e => n3.1 e.symm,fun e => n3.2.1 e.symm,fun e => n3.2.2.1 e.symm,fun e => n3.2.2.2 e.symm⟩
  have n4 : ¬ 0 = c ∧ ¬ 1 = c ∧ ¬ 2 = c ∧ ¬ 3 = c := by omega
  have n5 : ∀ d j : Nat,¬ (d,c + j) = k := fun d j e => n1 d j e.symm
  have n6 : ∀ d : Nat,¬ (d,c) = k := fun d e => n2 d e.symm
  have hlt0 : p.n.toNat < n.ns.length := by omega
  have htk : List.take x.to.length (x.to.map encP) = x.to.map encP := List.take_of_length_le (by simp)
  have hset : ∀ r : List PV,List.take x.to.length ((x.to.map encP).set p.s.toNat r) = (x.to.map encP).set p.s.toNat r := fun r => List.take_of_length_le (by simp)
  have hset2 : ∀ r : List PV,List.take n.ns.length ((n.ns.map encN).set p.n.toNat r) = (n.ns.map encN).set p.n.toNat r := fun r => List.take_of_length_le (by simp)
  have htk0 : List.take n.ns.length (n.ns.map encN) = n.ns.map encN := List.take_of_length_le (by simp)
  refine x_fn (orcS (by decide)) (fc := F121) rfl rfl ?_
  simp only [F121,hcall,hc,sk,s3,s4,s5,s6,hp.1,hp.2.1,hp.2.2.1,h4,g,g2,n1,n1',n5',n2,n3.1,n3.2.1,n3.2.2.1,n3.2.2.2,n7.1,n7.2.1,n7.2.2.1,n7.2.2.2,n4.1,n4.2.1,n4.2.2.1,n4.2.2.2,n5,n6,htk,hset,hset2,htk0,rowK,hto,hlt0,List.length_set,List.length_map,Nat.le_refl,Nat.zero_add,Nat.zero_le,Nat.zero_mul,List.all_nil,ne_eq,not_false_eq_true,fxa,fxc,fxE,fxL,fxI,nxE,evO,evR,cellsT,ldCells,mkT,lenA,binPV,Env.init,resV,resT,frT,klT,ownT,intT,O.adds,ownA,rowsA,over,wrOk,keysT,keysA,ne_eq,if_true,if_false,ite_self,Nat.reduceLT,Nat.reduceSub,Nat.reduceBEq,Nat.reduceEqDiff,Nat.reduceAdd,Nat.reduceLeDiff,reduceCtorEq,Nat.reduceMul]
  simp only [Nt.set,Nt.nd,hxe,List.map_set,encN,encP]
theorem RLink_ok {n : Nt} {p q : Pt} (hn : n.Ok) (hp : wf p.n ∧ wf p.s) (hq : wf q.n ∧ wf q.s) : eP S 85 [.g (encT n),.g (encP p),.g (encP q)] = some (encTE (linkR n p q)) := by
  have a1 := Has_ok n p
  have a1' := Has_ok n q
  refine x_fn (orcS (by decide)) (fc := F85) rfl rfl ?_
  simp only [encT,encP] at a1 a1'
  unfold linkR
  cases h1 : n.has p with
  | false => rw [h1] at a1; simp only [F85,a1,encTE,Bool.false_eq_true,fxa,fxc,fxE,fxL,fxI,nxE,evO,evR,cellsT,ldCells,mkT,lenA,binPV,Env.init,resV,resT,frT,klT,ownT,intT,O.adds,ownA,rowsA,over,wrOk,keysT,keysA,ne_eq,if_true,if_false,ite_self,Nat.reduceLT,Nat.reduceSub,Nat.reduceBEq,Nat.reduceEqDiff,Nat.reduceAdd,Nat.reduceLeDiff,reduceCtorEq,Nat.reduceMul]
  | true =>
  cases h1' : n.has q with
  | false => rw [h1] at a1; rw [h1'] at a1'; simp only [F85,a1,a1',encTE,Bool.false_eq_true,fxa,fxc,fxE,fxL,fxI,nxE,evO,evR,cellsT,ldCells,mkT,lenA,binPV,Env.init,resV,resT,frT,klT,ownT,intT,O.adds,ownA,rowsA,over,wrOk,keysT,keysA,ne_eq,if_true,if_false,ite_self,Nat.reduceLT,Nat.reduceSub,Nat.reduceBEq,Nat.reduceEqDiff,Nat.reduceAdd,Nat.reduceLeDiff,reduceCtorEq,Nat.reduceMul]
  | true =>
    rw [h1] at a1
    rw [h1'] at a1'
    by_cases h2 : p = q
    · subst h2
      simp only [F85,a1,encTE,ptEq,Bool.false_eq_true,Bool.not_true,fxa,fxc,fxE,fxL,fxI,nxE,evO,evR,cellsT,ldCells,mkT,lenA,binPV,Env.init,resV,resT,frT,klT,ownT,intT,O.adds,ownA,rowsA,over,wrOk,keysT,keysA,ne_eq,if_true,if_false,ite_self,Nat.reduceLT,Nat.reduceSub,Nat.reduceBEq,Nat.reduceEqDiff,Nat.reduceAdd,Nat.reduceLeDiff,reduceCtorEq,Nat.reduceMul]
    · have a2 := Rset_ok q hn h1
      have a3 := Rset_ok p (Ok_set hn h1 hq) (by rw [has_set q q h1]; exact h1')
      simp only [encT,encP] at a2 a3
      simp only [F85,a1,a1',a2,a3,h2,encTE,ptEq,fxa,fxc,fxE,fxL,fxI,nxE,evO,evR,cellsT,ldCells,mkT,lenA,binPV,Env.init,resV,resT,frT,klT,ownT,intT,O.adds,ownA,rowsA,over,wrOk,keysT,keysA,ne_eq,if_true,if_false,ite_self,Nat.reduceLT,Nat.reduceSub,Nat.reduceBEq,Nat.reduceEqDiff,Nat.reduceAdd,Nat.reduceLeDiff,reduceCtorEq,Nat.reduceMul]
end Go.Proofs.Ytkpfjolcmkikeaa
end
section
set_option linter.unusedSimpArgs false
set_option linter.unusedVariables false
set_option maxHeartbeats 4000000
set_option maxRecDepth 10000
namespace Go.Proofs.Ytkpfjolcmkikeaa
open Go.Fx
theorem x_cutR {rd : Bool} {a b : C} {e : Env} {σ : St} {Q : Ex → Env → St → Prop} (M : Env → St → Prop) (h : wp S rd a e σ (LQ M Q)) (k : ∀ e' σ',M e' σ' → wp S rd b e' σ' Q) : wp S rd (.seq a b) e σ Q := by
  rw [x_seq]
  refine Go.Fx.wp_mono h fun x e' σ' q => ?_
  cases x with
  | norm => exact k e' σ' q
  | exit id => exact q
  | ret => exact q
def Nd.ports (x : Nd) : Int :=
  if x.k = 1 ∨ x.k = 7 ∨ x.k = 10 ∨ x.k = 13 then 1 else if x.k = 5 ∨ x.k = 6 ∨ x.k = 12 then 2 else if x.k = 2 ∨ x.k = 3 ∨ x.k = 4 ∨ x.k = 11 then 3 else if x.k = 8 then x.to.length else if x.k = 9 then 2 + x.al.length else 0
theorem RPorts_ok {x : Nd} (hx : x.Ok) : eP S 57 [.g (encN x)] = some (.a (.i .i64 x.ports)) := by
  refine x_fn (orcS (by decide)) (fc := F57) rfl rfl ?_
  have hal := hx.al
  have hw : IntKind.i64.wrap (2 + (x.al.length : Int)) = 2 + x.al.length := wrap_in _ (by omega)
  unfold Nd.ports
  by_cases h1 : x.k = 1
  · simp only [F57,h1,Int.reduceEq,or_true,true_or,or_false,false_or,fxa,fxc,fxE,fxL,fxI,nxE,evO,evR,cellsT,ldCells,mkT,lenA,binPV,Env.init,resV,resT,frT,klT,ownT,intT,O.adds,ownA,rowsA,over,wrOk,keysT,keysA,ne_eq,if_true,if_false,ite_self,Nat.reduceLT,Nat.reduceSub,Nat.reduceBEq,Nat.reduceEqDiff,Nat.reduceAdd,Nat.reduceLeDiff,reduceCtorEq,Nat.reduceMul]
  by_cases h2 : x.k = 7
  · simp only [F57,h2,Int.reduceEq,or_true,true_or,or_false,false_or,fxa,fxc,fxE,fxL,fxI,nxE,evO,evR,cellsT,ldCells,mkT,lenA,binPV,Env.init,resV,resT,frT,klT,ownT,intT,O.adds,ownA,rowsA,over,wrOk,keysT,keysA,ne_eq,if_true,if_false,ite_self,Nat.reduceLT,Nat.reduceSub,Nat.reduceBEq,Nat.reduceEqDiff,Nat.reduceAdd,Nat.reduceLeDiff,reduceCtorEq,Nat.reduceMul]
  by_cases h3 : x.k = 10
  · simp only [F57,h3,Int.reduceEq,or_true,true_or,or_false,false_or,fxa,fxc,fxE,fxL,fxI,nxE,evO,evR,cellsT,ldCells,mkT,lenA,binPV,Env.init,resV,resT,frT,klT,ownT,intT,O.adds,ownA,rowsA,over,wrOk,keysT,keysA,ne_eq,if_true,if_false,ite_self,Nat.reduceLT,Nat.reduceSub,Nat.reduceBEq,Nat.reduceEqDiff,Nat.reduceAdd,Nat.reduceLeDiff,reduceCtorEq,Nat.reduceMul]
  by_cases h4 : x.k = 13
  · simp only [F57,h4,Int.reduceEq,or_true,true_or,or_false,false_or,fxa,fxc,fxE,fxL,fxI,nxE,evO,evR,cellsT,ldCells,mkT,lenA,binPV,Env.init,resV,resT,frT,klT,ownT,intT,O.adds,ownA,rowsA,over,wrOk,keysT,keysA,ne_eq,if_true,if_false,ite_self,Nat.reduceLT,Nat.reduceSub,Nat.reduceBEq,Nat.reduceEqDiff,Nat.reduceAdd,Nat.reduceLeDiff,reduceCtorEq,Nat.reduceMul]
  by_cases h5 : x.k = 5
  · simp only [F57,h5,Int.reduceEq,or_true,true_or,or_false,false_or,fxa,fxc,fxE,fxL,fxI,nxE,evO,evR,cellsT,ldCells,mkT,lenA,binPV,Env.init,resV,resT,frT,klT,ownT,intT,O.adds,ownA,rowsA,over,wrOk,keysT,keysA,ne_eq,if_true,if_false,ite_self,Nat.reduceLT,Nat.reduceSub,Nat.reduceBEq,Nat.reduceEqDiff,Nat.reduceAdd,Nat.reduceLeDiff,reduceCtorEq,Nat.reduceMul]
  by_cases h6 : x.k = 6
  · simp only [F57,h6,Int.reduceEq,or_true,true_or,or_false,false_or,fxa,fxc,fxE,fxL,fxI,nxE,evO,evR,cellsT,ldCells,mkT,lenA,binPV,Env.init,resV,resT,frT,klT,ownT,intT,O.adds,ownA,rowsA,over,wrOk,keysT,keysA,ne_eq,if_true,if_false,ite_self,Nat.reduceLT,Nat.reduceSub,Nat.reduceBEq,Nat.reduceEqDiff,Nat.reduceAdd,Nat.reduceLeDiff,reduceCtorEq,Nat.reduceMul]
  by_cases h7 : x.k = 12
  · simp only [F57,h7,Int.reduceEq,or_true,true_or,or_false,false_or,fxa,fxc,fxE,fxL,fxI,nxE,evO,evR,cellsT,ldCells,mkT,lenA,binPV,Env.init,resV,resT,frT,klT,ownT,intT,O.adds,ownA,rowsA,over,wrOk,keysT,keysA,ne_eq,if_true,if_false,ite_self,Nat.reduceLT,Nat.reduceSub,Nat.reduceBEq,Nat.reduceEqDiff,Nat.reduceAdd,Nat.reduceLeDiff,reduceCtorEq,Nat.reduceMul]
  by_cases h8 : x.k = 2
  · simp only [F57,h8,Int.reduceEq,or_true,true_or,or_false,false_or,fxa,fxc,fxE,fxL,fxI,nxE,evO,evR,cellsT,ldCells,mkT,lenA,binPV,Env.init,resV,resT,frT,klT,ownT,intT,O.adds,ownA,rowsA,over,wrOk,keysT,keysA,ne_eq,if_true,if_false,ite_self,Nat.reduceLT,Nat.reduceSub,Nat.reduceBEq,Nat.reduceEqDiff,Nat.reduceAdd,Nat.reduceLeDiff,reduceCtorEq,Nat.reduceMul]
  by_cases h9 : x.k = 3
  · simp only [F57,h9,Int.reduceEq,or_true,true_or,or_false,false_or,fxa,fxc,fxE,fxL,fxI,nxE,evO,evR,cellsT,ldCells,mkT,lenA,binPV,Env.init,resV,resT,frT,klT,ownT,intT,O.adds,ownA,rowsA,over,wrOk,keysT,keysA,ne_eq,if_true,if_false,ite_self,Nat.reduceLT,Nat.reduceSub,Nat.reduceBEq,Nat.reduceEqDiff,Nat.reduceAdd,Nat.reduceLeDiff,reduceCtorEq,Nat.reduceMul]
  by_cases h10 : x.k = 4
  · simp only [F57,h10,Int.reduceEq,or_true,true_or,or_false,false_or,fxa,fxc,fxE,fxL,fxI,nxE,evO,evR,cellsT,ldCells,mkT,lenA,binPV,Env.init,resV,resT,frT,klT,ownT,intT,O.adds,ownA,rowsA,over,wrOk,keysT,keysA,ne_eq,if_true,if_false,ite_self,Nat.reduceLT,Nat.reduceSub,Nat.reduceBEq,Nat.reduceEqDiff,Nat.reduceAdd,Nat.reduceLeDiff,reduceCtorEq,Nat.reduceMul]
  by_cases h11 : x.k = 11
  · simp only [F57,h11,Int.reduceEq,or_true,true_or,or_false,false_or,fxa,fxc,fxE,fxL,fxI,nxE,evO,evR,cellsT,ldCells,mkT,lenA,binPV,Env.init,resV,resT,frT,klT,ownT,intT,O.adds,ownA,rowsA,over,wrOk,keysT,keysA,ne_eq,if_true,if_false,ite_self,Nat.reduceLT,Nat.reduceSub,Nat.reduceBEq,Nat.reduceEqDiff,Nat.reduceAdd,Nat.reduceLeDiff,reduceCtorEq,Nat.reduceMul]
  by_cases h12 : x.k = 8
  · simp only [F57,h12,Int.reduceEq,or_true,true_or,or_false,false_or,fxa,fxc,fxE,fxL,fxI,nxE,evO,evR,cellsT,ldCells,mkT,lenA,binPV,Env.init,resV,resT,frT,klT,ownT,intT,O.adds,ownA,rowsA,over,wrOk,keysT,keysA,ne_eq,if_true,if_false,ite_self,Nat.reduceLT,Nat.reduceSub,Nat.reduceBEq,Nat.reduceEqDiff,Nat.reduceAdd,Nat.reduceLeDiff,reduceCtorEq,Nat.reduceMul]
  by_cases h13 : x.k = 9
  · simp only [F57,h13,hw,Int.reduceEq,or_true,true_or,or_false,false_or,fxa,fxc,fxE,fxL,fxI,nxE,evO,evR,cellsT,ldCells,mkT,lenA,binPV,Env.init,resV,resT,frT,klT,ownT,intT,O.adds,ownA,rowsA,over,wrOk,keysT,keysA,ne_eq,if_true,if_false,ite_self,Nat.reduceLT,Nat.reduceSub,Nat.reduceBEq,Nat.reduceEqDiff,Nat.reduceAdd,Nat.reduceLeDiff,reduceCtorEq,Nat.reduceMul]
  · simp only [F57,h1,h2,h3,h4,h5,h6,h7,h8,h9,h10,h11,h12,h13,or_false,false_or,fxa,fxc,fxE,fxL,fxI,nxE,evO,evR,cellsT,ldCells,mkT,lenA,binPV,Env.init,resV,resT,frT,klT,ownT,intT,O.adds,ownA,rowsA,over,wrOk,keysT,keysA,ne_eq,if_true,if_false,ite_self,Nat.reduceLT,Nat.reduceSub,Nat.reduceBEq,Nat.reduceEqDiff,Nat.reduceAdd,Nat.reduceLeDiff,reduceCtorEq,Nat.reduceMul]
def altOk (l : List Ar) : Prop := ∀ (i : Nat) (a : Ar),l[i]? = some a → a.s ≠ [] ∧ 0 ≤ a.n ∧ a.n ≤ 8 ∧ ∀ (j : Nat) (b : Ar),j < i → l[j]? = some b → b.s ≠ a.s
structure Nd.may (x : Nd) : Prop where
  k0 : 0 ≤ x.k
  k1 : x.k ≤ 13
  lv0 : 0 ≤ x.lv
  lv1 : x.lv ≤ 60
  lv2 : x.k < 2 → x.lv ≤ 0
  nm : x.s ≠ [] ↔ (x.k = 8 ∨ x.k = 11 ∨ x.k = 12)
  nn : x.n ≠ 0 → x.k = 10 ∨ x.k = 12
  to8 : x.k = 8 → 1 ≤ (x.to.length : Int) ∧ (x.to.length : Int) ≤ 9
  al9 : x.k = 9 → 1 ≤ (x.al.length : Int)
  aln : x.k ≠ 9 → (x.al.length : Int) ≤ 0
  al8 : (x.al.length : Int) ≤ 8
  alt : altOk x.al
def NdM (x : Nd) (e : Env) (σ : St) : Prop := e 1 = .a (.ptr (1,0) 0 0) ∧ σ.bs (1,0) = some (.var [.p (.i .i64 x.k),.p (.i .i64 x.lv),.p (.i .i64 x.n),.p (.s x.s),.p (.l (x.al.map encA)),.p (.l (x.to.map encP))])
theorem RNode_ok {x : Nd} (hx : x.Ok) : eP S 56 [.g (encN x)] = some (.a (.b (bool x.may))) := by
  refine x_fnB (orcS (by decide)) (fc := F56) rfl rfl ?_
  have hal := hx.al
  unfold F56
  simp only [encN,List.map_cons,List.map_nil,ofPT_g]
  refine x_cutR (NdM x) ?_ fun e σ hM => ?_
  · simp only [fxa,fxc,fxE,fxL,fxI,nxE,evO,evR,cellsT,ldCells,mkT,lenA,binPV,Env.init,resV,resT,frT,klT,ownT,intT,O.adds,ownA,rowsA,over,wrOk,keysT,keysA,ne_eq,if_true,if_false,ite_self,Nat.reduceLT,Nat.reduceSub,Nat.reduceBEq,Nat.reduceEqDiff,Nat.reduceAdd,Nat.reduceLeDiff,reduceCtorEq,Nat.reduceMul]
    exact ⟨by simp only [fxa,fxc,fxE,fxL,fxI,nxE,evO,evR,cellsT,ldCells,mkT,lenA,binPV,Env.init,resV,resT,frT,klT,ownT,intT,O.adds,ownA,rowsA,over,wrOk,keysT,keysA,ne_eq,if_true,if_false,ite_self,Nat.reduceLT,Nat.reduceSub,Nat.reduceBEq,Nat.reduceEqDiff,Nat.reduceAdd,Nat.reduceLeDiff,reduceCtorEq,Nat.reduceMul],by simp only [fxa,fxc,fxE,fxL,fxI,nxE,evO,evR,cellsT,ldCells,mkT,lenA,binPV,Env.init,resV,resT,frT,klT,ownT,intT,O.adds,ownA,rowsA,over,wrOk,keysT,keysA,ne_eq,if_true,if_false,ite_self,Nat.reduceLT,Nat.reduceSub,Nat.reduceBEq,Nat.reduceEqDiff,Nat.reduceAdd,Nat.reduceLeDiff,reduceCtorEq,Nat.reduceMul]⟩
  obtain ⟨e1,s1⟩ := hM
  refine x_cutR (fun e σ => NdM x e σ ∧ 0 ≤ x.k ∧ x.k ≤ 13 ∧ 0 ≤ x.lv ∧ x.lv ≤ 60 ∧ (x.k < 2 → x.lv ≤ 0)) ?_ fun e' σ' hM => ?_
  · simp only [e1,s1,fxa,fxc,fxE,fxL,fxI,nxE,evO,evR,cellsT,ldCells,mkT,lenA,binPV,Env.init,resV,resT,frT,klT,ownT,intT,O.adds,ownA,rowsA,over,wrOk,keysT,keysA,ne_eq,if_true,if_false,ite_self,Nat.reduceLT,Nat.reduceSub,Nat.reduceBEq,Nat.reduceEqDiff,Nat.reduceAdd,Nat.reduceLeDiff,reduceCtorEq,Nat.reduceMul]
    iterate 7
      all_goals try (first
        | (refine wpX_bsplit (fun h => ?_) (fun h => ?_) <;> simp only [h,e1,s1,fxa,fxc,fxE,fxL,fxI,nxE,evO,evR,cellsT,ldCells,mkT,lenA,binPV,Env.init,resV,resT,frT,klT,ownT,intT,O.adds,ownA,rowsA,over,wrOk,keysT,keysA,ne_eq,if_true,if_false,ite_self,Nat.reduceLT,Nat.reduceSub,Nat.reduceBEq,Nat.reduceEqDiff,Nat.reduceAdd,Nat.reduceLeDiff,reduceCtorEq,Nat.reduceMul])
        | (refine wpC_split (fun h => ?_) (fun h => ?_) <;> simp only [h,e1,s1,fxa,fxc,fxE,fxL,fxI,nxE,evO,evR,cellsT,ldCells,mkT,lenA,binPV,Env.init,resV,resT,frT,klT,ownT,intT,O.adds,ownA,rowsA,over,wrOk,keysT,keysA,ne_eq,if_true,if_false,ite_self,Nat.reduceLT,Nat.reduceSub,Nat.reduceBEq,Nat.reduceEqDiff,Nat.reduceAdd,Nat.reduceLeDiff,reduceCtorEq,Nat.reduceMul]))
    all_goals simp only [Bool.not_eq_false',Bool.not_eq_true',Bool.not_false,Bool.not_true,decide_eq_true_eq,decide_eq_false_iff_not,Int.natCast_inj] at *
    all_goals first
      | (intro hP; have p1 := hP.k0; have p2 := hP.k1; have p3 := hP.lv0; have p4 := hP.lv1; have p5 := hP.lv2; omega)
      | (refine ⟨⟨by simp only [e1,fxa,fxc,fxE,fxL,fxI,nxE,evO,evR,cellsT,ldCells,mkT,lenA,binPV,Env.init,resV,resT,frT,klT,ownT,intT,O.adds,ownA,rowsA,over,wrOk,keysT,keysA,ne_eq,if_true,if_false,ite_self,Nat.reduceLT,Nat.reduceSub,Nat.reduceBEq,Nat.reduceEqDiff,Nat.reduceAdd,Nat.reduceLeDiff,reduceCtorEq,Nat.reduceMul],by simp only [s1,fxa,fxc,fxE,fxL,fxI,nxE,evO,evR,cellsT,ldCells,mkT,lenA,binPV,Env.init,resV,resT,frT,klT,ownT,intT,O.adds,ownA,rowsA,over,wrOk,keysT,keysA,ne_eq,if_true,if_false,ite_self,Nat.reduceLT,Nat.reduceSub,Nat.reduceBEq,Nat.reduceEqDiff,Nat.reduceAdd,Nat.reduceLeDiff,reduceCtorEq,Nat.reduceMul]⟩,?_⟩; omega)
  clear e1 s1
  obtain ⟨⟨e1,s1⟩,hA⟩ := hM
  refine x_cutR (fun e σ => NdM x e σ ∧ (x.s ≠ [] ↔ (x.k = 8 ∨ x.k = 11 ∨ x.k = 12)) ∧ (x.n ≠ 0 → x.k = 10 ∨ x.k = 12)) ?_ fun e' σ' hM => ?_
  · simp only [e1,s1,fxa,fxc,fxE,fxL,fxI,nxE,evO,evR,cellsT,ldCells,mkT,lenA,binPV,Env.init,resV,resT,frT,klT,ownT,intT,O.adds,ownA,rowsA,over,wrOk,keysT,keysA,ne_eq,if_true,if_false,ite_self,Nat.reduceLT,Nat.reduceSub,Nat.reduceBEq,Nat.reduceEqDiff,Nat.reduceAdd,Nat.reduceLeDiff,reduceCtorEq,Nat.reduceMul]
    cases hs : decide (x.s = []) with
    | true =>
      have hs' : x.s = [] := by simpa using hs
      simp only [hs,e1,s1,fxa,fxc,fxE,fxL,fxI,nxE,evO,evR,cellsT,ldCells,mkT,lenA,binPV,Env.init,resV,resT,frT,klT,ownT,intT,O.adds,ownA,rowsA,over,wrOk,keysT,keysA,ne_eq,if_true,if_false,ite_self,Nat.reduceLT,Nat.reduceSub,Nat.reduceBEq,Nat.reduceEqDiff,Nat.reduceAdd,Nat.reduceLeDiff,reduceCtorEq,Nat.reduceMul]
      iterate 8
        all_goals try (first
          | (refine wpX_bsplit (fun h => ?_) (fun h => ?_) <;> simp only [h,e1,s1,fxa,fxc,fxE,fxL,fxI,nxE,evO,evR,cellsT,ldCells,mkT,lenA,binPV,Env.init,resV,resT,frT,klT,ownT,intT,O.adds,ownA,rowsA,over,wrOk,keysT,keysA,ne_eq,if_true,if_false,ite_self,Nat.reduceLT,Nat.reduceSub,Nat.reduceBEq,Nat.reduceEqDiff,Nat.reduceAdd,Nat.reduceLeDiff,reduceCtorEq,Nat.reduceMul])
          | (refine wpC_split (fun h => ?_) (fun h => ?_) <;> simp only [h,e1,s1,fxa,fxc,fxE,fxL,fxI,nxE,evO,evR,cellsT,ldCells,mkT,lenA,binPV,Env.init,resV,resT,frT,klT,ownT,intT,O.adds,ownA,rowsA,over,wrOk,keysT,keysA,ne_eq,if_true,if_false,ite_self,Nat.reduceLT,Nat.reduceSub,Nat.reduceBEq,Nat.reduceEqDiff,Nat.reduceAdd,Nat.reduceLeDiff,reduceCtorEq,Nat.reduceMul]))
      all_goals simp only [Bool.not_eq_false',Bool.not_eq_true',Bool.not_false,Bool.not_true,decide_eq_true_eq,decide_eq_false_iff_not,Int.natCast_inj] at *
      all_goals try simp only [Bool.false_eq,Bool.true_eq,Bool.not_eq_false',Bool.not_eq_true',Bool.not_false,Bool.not_true,decide_eq_true_eq,decide_eq_false_iff_not,Int.natCast_inj] at *
      all_goals first
        | (intro hP; have p1 := hP.nm; have p2 := hP.nn; simp only [hs',ne_eq,not_true_eq_false,false_iff] at p1; omega)
        | (refine ⟨⟨by simp only [e1,fxa,fxc,fxE,fxL,fxI,nxE,evO,evR,cellsT,ldCells,mkT,lenA,binPV,Env.init,resV,resT,frT,klT,ownT,intT,O.adds,ownA,rowsA,over,wrOk,keysT,keysA,ne_eq,if_true,if_false,ite_self,Nat.reduceLT,Nat.reduceSub,Nat.reduceBEq,Nat.reduceEqDiff,Nat.reduceAdd,Nat.reduceLeDiff,reduceCtorEq,Nat.reduceMul],by simp only [s1,fxa,fxc,fxE,fxL,fxI,nxE,evO,evR,cellsT,ldCells,mkT,lenA,binPV,Env.init,resV,resT,frT,klT,ownT,intT,O.adds,ownA,rowsA,over,wrOk,keysT,keysA,ne_eq,if_true,if_false,ite_self,Nat.reduceLT,Nat.reduceSub,Nat.reduceBEq,Nat.reduceEqDiff,Nat.reduceAdd,Nat.reduceLeDiff,reduceCtorEq,Nat.reduceMul]⟩,?_⟩; simp only [hs',ne_eq,not_true_eq_false,false_iff]; omega)
    | false =>
      have hs' : ¬ x.s = [] := by simpa using hs
      simp only [hs,e1,s1,fxa,fxc,fxE,fxL,fxI,nxE,evO,evR,cellsT,ldCells,mkT,lenA,binPV,Env.init,resV,resT,frT,klT,ownT,intT,O.adds,ownA,rowsA,over,wrOk,keysT,keysA,ne_eq,if_true,if_false,ite_self,Nat.reduceLT,Nat.reduceSub,Nat.reduceBEq,Nat.reduceEqDiff,Nat.reduceAdd,Nat.reduceLeDiff,reduceCtorEq,Nat.reduceMul]
      iterate 8
        all_goals try (first
          | (refine wpX_bsplit (fun h => ?_) (fun h => ?_) <;> simp only [h,e1,s1,fxa,fxc,fxE,fxL,fxI,nxE,evO,evR,cellsT,ldCells,mkT,lenA,binPV,Env.init,resV,resT,frT,klT,ownT,intT,O.adds,ownA,rowsA,over,wrOk,keysT,keysA,ne_eq,if_true,if_false,ite_self,Nat.reduceLT,Nat.reduceSub,Nat.reduceBEq,Nat.reduceEqDiff,Nat.reduceAdd,Nat.reduceLeDiff,reduceCtorEq,Nat.reduceMul])
          | (refine wpC_split (fun h => ?_) (fun h => ?_) <;> simp only [h,e1,s1,fxa,fxc,fxE,fxL,fxI,nxE,evO,evR,cellsT,ldCells,mkT,lenA,binPV,Env.init,resV,resT,frT,klT,ownT,intT,O.adds,ownA,rowsA,over,wrOk,keysT,keysA,ne_eq,if_true,if_false,ite_self,Nat.reduceLT,Nat.reduceSub,Nat.reduceBEq,Nat.reduceEqDiff,Nat.reduceAdd,Nat.reduceLeDiff,reduceCtorEq,Nat.reduceMul]))
      all_goals simp only [Bool.not_eq_false',Bool.not_eq_true',Bool.not_false,Bool.not_true,decide_eq_true_eq,decide_eq_false_iff_not,Int.natCast_inj] at *
      all_goals try simp only [Bool.false_eq,Bool.true_eq,Bool.not_eq_false',Bool.not_eq_true',Bool.not_false,Bool.not_true,decide_eq_true_eq,decide_eq_false_iff_not,Int.natCast_inj] at *
      all_goals first
        | (intro hP; have p1 := hP.nm; have p2 := hP.nn; simp only [hs',ne_eq,not_false_eq_true,true_iff] at p1; omega)
        | (refine ⟨⟨by simp only [e1,fxa,fxc,fxE,fxL,fxI,nxE,evO,evR,cellsT,ldCells,mkT,lenA,binPV,Env.init,resV,resT,frT,klT,ownT,intT,O.adds,ownA,rowsA,over,wrOk,keysT,keysA,ne_eq,if_true,if_false,ite_self,Nat.reduceLT,Nat.reduceSub,Nat.reduceBEq,Nat.reduceEqDiff,Nat.reduceAdd,Nat.reduceLeDiff,reduceCtorEq,Nat.reduceMul],by simp only [s1,fxa,fxc,fxE,fxL,fxI,nxE,evO,evR,cellsT,ldCells,mkT,lenA,binPV,Env.init,resV,resT,frT,klT,ownT,intT,O.adds,ownA,rowsA,over,wrOk,keysT,keysA,ne_eq,if_true,if_false,ite_self,Nat.reduceLT,Nat.reduceSub,Nat.reduceBEq,Nat.reduceEqDiff,Nat.reduceAdd,Nat.reduceLeDiff,reduceCtorEq,Nat.reduceMul]⟩,?_⟩; simp only [hs',ne_eq,not_false_eq_true,true_iff]; omega)
  clear e1 s1
  obtain ⟨⟨e1,s1⟩,hB⟩ := hM
  refine x_cutR (fun e σ => NdM x e σ ∧ (x.k = 8 → 1 ≤ (x.to.length : Int) ∧ (x.to.length : Int) ≤ 9) ∧ (x.k = 9 → 1 ≤ (x.al.length : Int)) ∧ (x.k ≠ 9 → (x.al.length : Int) ≤ 0) ∧ (x.al.length : Int) ≤ 8) ?_ fun e' σ' hM => ?_
  · simp only [e1,s1,fxa,fxc,fxE,fxL,fxI,nxE,evO,evR,cellsT,ldCells,mkT,lenA,binPV,Env.init,resV,resT,frT,klT,ownT,intT,O.adds,ownA,rowsA,over,wrOk,keysT,keysA,ne_eq,if_true,if_false,ite_self,Nat.reduceLT,Nat.reduceSub,Nat.reduceBEq,Nat.reduceEqDiff,Nat.reduceAdd,Nat.reduceLeDiff,reduceCtorEq,Nat.reduceMul]
    iterate 9
      all_goals try (first
        | (refine wpX_bsplit (fun h => ?_) (fun h => ?_) <;> simp only [h,e1,s1,fxa,fxc,fxE,fxL,fxI,nxE,evO,evR,cellsT,ldCells,mkT,lenA,binPV,Env.init,resV,resT,frT,klT,ownT,intT,O.adds,ownA,rowsA,over,wrOk,keysT,keysA,ne_eq,if_true,if_false,ite_self,Nat.reduceLT,Nat.reduceSub,Nat.reduceBEq,Nat.reduceEqDiff,Nat.reduceAdd,Nat.reduceLeDiff,reduceCtorEq,Nat.reduceMul])
        | (refine wpC_split (fun h => ?_) (fun h => ?_) <;> simp only [h,e1,s1,fxa,fxc,fxE,fxL,fxI,nxE,evO,evR,cellsT,ldCells,mkT,lenA,binPV,Env.init,resV,resT,frT,klT,ownT,intT,O.adds,ownA,rowsA,over,wrOk,keysT,keysA,ne_eq,if_true,if_false,ite_self,Nat.reduceLT,Nat.reduceSub,Nat.reduceBEq,Nat.reduceEqDiff,Nat.reduceAdd,Nat.reduceLeDiff,reduceCtorEq,Nat.reduceMul]))
    all_goals simp only [Bool.not_eq_false',Bool.not_eq_true',Bool.not_false,Bool.not_true,decide_eq_true_eq,decide_eq_false_iff_not,Int.natCast_inj] at *
    all_goals first
      | (intro hP; have p1 := hP.to8; have p2 := hP.al9; have p3 := hP.aln; have p4 := hP.al8; omega)
      | (refine ⟨⟨by simp only [e1,fxa,fxc,fxE,fxL,fxI,nxE,evO,evR,cellsT,ldCells,mkT,lenA,binPV,Env.init,resV,resT,frT,klT,ownT,intT,O.adds,ownA,rowsA,over,wrOk,keysT,keysA,ne_eq,if_true,if_false,ite_self,Nat.reduceLT,Nat.reduceSub,Nat.reduceBEq,Nat.reduceEqDiff,Nat.reduceAdd,Nat.reduceLeDiff,reduceCtorEq,Nat.reduceMul],by simp only [s1,fxa,fxc,fxE,fxL,fxI,nxE,evO,evR,cellsT,ldCells,mkT,lenA,binPV,Env.init,resV,resT,frT,klT,ownT,intT,O.adds,ownA,rowsA,over,wrOk,keysT,keysA,ne_eq,if_true,if_false,ite_self,Nat.reduceLT,Nat.reduceSub,Nat.reduceBEq,Nat.reduceEqDiff,Nat.reduceAdd,Nat.reduceLeDiff,reduceCtorEq,Nat.reduceMul]⟩,?_⟩; omega)
  clear e1 s1
  obtain ⟨⟨e1,s1⟩,hC⟩ := hM
  refine x_cutR (fun e σ => altOk x.al) ?_ fun e' σ' hM => ?_
  · simp only [e1,s1,fxa,fxc,fxE,fxL,fxI,nxE,evO,evR,cellsT,ldCells,mkT,lenA,binPV,Env.init,resV,resT,frT,klT,ownT,intT,O.adds,ownA,rowsA,over,wrOk,keysT,keysA,ne_eq,if_true,if_false,ite_self,Nat.reduceLT,Nat.reduceSub,Nat.reduceBEq,Nat.reduceEqDiff,Nat.reduceAdd,Nat.reduceLeDiff,reduceCtorEq,Nat.reduceMul]
    refine loop_nat x.al.length (fun i e σ => NdM x e σ ∧ e 3 = .a (.p (.i .i64 (i : Nat))) ∧ ∀ m a,m < i → x.al[m]? = some a → a.s ≠ [] ∧ 0 ≤ a.n ∧ a.n ≤ 8 ∧ ∀ j b,j < m → x.al[j]? = some b → b.s ≠ a.s) (i0 := 0) (Nat.zero_le _) ?_ ?_ ?_
    · exact ⟨⟨by simp only [e1,fxa,fxc,fxE,fxL,fxI,nxE,evO,evR,cellsT,ldCells,mkT,lenA,binPV,Env.init,resV,resT,frT,klT,ownT,intT,O.adds,ownA,rowsA,over,wrOk,keysT,keysA,ne_eq,if_true,if_false,ite_self,Nat.reduceLT,Nat.reduceSub,Nat.reduceBEq,Nat.reduceEqDiff,Nat.reduceAdd,Nat.reduceLeDiff,reduceCtorEq,Nat.reduceMul],by simp only [s1,fxa,fxc,fxE,fxL,fxI,nxE,evO,evR,cellsT,ldCells,mkT,lenA,binPV,Env.init,resV,resT,frT,klT,ownT,intT,O.adds,ownA,rowsA,over,wrOk,keysT,keysA,ne_eq,if_true,if_false,ite_self,Nat.reduceLT,Nat.reduceSub,Nat.reduceBEq,Nat.reduceEqDiff,Nat.reduceAdd,Nat.reduceLeDiff,reduceCtorEq,Nat.reduceMul]⟩,by simp only [fxa,fxc,fxE,fxL,fxI,nxE,evO,evR,cellsT,ldCells,mkT,lenA,binPV,Env.init,resV,resT,frT,klT,ownT,intT,O.adds,ownA,rowsA,over,wrOk,keysT,keysA,ne_eq,if_true,if_false,ite_self,Nat.reduceLT,Nat.reduceSub,Nat.reduceBEq,Nat.reduceEqDiff,Nat.reduceAdd,Nat.reduceLeDiff,reduceCtorEq,Nat.reduceMul]; rfl,fun j a hj => by omega⟩
    · rintro i e σ hi ⟨⟨e1,s1⟩,e3,hall⟩
      obtain ⟨a,ha⟩ : ∃ a,x.al[i]? = some a := ⟨_,List.getElem?_eq_getElem hi⟩
      have ha' := mapGet encA ha
      have hlt : ((i : Nat) : Int) < (x.al.length : Int) := by omega
      have hge : (0 : Int) ≤ ((i : Nat) : Int) := by omega
      by_cases h1 : a.s = []
      · simp only [F56b0,e1,e3,s1,hlt,hge,ha',h1,fxa,fxc,fxE,fxL,fxI,nxE,evO,evR,cellsT,ldCells,mkT,lenA,binPV,Env.init,resV,resT,frT,klT,ownT,intT,O.adds,ownA,rowsA,over,wrOk,keysT,keysA,ne_eq,if_true,if_false,ite_self,Nat.reduceLT,Nat.reduceSub,Nat.reduceBEq,Nat.reduceEqDiff,Nat.reduceAdd,Nat.reduceLeDiff,reduceCtorEq,Nat.reduceMul]
        intro hP; exact (hP.alt i a ha).1 h1
      by_cases h2 : a.n < 0
      · simp only [F56b0,e1,e3,s1,hlt,hge,ha',h1,h2,fxa,fxc,fxE,fxL,fxI,nxE,evO,evR,cellsT,ldCells,mkT,lenA,binPV,Env.init,resV,resT,frT,klT,ownT,intT,O.adds,ownA,rowsA,over,wrOk,keysT,keysA,ne_eq,if_true,if_false,ite_self,Nat.reduceLT,Nat.reduceSub,Nat.reduceBEq,Nat.reduceEqDiff,Nat.reduceAdd,Nat.reduceLeDiff,reduceCtorEq,Nat.reduceMul]
        intro hP; have := hP.alt i a ha; omega
      by_cases h3 : a.n > 8
      · simp only [F56b0,e1,e3,s1,hlt,hge,ha',h1,h2,h3,fxa,fxc,fxE,fxL,fxI,nxE,evO,evR,cellsT,ldCells,mkT,lenA,binPV,Env.init,resV,resT,frT,klT,ownT,intT,O.adds,ownA,rowsA,over,wrOk,keysT,keysA,ne_eq,if_true,if_false,ite_self,Nat.reduceLT,Nat.reduceSub,Nat.reduceBEq,Nat.reduceEqDiff,Nat.reduceAdd,Nat.reduceLeDiff,reduceCtorEq,Nat.reduceMul]
        intro hP; have := hP.alt i a ha; omega
      simp only [F56b0,e1,e3,s1,hlt,hge,ha',h1,h2,h3,fxa,fxc,fxE,fxL,fxI,nxE,evO,evR,cellsT,ldCells,mkT,lenA,binPV,Env.init,resV,resT,frT,klT,ownT,intT,O.adds,ownA,rowsA,over,wrOk,keysT,keysA,ne_eq,if_true,if_false,ite_self,Nat.reduceLT,Nat.reduceSub,Nat.reduceBEq,Nat.reduceEqDiff,Nat.reduceAdd,Nat.reduceLeDiff,reduceCtorEq,Nat.reduceMul]
      refine loop_nat i (fun j e σ => NdM x e σ ∧ e 3 = .a (.p (.i .i64 (i : Nat))) ∧ e 4 = .a (.p (.i .i64 (j : Nat))) ∧ ∀ m b,m < j → x.al[m]? = some b → b.s ≠ a.s) (i0 := 0) (Nat.zero_le _) ?_ ?_ ?_
      · exact ⟨⟨by simp only [e1,fxa,fxc,fxE,fxL,fxI,nxE,evO,evR,cellsT,ldCells,mkT,lenA,binPV,Env.init,resV,resT,frT,klT,ownT,intT,O.adds,ownA,rowsA,over,wrOk,keysT,keysA,ne_eq,if_true,if_false,ite_self,Nat.reduceLT,Nat.reduceSub,Nat.reduceBEq,Nat.reduceEqDiff,Nat.reduceAdd,Nat.reduceLeDiff,reduceCtorEq,Nat.reduceMul],by simp only [s1,fxa,fxc,fxE,fxL,fxI,nxE,evO,evR,cellsT,ldCells,mkT,lenA,binPV,Env.init,resV,resT,frT,klT,ownT,intT,O.adds,ownA,rowsA,over,wrOk,keysT,keysA,ne_eq,if_true,if_false,ite_self,Nat.reduceLT,Nat.reduceSub,Nat.reduceBEq,Nat.reduceEqDiff,Nat.reduceAdd,Nat.reduceLeDiff,reduceCtorEq,Nat.reduceMul]⟩,by simp only [e3,fxa,fxc,fxE,fxL,fxI,nxE,evO,evR,cellsT,ldCells,mkT,lenA,binPV,Env.init,resV,resT,frT,klT,ownT,intT,O.adds,ownA,rowsA,over,wrOk,keysT,keysA,ne_eq,if_true,if_false,ite_self,Nat.reduceLT,Nat.reduceSub,Nat.reduceBEq,Nat.reduceEqDiff,Nat.reduceAdd,Nat.reduceLeDiff,reduceCtorEq,Nat.reduceMul],by simp only [fxa,fxc,fxE,fxL,fxI,nxE,evO,evR,cellsT,ldCells,mkT,lenA,binPV,Env.init,resV,resT,frT,klT,ownT,intT,O.adds,ownA,rowsA,over,wrOk,keysT,keysA,ne_eq,if_true,if_false,ite_self,Nat.reduceLT,Nat.reduceSub,Nat.reduceBEq,Nat.reduceEqDiff,Nat.reduceAdd,Nat.reduceLeDiff,reduceCtorEq,Nat.reduceMul]; rfl,fun j a hj => by omega⟩
      · rintro j e σ hj ⟨⟨e1,s1⟩,e3,e4,hj2⟩
        obtain ⟨b,hb⟩ : ∃ b,x.al[j]? = some b := ⟨_,List.getElem?_eq_getElem (by omega)⟩
        have hb' := mapGet encA hb
        have hlt2 : ((j : Nat) : Int) < ((i : Nat) : Int) := by omega
        have hlt3 : ((j : Nat) : Int) < (x.al.length : Int) := by omega
        have hge2 : (0 : Int) ≤ ((j : Nat) : Int) := by omega
        by_cases h4 : b.s = a.s
        · simp only [F56b1,e1,e3,e4,s1,hlt,hge,hlt2,hlt3,hge2,ha',hb',h4,fxa,fxc,fxE,fxL,fxI,nxE,evO,evR,cellsT,ldCells,mkT,lenA,binPV,Env.init,resV,resT,frT,klT,ownT,intT,O.adds,ownA,rowsA,over,wrOk,keysT,keysA,ne_eq,if_true,if_false,ite_self,Nat.reduceLT,Nat.reduceSub,Nat.reduceBEq,Nat.reduceEqDiff,Nat.reduceAdd,Nat.reduceLeDiff,reduceCtorEq,Nat.reduceMul]
          intro hP; exact (hP.alt i a ha).2.2.2 j b hj hb h4
        · simp only [F56b1,e1,e3,e4,s1,hlt,hge,hlt2,hlt3,hge2,ha',hb',h4,fxa,fxc,fxE,fxL,fxI,nxE,evO,evR,cellsT,ldCells,mkT,lenA,binPV,Env.init,resV,resT,frT,klT,ownT,intT,O.adds,ownA,rowsA,over,wrOk,keysT,keysA,ne_eq,if_true,if_false,ite_self,Nat.reduceLT,Nat.reduceSub,Nat.reduceBEq,Nat.reduceEqDiff,Nat.reduceAdd,Nat.reduceLeDiff,reduceCtorEq,Nat.reduceMul]
          refine ⟨⟨by simp only [e1,fxa,fxc,fxE,fxL,fxI,nxE,evO,evR,cellsT,ldCells,mkT,lenA,binPV,Env.init,resV,resT,frT,klT,ownT,intT,O.adds,ownA,rowsA,over,wrOk,keysT,keysA,ne_eq,if_true,if_false,ite_self,Nat.reduceLT,Nat.reduceSub,Nat.reduceBEq,Nat.reduceEqDiff,Nat.reduceAdd,Nat.reduceLeDiff,reduceCtorEq,Nat.reduceMul],by simp only [s1,fxa,fxc,fxE,fxL,fxI,nxE,evO,evR,cellsT,ldCells,mkT,lenA,binPV,Env.init,resV,resT,frT,klT,ownT,intT,O.adds,ownA,rowsA,over,wrOk,keysT,keysA,ne_eq,if_true,if_false,ite_self,Nat.reduceLT,Nat.reduceSub,Nat.reduceBEq,Nat.reduceEqDiff,Nat.reduceAdd,Nat.reduceLeDiff,reduceCtorEq,Nat.reduceMul]⟩,by rw [wrap_succ j (by omega)],fun m c hm hc => ?_⟩
          by_cases e : m = j
          · subst e; rw [hb] at hc; rw [← Option.some.inj hc]; exact h4
          · exact hj2 m c (by omega) hc
      · rintro e σ ⟨⟨e1,s1⟩,e3,e4,hj2⟩
        have hlt2 : ¬ ((i : Nat) : Int) < ((i : Nat) : Int) := by omega
        simp only [F56b1,e1,e3,e4,s1,hlt2,fxa,fxc,fxE,fxL,fxI,nxE,evO,evR,cellsT,ldCells,mkT,lenA,binPV,Env.init,resV,resT,frT,klT,ownT,intT,O.adds,ownA,rowsA,over,wrOk,keysT,keysA,ne_eq,if_true,if_false,ite_self,Nat.reduceLT,Nat.reduceSub,Nat.reduceBEq,Nat.reduceEqDiff,Nat.reduceAdd,Nat.reduceLeDiff,reduceCtorEq,Nat.reduceMul]
        refine ⟨⟨by simp only [e1,fxa,fxc,fxE,fxL,fxI,nxE,evO,evR,cellsT,ldCells,mkT,lenA,binPV,Env.init,resV,resT,frT,klT,ownT,intT,O.adds,ownA,rowsA,over,wrOk,keysT,keysA,ne_eq,if_true,if_false,ite_self,Nat.reduceLT,Nat.reduceSub,Nat.reduceBEq,Nat.reduceEqDiff,Nat.reduceAdd,Nat.reduceLeDiff,reduceCtorEq,Nat.reduceMul],by simp only [s1,fxa,fxc,fxE,fxL,fxI,nxE,evO,evR,cellsT,ldCells,mkT,lenA,binPV,Env.init,resV,resT,frT,klT,ownT,intT,O.adds,ownA,rowsA,over,wrOk,keysT,keysA,ne_eq,if_true,if_false,ite_self,Nat.reduceLT,Nat.reduceSub,Nat.reduceBEq,Nat.reduceEqDiff,Nat.reduceAdd,Nat.reduceLeDiff,reduceCtorEq,Nat.reduceMul]⟩,by rw [wrap_succ i (by omega)],fun m c hm hc => ?_⟩
        by_cases e : m = i
        · subst e; rw [ha] at hc; rw [← Option.some.inj hc]; exact ⟨h1,by omega,by omega,hj2⟩
        · exact hall m c (by omega) hc
    · rintro e σ ⟨⟨e1,s1⟩,e3,hall⟩
      have hlt : ¬ ((x.al.length : Nat) : Int) < (x.al.length : Int) := by omega
      simp only [F56b0,e1,e3,s1,hlt,fxa,fxc,fxE,fxL,fxI,nxE,evO,evR,cellsT,ldCells,mkT,lenA,binPV,Env.init,resV,resT,frT,klT,ownT,intT,O.adds,ownA,rowsA,over,wrOk,keysT,keysA,ne_eq,if_true,if_false,ite_self,Nat.reduceLT,Nat.reduceSub,Nat.reduceBEq,Nat.reduceEqDiff,Nat.reduceAdd,Nat.reduceLeDiff,reduceCtorEq,Nat.reduceMul]
      exact fun i a hi => hall i a (List.getElem?_eq_some_iff.1 hi).1 hi
  simp only [fxa,fxc,fxE,fxL,fxI,nxE,evO,evR,cellsT,ldCells,mkT,lenA,binPV,Env.init,resV,resT,frT,klT,ownT,intT,O.adds,ownA,rowsA,over,wrOk,keysT,keysA,ne_eq,if_true,if_false,ite_self,Nat.reduceLT,Nat.reduceSub,Nat.reduceBEq,Nat.reduceEqDiff,Nat.reduceAdd,Nat.reduceLeDiff,reduceCtorEq,Nat.reduceMul]
  exact ⟨hA.1,hA.2.1,hA.2.2.1,hA.2.2.2.1,hA.2.2.2.2,hB.1,hB.2,hC.1,hC.2.1,hC.2.2.1,hC.2.2.2,hM⟩
end Go.Proofs.Ytkpfjolcmkikeaa
end
section
set_option linter.unusedSimpArgs false
set_option linter.unusedVariables false
set_option maxHeartbeats 4000000
set_option maxRecDepth 10000
namespace Go.Proofs.Ytkpfjolcmkikeaa
open Go.Fx
structure Nt.Good (n : Nt) : Prop where
  cap1 : 1 ≤ n.cap
  cap2 : n.cap ≤ 4000
  ln1 : 1 ≤ (n.ns.length : Int)
  ln2 : (n.ns.length : Int) ≤ n.cap
  last : (n.nd (n.ns.length - 1)).k ≠ 0
  nds : ∀ (i : Nat) (x : Nd),n.ns[i]? = some x → x.may ∧ (x.to.length : Int) = x.ports ∧ ((i : Int) = 0 ↔ x.k = 1) ∧
    ∀ (j : Nat) (q : Pt),x.to[j]? = some q → q ≠ ⟨i,j⟩ ∧ n.has q = true ∧ n.lk q = ⟨i,j⟩
def RE (P : Prop) (r : PT) : Prop := r = .a (.i .i64 (if bool P = true then 0 else 120))
theorem RE_0 (P : Prop) : RE P (.a (.i .i64 0)) = P := by
  unfold RE
  by_cases h : P
  · rw [bool_t h]; simp [h]
  · rw [bool_f h]; simp [h]
theorem RE_120 (P : Prop) : RE P (.a (.i .i64 120)) = ¬ P := by
  unfold RE
  by_cases h : P
  · rw [bool_t h]; simp [h]
  · rw [bool_f h]; simp [h]
end Go.Proofs.Ytkpfjolcmkikeaa
end
section
set_option linter.unusedSimpArgs false
set_option linter.unusedVariables false
set_option maxHeartbeats 4000000
set_option maxRecDepth 10000
namespace Go.Proofs.Ytkpfjolcmkikeaa
open Go.Fx
theorem in_ok (a b c : Int) : eP S 74 [.a (.i .i64 a),.a (.i .i64 b),.a (.i .i64 c)] = some (.a (.b (decide (a ≥ b) && decide (a ≤ c)))) := by
  refine x_fn (orcS (by decide)) (fc := F74) rfl rfl ?_
  by_cases h : a ≥ b
  · simp only [F74,h,fxa,fxc,fxE,fxL,fxI,nxE,evO,evR,cellsT,ldCells,mkT,lenA,binPV,Env.init,resV,resT,frT,klT,ownT,intT,O.adds,ownA,rowsA,over,wrOk,keysT,keysA,ne_eq,if_true,if_false,ite_self,Nat.reduceLT,Nat.reduceSub,Nat.reduceBEq,Nat.reduceEqDiff,Nat.reduceAdd,Nat.reduceLeDiff,reduceCtorEq,Nat.reduceMul]
  · simp only [F74,h,fxa,fxc,fxE,fxL,fxI,nxE,evO,evR,cellsT,ldCells,mkT,lenA,binPV,Env.init,resV,resT,frT,klT,ownT,intT,O.adds,ownA,rowsA,over,wrOk,keysT,keysA,ne_eq,if_true,if_false,ite_self,Nat.reduceLT,Nat.reduceSub,Nat.reduceBEq,Nat.reduceEqDiff,Nat.reduceAdd,Nat.reduceLeDiff,reduceCtorEq,Nat.reduceMul]
theorem in_is {a b c : Int} (h : b ≤ a ∧ a ≤ c) : eP S 74 [.a (.i .i64 a),.a (.i .i64 b),.a (.i .i64 c)] = some (.a (.b true)) := by
  rw [in_ok,decide_eq_true (h.1 : a ≥ b),decide_eq_true h.2]; rfl
theorem in_no {a b c : Int} (h : ¬ (b ≤ a ∧ a ≤ c)) : eP S 74 [.a (.i .i64 a),.a (.i .i64 b),.a (.i .i64 c)] = some (.a (.b false)) := by
  rw [in_ok]
  have : (decide (a ≥ b) && decide (a ≤ c)) = false := by
    rw [Bool.and_eq_false_iff,decide_eq_false_iff_not,decide_eq_false_iff_not]; omega
  rw [this]
def usedL (l : List Nd) : Int := (l.countP fun x => decide (x.k ≠ 0) : Nat)
def Nt.used (n : Nt) : Int := usedL n.ns
theorem usedL_take {l : List Nd} {i : Nat} {x : Nd} (h : l[i]? = some x) : usedL (l.take (i + 1)) = usedL (l.take i) + (if x.k = 0 then 0 else 1) := by
  unfold usedL
  rw [List.take_add_one,h]
  simp only [Option.toList_some,List.countP_append,List.countP_cons,List.countP_nil]
  by_cases hk : x.k = 0
  · simp [hk]
  · simp [hk]
theorem usedL_le (l : List Nd) : 0 ≤ usedL l ∧ usedL l ≤ l.length := by
  unfold usedL
  have := List.countP_le_length (p := fun x : Nd => decide (x.k ≠ 0)) (l := l)
  omega
theorem RUsed_ok {n : Nt} (hn : n.Ok) : eP S 26 [.g (encT n)] = some (.a (.i .i64 n.used)) := by
  refine x_fn (orcS (by decide)) (fc := F26) rfl rfl ?_
  have hns := hn.ns
  simp only [F26,fxa,fxc,fxE,fxL,fxI,nxE,evO,evR,cellsT,ldCells,mkT,lenA,binPV,Env.init,resV,resT,frT,klT,ownT,intT,O.adds,ownA,rowsA,over,wrOk,keysT,keysA,ne_eq,if_true,if_false,ite_self,Nat.reduceLT,Nat.reduceSub,Nat.reduceBEq,Nat.reduceEqDiff,Nat.reduceAdd,Nat.reduceLeDiff,reduceCtorEq,Nat.reduceMul]
  refine loop_nat n.ns.length (fun i e σ => e 1 = .a (.ptr (1,0) 0 0) ∧ e 4 = .a (.p (.i .i64 (i : Nat))) ∧ e 3 = .a (.p (.i .i64 (usedL (n.ns.take i)))) ∧ σ.bs (1,0) = some (.var ((encT n).map .p))) (i0 := 0) (Nat.zero_le _) ?_ ?_ ?_
  · refine ⟨?_,?_,?_,?_⟩ <;> simp only [fxa,fxc,fxE,fxL,fxI,nxE,evO,evR,cellsT,ldCells,mkT,lenA,binPV,Env.init,resV,resT,frT,klT,ownT,intT,O.adds,ownA,rowsA,over,wrOk,keysT,keysA,ne_eq,if_true,if_false,ite_self,Nat.reduceLT,Nat.reduceSub,Nat.reduceBEq,Nat.reduceEqDiff,Nat.reduceAdd,Nat.reduceLeDiff,reduceCtorEq,Nat.reduceMul]
    all_goals rfl
  · rintro i e σ hi ⟨e1,e4,e3,s1⟩
    obtain ⟨x,hx⟩ : ∃ x,n.ns[i]? = some x := ⟨_,List.getElem?_eq_getElem hi⟩
    have hx' := mapGet encN hx
    have hlt : ((i : Nat) : Int) < (n.ns.length : Int) := by omega
    have hge : (0 : Int) ≤ ((i : Nat) : Int) := by omega
    have hu := usedL_take hx
    have hb := usedL_le (n.ns.take i)
    simp only [List.length_take] at hb
    simp only [encT,List.map_cons,List.map_nil] at s1
    by_cases hk : x.k = 0
    · rw [if_pos hk,Int.add_zero] at hu
      simp only [F26b0,e1,e4,e3,s1,hlt,hge,hx',hk,hu,fxa,fxc,fxE,fxL,fxI,nxE,evO,evR,cellsT,ldCells,mkT,lenA,binPV,Env.init,resV,resT,frT,klT,ownT,intT,O.adds,ownA,rowsA,over,wrOk,keysT,keysA,ne_eq,if_true,if_false,ite_self,Nat.reduceLT,Nat.reduceSub,Nat.reduceBEq,Nat.reduceEqDiff,Nat.reduceAdd,Nat.reduceLeDiff,reduceCtorEq,Nat.reduceMul]
      rw [wrap_succ i (by omega)]
    · rw [if_neg hk] at hu
      have hw : IntKind.i64.wrap (usedL (n.ns.take i) + 1) = usedL (n.ns.take i) + 1 := wrap_in _ (by omega)
      simp only [F26b0,e1,e4,e3,s1,hlt,hge,hx',hk,hu,hw,fxa,fxc,fxE,fxL,fxI,nxE,evO,evR,cellsT,ldCells,mkT,lenA,binPV,Env.init,resV,resT,frT,klT,ownT,intT,O.adds,ownA,rowsA,over,wrOk,keysT,keysA,ne_eq,if_true,if_false,ite_self,Nat.reduceLT,Nat.reduceSub,Nat.reduceBEq,Nat.reduceEqDiff,Nat.reduceAdd,Nat.reduceLeDiff,reduceCtorEq,Nat.reduceMul]
      rw [wrap_succ i (by omega)]
  · rintro e σ ⟨e1,e4,e3,s1⟩
    have hlt : ¬ ((n.ns.length : Nat) : Int) < (n.ns.length : Int) := by omega
    rw [List.take_length] at e3
    simp only [encT,List.map_cons,List.map_nil] at s1
    simp only [F26b0,e1,e4,e3,s1,hlt,Nt.used,fxa,fxc,fxE,fxL,fxI,nxE,evO,evR,cellsT,ldCells,mkT,lenA,binPV,Env.init,resV,resT,frT,klT,ownT,intT,O.adds,ownA,rowsA,over,wrOk,keysT,keysA,ne_eq,if_true,if_false,ite_self,Nat.reduceLT,Nat.reduceSub,Nat.reduceBEq,Nat.reduceEqDiff,Nat.reduceAdd,Nat.reduceLeDiff,reduceCtorEq,Nat.reduceMul]
theorem sfixed_ok : eP S 114 [] = some (.g [.i .i64 0,.i .i64 1,.i .i64 3,.i .i64 3,.i .i64 3,.i .i64 2,.i .i64 2,.i .i64 1,.i .i64 0,.i .i64 0,.i .i64 1,.i .i64 3,.i .i64 2,.i .i64 1]) := (eP_some S).2 ⟨3,by kernel_rfl⟩
theorem sPorts_ok {x : Nd} (hx : x.Ok) : eP S 76 [.g (encN x)] = some (.a (.i .i64 x.ports)) := by
  refine x_fn (orcS (by decide)) (fc := F76) rfl rfl ?_
  have hal := hx.al
  have hw : IntKind.i64.wrap (2 + (x.al.length : Int)) = 2 + x.al.length := wrap_in _ (by omega)
  have f := sfixed_ok
  by_cases h8 : x.k = 8
  · have e : x.ports = x.to.length := by unfold Nd.ports; rw [h8]; simp
    rw [e]
    simp only [F76,h8,Int.reduceEq,fxa,fxc,fxE,fxL,fxI,nxE,evO,evR,cellsT,ldCells,mkT,lenA,binPV,Env.init,resV,resT,frT,klT,ownT,intT,O.adds,ownA,rowsA,over,wrOk,keysT,keysA,ne_eq,if_true,if_false,ite_self,Nat.reduceLT,Nat.reduceSub,Nat.reduceBEq,Nat.reduceEqDiff,Nat.reduceAdd,Nat.reduceLeDiff,reduceCtorEq,Nat.reduceMul]
  by_cases h9 : x.k = 9
  · have e : x.ports = 2 + x.al.length := by unfold Nd.ports; rw [h9]; simp
    rw [e]
    simp only [F76,h9,hw,Int.reduceEq,fxa,fxc,fxE,fxL,fxI,nxE,evO,evR,cellsT,ldCells,mkT,lenA,binPV,Env.init,resV,resT,frT,klT,ownT,intT,O.adds,ownA,rowsA,over,wrOk,keysT,keysA,ne_eq,if_true,if_false,ite_self,Nat.reduceLT,Nat.reduceSub,Nat.reduceBEq,Nat.reduceEqDiff,Nat.reduceAdd,Nat.reduceLeDiff,reduceCtorEq,Nat.reduceMul]
  by_cases hin : 0 ≤ x.k ∧ x.k ≤ 13
  · have c1 := in_is (a := x.k) (b := 0) (c := 13) hin
    obtain ⟨k,hk⟩ : ∃ k : Nat,x.k = k := ⟨x.k.toNat,by omega⟩
    unfold Nd.ports
    rw [hk] at c1 h8 h9
    have hk13 : k ≤ 13 := by omega
    simp only [F76,hk,h8,h9,c1,f,fxa,fxc,fxE,fxL,fxI,nxE,evO,evR,cellsT,ldCells,mkT,lenA,binPV,Env.init,resV,resT,frT,klT,ownT,intT,O.adds,ownA,rowsA,over,wrOk,keysT,keysA,ne_eq,if_true,if_false,ite_self,Nat.reduceLT,Nat.reduceSub,Nat.reduceBEq,Nat.reduceEqDiff,Nat.reduceAdd,Nat.reduceLeDiff,reduceCtorEq,Nat.reduceMul]
    have : k = 0 ∨ k = 1 ∨ k = 2 ∨ k = 3 ∨ k = 4 ∨ k = 5 ∨ k = 6 ∨ k = 7 ∨ k = 10 ∨ k = 11 ∨ k = 12 ∨ k = 13 := by omega
    rcases this with rfl | rfl | rfl | rfl | rfl | rfl | rfl | rfl | rfl | rfl | rfl | rfl <;> simp only [Int.reduceToNat,Int.reduceEq,Int.reduceLT,Int.reduceLE,Int.cast_ofNat_Int,List.drop_succ_cons,List.drop_zero,or_true,true_or,or_false,false_or,or_self,fxa,fxc,fxE,fxL,fxI,nxE,evO,evR,cellsT,ldCells,mkT,lenA,binPV,Env.init,resV,resT,frT,klT,ownT,intT,O.adds,ownA,rowsA,over,wrOk,keysT,keysA,ne_eq,if_true,if_false,ite_self,Nat.reduceLT,Nat.reduceSub,Nat.reduceBEq,Nat.reduceEqDiff,Nat.reduceAdd,Nat.reduceLeDiff,reduceCtorEq,Nat.reduceMul]
  · have c1 := in_no (a := x.k) (b := 0) (c := 13) hin
    have e : x.ports = 0 := by
      unfold Nd.ports
      rw [if_neg (by omega),if_neg (by omega),if_neg (by omega),if_neg (by omega),if_neg (by omega)]
    rw [e]
    simp only [F76,h8,h9,c1,fxa,fxc,fxE,fxL,fxI,nxE,evO,evR,cellsT,ldCells,mkT,lenA,binPV,Env.init,resV,resT,frT,klT,ownT,intT,O.adds,ownA,rowsA,over,wrOk,keysT,keysA,ne_eq,if_true,if_false,ite_self,Nat.reduceLT,Nat.reduceSub,Nat.reduceBEq,Nat.reduceEqDiff,Nat.reduceAdd,Nat.reduceLeDiff,reduceCtorEq,Nat.reduceMul]
theorem alt1_ok (b a : Ar) (k : Key) (σ : St) (hk : σ.bs k = some (.var ((encA a).map .p))) (hlt : k.2 < σ.clk) :
    eS S (.f 141) [.g ((encA b).map .p),.a (.ptr k 0 0)] σ = some (.a (.p (.b (decide (b.s = a.s)))),σ.add 2 (.var ((encA b).map .p))) := by
  have hne : ¬ k = (2,σ.clk) := by rintro rfl; exact Nat.lt_irrefl _ hlt
  simp only [encA,List.map_cons,List.map_nil] at hk
  refine x_fnX (fc := F141) rfl rfl ?_
  simp only [F141,hk,hne,fxa,fxc,fxE,fxL,fxI,nxE,evO,evR,cellsT,ldCells,mkT,lenA,binPV,Env.init,resV,resT,frT,klT,ownT,intT,O.adds,ownA,rowsA,over,wrOk,keysT,keysA,ne_eq,if_true,if_false,ite_self,Nat.reduceLT,Nat.reduceSub,Nat.reduceBEq,Nat.reduceEqDiff,Nat.reduceAdd,Nat.reduceLeDiff,reduceCtorEq,Nat.reduceMul]
theorem indexA_ok (l : List Ar) (hl : l.length * 24 ≤ 140737488355328) (g : FuncId) (caps : List Key) (hc : caps ≠ []) (hsp : spN g = false) (f : Ar → Bool) (R : St → Prop)
    (hR : ∀ p σ,R σ → ∃ σ',eS S (.f g) ([.g ((encA p).map .p)] ++ caps.map fun s => .a (.ptr s 0 0)) σ = some (.a (.p (.b (f p))),σ') ∧ R σ') (σ : St) (h0 : R σ) :
    ∃ σ',eS S (.f 149) [.a (.p (.l (l.map encA))),.a (.fn g caps)] σ = some (.a (.p (.i .i64 (idx f l))),σ') ∧ R σ' := by
  obtain ⟨c1,cr,rfl⟩ : ∃ c1 cr,caps = c1 :: cr := by
    cases caps with
    | nil => exact absurd rfl hc
    | cons c1 cr => exact ⟨c1,cr,rfl⟩
  refine x_fnR (fc := F149) rfl rfl ?_
  simp only [F149,fxa,fxc,fxE,fxL,fxI,nxE,evO,evR,cellsT,ldCells,mkT,lenA,binPV,Env.init,resV,resT,frT,klT,ownT,intT,O.adds,ownA,rowsA,over,wrOk,keysT,keysA,ne_eq,if_true,if_false,ite_self,Nat.reduceLT,Nat.reduceSub,Nat.reduceBEq,Nat.reduceEqDiff,Nat.reduceAdd,Nat.reduceLeDiff,reduceCtorEq,Nat.reduceMul]
  refine loop_nat l.length (fun i e σ => e 0 = .a (.p (.l (l.map encA))) ∧ e 1 = .a (.fn g (c1 :: cr)) ∧ e 7 = .a (.p (.i .i64 l.length)) ∧ e 8 = .a (.p (.i .i64 (i : Nat))) ∧ R σ ∧ ∀ j x,j < i → l[j]? = some x → f x = false) (i0 := 0) (Nat.zero_le _) ?_ ?_ ?_
  · refine ⟨?_,?_,?_,?_,h0,fun j x hj => by omega⟩ <;> simp only [fxa,fxc,fxE,fxL,fxI,nxE,evO,evR,cellsT,ldCells,mkT,lenA,binPV,Env.init,resV,resT,frT,klT,ownT,intT,O.adds,ownA,rowsA,over,wrOk,keysT,keysA,ne_eq,if_true,if_false,ite_self,Nat.reduceLT,Nat.reduceSub,Nat.reduceBEq,Nat.reduceEqDiff,Nat.reduceAdd,Nat.reduceLeDiff,reduceCtorEq,Nat.reduceMul]
    rfl
  · rintro i e σ hi ⟨e0,e1,e7,e8,hRσ,hall⟩
    have hlt : ((i : Nat) : Int) < (l.length : Int) := by omega
    have hge : (0 : Int) ≤ ((i : Nat) : Int) := by omega
    obtain ⟨x,hx⟩ : ∃ x,l[i]? = some x := ⟨_,List.getElem?_eq_getElem hi⟩
    have hx' := mapGet encA hx
    obtain ⟨σ2,hcall,hR2⟩ := hR x σ hRσ
    simp only [encA,List.map_cons,List.map_nil,List.cons_append,List.nil_append] at hcall
    simp only [F149b0,e0,e1,e7,e8,hlt,hge,hx',hsp,hcall,Bool.false_eq_true,fxa,fxc,fxE,fxL,fxI,nxE,evO,evR,cellsT,ldCells,mkT,lenA,binPV,Env.init,resV,resT,frT,klT,ownT,intT,O.adds,ownA,rowsA,over,wrOk,keysT,keysA,ne_eq,if_true,if_false,ite_self,Nat.reduceLT,Nat.reduceSub,Nat.reduceBEq,Nat.reduceEqDiff,Nat.reduceAdd,Nat.reduceLeDiff,reduceCtorEq,Nat.reduceMul]
    refine wpC_split (fun hf => ?_) (fun hf => ?_)
    · simp only [fxa,fxc,fxE,fxL,fxI,nxE,evO,evR,cellsT,ldCells,mkT,lenA,binPV,Env.init,resV,resT,frT,klT,ownT,intT,O.adds,ownA,rowsA,over,wrOk,keysT,keysA,ne_eq,if_true,if_false,ite_self,Nat.reduceLT,Nat.reduceSub,Nat.reduceBEq,Nat.reduceEqDiff,Nat.reduceAdd,Nat.reduceLeDiff,reduceCtorEq,Nat.reduceMul]
      refine ⟨?_,hR2⟩
      have : l.findIdx? f = some i := by
        rw [List.findIdx?_eq_some_iff_getElem]
        refine ⟨hi,?_,fun j hj => ?_⟩
        · rw [List.getElem?_eq_getElem hi] at hx; rw [Option.some.inj hx]; exact hf
        · rw [hall j _ hj (List.getElem?_eq_getElem (by omega))]; simp
      simp only [idx,this]
    · simp only [e0,e1,e7,e8,fxa,fxc,fxE,fxL,fxI,nxE,evO,evR,cellsT,ldCells,mkT,lenA,binPV,Env.init,resV,resT,frT,klT,ownT,intT,O.adds,ownA,rowsA,over,wrOk,keysT,keysA,ne_eq,if_true,if_false,ite_self,Nat.reduceLT,Nat.reduceSub,Nat.reduceBEq,Nat.reduceEqDiff,Nat.reduceAdd,Nat.reduceLeDiff,reduceCtorEq,Nat.reduceMul]
      refine ⟨by rw [wrap_succ i (by omega)],hR2,fun j y hj hy => ?_⟩
      by_cases e : j = i
      · subst e; rw [hx] at hy; rw [← Option.some.inj hy]; exact hf
      · exact hall j y (by omega) hy
  · rintro e σ ⟨e0,e1,e7,e8,hRσ,hall⟩
    have hlt : ¬ ((l.length : Nat) : Int) < (l.length : Int) := by omega
    simp only [F149b0,e0,e1,e7,e8,hlt,fxa,fxc,fxE,fxL,fxI,nxE,evO,evR,cellsT,ldCells,mkT,lenA,binPV,Env.init,resV,resT,frT,klT,ownT,intT,O.adds,ownA,rowsA,over,wrOk,keysT,keysA,ne_eq,if_true,if_false,ite_self,Nat.reduceLT,Nat.reduceSub,Nat.reduceBEq,Nat.reduceEqDiff,Nat.reduceAdd,Nat.reduceLeDiff,reduceCtorEq,Nat.reduceMul]
    refine ⟨?_,hRσ⟩
    have : l.findIdx? f = none := by
      rw [List.findIdx?_eq_none_iff]
      intro x hx
      obtain ⟨j,hj⟩ := List.getElem?_of_mem hx
      exact hall j x (List.getElem?_eq_some_iff.1 hj).1 hj
    simp only [idx,this]
theorem containsA_ok (l : List Ar) (hl : l.length * 24 ≤ 140737488355328) (a : Ar) (k : Key) (R : St → Prop) (hRk : ∀ σ,R σ → σ.bs k = some (.var ((encA a).map .p)) ∧ k.2 < σ.clk) (hRa : ∀ σ b,R σ → R (σ.add 2 b)) (σ : St) (h0 : R σ) :
    ∃ σ',eS S (.f 142) [.a (.p (.l (l.map encA))),.a (.fn 141 [k])] σ = some (.a (.p (.b (l.any fun b => decide (b.s = a.s)))),σ') ∧ R σ' := by
  obtain ⟨σ',h,hR⟩ := indexA_ok l hl 141 [k] (by simp) (by decide) (fun b => decide (b.s = a.s)) R (fun b σ hσ => ⟨_,alt1_ok b a k σ (hRk σ hσ).1 (hRk σ hσ).2,hRa σ _ hσ⟩) σ h0
  refine x_fnR (fc := F142) rfl rfl ?_
  simp only [F142,h,idx_any,fxa,fxc,fxE,fxL,fxI,nxE,evO,evR,cellsT,ldCells,mkT,lenA,binPV,Env.init,resV,resT,frT,klT,ownT,intT,O.adds,ownA,rowsA,over,wrOk,keysT,keysA,ne_eq,if_true,if_false,ite_self,Nat.reduceLT,Nat.reduceSub,Nat.reduceBEq,Nat.reduceEqDiff,Nat.reduceAdd,Nat.reduceLeDiff,reduceCtorEq,Nat.reduceMul]
  exact hR
def altsP (x : Nd) : Prop := (x.k ≠ 9 → x.al.length = 0) ∧ (x.k = 9 → altOk x.al ∧ 1 ≤ (x.al.length : Int) ∧ (x.al.length : Int) ≤ 8)
theorem alts_ok {x : Nd} (hx : x.Ok) : eP S 113 [.g (encN x)] = some (.a (.b (bool (altsP x)))) := by
  refine x_fnB (orcS (by decide)) (fc := F113) rfl rfl ?_
  have hal := hx.al
  by_cases h9 : x.k = 9
  case neg =>
    simp only [F113,h9,fxa,fxc,fxE,fxL,fxI,nxE,evO,evR,cellsT,ldCells,mkT,lenA,binPV,Env.init,resV,resT,frT,klT,ownT,intT,O.adds,ownA,rowsA,over,wrOk,keysT,keysA,ne_eq,if_true,if_false,ite_self,Nat.reduceLT,Nat.reduceSub,Nat.reduceBEq,Nat.reduceEqDiff,Nat.reduceAdd,Nat.reduceLeDiff,reduceCtorEq,Nat.reduceMul]
    rw [decide_eq_true_iff]
    exact ⟨fun h => ⟨fun _ => by omega,fun h2 => absurd h2 h9⟩,fun h => by have := h.1 h9; omega⟩
  simp only [F113,h9,fxa,fxc,fxE,fxL,fxI,nxE,evO,evR,cellsT,ldCells,mkT,lenA,binPV,Env.init,resV,resT,frT,klT,ownT,intT,O.adds,ownA,rowsA,over,wrOk,keysT,keysA,ne_eq,if_true,if_false,ite_self,Nat.reduceLT,Nat.reduceSub,Nat.reduceBEq,Nat.reduceEqDiff,Nat.reduceAdd,Nat.reduceLeDiff,reduceCtorEq,Nat.reduceMul]
  refine loop_nat x.al.length (fun i e σ => e 1 = .a (.ptr (1,0) 0 0) ∧ e 14 = .a (.p (.l (x.al.map encA))) ∧ e 15 = .a (.p (.i .i64 x.al.length)) ∧ e 16 = .a (.p (.i .i64 (i : Nat))) ∧ σ.bs (1,0) = some (.var ((encN x).map .p)) ∧ 1 ≤ σ.clk ∧
    ∀ (m : Nat) (a : Ar),m < i → x.al[m]? = some a → a.s ≠ [] ∧ 0 ≤ a.n ∧ a.n ≤ 8 ∧ ∀ (j : Nat) (b : Ar),j < m → x.al[j]? = some b → b.s ≠ a.s) (i0 := 0) (Nat.zero_le _) ?_ ?_ ?_
  · refine ⟨?_,?_,?_,?_,?_,?_,fun j a hj => by omega⟩ <;> simp only [h9,fxa,fxc,fxE,fxL,fxI,nxE,evO,evR,cellsT,ldCells,mkT,lenA,binPV,Env.init,resV,resT,frT,klT,ownT,intT,O.adds,ownA,rowsA,over,wrOk,keysT,keysA,ne_eq,if_true,if_false,ite_self,Nat.reduceLT,Nat.reduceSub,Nat.reduceBEq,Nat.reduceEqDiff,Nat.reduceAdd,Nat.reduceLeDiff,reduceCtorEq,Nat.reduceMul]
    all_goals first | rfl | omega
  · rintro i e σ hi ⟨e1,e14,e15,e16,s1,hc,hall⟩
    obtain ⟨a,ha⟩ : ∃ a,x.al[i]? = some a := ⟨_,List.getElem?_eq_getElem hi⟩
    have ha' := mapGet encA ha
    have hlt : ((i : Nat) : Int) < (x.al.length : Int) := by omega
    have hle : ((i : Nat) : Int) ≤ (x.al.length : Int) := by omega
    have hge : (0 : Int) ≤ ((i : Nat) : Int) := by omega
    simp only [encN,List.map_cons,List.map_nil] at s1
    have htk : List.take i (x.al.map encA) = (x.al.take i).map encA := List.map_take.symm
    have hall2 : ((x.al.take i).map encA).all (fun r => decide (r.length = 2)) = true := allA _
    by_cases h1 : a.s = []
    · simp only [F113b0,e1,e14,e15,e16,s1,hlt,hle,hge,ha',h1,capsOf,optInt,subRows,htk,hall2,Int.reduceToNat,Nat.sub_zero,Int.toNat_zero,Int.le_refl,List.drop_zero,fxa,fxc,fxE,fxL,fxI,nxE,evO,evR,cellsT,ldCells,mkT,lenA,binPV,Env.init,resV,resT,frT,klT,ownT,intT,O.adds,ownA,rowsA,over,wrOk,keysT,keysA,ne_eq,if_true,if_false,ite_self,Nat.reduceLT,Nat.reduceSub,Nat.reduceBEq,Nat.reduceEqDiff,Nat.reduceAdd,Nat.reduceLeDiff,reduceCtorEq,Nat.reduceMul]
      intro hP; exact ((hP.2 h9).1 i a ha).1 h1
    by_cases h2 : 0 ≤ a.n ∧ a.n ≤ 8
    case neg =>
      have c1 := in_no h2
      simp only [F113b0,e1,e14,e15,e16,s1,hlt,hle,hge,ha',h1,c1,capsOf,optInt,subRows,htk,hall2,Int.reduceToNat,Nat.sub_zero,Int.toNat_zero,Int.le_refl,List.drop_zero,fxa,fxc,fxE,fxL,fxI,nxE,evO,evR,cellsT,ldCells,mkT,lenA,binPV,Env.init,resV,resT,frT,klT,ownT,intT,O.adds,ownA,rowsA,over,wrOk,keysT,keysA,ne_eq,if_true,if_false,ite_self,Nat.reduceLT,Nat.reduceSub,Nat.reduceBEq,Nat.reduceEqDiff,Nat.reduceAdd,Nat.reduceLeDiff,reduceCtorEq,Nat.reduceMul]
      intro hP; have := (hP.2 h9).1 i a ha; omega
    have c1 := in_is h2
    have hne : ∀ d : Nat,∀ s : Key,s.2 < σ.clk → ¬ s = (d,σ.clk) := by rintro d s hs rfl; exact Nat.lt_irrefl _ hs
    obtain ⟨σ0,hσ0⟩ : ∃ σ0,σ0 = ((σ.add 4 (.var [.p (.s []),.p (.i .i64 0)])).put (4,σ.clk) (.var [.p (.s a.s),.p (.i .i64 a.n)])) := ⟨_,rfl⟩
    obtain ⟨σ2,hcall,hR2⟩ := containsA_ok (x.al.take i) (by simp; omega) a (4,σ.clk) (fun σ' => σ'.bs (1,0) = some (.var ((encN x).map .p)) ∧ σ'.bs (4,σ.clk) = some (.var ((encA a).map .p)) ∧ σ.clk < σ'.clk)
      (fun σ' h => ⟨h.2.1,h.2.2⟩) (fun σ' b h => ⟨by simp only [add_bs]; rw [if_neg (by simp)]; exact h.1,by simp only [add_bs]; rw [if_neg (by simp)]; exact h.2.1,by simp only [add_clk]; omega⟩) σ0
      (by rw [hσ0]; refine ⟨?_,?_,?_⟩ <;> simp only [s1,encN,encA,List.map_cons,List.map_nil,fxa,fxc,fxE,fxL,fxI,nxE,evO,evR,cellsT,ldCells,mkT,lenA,binPV,Env.init,resV,resT,frT,klT,ownT,intT,O.adds,ownA,rowsA,over,wrOk,keysT,keysA,ne_eq,if_true,if_false,ite_self,Nat.reduceLT,Nat.reduceSub,Nat.reduceBEq,Nat.reduceEqDiff,Nat.reduceAdd,Nat.reduceLeDiff,reduceCtorEq,Nat.reduceMul])
    simp only [encN,List.map_cons,List.map_nil] at hR2
    rw [hσ0] at hcall
    simp only [F113b0,e1,e14,e15,e16,s1,hlt,hle,hge,ha',h1,c1,capsOf,optInt,subRows,htk,hall2,hcall,Int.reduceToNat,Nat.sub_zero,Int.toNat_zero,Int.le_refl,List.drop_zero,fxa,fxc,fxE,fxL,fxI,nxE,evO,evR,cellsT,ldCells,mkT,lenA,binPV,Env.init,resV,resT,frT,klT,ownT,intT,O.adds,ownA,rowsA,over,wrOk,keysT,keysA,ne_eq,if_true,if_false,ite_self,Nat.reduceLT,Nat.reduceSub,Nat.reduceBEq,Nat.reduceEqDiff,Nat.reduceAdd,Nat.reduceLeDiff,reduceCtorEq,Nat.reduceMul]
    cases hany : (x.al.take i).any fun b => decide (b.s = a.s) with
    | true =>
      simp only [hany,fxa,fxc,fxE,fxL,fxI,nxE,evO,evR,cellsT,ldCells,mkT,lenA,binPV,Env.init,resV,resT,frT,klT,ownT,intT,O.adds,ownA,rowsA,over,wrOk,keysT,keysA,ne_eq,if_true,if_false,ite_self,Nat.reduceLT,Nat.reduceSub,Nat.reduceBEq,Nat.reduceEqDiff,Nat.reduceAdd,Nat.reduceLeDiff,reduceCtorEq,Nat.reduceMul]
      intro hP
      rw [List.any_eq_true] at hany
      obtain ⟨b,hb,hb2⟩ := hany
      obtain ⟨j,hj⟩ := List.getElem?_of_mem hb
      have hjl := (List.getElem?_eq_some_iff.1 hj).1
      simp at hjl
      rw [List.getElem?_take_of_lt (by omega)] at hj
      exact ((hP.2 h9).1 i a ha).2.2.2 j b (by omega) hj (by simpa using hb2)
    | false =>
      simp only [hany,e1,e14,e15,e16,fxa,fxc,fxE,fxL,fxI,nxE,evO,evR,cellsT,ldCells,mkT,lenA,binPV,Env.init,resV,resT,frT,klT,ownT,intT,O.adds,ownA,rowsA,over,wrOk,keysT,keysA,ne_eq,if_true,if_false,ite_self,Nat.reduceLT,Nat.reduceSub,Nat.reduceBEq,Nat.reduceEqDiff,Nat.reduceAdd,Nat.reduceLeDiff,reduceCtorEq,Nat.reduceMul]
      refine ⟨by rw [wrap_succ i (by omega)],hR2.1,by omega,fun m c hm hcc => ?_⟩
      by_cases e : m = i
      · subst e; rw [ha] at hcc; rw [← Option.some.inj hcc]
        refine ⟨h1,h2.1,h2.2,fun j b hj hb hs => ?_⟩
        rw [List.any_eq_false] at hany
        exact hany b (by rw [List.mem_take_iff_getElem]; obtain ⟨hl,hg⟩ := List.getElem?_eq_some_iff.1 hb; exact ⟨j,by omega,hg⟩) (by simpa using hs)
      · exact hall m c (by omega) hcc
  · rintro e σ ⟨e1,e14,e15,e16,s1,hc,hall⟩
    have hlt : ¬ ((x.al.length : Nat) : Int) < (x.al.length : Int) := by omega
    have c1 := in_ok (x.al.length : Int) 1 8
    simp only [encN,List.map_cons,List.map_nil] at s1
    simp only [F113b0,e1,e14,e15,e16,s1,hlt,c1,fxa,fxc,fxE,fxL,fxI,nxE,evO,evR,cellsT,ldCells,mkT,lenA,binPV,Env.init,resV,resT,frT,klT,ownT,intT,O.adds,ownA,rowsA,over,wrOk,keysT,keysA,ne_eq,if_true,if_false,ite_self,Nat.reduceLT,Nat.reduceSub,Nat.reduceBEq,Nat.reduceEqDiff,Nat.reduceAdd,Nat.reduceLeDiff,reduceCtorEq,Nat.reduceMul]
    rw [Bool.and_eq_true,decide_eq_true_eq,decide_eq_true_eq]
    exact ⟨fun h => ⟨fun h2 => absurd h9 h2,fun _ => ⟨fun i a hi => hall i a (List.getElem?_eq_some_iff.1 hi).1 hi,h.1,h.2⟩⟩,fun h => (h.2 h9).2⟩
end Go.Proofs.Ytkpfjolcmkikeaa
end
section
set_option linter.unusedSimpArgs false
set_option linter.unusedVariables false
set_option maxHeartbeats 4000000
set_option maxRecDepth 10000
namespace Go.Proofs.Ytkpfjolcmkikeaa
open Go.Fx
theorem may_iff (x : Nd) : x.may ↔ ((0 ≤ x.k ∧ x.k ≤ 13) ∧ altsP x) ∧ (0 ≤ x.lv ∧ x.lv ≤ (if x.k = 0 ∨ x.k = 1 then 0 else 60)) ∧ (x.s ≠ [] ↔ (x.k = 8 ∨ x.k = 11 ∨ x.k = 12)) ∧ (x.n = 0 ∨ (x.k = 10 ∨ x.k = 12)) ∧ (x.k ≠ 8 ∨ (1 ≤ (x.to.length : Int) ∧ (x.to.length : Int) ≤ 9)) := by
  constructor
  · intro h
    refine ⟨⟨⟨h.k0,h.k1⟩,fun h9 => by have := h.aln h9; omega,fun h9 => ⟨h.alt,h.al9 h9,h.al8⟩⟩,⟨h.lv0,?_⟩,h.nm,?_,?_⟩
    · have := h.lv2; have := h.lv1; split <;> omega
    · have := h.nn; omega
    · have := h.to8; omega
  · rintro ⟨⟨⟨h1,h2⟩,h3,h4⟩,⟨h5,h6⟩,h7,h8,h9⟩
    refine ⟨h1,h2,h5,by split at h6 <;> omega,fun h => by rw [if_pos (by omega)] at h6; exact h6,h7,fun h => by omega,fun h => by omega,fun h => (h4 h).2.1,fun h => by have := h3 h; omega,?_,?_⟩
    · by_cases h : x.k = 9
      · exact (h4 h).2.2
      · have := h3 h; omega
    · by_cases h : x.k = 9
      · exact (h4 h).1
      · have := h3 h
        have : x.al = [] := List.eq_nil_of_length_eq_zero this
        rw [this]; intro i a hi; simp at hi
theorem sNode_ok {x : Nd} (hx : x.Ok) : eP S 75 [.g (encN x)] = some (.a (.b (bool x.may))) := by
  rw [bool_congr (may_iff x)]
  refine x_fnB (orcS (by decide)) (fc := F75) rfl rfl ?_
  have hal := hx.al
  have c0 := alts_ok hx
  simp only [encN] at c0
  unfold F75
  simp only [encN,List.map_cons,List.map_nil,ofPT_g]
  refine x_cutR (NdM x) ?_ fun e σ hM => ?_
  · simp only [fxa,fxc,fxE,fxL,fxI,nxE,evO,evR,cellsT,ldCells,mkT,lenA,binPV,Env.init,resV,resT,frT,klT,ownT,intT,O.adds,ownA,rowsA,over,wrOk,keysT,keysA,ne_eq,if_true,if_false,ite_self,Nat.reduceLT,Nat.reduceSub,Nat.reduceBEq,Nat.reduceEqDiff,Nat.reduceAdd,Nat.reduceLeDiff,reduceCtorEq,Nat.reduceMul]
    exact ⟨by simp only [fxa,fxc,fxE,fxL,fxI,nxE,evO,evR,cellsT,ldCells,mkT,lenA,binPV,Env.init,resV,resT,frT,klT,ownT,intT,O.adds,ownA,rowsA,over,wrOk,keysT,keysA,ne_eq,if_true,if_false,ite_self,Nat.reduceLT,Nat.reduceSub,Nat.reduceBEq,Nat.reduceEqDiff,Nat.reduceAdd,Nat.reduceLeDiff,reduceCtorEq,Nat.reduceMul],by simp only [fxa,fxc,fxE,fxL,fxI,nxE,evO,evR,cellsT,ldCells,mkT,lenA,binPV,Env.init,resV,resT,frT,klT,ownT,intT,O.adds,ownA,rowsA,over,wrOk,keysT,keysA,ne_eq,if_true,if_false,ite_self,Nat.reduceLT,Nat.reduceSub,Nat.reduceBEq,Nat.reduceEqDiff,Nat.reduceAdd,Nat.reduceLeDiff,reduceCtorEq,Nat.reduceMul]⟩
  obtain ⟨e1,s1⟩ := hM
  by_cases hk : 0 ≤ x.k ∧ x.k ≤ 13
  case neg =>
    have c1 := in_no (a := x.k) (b := 0) (c := 13) hk
    simp only [e1,s1,c1,fxa,fxc,fxE,fxL,fxI,nxE,evO,evR,cellsT,ldCells,mkT,lenA,binPV,Env.init,resV,resT,frT,klT,ownT,intT,O.adds,ownA,rowsA,over,wrOk,keysT,keysA,ne_eq,if_true,if_false,ite_self,Nat.reduceLT,Nat.reduceSub,Nat.reduceBEq,Nat.reduceEqDiff,Nat.reduceAdd,Nat.reduceLeDiff,reduceCtorEq,Nat.reduceMul]
    exact fun h => hk h.1.1
  have c1 := in_is (a := x.k) (b := 0) (c := 13) hk
  by_cases ha : altsP x
  case neg =>
    rw [bool_f ha] at c0
    simp only [e1,s1,c1,c0,fxa,fxc,fxE,fxL,fxI,nxE,evO,evR,cellsT,ldCells,mkT,lenA,binPV,Env.init,resV,resT,frT,klT,ownT,intT,O.adds,ownA,rowsA,over,wrOk,keysT,keysA,ne_eq,if_true,if_false,ite_self,Nat.reduceLT,Nat.reduceSub,Nat.reduceBEq,Nat.reduceEqDiff,Nat.reduceAdd,Nat.reduceLeDiff,reduceCtorEq,Nat.reduceMul]
    exact fun h => ha h.1.2
  rw [bool_t ha] at c0
  refine x_cutR (NdM x) ?_ fun e' σ' hM => ?_
  · simp only [e1,s1,c1,c0,fxa,fxc,fxE,fxL,fxI,nxE,evO,evR,cellsT,ldCells,mkT,lenA,binPV,Env.init,resV,resT,frT,klT,ownT,intT,O.adds,ownA,rowsA,over,wrOk,keysT,keysA,ne_eq,if_true,if_false,ite_self,Nat.reduceLT,Nat.reduceSub,Nat.reduceBEq,Nat.reduceEqDiff,Nat.reduceAdd,Nat.reduceLeDiff,reduceCtorEq,Nat.reduceMul]
    exact ⟨by simp only [e1,fxa,fxc,fxE,fxL,fxI,nxE,evO,evR,cellsT,ldCells,mkT,lenA,binPV,Env.init,resV,resT,frT,klT,ownT,intT,O.adds,ownA,rowsA,over,wrOk,keysT,keysA,ne_eq,if_true,if_false,ite_self,Nat.reduceLT,Nat.reduceSub,Nat.reduceBEq,Nat.reduceEqDiff,Nat.reduceAdd,Nat.reduceLeDiff,reduceCtorEq,Nat.reduceMul],by simp only [s1,fxa,fxc,fxE,fxL,fxI,nxE,evO,evR,cellsT,ldCells,mkT,lenA,binPV,Env.init,resV,resT,frT,klT,ownT,intT,O.adds,ownA,rowsA,over,wrOk,keysT,keysA,ne_eq,if_true,if_false,ite_self,Nat.reduceLT,Nat.reduceSub,Nat.reduceBEq,Nat.reduceEqDiff,Nat.reduceAdd,Nat.reduceLeDiff,reduceCtorEq,Nat.reduceMul]⟩
  clear e1 s1
  obtain ⟨e1,s1⟩ := hM
  refine x_cutR (fun e σ => NdM x e σ ∧ e 3 = .a (.p (.b (decide (x.k = 8 ∨ x.k = 11 ∨ x.k = 12))))) ?_ fun e' σ' hM => ?_
  · by_cases k8 : x.k = 8
    · simp only [e1,s1,k8,fxa,fxc,fxE,fxL,fxI,nxE,evO,evR,cellsT,ldCells,mkT,lenA,binPV,Env.init,resV,resT,frT,klT,ownT,intT,O.adds,ownA,rowsA,over,wrOk,keysT,keysA,ne_eq,if_true,if_false,ite_self,Nat.reduceLT,Nat.reduceSub,Nat.reduceBEq,Nat.reduceEqDiff,Nat.reduceAdd,Nat.reduceLeDiff,reduceCtorEq,Nat.reduceMul]
      exact ⟨⟨by simp only [e1,fxa,fxc,fxE,fxL,fxI,nxE,evO,evR,cellsT,ldCells,mkT,lenA,binPV,Env.init,resV,resT,frT,klT,ownT,intT,O.adds,ownA,rowsA,over,wrOk,keysT,keysA,ne_eq,if_true,if_false,ite_self,Nat.reduceLT,Nat.reduceSub,Nat.reduceBEq,Nat.reduceEqDiff,Nat.reduceAdd,Nat.reduceLeDiff,reduceCtorEq,Nat.reduceMul],by simp only [s1,k8,fxa,fxc,fxE,fxL,fxI,nxE,evO,evR,cellsT,ldCells,mkT,lenA,binPV,Env.init,resV,resT,frT,klT,ownT,intT,O.adds,ownA,rowsA,over,wrOk,keysT,keysA,ne_eq,if_true,if_false,ite_self,Nat.reduceLT,Nat.reduceSub,Nat.reduceBEq,Nat.reduceEqDiff,Nat.reduceAdd,Nat.reduceLeDiff,reduceCtorEq,Nat.reduceMul]⟩,by simp [k8]⟩
    by_cases k11 : x.k = 11
    · simp only [e1,s1,k8,k11,Int.reduceEq,fxa,fxc,fxE,fxL,fxI,nxE,evO,evR,cellsT,ldCells,mkT,lenA,binPV,Env.init,resV,resT,frT,klT,ownT,intT,O.adds,ownA,rowsA,over,wrOk,keysT,keysA,ne_eq,if_true,if_false,ite_self,Nat.reduceLT,Nat.reduceSub,Nat.reduceBEq,Nat.reduceEqDiff,Nat.reduceAdd,Nat.reduceLeDiff,reduceCtorEq,Nat.reduceMul]
      exact ⟨⟨by simp only [e1,fxa,fxc,fxE,fxL,fxI,nxE,evO,evR,cellsT,ldCells,mkT,lenA,binPV,Env.init,resV,resT,frT,klT,ownT,intT,O.adds,ownA,rowsA,over,wrOk,keysT,keysA,ne_eq,if_true,if_false,ite_self,Nat.reduceLT,Nat.reduceSub,Nat.reduceBEq,Nat.reduceEqDiff,Nat.reduceAdd,Nat.reduceLeDiff,reduceCtorEq,Nat.reduceMul],by simp only [s1,k11,fxa,fxc,fxE,fxL,fxI,nxE,evO,evR,cellsT,ldCells,mkT,lenA,binPV,Env.init,resV,resT,frT,klT,ownT,intT,O.adds,ownA,rowsA,over,wrOk,keysT,keysA,ne_eq,if_true,if_false,ite_self,Nat.reduceLT,Nat.reduceSub,Nat.reduceBEq,Nat.reduceEqDiff,Nat.reduceAdd,Nat.reduceLeDiff,reduceCtorEq,Nat.reduceMul]⟩,by simp [k11]⟩
    simp only [e1,s1,k8,k11,fxa,fxc,fxE,fxL,fxI,nxE,evO,evR,cellsT,ldCells,mkT,lenA,binPV,Env.init,resV,resT,frT,klT,ownT,intT,O.adds,ownA,rowsA,over,wrOk,keysT,keysA,ne_eq,if_true,if_false,ite_self,Nat.reduceLT,Nat.reduceSub,Nat.reduceBEq,Nat.reduceEqDiff,Nat.reduceAdd,Nat.reduceLeDiff,reduceCtorEq,Nat.reduceMul]
    refine ⟨⟨by simp only [e1,fxa,fxc,fxE,fxL,fxI,nxE,evO,evR,cellsT,ldCells,mkT,lenA,binPV,Env.init,resV,resT,frT,klT,ownT,intT,O.adds,ownA,rowsA,over,wrOk,keysT,keysA,ne_eq,if_true,if_false,ite_self,Nat.reduceLT,Nat.reduceSub,Nat.reduceBEq,Nat.reduceEqDiff,Nat.reduceAdd,Nat.reduceLeDiff,reduceCtorEq,Nat.reduceMul],by simp only [s1,fxa,fxc,fxE,fxL,fxI,nxE,evO,evR,cellsT,ldCells,mkT,lenA,binPV,Env.init,resV,resT,frT,klT,ownT,intT,O.adds,ownA,rowsA,over,wrOk,keysT,keysA,ne_eq,if_true,if_false,ite_self,Nat.reduceLT,Nat.reduceSub,Nat.reduceBEq,Nat.reduceEqDiff,Nat.reduceAdd,Nat.reduceLeDiff,reduceCtorEq,Nat.reduceMul]⟩,?_⟩
    simp [k8,k11]
  clear e1 s1
  obtain ⟨⟨e1,s1⟩,e3⟩ := hM
  refine x_cutR (fun e σ => NdM x e σ ∧ e 3 = .a (.p (.b (decide (x.k = 8 ∨ x.k = 11 ∨ x.k = 12)))) ∧ e 4 = .a (.p (.b (decide (x.k = 10 ∨ x.k = 12))))) ?_ fun e' σ' hM => ?_
  · by_cases k10 : x.k = 10
    · simp only [e1,s1,e3,k10,fxa,fxc,fxE,fxL,fxI,nxE,evO,evR,cellsT,ldCells,mkT,lenA,binPV,Env.init,resV,resT,frT,klT,ownT,intT,O.adds,ownA,rowsA,over,wrOk,keysT,keysA,ne_eq,if_true,if_false,ite_self,Nat.reduceLT,Nat.reduceSub,Nat.reduceBEq,Nat.reduceEqDiff,Nat.reduceAdd,Nat.reduceLeDiff,reduceCtorEq,Nat.reduceMul]
      unfold NdM
      repeat' apply And.intro
      all_goals first | (simp only [e1,s1,e3,k10,fxa,fxc,fxE,fxL,fxI,nxE,evO,evR,cellsT,ldCells,mkT,lenA,binPV,Env.init,resV,resT,frT,klT,ownT,intT,O.adds,ownA,rowsA,over,wrOk,keysT,keysA,ne_eq,if_true,if_false,ite_self,Nat.reduceLT,Nat.reduceSub,Nat.reduceBEq,Nat.reduceEqDiff,Nat.reduceAdd,Nat.reduceLeDiff,reduceCtorEq,Nat.reduceMul]; done) | (simp [put_at,e1,s1,e3,k10]; done)
    simp only [e1,s1,e3,k10,fxa,fxc,fxE,fxL,fxI,nxE,evO,evR,cellsT,ldCells,mkT,lenA,binPV,Env.init,resV,resT,frT,klT,ownT,intT,O.adds,ownA,rowsA,over,wrOk,keysT,keysA,ne_eq,if_true,if_false,ite_self,Nat.reduceLT,Nat.reduceSub,Nat.reduceBEq,Nat.reduceEqDiff,Nat.reduceAdd,Nat.reduceLeDiff,reduceCtorEq,Nat.reduceMul]
    unfold NdM
    repeat' apply And.intro
    all_goals first | (simp only [e1,s1,e3,k10,fxa,fxc,fxE,fxL,fxI,nxE,evO,evR,cellsT,ldCells,mkT,lenA,binPV,Env.init,resV,resT,frT,klT,ownT,intT,O.adds,ownA,rowsA,over,wrOk,keysT,keysA,ne_eq,if_true,if_false,ite_self,Nat.reduceLT,Nat.reduceSub,Nat.reduceBEq,Nat.reduceEqDiff,Nat.reduceAdd,Nat.reduceLeDiff,reduceCtorEq,Nat.reduceMul]; done) | (simp [put_at,e1,s1,e3,k10]; done)
  clear e1 s1 e3
  obtain ⟨⟨e1,s1⟩,e3,e4⟩ := hM
  refine x_cutR (fun e σ => NdM x e σ ∧ e 3 = .a (.p (.b (decide (x.k = 8 ∨ x.k = 11 ∨ x.k = 12)))) ∧ e 4 = .a (.p (.b (decide (x.k = 10 ∨ x.k = 12)))) ∧ e 5 = .a (.p (.i .i64 60))) ?_ fun e' σ' hM => ?_
  · simp only [e1,s1,e3,e4,fxa,fxc,fxE,fxL,fxI,nxE,evO,evR,cellsT,ldCells,mkT,lenA,binPV,Env.init,resV,resT,frT,klT,ownT,intT,O.adds,ownA,rowsA,over,wrOk,keysT,keysA,ne_eq,if_true,if_false,ite_self,Nat.reduceLT,Nat.reduceSub,Nat.reduceBEq,Nat.reduceEqDiff,Nat.reduceAdd,Nat.reduceLeDiff,reduceCtorEq,Nat.reduceMul]
    unfold NdM
    repeat' apply And.intro
    all_goals first | (simp only [e1,s1,e3,e4,fxa,fxc,fxE,fxL,fxI,nxE,evO,evR,cellsT,ldCells,mkT,lenA,binPV,Env.init,resV,resT,frT,klT,ownT,intT,O.adds,ownA,rowsA,over,wrOk,keysT,keysA,ne_eq,if_true,if_false,ite_self,Nat.reduceLT,Nat.reduceSub,Nat.reduceBEq,Nat.reduceEqDiff,Nat.reduceAdd,Nat.reduceLeDiff,reduceCtorEq,Nat.reduceMul]; done) | (simp [put_at,e1,s1,e3,e4]; done)
  clear e1 s1 e3 e4
  obtain ⟨⟨e1,s1⟩,e3,e4,e5⟩ := hM
  refine x_cutR (fun e σ => NdM x e σ ∧ e 3 = .a (.p (.b (decide (x.k = 8 ∨ x.k = 11 ∨ x.k = 12)))) ∧ e 4 = .a (.p (.b (decide (x.k = 10 ∨ x.k = 12)))) ∧ e 5 = .a (.p (.i .i64 (if x.k = 0 ∨ x.k = 1 then 0 else 60)))) ?_ fun e' σ' hM => ?_
  · by_cases k0 : x.k = 0
    · simp only [e1,s1,e3,e4,e5,k0,fxa,fxc,fxE,fxL,fxI,nxE,evO,evR,cellsT,ldCells,mkT,lenA,binPV,Env.init,resV,resT,frT,klT,ownT,intT,O.adds,ownA,rowsA,over,wrOk,keysT,keysA,ne_eq,if_true,if_false,ite_self,Nat.reduceLT,Nat.reduceSub,Nat.reduceBEq,Nat.reduceEqDiff,Nat.reduceAdd,Nat.reduceLeDiff,reduceCtorEq,Nat.reduceMul]
      unfold NdM
      repeat' apply And.intro
      all_goals first | (simp only [e1,s1,e3,e4,e5,k0,fxa,fxc,fxE,fxL,fxI,nxE,evO,evR,cellsT,ldCells,mkT,lenA,binPV,Env.init,resV,resT,frT,klT,ownT,intT,O.adds,ownA,rowsA,over,wrOk,keysT,keysA,ne_eq,if_true,if_false,ite_self,Nat.reduceLT,Nat.reduceSub,Nat.reduceBEq,Nat.reduceEqDiff,Nat.reduceAdd,Nat.reduceLeDiff,reduceCtorEq,Nat.reduceMul]; done) | (simp [put_at,e1,s1,e3,e4,e5,k0]; done)
    by_cases k1 : x.k = 1
    · simp only [e1,s1,e3,e4,e5,k0,k1,Int.reduceEq,fxa,fxc,fxE,fxL,fxI,nxE,evO,evR,cellsT,ldCells,mkT,lenA,binPV,Env.init,resV,resT,frT,klT,ownT,intT,O.adds,ownA,rowsA,over,wrOk,keysT,keysA,ne_eq,if_true,if_false,ite_self,Nat.reduceLT,Nat.reduceSub,Nat.reduceBEq,Nat.reduceEqDiff,Nat.reduceAdd,Nat.reduceLeDiff,reduceCtorEq,Nat.reduceMul]
      unfold NdM
      repeat' apply And.intro
      all_goals first | (simp only [e1,s1,e3,e4,e5,k0,k1,fxa,fxc,fxE,fxL,fxI,nxE,evO,evR,cellsT,ldCells,mkT,lenA,binPV,Env.init,resV,resT,frT,klT,ownT,intT,O.adds,ownA,rowsA,over,wrOk,keysT,keysA,ne_eq,if_true,if_false,ite_self,Nat.reduceLT,Nat.reduceSub,Nat.reduceBEq,Nat.reduceEqDiff,Nat.reduceAdd,Nat.reduceLeDiff,reduceCtorEq,Nat.reduceMul]; done) | (simp [put_at,e1,s1,e3,e4,e5,k0,k1]; done)
    simp only [e1,s1,e3,e4,e5,k0,k1,fxa,fxc,fxE,fxL,fxI,nxE,evO,evR,cellsT,ldCells,mkT,lenA,binPV,Env.init,resV,resT,frT,klT,ownT,intT,O.adds,ownA,rowsA,over,wrOk,keysT,keysA,ne_eq,if_true,if_false,ite_self,Nat.reduceLT,Nat.reduceSub,Nat.reduceBEq,Nat.reduceEqDiff,Nat.reduceAdd,Nat.reduceLeDiff,reduceCtorEq,Nat.reduceMul]
    unfold NdM
    repeat' apply And.intro
    all_goals first | (simp only [e1,s1,e3,e4,e5,k0,k1,fxa,fxc,fxE,fxL,fxI,nxE,evO,evR,cellsT,ldCells,mkT,lenA,binPV,Env.init,resV,resT,frT,klT,ownT,intT,O.adds,ownA,rowsA,over,wrOk,keysT,keysA,ne_eq,if_true,if_false,ite_self,Nat.reduceLT,Nat.reduceSub,Nat.reduceBEq,Nat.reduceEqDiff,Nat.reduceAdd,Nat.reduceLeDiff,reduceCtorEq,Nat.reduceMul]; done) | (simp [put_at,e1,s1,e3,e4,e5,k0,k1]; done)
  clear e1 s1 e3 e4 e5
  obtain ⟨⟨e1,s1⟩,e3,e4,e5⟩ := hM
  obtain ⟨most,hmost⟩ : ∃ z : Int,(if x.k = 0 ∨ x.k = 1 then 0 else 60) = z := ⟨_,rfl⟩
  rw [hmost] at e5 ⊢
  obtain ⟨b3,hb3⟩ : ∃ b : Bool,decide (x.k = 8 ∨ x.k = 11 ∨ x.k = 12) = b := ⟨_,rfl⟩
  obtain ⟨b4,hb4⟩ : ∃ b : Bool,decide (x.k = 10 ∨ x.k = 12) = b := ⟨_,rfl⟩
  rw [hb3] at e3
  rw [hb4] at e4
  obtain ⟨p,hp⟩ : ∃ p : Prop,(((0 ≤ x.k ∧ x.k ≤ 13) ∧ altsP x) ∧ (0 ≤ x.lv ∧ x.lv ≤ most) ∧ (x.s ≠ [] ↔ (x.k = 8 ∨ x.k = 11 ∨ x.k = 12)) ∧ (x.n = 0 ∨ (x.k = 10 ∨ x.k = 12)) ∧ (x.k ≠ 8 ∨ (1 ≤ (x.to.length : Int) ∧ (x.to.length : Int) ≤ 9))) = p := ⟨_,rfl⟩
  have hp1 := hp
  rw [hp]
  by_cases hA : 0 ≤ x.lv ∧ x.lv ≤ most
  case neg =>
    have c2 := in_no hA
    simp only [e1,s1,e3,e4,e5,c2,fxa,fxc,fxE,fxL,fxI,nxE,evO,evR,cellsT,ldCells,mkT,lenA,binPV,Env.init,resV,resT,frT,klT,ownT,intT,O.adds,ownA,rowsA,over,wrOk,keysT,keysA,ne_eq,if_true,if_false,ite_self,Nat.reduceLT,Nat.reduceSub,Nat.reduceBEq,Nat.reduceEqDiff,Nat.reduceAdd,Nat.reduceLeDiff,reduceCtorEq,Nat.reduceMul]
    rw [← hp1]
    exact fun h => hA h.2.1
  have c2 := in_is hA
  by_cases hB : x.s ≠ [] ↔ (x.k = 8 ∨ x.k = 11 ∨ x.k = 12)
  case neg =>
    have hd : ((!decide (x.s = [])) = b3) = False := by
      rw [← hb3]
      refine propext ⟨fun h => hB ?_,fun h => h.elim⟩
      rw [Bool.eq_iff_iff] at h; simpa using h
    simp only [e1,s1,e3,e4,e5,c2,hd,fxa,fxc,fxE,fxL,fxI,nxE,evO,evR,cellsT,ldCells,mkT,lenA,binPV,Env.init,resV,resT,frT,klT,ownT,intT,O.adds,ownA,rowsA,over,wrOk,keysT,keysA,ne_eq,if_true,if_false,ite_self,Nat.reduceLT,Nat.reduceSub,Nat.reduceBEq,Nat.reduceEqDiff,Nat.reduceAdd,Nat.reduceLeDiff,reduceCtorEq,Nat.reduceMul]
    rw [← hp1]
    exact fun h => hB h.2.2.1
  have hd : ((!decide (x.s = [])) = b3) = True := by
    rw [← hb3]
    refine propext ⟨fun _ => trivial,fun _ => ?_⟩
    rw [Bool.eq_iff_iff]; simpa using hB
  by_cases hn : x.n = 0
  · by_cases h8 : x.k = 8
    · have c3 := in_ok (x.to.length : Int) 1 9
      simp only [e1,s1,e3,e4,e5,c2,hd,hn,h8,c3,fxa,fxc,fxE,fxL,fxI,nxE,evO,evR,cellsT,ldCells,mkT,lenA,binPV,Env.init,resV,resT,frT,klT,ownT,intT,O.adds,ownA,rowsA,over,wrOk,keysT,keysA,ne_eq,if_true,if_false,ite_self,Nat.reduceLT,Nat.reduceSub,Nat.reduceBEq,Nat.reduceEqDiff,Nat.reduceAdd,Nat.reduceLeDiff,reduceCtorEq,Nat.reduceMul]
      rw [← hp1,Bool.and_eq_true,decide_eq_true_eq,decide_eq_true_eq]
      exact ⟨fun h => ⟨⟨hk,ha⟩,hA,hB,.inl hn,.inr h⟩,fun h => by have := h.2.2.2.2; omega⟩
    · simp only [e1,s1,e3,e4,e5,c2,hd,hn,h8,fxa,fxc,fxE,fxL,fxI,nxE,evO,evR,cellsT,ldCells,mkT,lenA,binPV,Env.init,resV,resT,frT,klT,ownT,intT,O.adds,ownA,rowsA,over,wrOk,keysT,keysA,ne_eq,if_true,if_false,ite_self,Nat.reduceLT,Nat.reduceSub,Nat.reduceBEq,Nat.reduceEqDiff,Nat.reduceAdd,Nat.reduceLeDiff,reduceCtorEq,Nat.reduceMul]
      rw [← hp1]
      exact ⟨⟨hk,ha⟩,hA,hB,.inl hn,.inl h8⟩
  · by_cases hN : x.k = 10 ∨ x.k = 12
    · have h8 : ¬ x.k = 8 := by omega
      rw [decide_eq_true hN] at hb4; subst hb4
      simp only [e1,s1,e3,e4,e5,c2,hd,hn,h8,fxa,fxc,fxE,fxL,fxI,nxE,evO,evR,cellsT,ldCells,mkT,lenA,binPV,Env.init,resV,resT,frT,klT,ownT,intT,O.adds,ownA,rowsA,over,wrOk,keysT,keysA,ne_eq,if_true,if_false,ite_self,Nat.reduceLT,Nat.reduceSub,Nat.reduceBEq,Nat.reduceEqDiff,Nat.reduceAdd,Nat.reduceLeDiff,reduceCtorEq,Nat.reduceMul]
      rw [← hp1]
      exact ⟨⟨hk,ha⟩,hA,hB,.inr hN,.inl h8⟩
    · rw [decide_eq_false hN] at hb4; subst hb4
      simp only [e1,s1,e3,e4,e5,c2,hd,hn,fxa,fxc,fxE,fxL,fxI,nxE,evO,evR,cellsT,ldCells,mkT,lenA,binPV,Env.init,resV,resT,frT,klT,ownT,intT,O.adds,ownA,rowsA,over,wrOk,keysT,keysA,ne_eq,if_true,if_false,ite_self,Nat.reduceLT,Nat.reduceSub,Nat.reduceBEq,Nat.reduceEqDiff,Nat.reduceAdd,Nat.reduceLeDiff,reduceCtorEq,Nat.reduceMul]
      rw [← hp1]
      rintro ⟨_,_,_,h,_⟩
      rcases h with h | h
      · exact hn h
      · exact hN h
end Go.Proofs.Ytkpfjolcmkikeaa
end
section
set_option linter.unusedSimpArgs false
set_option linter.unusedVariables false
set_option maxHeartbeats 4000000
set_option maxRecDepth 10000
namespace Go.Proofs.Ytkpfjolcmkikeaa
open Go.Fx
def isFree (x : Nd) : Bool := decide (x.k = 0)
def Nt.at (n : Nt) : Nat := match n.ns.findIdx? isFree with | some i => i | none => n.ns.length
def Nd.fresh (x : Nd) : Nd := { x with to := List.replicate x.ports.toNat zP }
def Nt.make (n : Nt) (x : Nd) : Nt := { n with ns := match n.ns.findIdx? isFree with | some i => n.ns.set i x.fresh | none => n.ns ++ [x.fresh] }
noncomputable def makeR (n : Nt) (x : Nd) : Nt × Int × Int :=
  if (x.k = 0 ∨ x.k = 1) ∨ bool x.may = false then (n,0,122) else if n.used ≥ n.cap then (n,0,121) else (n.make x,n.at,0)
theorem ports_b {x : Nd} (hx : x.Ok) : 0 ≤ x.ports ∧ x.ports * 16 ≤ 140737488355328 := by
  have h1 := hx.to
  have h2 := hx.al
  unfold Nd.ports
  repeat' split
  all_goals omega
end Go.Proofs.Ytkpfjolcmkikeaa
end
section
set_option linter.unusedSimpArgs false
set_option linter.unusedVariables false
set_option maxHeartbeats 4000000
set_option maxRecDepth 10000
namespace Go.Proofs.Ytkpfjolcmkikeaa
open Go.Fx
def tl (l : List Nd) : Nat → Nat
  | 0 => 0
  | k + 1 => if isFree (l.getD k zN) then tl l k else k + 1
def trim (l : List Nd) : List Nd := l.take (tl l l.length)
def Nt.free (n : Nt) (i : Int) : Nt := { n with ns := trim (n.ns.set i.toNat zN) }
def freeR (n : Nt) (i : Int) : Nt × Int := if 0 ≤ i ∧ i ≤ (n.ns.length : Int) - 1 ∧ (n.nd i).k ≠ 0 then (n.free i,0) else (n,122)
def rootN : Nd := ⟨1,0,0,[],[],[⟨1,0⟩]⟩
end Go.Proofs.Ytkpfjolcmkikeaa
end
section
set_option linter.unusedSimpArgs false
set_option linter.unusedVariables false
set_option maxHeartbeats 4000000
set_option maxRecDepth 10000
namespace Go.Proofs.Ytkpfjolcmkikeaa
open Go.Fx
theorem linked_ok {n : Nt} (hn : n.Ok) {i j : Nat} {x : Nd} (hx : n.ns[i]? = some x) {q : Pt} (hq : x.to[j]? = some q) :
    eP S 77 [.g (encT n),.g [.i .i64 (i : Nat),.i .i64 (j : Nat)]] = some (.a (.b (bool (q ≠ ⟨i,j⟩ ∧ n.has q = true ∧ n.lk q = ⟨i,j⟩)))) := by
  obtain ⟨p,hp⟩ : ∃ p : Prop,(q ≠ ⟨i,j⟩ ∧ n.has q = true ∧ n.lk q = ⟨i,j⟩) = p := ⟨_,rfl⟩
  rw [hp]
  refine x_fnB (orcS (by decide)) (fc := F77) rfl rfl ?_
  have hns := hn.ns
  have hx' := mapGet encN hx
  have hq' := mapGet encP hq
  have hi := (List.getElem?_eq_some_iff.1 hx).1
  have hj := (List.getElem?_eq_some_iff.1 hq).1
  have hlt1 : ((i : Nat) : Int) < (n.ns.length : Int) := by omega
  have hge1 : (0 : Int) ≤ ((i : Nat) : Int) := by omega
  have hlt2 : ((j : Nat) : Int) < (x.to.length : Int) := by omega
  have hge2 : (0 : Int) ≤ ((j : Nat) : Int) := by omega
  have hw0 : IntKind.i64.wrap ((n.ns.length : Int) - 1) = (n.ns.length : Int) - 1 := wrap_in _ (by omega)
  by_cases m1 : q = ⟨i,j⟩
  · have hd : (decide (q.n = (i : Int)) && decide (q.s = (j : Int))) = true := by rw [m1]; simp
    simp only [F77,hlt1,hge1,hx',hlt2,hge2,hq',hd,fxa,fxc,fxE,fxL,fxI,nxE,evO,evR,cellsT,ldCells,mkT,lenA,binPV,Env.init,resV,resT,frT,klT,ownT,intT,O.adds,ownA,rowsA,over,wrOk,keysT,keysA,ne_eq,if_true,if_false,ite_self,Nat.reduceLT,Nat.reduceSub,Nat.reduceBEq,Nat.reduceEqDiff,Nat.reduceAdd,Nat.reduceLeDiff,reduceCtorEq,Nat.reduceMul]
    rw [← hp]; exact fun h => h.1 m1
  have hd : (decide (q.n = (i : Int)) && decide (q.s = (j : Int))) = false := by
    have := ptEq q ⟨i,j⟩; rw [this]; simpa using m1
  by_cases m2 : 0 ≤ q.n ∧ q.n ≤ (n.ns.length : Int) - 1
  case neg =>
    have c1 := in_no m2
    simp only [F77,hlt1,hge1,hx',hlt2,hge2,hq',hd,hw0,c1,fxa,fxc,fxE,fxL,fxI,nxE,evO,evR,cellsT,ldCells,mkT,lenA,binPV,Env.init,resV,resT,frT,klT,ownT,intT,O.adds,ownA,rowsA,over,wrOk,keysT,keysA,ne_eq,if_true,if_false,ite_self,Nat.reduceLT,Nat.reduceSub,Nat.reduceBEq,Nat.reduceEqDiff,Nat.reduceAdd,Nat.reduceLeDiff,reduceCtorEq,Nat.reduceMul]
    rw [← hp]; intro h; have := has_iff.1 h.2.1; omega
  have c1 := in_is m2
  have g1 := getN (l := n.ns) m2.1 (by omega)
  have hlt3 : q.n < (n.ns.length : Int) := by omega
  have hge3 := m2.1
  have hzo := hn.nd _ (nd_mem m2.1 hlt3)
  obtain ⟨z,hz⟩ : ∃ z,n.nd q.n = z := ⟨_,rfl⟩
  rw [hz] at hzo
  have hz2 : n.ns.getD q.n.toNat zN = z := hz
  rw [hz2] at g1
  have hzt := hzo.to
  have hw1 : IntKind.i64.wrap ((z.to.length : Int) - 1) = (z.to.length : Int) - 1 := wrap_in _ (by omega)
  by_cases m3 : 0 ≤ q.s ∧ q.s ≤ (z.to.length : Int) - 1
  case neg =>
    have c2 := in_no m3
    simp only [F77,hlt1,hge1,hx',hlt2,hge2,hq',hd,hw0,c1,hlt3,hge3,g1,hw1,c2,fxa,fxc,fxE,fxL,fxI,nxE,evO,evR,cellsT,ldCells,mkT,lenA,binPV,Env.init,resV,resT,frT,klT,ownT,intT,O.adds,ownA,rowsA,over,wrOk,keysT,keysA,ne_eq,if_true,if_false,ite_self,Nat.reduceLT,Nat.reduceSub,Nat.reduceBEq,Nat.reduceEqDiff,Nat.reduceAdd,Nat.reduceLeDiff,reduceCtorEq,Nat.reduceMul]
    rw [← hp]; intro h; have := has_iff.1 h.2.1; rw [hz] at this; omega
  have c2 := in_is m3
  have g2 := getP (l := z.to) m3.1 (by omega)
  have hlt4 : q.s < (z.to.length : Int) := by omega
  have hge4 := m3.1
  obtain ⟨y,hy⟩ : ∃ y,z.to.getD q.s.toNat zP = y := ⟨_,rfl⟩
  rw [hy] at g2
  have hlk : n.lk q = y := by unfold Nt.lk Nd.tt; rw [hz]; exact hy
  have hhas : n.has q = true := has_iff.2 ⟨hge3,hlt3,hge4,by rw [hz]; exact hlt4⟩
  have hP : (decide (y.n = (i : Int)) && decide (y.s = (j : Int))) = true ↔ p := by
    have := ptEq y ⟨i,j⟩
    rw [this,decide_eq_true_eq,← hp,hlk]
    simp only [hhas,m1,ne_eq,not_false_eq_true,true_and]
  simp only [F77,hlt1,hge1,hx',hlt2,hge2,hq',hd,hw0,c1,hlt3,hge3,g1,hw1,c2,hlt4,hge4,g2,fxa,fxc,fxE,fxL,fxI,nxE,evO,evR,cellsT,ldCells,mkT,lenA,binPV,Env.init,resV,resT,frT,klT,ownT,intT,O.adds,ownA,rowsA,over,wrOk,keysT,keysA,ne_eq,if_true,if_false,ite_self,Nat.reduceLT,Nat.reduceSub,Nat.reduceBEq,Nat.reduceEqDiff,Nat.reduceAdd,Nat.reduceLeDiff,reduceCtorEq,Nat.reduceMul]
  exact hP
theorem sCheck_ok {n : Nt} (hn : n.Ok) : eP S 52 [.g (encT n)] = some (.a (.i .i64 (if bool n.Good = true then 0 else 120))) := by
  obtain ⟨r,h1,h2⟩ := x_fnE (S := S) (g := 52) (orcS (by decide)) (fc := F52) rfl (ps := [.g (encT n)]) rfl (K := RE n.Good) (by
    have hns := hn.ns
    have hw : IntKind.i64.wrap ((n.ns.length : Int) - 1) = n.ns.length - 1 := wrap_in _ (by omega)
    have hw1 : IntKind.i64.wrap ((n.ns.length : Int) - 1 + 1) = n.ns.length := by rw [wrap_in _ (by omega)]; omega
    by_cases h1 : 1 ≤ n.cap ∧ n.cap ≤ 4000
    case neg =>
      have c1 := in_no h1
      simp only [F52,hw,hw1,c1,RE_120,fxa,fxc,fxE,fxL,fxI,nxE,evO,evR,cellsT,ldCells,mkT,lenA,binPV,Env.init,resV,resT,frT,klT,ownT,intT,O.adds,ownA,rowsA,over,wrOk,keysT,keysA,ne_eq,if_true,if_false,ite_self,Nat.reduceLT,Nat.reduceSub,Nat.reduceBEq,Nat.reduceEqDiff,Nat.reduceAdd,Nat.reduceLeDiff,reduceCtorEq,Nat.reduceMul]; intro hG; exact h1 ⟨hG.cap1,hG.cap2⟩
    have c1 := in_is h1
    by_cases h3 : 1 ≤ (n.ns.length : Int) ∧ (n.ns.length : Int) ≤ n.cap
    case neg =>
      have c2 := in_no h3
      simp only [F52,hw,hw1,c1,c2,RE_120,fxa,fxc,fxE,fxL,fxI,nxE,evO,evR,cellsT,ldCells,mkT,lenA,binPV,Env.init,resV,resT,frT,klT,ownT,intT,O.adds,ownA,rowsA,over,wrOk,keysT,keysA,ne_eq,if_true,if_false,ite_self,Nat.reduceLT,Nat.reduceSub,Nat.reduceBEq,Nat.reduceEqDiff,Nat.reduceAdd,Nat.reduceLeDiff,reduceCtorEq,Nat.reduceMul]; intro hG; exact h3 ⟨hG.ln1,hG.ln2⟩
    have c2 := in_is h3
    have g := getN (l := n.ns) (i := (n.ns.length : Int) - 1) (by omega) (by omega)
    have hge0 : 0 ≤ (n.ns.length : Int) - 1 := by omega
    have hlt0 : (n.ns.length : Int) - 1 < n.ns.length := by omega
    by_cases h5 : (n.nd (n.ns.length - 1)).k = 0
    · unfold Nt.nd at h5
      simp only [F52,hw,hw1,c1,c2,h5,g,hge0,hlt0,RE_120,fxa,fxc,fxE,fxL,fxI,nxE,evO,evR,cellsT,ldCells,mkT,lenA,binPV,Env.init,resV,resT,frT,klT,ownT,intT,O.adds,ownA,rowsA,over,wrOk,keysT,keysA,ne_eq,if_true,if_false,ite_self,Nat.reduceLT,Nat.reduceSub,Nat.reduceBEq,Nat.reduceEqDiff,Nat.reduceAdd,Nat.reduceLeDiff,reduceCtorEq,Nat.reduceMul]; intro hG; exact hG.last h5
    have h5' := h5
    unfold Nt.nd at h5'
    simp only [F52,hw,hw1,c1,c2,h5',g,hge0,hlt0,fxa,fxc,fxE,fxL,fxI,nxE,evO,evR,cellsT,ldCells,mkT,lenA,binPV,Env.init,resV,resT,frT,klT,ownT,intT,O.adds,ownA,rowsA,over,wrOk,keysT,keysA,ne_eq,if_true,if_false,ite_self,Nat.reduceLT,Nat.reduceSub,Nat.reduceBEq,Nat.reduceEqDiff,Nat.reduceAdd,Nat.reduceLeDiff,reduceCtorEq,Nat.reduceMul]
    refine loop_nat n.ns.length (fun i e σ => e 1 = .a (.ptr (1,0) 0 0) ∧ e 33 = .a (.p (.l (n.ns.map encN))) ∧ e 34 = .a (.p (.i .i64 n.ns.length)) ∧ e 35 = .a (.p (.i .i64 (i : Nat))) ∧ σ.bs (1,0) = some (.var ((encT n).map .p)) ∧ 0 < σ.clk ∧
      ∀ (m : Nat) (x : Nd),m < i → n.ns[m]? = some x → x.may ∧ (x.to.length : Int) = x.ports ∧ ((m : Int) = 0 ↔ x.k = 1) ∧ ∀ (j : Nat) (q : Pt),x.to[j]? = some q → q ≠ ⟨m,j⟩ ∧ n.has q = true ∧ n.lk q = ⟨m,j⟩) (i0 := 0) (Nat.zero_le _) ?_ ?_ ?_
    · refine ⟨?_,?_,?_,?_,?_,?_,fun m x hm => by omega⟩ <;> simp only [fxa,fxc,fxE,fxL,fxI,nxE,evO,evR,cellsT,ldCells,mkT,lenA,binPV,Env.init,resV,resT,frT,klT,ownT,intT,O.adds,ownA,rowsA,over,wrOk,keysT,keysA,ne_eq,if_true,if_false,ite_self,Nat.reduceLT,Nat.reduceSub,Nat.reduceBEq,Nat.reduceEqDiff,Nat.reduceAdd,Nat.reduceLeDiff,reduceCtorEq,Nat.reduceMul]
      all_goals first | rfl | omega
    · rintro i e σ hi ⟨e1,e33,e34,e35,s1,hc,hall⟩
      obtain ⟨x,hx⟩ : ∃ x,n.ns[i]? = some x := ⟨_,List.getElem?_eq_getElem hi⟩
      have hx' := mapGet encN hx
      have hlt : ((i : Nat) : Int) < (n.ns.length : Int) := by omega
      have hge : (0 : Int) ≤ ((i : Nat) : Int) := by omega
      have hxo := hn.nd x (List.mem_of_getElem? hx)
      have hto := hxo.to
      have c1 := sNode_ok hxo
      have c2 := sPorts_ok hxo
      have hne : ¬ ((1,0) : Key) = (5,σ.clk) := by simp
      simp only [encN] at c1 c2
      simp only [encT,List.map_cons,List.map_nil] at s1
      by_cases k1 : x.may
      case neg =>
        rw [bool_f k1] at c1
        simp only [F52b0,e1,e33,e34,e35,s1,hlt,hge,hx',c1,RE_120,fxa,fxc,fxE,fxL,fxI,nxE,evO,evR,cellsT,ldCells,mkT,lenA,binPV,Env.init,resV,resT,frT,klT,ownT,intT,O.adds,ownA,rowsA,over,wrOk,keysT,keysA,ne_eq,if_true,if_false,ite_self,Nat.reduceLT,Nat.reduceSub,Nat.reduceBEq,Nat.reduceEqDiff,Nat.reduceAdd,Nat.reduceLeDiff,reduceCtorEq,Nat.reduceMul]
        intro hG; exact k1 (hG.nds i x hx).1
      rw [bool_t k1] at c1
      by_cases k2 : (x.to.length : Int) = x.ports
      case neg =>
        simp only [F52b0,e1,e33,e34,e35,s1,hlt,hge,hx',c1,c2,k2,RE_120,fxa,fxc,fxE,fxL,fxI,nxE,evO,evR,cellsT,ldCells,mkT,lenA,binPV,Env.init,resV,resT,frT,klT,ownT,intT,O.adds,ownA,rowsA,over,wrOk,keysT,keysA,ne_eq,if_true,if_false,ite_self,Nat.reduceLT,Nat.reduceSub,Nat.reduceBEq,Nat.reduceEqDiff,Nat.reduceAdd,Nat.reduceLeDiff,reduceCtorEq,Nat.reduceMul]
        intro hG; exact k2 (hG.nds i x hx).2.1
      by_cases k3 : (((i : Nat) : Int) = 0 ↔ x.k = 1)
      case neg =>
        have hd : (decide (x.k = 1) = decide (((i : Nat) : Int) = 0)) = False := by simp only [decide_eq_decide,eq_iff_iff,iff_false]; exact fun h => k3 h.symm
        simp only [F52b0,e1,e33,e34,e35,s1,hlt,hge,hx',c1,c2,k2,hd,RE_120,fxa,fxc,fxE,fxL,fxI,nxE,evO,evR,cellsT,ldCells,mkT,lenA,binPV,Env.init,resV,resT,frT,klT,ownT,intT,O.adds,ownA,rowsA,over,wrOk,keysT,keysA,ne_eq,if_true,if_false,ite_self,Nat.reduceLT,Nat.reduceSub,Nat.reduceBEq,Nat.reduceEqDiff,Nat.reduceAdd,Nat.reduceLeDiff,reduceCtorEq,Nat.reduceMul]
        intro hG; exact k3 (hG.nds i x hx).2.2.1
      have hd : (decide (x.k = 1) = decide (((i : Nat) : Int) = 0)) = True := by simp only [decide_eq_decide,eq_iff_iff,iff_true]; exact k3.symm
      simp only [F52b0,e1,e33,e34,e35,s1,hlt,hge,hx',c1,c2,k2,hd,fxa,fxc,fxE,fxL,fxI,nxE,evO,evR,cellsT,ldCells,mkT,lenA,binPV,Env.init,resV,resT,frT,klT,ownT,intT,O.adds,ownA,rowsA,over,wrOk,keysT,keysA,ne_eq,if_true,if_false,ite_self,Nat.reduceLT,Nat.reduceSub,Nat.reduceBEq,Nat.reduceEqDiff,Nat.reduceAdd,Nat.reduceLeDiff,reduceCtorEq,Nat.reduceMul]
      refine loop_nat x.to.length (fun j e σ' => e 1 = .a (.ptr (1,0) 0 0) ∧ e 33 = .a (.p (.l (n.ns.map encN))) ∧ e 34 = .a (.p (.i .i64 n.ns.length)) ∧ e 35 = .a (.p (.i .i64 (i : Nat))) ∧ e 4 = .a (.p (.i .i64 (i : Nat))) ∧ e 61 = .a (.p (.i .i64 x.to.length)) ∧ e 62 = .a (.p (.i .i64 (j : Nat))) ∧ σ'.bs (1,0) = some (.var ((encT n).map .p)) ∧ 0 < σ'.clk ∧
        ∀ (m : Nat) (q : Pt),m < j → x.to[m]? = some q → q ≠ ⟨i,m⟩ ∧ n.has q = true ∧ n.lk q = ⟨i,m⟩) (i0 := 0) (Nat.zero_le _) ?_ ?_ ?_
      · refine ⟨?_,?_,?_,?_,?_,?_,?_,?_,?_,fun m x hm => by omega⟩ <;> simp only [e1,e33,e34,e35,s1,k2,fxa,fxc,fxE,fxL,fxI,nxE,evO,evR,cellsT,ldCells,mkT,lenA,binPV,Env.init,resV,resT,frT,klT,ownT,intT,O.adds,ownA,rowsA,over,wrOk,keysT,keysA,ne_eq,if_true,if_false,ite_self,Nat.reduceLT,Nat.reduceSub,Nat.reduceBEq,Nat.reduceEqDiff,Nat.reduceAdd,Nat.reduceLeDiff,reduceCtorEq,Nat.reduceMul]
        all_goals first | rfl | omega
      · rintro j e σ' hj ⟨e1,e33,e34,e35,e4,e61,e62,s1,hc,hall2⟩
        obtain ⟨q,hq⟩ : ∃ q,x.to[j]? = some q := ⟨_,List.getElem?_eq_getElem hj⟩
        have hlt2 : ((j : Nat) : Int) < (x.to.length : Int) := by omega
        have hge2 : (0 : Int) ≤ ((j : Nat) : Int) := by omega
        have c3 := linked_ok hn hx hq
        simp only [encT,encN,encP,List.map_cons,List.map_nil] at s1 c3
        by_cases m1 : q ≠ ⟨i,j⟩ ∧ n.has q = true ∧ n.lk q = ⟨i,j⟩
        case neg =>
          rw [bool_f m1] at c3
          simp only [F52b1,e1,e33,e34,e35,e4,e61,e62,s1,hlt2,hge2,c3,RE_120,fxa,fxc,fxE,fxL,fxI,nxE,evO,evR,cellsT,ldCells,mkT,lenA,binPV,Env.init,resV,resT,frT,klT,ownT,intT,O.adds,ownA,rowsA,over,wrOk,keysT,keysA,ne_eq,if_true,if_false,ite_self,Nat.reduceLT,Nat.reduceSub,Nat.reduceBEq,Nat.reduceEqDiff,Nat.reduceAdd,Nat.reduceLeDiff,reduceCtorEq,Nat.reduceMul]
          intro hG; exact m1 ((hG.nds i x hx).2.2.2 j q hq)
        rw [bool_t m1] at c3
        simp only [F52b1,e1,e33,e34,e35,e4,e61,e62,s1,hlt2,hge2,c3,fxa,fxc,fxE,fxL,fxI,nxE,evO,evR,cellsT,ldCells,mkT,lenA,binPV,Env.init,resV,resT,frT,klT,ownT,intT,O.adds,ownA,rowsA,over,wrOk,keysT,keysA,ne_eq,if_true,if_false,ite_self,Nat.reduceLT,Nat.reduceSub,Nat.reduceBEq,Nat.reduceEqDiff,Nat.reduceAdd,Nat.reduceLeDiff,reduceCtorEq,Nat.reduceMul]
        refine ⟨by rw [wrap_succ j (by omega)],hc,fun m c hm hc => ?_⟩
        by_cases e : m = j
        · subst e; rw [hq] at hc; rw [← Option.some.inj hc]; exact m1
        · exact hall2 m c (by omega) hc
      · rintro e σ' ⟨e1,e33,e34,e35,e4,e61,e62,s1,hc,hall2⟩
        have hlt2 : ¬ ((x.to.length : Nat) : Int) < (x.to.length : Int) := by omega
        simp only [encT,encN,encP,List.map_cons,List.map_nil] at s1
        simp only [F52b1,e1,e33,e34,e35,e4,e61,e62,s1,hlt2,fxa,fxc,fxE,fxL,fxI,nxE,evO,evR,cellsT,ldCells,mkT,lenA,binPV,Env.init,resV,resT,frT,klT,ownT,intT,O.adds,ownA,rowsA,over,wrOk,keysT,keysA,ne_eq,if_true,if_false,ite_self,Nat.reduceLT,Nat.reduceSub,Nat.reduceBEq,Nat.reduceEqDiff,Nat.reduceAdd,Nat.reduceLeDiff,reduceCtorEq,Nat.reduceMul]
        refine ⟨by rw [wrap_succ i (by omega)],hc,fun m y hm hy => ?_⟩
        by_cases e : m = i
        · subst e; rw [hx] at hy; rw [← Option.some.inj hy]
          exact ⟨k1,k2,k3,fun j q hq => hall2 j q (List.getElem?_eq_some_iff.1 hq).1 hq⟩
        · exact hall m y (by omega) hy
    · rintro e σ ⟨e1,e33,e34,e35,s1,hc,hall⟩
      have hlt : ¬ ((n.ns.length : Nat) : Int) < (n.ns.length : Int) := by omega
      simp only [encT,List.map_cons,List.map_nil] at s1
      simp only [F52b0,e1,e33,e34,e35,s1,hlt,RE_0,fxa,fxc,fxE,fxL,fxI,nxE,evO,evR,cellsT,ldCells,mkT,lenA,binPV,Env.init,resV,resT,frT,klT,ownT,intT,O.adds,ownA,rowsA,over,wrOk,keysT,keysA,ne_eq,if_true,if_false,ite_self,Nat.reduceLT,Nat.reduceSub,Nat.reduceBEq,Nat.reduceEqDiff,Nat.reduceAdd,Nat.reduceLeDiff,reduceCtorEq,Nat.reduceMul]
      exact ⟨h1.1,h1.2,h3.1,h3.2,h5,fun i x hi => hall i x (List.getElem?_eq_some_iff.1 hi).1 hi⟩)
  rw [h1,h2]
end Go.Proofs.Ytkpfjolcmkikeaa
end
section
set_option linter.unusedSimpArgs false
set_option linter.unusedVariables false
set_option maxHeartbeats 4000000
set_option maxRecDepth 10000
namespace Go.Proofs.Ytkpfjolcmkikeaa
open Go.Fx
theorem usedL_cons (x : Nd) (l : List Nd) : usedL (x :: l) = (if x.k = 0 then 0 else 1) + usedL l := by
  unfold usedL
  rw [List.countP_cons]
  by_cases hk : x.k = 0
  · simp [hk]
  · simp [hk]; omega
theorem usedL_set : ∀ {l : List Nd} {i : Nat} {x : Nd} (y : Nd),l[i]? = some x → usedL (l.set i y) = usedL l - (if x.k = 0 then 0 else 1) + (if y.k = 0 then 0 else 1)
  | [],i,x,y,h => by simp at h
  | z :: l,0,x,y,h => by
    simp only [List.getElem?_cons_zero,Option.some.injEq] at h; subst h
    rw [List.set_cons_zero,usedL_cons,usedL_cons]; omega
  | z :: l,i + 1,x,y,h => by
    simp only [List.getElem?_cons_succ] at h
    rw [List.set_cons_succ,usedL_cons,usedL_cons,usedL_set y h]; omega
theorem getD_of {l : List Nd} {i : Nat} {x : Nd} (h : l[i]? = some x) : l.getD i zN = x := by
  rw [List.getD_eq_getElem?_getD,h]; rfl
theorem tl_le (l : List Nd) : ∀ k,tl l k ≤ k
  | 0 => Nat.le_refl _
  | k + 1 => by
    simp only [tl]
    split
    · have := tl_le l k; omega
    · omega
theorem tl_free (l : List Nd) : ∀ k i,tl l k ≤ i → i < k → (l.getD i zN).k = 0
  | 0,i,h1,h2 => by omega
  | k + 1,i,h1,h2 => by
    simp only [tl] at h1
    split at h1
    · rename_i hf
      by_cases e : i = k
      · subst e; simpa [isFree] using hf
      · exact tl_free l k i h1 (by omega)
    · omega
theorem tl_last (l : List Nd) : ∀ k,0 < tl l k → (l.getD (tl l k - 1) zN).k ≠ 0
  | 0,h => by simp [tl] at h
  | k + 1,h => by
    simp only [tl] at h ⊢
    split
    · rename_i hf; rw [if_pos hf] at h; exact tl_last l k h
    · rename_i hf; simpa [isFree] using hf
theorem trim_len (l : List Nd) : (trim l).length = tl l l.length := by
  unfold trim; rw [List.length_take]; have := tl_le l l.length; omega
theorem trim_get {l : List Nd} {i : Nat} (h : i < (trim l).length) : (trim l)[i]? = l[i]? := by
  rw [trim_len] at h
  unfold trim; rw [List.getElem?_take_of_lt h]
theorem usedL_take_free {l : List Nd} : ∀ (j : Nat),j ≤ l.length → ∀ k,k ≤ j → (∀ i,k ≤ i → i < j → (l.getD i zN).k = 0) → usedL (l.take j) = usedL (l.take k)
  | 0,_,k,hk,_ => by rw [show k = 0 by omega]
  | j + 1,hj,k,hk,h => by
    by_cases e : k = j + 1
    · rw [e]
    · obtain ⟨x,hx⟩ : ∃ x,l[j]? = some x := ⟨_,List.getElem?_eq_getElem (by omega)⟩
      rw [usedL_take hx,if_pos (by rw [← getD_of hx]; exact h j (by omega) (by omega)),Int.add_zero]
      exact usedL_take_free j (by omega) k (by omega) fun i h1 h2 => h i h1 (by omega)
theorem usedL_trim (l : List Nd) : usedL (trim l) = usedL l := by
  have := usedL_take_free (l := l) l.length (Nat.le_refl _) (tl l l.length) (tl_le _ _) (fun i h1 h2 => tl_free l _ i h1 h2)
  rw [List.take_length] at this
  exact this.symm
theorem free_zN {x : Nd} (hm : x.may) (ht : (x.to.length : Int) = x.ports) (hk : x.k = 0) : x = zN := by
  obtain ⟨k,lv,n,s,al,to⟩ := x
  simp only at hk
  subst hk
  have h1 := hm.lv0
  have h2 := hm.lv2 (by simp)
  have h3 := hm.nm
  have h4 := hm.nn
  have h5 := hm.aln (by simp)
  have hp : (Nd.mk 0 lv n s al to).ports = 0 := by unfold Nd.ports; simp
  rw [hp] at ht
  simp only at ht h1 h2 h3 h4 h5
  have e1 : lv = 0 := by omega
  have e2 : n = 0 := by
    by_cases h : n = 0
    · exact h
    · have := h4 h; omega
  have e3 : s = [] := by
    by_cases h : s = []
    · exact h
    · have := h3.1 h; omega
  have e4 : al = [] := List.eq_nil_of_length_eq_zero (by omega)
  have e5 : to = [] := List.eq_nil_of_length_eq_zero (by omega)
  rw [e1,e2,e3,e4,e5]; rfl
end Go.Proofs.Ytkpfjolcmkikeaa
end
section
set_option linter.unusedSimpArgs false
set_option linter.unusedVariables false
set_option maxHeartbeats 4000000
set_option maxRecDepth 10000
namespace Go.Proofs.Ytkpfjolcmkikeaa
open Go.Fx
instance (i : Int) : Decidable (wf i) := by unfold wf; infer_instance
theorem wf_nat {n : Nat} (h : n ≤ 9223372036854775807) : wf (n : Int) := by unfold wf; omega
theorem fresh_ports {x : Nd} (hx : x.Ok) : x.fresh.ports = x.ports := by
  have hp := ports_b hx
  by_cases h8 : x.k = 8
  · have e2 : x.fresh.ports = x.fresh.to.length := by
      have h8' : x.fresh.k = 8 := h8
      unfold Nd.ports; rw [h8']; simp
    rw [e2]; simp only [Nd.fresh,List.length_replicate]; omega
  · unfold Nd.ports Nd.fresh; simp only [h8,if_false]
end Go.Proofs.Ytkpfjolcmkikeaa
end
section
set_option linter.unusedSimpArgs false
set_option linter.unusedVariables false
namespace Go.Proofs.Ytkpfjolcmkikeaa
open Go.Fx
def Shp (n m : Nt) : Prop := n.ns.length = m.ns.length ∧ n.cap = m.cap ∧ ∀ i : Int,0 ≤ i → (m.nd i).k = (n.nd i).k ∧ (m.nd i).lv = (n.nd i).lv ∧ (m.nd i).n = (n.nd i).n ∧ (m.nd i).s = (n.nd i).s ∧ (m.nd i).al = (n.nd i).al ∧ (m.nd i).to.length = (n.nd i).to.length
theorem Shp.refl (n : Nt) : Shp n n := ⟨rfl,rfl,fun _ _ => ⟨rfl,rfl,rfl,rfl,rfl,rfl⟩⟩
theorem Shp.trans {a b c : Nt} (h : Shp a b) (k : Shp b c) : Shp a c :=
  ⟨h.1.trans k.1,h.2.1.trans k.2.1,fun i hi => by
    obtain ⟨a1,a2,a3,a4,a5,a6⟩ := h.2.2 i hi
    obtain ⟨b1,b2,b3,b4,b5,b6⟩ := k.2.2 i hi
    exact ⟨b1.trans a1,b2.trans a2,b3.trans a3,b4.trans a4,b5.trans a5,b6.trans a6⟩⟩
theorem Shp.has {n m : Nt} (h : Shp n m) (p : Pt) : m.has p = n.has p := by
  rw [Bool.eq_iff_iff,has_iff,has_iff,← h.1]
  constructor
  · rintro ⟨h1,h2,h3,h4⟩; rw [(h.2.2 p.n h1).2.2.2.2.2] at h4; exact ⟨h1,h2,h3,h4⟩
  · rintro ⟨h1,h2,h3,h4⟩; rw [← (h.2.2 p.n h1).2.2.2.2.2] at h4; exact ⟨h1,h2,h3,h4⟩
theorem Shp.set {n : Nt} {p : Pt} (q : Pt) (hp : n.has p = true) : Shp n (n.set p q) := by
  refine ⟨(len_set n p q).symm,rfl,fun i hi => ?_⟩
  rw [nd_set n p q hp i hi]
  split
  · rename_i e; subst e; exact ⟨rfl,rfl,rfl,rfl,rfl,by simp⟩
  · exact ⟨rfl,rfl,rfl,rfl,rfl,rfl⟩
theorem nd_get {n : Nt} {i : Nat} {x : Nd} (h : n.ns[i]? = some x) : n.nd (i : Int) = x := by
  unfold Nt.nd; rw [Int.toNat_natCast,List.getD_eq_getElem?_getD,h]; rfl
theorem get_nd {n : Nt} {i : Int} (h0 : 0 ≤ i) (h1 : i < n.ns.length) : n.ns[i.toNat]? = some (n.nd i) := by
  unfold Nt.nd; rw [List.getD_eq_getElem?_getD,List.getElem?_eq_getElem (by omega)]; rfl
theorem tt_get {x : Nd} {j : Nat} {q : Pt} (h : x.to[j]? = some q) : x.tt (j : Int) = q := by
  unfold Nd.tt; rw [Int.toNat_natCast,List.getD_eq_getElem?_getD,h]; rfl
theorem get_tt {x : Nd} {j : Int} (h0 : 0 ≤ j) (h1 : j < x.to.length) : x.to[j.toNat]? = some (x.tt j) := by
  unfold Nd.tt; rw [List.getD_eq_getElem?_getD,List.getElem?_eq_getElem (by omega)]; rfl
theorem has_get {n : Nt} {i j : Nat} {x : Nd} (h : n.ns[i]? = some x) (hj : j < x.to.length) : n.has ⟨i,j⟩ = true := by
  rw [has_iff]
  have hi := (List.getElem?_eq_some_iff.1 h).1
  refine ⟨by simp,by simp; omega,by simp,?_⟩
  simp only
  rw [nd_get h]; omega
theorem lk_get {n : Nt} {i j : Nat} {x : Nd} {q : Pt} (h : n.ns[i]? = some x) (hq : x.to[j]? = some q) : n.lk ⟨i,j⟩ = q := by
  unfold Nt.lk; simp only; rw [nd_get h,tt_get hq]
theorem good_link {n : Nt} (hg : n.Good) {p : Pt} (hp : n.has p = true) : n.lk p ≠ p ∧ n.has (n.lk p) = true ∧ n.lk (n.lk p) = p := by
  have h := has_iff.1 hp
  have hx := get_nd (n := n) h.1 h.2.1
  have hq := get_tt (x := n.nd p.n) h.2.2.1 h.2.2.2
  obtain ⟨_,_,_,h4⟩ := hg.nds _ _ hx
  have h5 := h4 _ _ hq
  have e : (⟨(p.n.toNat : Int),(p.s.toNat : Int)⟩ : Pt) = p := by
    obtain ⟨a,b⟩ := p
    simp only at h
    simp only [Pt.mk.injEq]; omega
  rw [e] at h5
  exact h5
def Nt.ln (n : Nt) (p q : Pt) : Nt := (n.set p q).set q p
theorem ln_shp {n : Nt} {p q : Pt} (hp : n.has p = true) (hq : n.has q = true) : Shp n (n.ln p q) := (Shp.set q hp).trans (Shp.set p (by rw [has_set q q hp]; exact hq))
theorem ln_lk {n : Nt} {p q r : Pt} (hp : n.has p = true) (hq : n.has q = true) (hr : n.has r = true) : (n.ln p q).lk r = if r = q then p else if r = p then q else n.lk r := by
  unfold Nt.ln
  rw [lk_set p r (by rw [has_set q q hp]; exact hq) (by rw [has_set q r hp]; exact hr),lk_set q r hp hr]
theorem linkR_ok {n : Nt} {p q : Pt} (hp : n.has p = true) (hq : n.has q = true) (h : p ≠ q) : linkR n p q = (n.ln p q,0) := by
  unfold linkR Nt.ln; simp [hp,hq,h]
end Go.Proofs.Ytkpfjolcmkikeaa
end
section
set_option linter.unusedSimpArgs false
set_option linter.unusedVariables false
set_option maxHeartbeats 4000000
set_option maxRecDepth 10000
namespace Go.Proofs.Ytkpfjolcmkikeaa
open Go.Fx
theorem good_big {n : Nt} (hG : n.Good) : n.ns.length ≤ 4000 := by
  have := hG.ln2; have := hG.cap2; omega
theorem good_root {n : Nt} (hG : n.Good) : ∃ y,n.ns[0]? = some y ∧ y.k = 1 := by
  have := hG.ln1
  obtain ⟨y,hy⟩ : ∃ y,n.ns[0]? = some y := ⟨_,List.getElem?_eq_getElem (by omega)⟩
  exact ⟨y,hy,(hG.nds 0 y hy).2.2.1.1 (by simp)⟩
theorem trim_le (l : List Nd) : (trim l).length ≤ l.length := by rw [trim_len]; exact tl_le _ _
theorem free_used {n : Nt} {t : Nat} {y : Nd} (hy : n.ns[t]? = some y) (hk : y.k ≠ 0) : (n.free (t : Int)).used = n.used - 1 := by
  show usedL (trim (n.ns.set (t : Int).toNat zN)) = usedL n.ns - 1
  rw [usedL_trim,Int.toNat_natCast,usedL_set zN hy,if_neg hk]
  show usedL n.ns - 1 + (if zN.k = 0 then 0 else 1) = usedL n.ns - 1
  rw [if_pos (show zN.k = 0 from rfl)]; omega
theorem free_len (n : Nt) (t : Int) : (n.free t).ns.length ≤ n.ns.length := by
  have := trim_le (n.ns.set t.toNat zN)
  rw [List.length_set] at this; exact this
theorem good_no_k {n : Nt} (hG : n.Good) {i j : Nat} {x : Nd} {q : Pt} (hx : n.ns[i]? = some x) (hq : x.to[j]? = some q) : x.k ≠ 0 := by
  intro h
  have h1 := hG.nds i x hx
  have h2 := free_zN h1.1 h1.2.1 h
  rw [h2] at hq; simp [zN] at hq
theorem free_get {n : Nt} {i m : Nat} {x : Nd} (hx : n.ns[m]? = some x) (hm : m ≠ i) (hk : x.k ≠ 0) : (n.free (i : Int)).ns[m]? = some x := by
  have hset : (n.ns.set (i : Int).toNat zN)[m]? = some x := by rw [Int.toNat_natCast,List.getElem?_set_ne (Ne.symm hm)]; exact hx
  have hlt : m < (trim (n.ns.set (i : Int).toNat zN)).length := by
    rw [trim_len]
    by_cases h : m < tl (n.ns.set (i : Int).toNat zN) (n.ns.set (i : Int).toNat zN).length
    · exact h
    · exfalso
      apply hk
      have := tl_free (n.ns.set (i : Int).toNat zN) _ m (by omega) ((List.getElem?_eq_some_iff.1 hset).1)
      rw [getD_of hset] at this; exact this
  show (trim (n.ns.set (i : Int).toNat zN))[m]? = some x
  rw [trim_get hlt]; exact hset
theorem free_get_inv {n : Nt} {i m : Nat} {x : Nd} (hx : (n.free (i : Int)).ns[m]? = some x) : (m = i ∧ x = zN) ∨ (m ≠ i ∧ n.ns[m]? = some x) := by
  have h1 := (List.getElem?_eq_some_iff.1 hx).1
  have h2 : (trim (n.ns.set (i : Int).toNat zN))[m]? = some x := hx
  rw [trim_get h1,Int.toNat_natCast] at h2
  by_cases h : m = i
  · subst h
    rw [List.getElem?_set] at h2
    rw [if_pos rfl] at h2
    split at h2
    · exact .inl ⟨rfl,(Option.some.inj h2).symm⟩
    · cases h2
  · rw [List.getElem?_set_ne (Ne.symm h)] at h2; exact .inr ⟨h,h2⟩
end Go.Proofs.Ytkpfjolcmkikeaa
end
section
set_option linter.unusedSimpArgs false
set_option linter.unusedVariables false
set_option maxHeartbeats 4000000
set_option maxRecDepth 10000
namespace Go.Proofs.Ytkpfjolcmkikeaa
open Go.Fx
theorem RMakeG_ok {n : Nt} {x : Nd} (hn : n.Ok) (hb : (n.ns.length + 1) * 88 ≤ 140737488355328) (hne : n.ns ≠ []) (hx : x.Ok) (hk : ¬ x.k < 2) (hmay : x.may) (hfull : ¬ n.used ≥ n.cap) (σ : St) :
    ∃ v σ',eS S (.f 33) [.g ((encT n).map .p),.g ((encN x).map .p)] σ = some (v,σ') ∧ ∃ k : Key,v = .t [(true,[.own k 0 (n.make x).ns.length,.p (.i .i64 n.cap)]),(false,[.p (.i .i64 (n.at : Nat))]),(false,[.p (.i .i64 0)])] ∧
      σ'.bs k = some (.row 6 41 ((n.make x).ns.map encN)) ∧ σ.clk ≤ k.2 ∧ k.2 < σ'.clk ∧ σ'.ls = σ.ls ∧ ∀ s : Key,s.2 < σ.clk → σ'.bs s = σ.bs s := by
  refine x_fnS (fc := F33) rfl rfl ?_
  obtain ⟨c,hc⟩ : ∃ c,σ.clk = c := ⟨_,rfl⟩
  have c1 := RNode_ok hx
  have c2 := RUsed_ok hn
  have c3 := RPorts_ok hx
  rw [bool_t hmay] at c1
  have hpb := ports_b hx
  obtain ⟨σ0,hσ0⟩ : ∃ σ0,σ0 = ((σ.add 2 (.var ((encT n).map .p))).add 3 (.var ((encN x).map .p))).add 4 (.var [.nil,.p (.i .i64 0)]) := ⟨_,rfl⟩
  obtain ⟨_,σ1,c4,k,rfl,hk1,hk2,hk3,hk4,hk5⟩ := RCopy_ok (n := n) (by omega) hne σ0
  have hcl0 : σ0.clk = c + 3 := by rw [hσ0]; simp only [add_clk]; omega
  have b2 := hk5 (2,c) (by simp only; omega)
  have b3 := hk5 (3,c + 1) (by simp only; omega)
  have b4 := hk5 (4,c + 2) (by simp only; omega)
  have b0 : ∀ s : Key,s.2 < c → σ1.bs s = σ.bs s := by
    intro s hs
    rw [hk5 s (by omega),hσ0]
    have h2 : ¬ s = (2,σ.clk) := by rintro rfl; simp at hs; omega
    have h3 : ¬ s = (3,σ.clk + 1) := by rintro rfl; simp at hs; omega
    have h4 : ¬ s = (4,σ.clk + 1 + 1) := by rintro rfl; simp at hs; omega
    simp only [add_bs,add_clk,h2,h3,h4,if_false]
  have d2 : σ0.bs (2,c) = some (.var ((encT n).map .p)) := by rw [hσ0]; simp [add_bs,add_clk,hc]
  have d3 : σ0.bs (3,c + 1) = some (.var ((encN x).map .p)) := by rw [hσ0]; simp [add_bs,add_clk,hc]
  have b2' : σ1.bs (2,c) = some (.var ((encT n).map .p)) := by rw [b2,hσ0]; simp [add_bs,add_clk,hc]
  have b3' : σ1.bs (3,c + 1) = some (.var ((encN x).map .p)) := by rw [b3,hσ0]; simp [add_bs,add_clk,hc]
  have b4' : σ1.bs (4,c + 2) = some (.var [.nil,.p (.i .i64 0)]) := by rw [b4,hσ0]; simp [add_bs,add_clk,hc]
  have hls1 : σ1.ls = σ.ls := by rw [hk4,hσ0]; rfl
  obtain ⟨c5,hc5⟩ : ∃ c5,σ1.clk = c5 := ⟨_,rfl⟩
  rw [hcl0] at hk2
  rw [hc5] at hk3
  obtain ⟨kd,kc⟩ := k
  simp only at hk2 hk3
  simp only [encT,encN,List.map_cons,List.map_nil] at c1 c2 c3 c4 b2' b3' d2 d3 hσ0
  have hfr : x.fresh = { x with to := List.replicate x.ports.toNat zP } := rfl
  have hrep : List.replicate x.ports.toNat [PV.i IntKind.i64 0,PV.i IntKind.i64 0] = (List.replicate x.ports.toNat zP).map encP := by simp [encP,zP]
  have hab0 : x.al.length * 24 ≤ 140737488355328 := hx.al
  have htka0 : List.take x.al.length (x.al.map encA) = x.al.map encA := List.take_of_length_le (by simp)
  have hpr : (0 ≤ x.ports ∧ x.ports ≤ x.ports ∧ x.ports * ((16 : Nat) : Int) ≤ 140737488355328) = True := by simp; omega
  simp only [F33,encT,encN,hc,List.map_cons,List.map_nil,hk,c1,c2,hfull,← hσ0,c4,hc5,d2,d3,b2',b3',b4',c3,hpr,hrep,hab0,htka0,List.length_map,Nat.zero_add,Nat.one_mul,Nat.reduceLeDiff,fxa,fxc,fxE,fxL,fxI,nxE,evO,evR,cellsT,ldCells,mkT,lenA,binPV,Env.init,resV,resT,frT,klT,ownT,intT,O.adds,ownA,rowsA,over,wrOk,keysT,keysA,ne_eq,if_true,if_false,ite_self,Nat.reduceLT,Nat.reduceSub,Nat.reduceBEq,Nat.reduceEqDiff,Nat.reduceAdd,Nat.reduceLeDiff,reduceCtorEq,Nat.reduceMul]
  obtain ⟨R,hR⟩ : ∃ R,R = (List.replicate x.ports.toNat zP).map encP := ⟨_,rfl⟩
  have hencf : encN x.fresh = [.i .i64 x.k,.i .i64 x.lv,.i .i64 x.n,.s x.s,.l (x.al.map encA),.l R] := by rw [hfr,hR]; simp only [encN,List.map_nil]
  rw [← hR]
  have hab : x.al.length * 24 ≤ 140737488355328 := hx.al
  have htka : List.take x.al.length (x.al.map encA) = x.al.map encA := List.take_of_length_le (by simp)
  have nk : ¬ kc = c5 + 1 ∧ ¬ kc = c5 + 1 + 1 ∧ ¬ kc = c5 + 1 + 1 + 1 := by omega
  have nk0 : ¬ kc = c5 := by omega
  have nc : ¬ c + 1 = c5 + 1 ∧ ¬ c + 1 + 1 = c5 + 1 ∧ ¬ c + 1 = c5 + 1 + 1 ∧ ¬ c + 1 + 1 = c5 + 1 + 1 ∧ ¬ c + 1 = c5 + 1 + 1 + 1 ∧ ¬ c + 1 + 1 = c5 + 1 + 1 + 1 := by omega
  have nc0 : ¬ c + 1 = c5 ∧ ¬ c + 1 + 1 = c5 := by omega
  have nkc : ¬ c5 + 1 + 1 + 1 = kc ∧ ¬ kc = c + 1 ∧ ¬ kc = c + 1 + 1 ∧ ¬ c + 1 = kc ∧ ¬ c + 1 + 1 = kc ∧ ¬ c5 = kc := by omega
  refine loop_nat n.ns.length (fun i e τ => e 2 = .a (.ptr (2,c) 0 0) ∧ e 3 = .a (.ptr (3,c + 1) 0 0) ∧ e 4 = .a (.ptr (4,c + 1 + 1) 0 0) ∧ e 7 = .a (.ptr (7,c5) 0 0) ∧ e 8 = .a (.p (.i .i64 (i : Nat))) ∧
    τ.bs (3,c + 1) = some (.var [.p (.i .i64 x.k),.p (.i .i64 x.lv),.p (.i .i64 x.n),.p (.s x.s),.own (33,c5 + 1 + 1 + 1) 0 x.al.length,.p (.l R)]) ∧ τ.bs (33,c5 + 1 + 1 + 1) = some (.row 2 79 (x.al.map encA)) ∧
    τ.bs (7,c5) = some (.var [.own (kd,kc) 0 n.ns.length,.p (.i .i64 n.cap)]) ∧ τ.bs (kd,kc) = some (.row 6 41 (n.ns.map encN)) ∧ τ.bs (4,c + 1 + 1) = some (.var [.nil,.p (.i .i64 0)]) ∧
    c5 + 4 ≤ τ.clk ∧ τ.ls = σ.ls ∧ (∀ s : Key,s.2 < c → τ.bs s = σ.bs s) ∧ ∀ j,j < i → ∀ y,n.ns[j]? = some y → isFree y = false) (i0 := 0) (Nat.zero_le _) ?_ ?_ ?_
  · refine ⟨?_,?_,?_,?_,?_,?_,?_,?_,?_,?_,?_,?_,fun s hs => ?_,fun j hj => by omega⟩
    all_goals first
      | (simp only [hc5,nk,nk0,nc,nc0,nkc,b2',b3',b4',hk1,hls1,fxa,fxc,fxE,fxL,fxI,nxE,evO,evR,cellsT,ldCells,mkT,lenA,binPV,Env.init,resV,resT,frT,klT,ownT,intT,O.adds,ownA,rowsA,over,wrOk,keysT,keysA,ne_eq,if_true,if_false,ite_self,Nat.reduceLT,Nat.reduceSub,Nat.reduceBEq,Nat.reduceEqDiff,Nat.reduceAdd,Nat.reduceLeDiff,reduceCtorEq,Nat.reduceMul]; done)
      | (simp only [hc5,nk,nk0,nc,nc0,nkc,b2',b3',b4',hk1,hls1,fxa,fxc,fxE,fxL,fxI,nxE,evO,evR,cellsT,ldCells,mkT,lenA,binPV,Env.init,resV,resT,frT,klT,ownT,intT,O.adds,ownA,rowsA,over,wrOk,keysT,keysA,ne_eq,if_true,if_false,ite_self,Nat.reduceLT,Nat.reduceSub,Nat.reduceBEq,Nat.reduceEqDiff,Nat.reduceAdd,Nat.reduceLeDiff,reduceCtorEq,Nat.reduceMul]; rfl)
      | (simp only [hc5,nk,nk0,nc,nc0,nkc,b2',b3',b4',hk1,hls1,fxa,fxc,fxE,fxL,fxI,nxE,evO,evR,cellsT,ldCells,mkT,lenA,binPV,Env.init,resV,resT,frT,klT,ownT,intT,O.adds,ownA,rowsA,over,wrOk,keysT,keysA,ne_eq,if_true,if_false,ite_self,Nat.reduceLT,Nat.reduceSub,Nat.reduceBEq,Nat.reduceEqDiff,Nat.reduceAdd,Nat.reduceLeDiff,reduceCtorEq,Nat.reduceMul]; omega)
      | skip
    have n1 : ∀ d,¬ s = (d,c5) ∧ ¬ s = (d,c5 + 1) ∧ ¬ s = (d,c5 + 1 + 1) ∧ ¬ s = (d,c5 + 1 + 1 + 1) ∧ ¬ s = (d,c + 1) := by
      intro d; refine ⟨?_,?_,?_,?_,?_⟩ <;> (rintro rfl; simp at hs; omega)
    simp only [hc5,(n1 _).1,(n1 _).2.1,(n1 _).2.2.1,(n1 _).2.2.2.1,(n1 _).2.2.2.2,b0 s hs,fxa,fxc,fxE,fxL,fxI,nxE,evO,evR,cellsT,ldCells,mkT,lenA,binPV,Env.init,resV,resT,frT,klT,ownT,intT,O.adds,ownA,rowsA,over,wrOk,keysT,keysA,ne_eq,if_true,if_false,ite_self,Nat.reduceLT,Nat.reduceSub,Nat.reduceBEq,Nat.reduceEqDiff,Nat.reduceAdd,Nat.reduceLeDiff,reduceCtorEq,Nat.reduceMul]
  · rintro i e τ hi ⟨e2,e3,e4,e7,e8,t3,t33,t7,tk,t4,hcl,hls,hs,hfree⟩
    obtain ⟨y,hy⟩ : ∃ y,n.ns[i]? = some y := ⟨_,List.getElem?_eq_getElem hi⟩
    have hy' := mapGet encN hy
    have hlt : ((i : Nat) : Int) < (n.ns.length : Int) := by omega
    have hge : (0 : Int) ≤ ((i : Nat) : Int) := by omega
    by_cases hyk : y.k = 0
    · have hfi : n.ns.findIdx? isFree = some i := by
        rw [List.findIdx?_eq_some_iff_getElem]
        refine ⟨hi,?_,fun j hj => ?_⟩
        · rw [(List.getElem?_eq_some_iff.1 hy).2]; simp [isFree,hyk]
        · rw [hfree j hj _ (List.getElem?_eq_getElem (by omega))]; simp
      have e1 : n.at = i := by unfold Nt.at; rw [hfi]
      have e2' : (n.make x).ns = n.ns.set i x.fresh := by unfold Nt.make; rw [hfi]
      have hsx : (n.ns.map encN).set i [.i .i64 x.k,.i .i64 x.lv,.i .i64 x.n,.s x.s,.l (x.al.map encA),.l R] = (n.ns.set i x.fresh).map encN := by rw [List.map_set,hencf]
      rw [e1,e2']
      simp only [F33b0,e2,e3,e4,e7,e8,t3,t33,t7,tk,t4,hlt,hge,hy',hyk,htka,nk,nk0,nc,nc0,nkc,hsx,rowK,encN,List.length_map,List.length_set,Int.toNat_natCast,Nat.zero_add,Nat.le_refl,fxa,fxc,fxE,fxL,fxI,nxE,evO,evR,cellsT,ldCells,mkT,lenA,binPV,Env.init,resV,resT,frT,klT,ownT,intT,O.adds,ownA,rowsA,over,wrOk,keysT,keysA,ne_eq,if_true,if_false,ite_self,Nat.reduceLT,Nat.reduceSub,Nat.reduceBEq,Nat.reduceEqDiff,Nat.reduceAdd,Nat.reduceLeDiff,reduceCtorEq,Nat.reduceMul]
      refine ⟨(kd,kc),rfl,?_,by simp only; omega,by simp only; omega,hls,fun s h => ?_⟩
      · rw [if_neg (by intro e; rw [Prod.mk.injEq] at e; omega),if_pos rfl]
      · rw [if_neg (by rintro rfl; simp at h; omega),if_neg (by rintro rfl; simp at h; omega),if_neg (by rintro rfl; simp at h; omega)]; exact hs s h
    · have hyf : isFree y = false := by simp [isFree,hyk]
      simp only [F33b0,e2,e3,e4,e7,e8,t3,t33,t7,tk,t4,hlt,hge,hy',hyk,htka,rowK,encN,List.length_map,Int.toNat_natCast,Nat.zero_add,fxa,fxc,fxE,fxL,fxI,nxE,evO,evR,cellsT,ldCells,mkT,lenA,binPV,Env.init,resV,resT,frT,klT,ownT,intT,O.adds,ownA,rowsA,over,wrOk,keysT,keysA,ne_eq,if_true,if_false,ite_self,Nat.reduceLT,Nat.reduceSub,Nat.reduceBEq,Nat.reduceEqDiff,Nat.reduceAdd,Nat.reduceLeDiff,reduceCtorEq,Nat.reduceMul]
      refine ⟨by rw [wrap_succ i (by omega)],hcl,hls,hs,fun j hj z hz => ?_⟩
      by_cases e : j = i
      · rw [e,hy] at hz; rw [← Option.some.inj hz]; exact hyf
      · exact hfree j (by omega) z hz
  · rintro e τ ⟨e2,e3,e4,e7,e8,t3,t33,t7,tk,t4,hcl,hls,hs,hfree⟩
    have hlt : ¬ ((n.ns.length : Nat) : Int) < (n.ns.length : Int) := by omega
    have hfi : n.ns.findIdx? isFree = none := by
      rw [List.findIdx?_eq_none_iff]
      intro y hy
      obtain ⟨j,hj⟩ := List.getElem?_of_mem hy
      exact hfree j (List.getElem?_eq_some_iff.1 hj).1 y hj
    have e1 : n.at = n.ns.length := by unfold Nt.at; rw [hfi]
    have e2' : (n.make x).ns = n.ns ++ [x.fresh] := by unfold Nt.make; rw [hfi]
    have htk : List.take n.ns.length (n.ns.map encN) = n.ns.map encN := List.take_of_length_le (by simp)
    have hsx : n.ns.map encN ++ [[.i .i64 x.k,.i .i64 x.lv,.i .i64 x.n,.s x.s,.l (x.al.map encA),.l R]] = (n.ns ++ [x.fresh]).map encN := by rw [List.map_append,← hencf]; rfl
    have nkt : ¬ kc = τ.clk ∧ ¬ kc = τ.clk + 1 ∧ ¬ c5 = τ.clk ∧ ¬ c5 = τ.clk + 1 ∧ ¬ c + 1 + 1 = τ.clk ∧ ¬ c + 1 + 1 = τ.clk + 1 := by omega
    rw [e1,e2']
    have hw : IntKind.i64.wrap (((n.ns.length + 1 : Nat) : Int) - 1) = (n.ns.length : Int) := by rw [wrap_in _ (by omega)]; omega
    simp only [F33b0,e2,e3,e4,e7,e8,t3,t33,t7,tk,t4,hlt,hb,htk,htka,hsx,hw,nkt,nk,nk0,nc,nc0,nkc,rowK,encN,List.length_map,List.length_append,List.length_cons,List.length_nil,Int.toNat_natCast,Nat.zero_add,Nat.one_mul,Nat.le_refl,fxa,fxc,fxE,fxL,fxI,nxE,evO,evR,cellsT,ldCells,mkT,lenA,binPV,Env.init,resV,resT,frT,klT,ownT,intT,O.adds,ownA,rowsA,over,wrOk,keysT,keysA,ne_eq,if_true,if_false,ite_self,Nat.reduceLT,Nat.reduceSub,Nat.reduceBEq,Nat.reduceEqDiff,Nat.reduceAdd,Nat.reduceLeDiff,reduceCtorEq,Nat.reduceMul]
    refine ⟨(60,τ.clk + 1),rfl,?_,by simp only; omega,by simp only; omega,hls,fun s h => ?_⟩
    · rw [if_neg (by intro e; rw [Prod.mk.injEq] at e; omega),if_neg (by intro e; rw [Prod.mk.injEq] at e; omega),if_pos rfl]
    · rw [if_neg (by rintro rfl; simp at h; omega),if_neg (by rintro rfl; simp at h; omega),if_neg (by rintro rfl; simp at h; omega),if_neg (by rintro rfl; simp at h; omega),if_neg (by rintro rfl; simp at h; omega),if_neg (by rintro rfl; simp at h; omega)]; exact hs s h
end Go.Proofs.Ytkpfjolcmkikeaa
end
section
set_option linter.unusedVariables false
namespace Go.Proofs.Ytkpfjolcmkikeaa
open Go.Fx
theorem linkR_Ok {n : Nt} {p q : Pt} (hn : n.Ok) (hp : wf p.n ∧ wf p.s) (hq : wf q.n ∧ wf q.s) : (linkR n p q).1.Ok := by
  unfold linkR
  split
  · rename_i h
    simp only [Bool.and_eq_true] at h
    exact Ok_set (Ok_set hn h.1.1 hq) (by rw [has_set q q h.1.1]; exact h.1.2) hp
  · exact hn
end Go.Proofs.Ytkpfjolcmkikeaa
end
section
set_option linter.unusedSimpArgs false
set_option linter.unusedVariables false
set_option maxHeartbeats 8000000
set_option maxRecDepth 10000
namespace Go.Proofs.Ytkpfjolcmkikeaa.Tm
open Go.Fx
abbrev En := Int × Pt
def encE (x : En) : List PV := [.i .i64 x.1,.i .i64 x.2.n,.i .i64 x.2.s]
theorem allE (l : List En) : ((l.map encE).all fun r => decide (r.length = 3)) = true := by simp [encE]
theorem mapE {l : List En} {i : Nat} {x : En} (h : l[i]? = some x) : (l.map encE)[i]? = some [.i .i64 x.1,.i .i64 x.2.n,.i .i64 x.2.s] := by rw [List.getElem?_map,h]; rfl
def lnk (n : Nt) (p q : Pt) : Nt := (linkR n p q).1
def addN (n : Nt) (x : Nd) : Nt := ⟨n.ns ++ [x.fresh],n.cap⟩
def nodeK (k lv : Int) : Nd := ⟨k,lv,0,[],[],[]⟩
theorem at_ok (a b : Int) : eP S 62 [.a (.i .i64 a),.a (.i .i64 b)] = some (.g [.i .i64 a,.i .i64 b]) := by
  refine x_fn (orcS (by decide)) (fc := F62) rfl rfl ?_
  simp only [F62,fxa,fxc,fxE,fxL,fxI,nxE,evO,evR,cellsT,ldCells,mkT,lenA,binPV,Env.init,resV,resT,frT,klT,ownT,intT,O.adds,ownA,rowsA,over,wrOk,keysT,keysA,ne_eq,if_true,if_false,ite_self,Nat.reduceLT,Nat.reduceSub,Nat.reduceBEq,Nat.reduceEqDiff,Nat.reduceAdd,Nat.reduceLeDiff,reduceCtorEq,Nat.reduceMul]
theorem link_ok {n : Nt} {p q : Pt} (hn : n.Ok) (hp : wf p.n ∧ wf p.s) (hq : wf q.n ∧ wf q.s) : eP S 61 [.g (encT n),.g (encP p),.g (encP q)] = some (.g (encT (lnk n p q))) := by
  have a1 := RLink_ok hn hp hq
  refine x_fn (orcS (by decide)) (fc := F61) rfl rfl ?_
  unfold lnk
  obtain ⟨⟨m,e⟩,hm⟩ : ∃ x,linkR n p q = x := ⟨_,rfl⟩
  rw [hm] at a1 ⊢
  simp only [encTE,encT,encP] at a1
  simp only [F61,a1,encT,encP,fxa,fxc,fxE,fxL,fxI,nxE,evO,evR,cellsT,ldCells,mkT,lenA,binPV,Env.init,resV,resT,frT,klT,ownT,intT,O.adds,ownA,rowsA,over,wrOk,keysT,keysA,ne_eq,if_true,if_false,ite_self,Nat.reduceLT,Nat.reduceSub,Nat.reduceBEq,Nat.reduceEqDiff,Nat.reduceAdd,Nat.reduceLeDiff,reduceCtorEq,Nat.reduceMul]
structure Room (n : Nt) : Prop where
  ok : n.Ok
  full : ∀ x ∈ n.ns,x.k ≠ 0
  ne : n.ns ≠ []
  cap : n.cap ≤ 4000
  len : (n.ns.length : Int) ≤ n.cap
theorem full_used {l : List Nd} (h : ∀ x ∈ l,x.k ≠ 0) : usedL l = l.length := by
  unfold usedL
  rw [List.countP_eq_length.2 fun x hx => by simpa using h x hx]
theorem full_free {l : List Nd} (h : ∀ x ∈ l,x.k ≠ 0) : l.findIdx? isFree = none := by
  rw [List.findIdx?_eq_none_iff]
  intro x hx
  simp [isFree,h x hx]
theorem made_ok {n : Nt} {x : Nd} (hn : Room n) (hx : x.Ok) (hk : ¬ x.k < 2) (hmay : x.may) (hlv : x.lv ≤ 60) (hroom : ((n.ns.length + 1 : Nat) : Int) ≤ n.cap) :
    eP S 82 [.g (encT n),.g (encN x)] = some (.t [(true,encT (addN n x)),(false,[.i .i64 (n.ns.length : Nat)]),(false,[.i .i64 0])]) := by
  refine x_fn (orcS (by decide)) (fc := F82) rfl rfl ?_
  have hcap := hn.cap
  have hf := full_free hn.full
  have hu : ¬ n.used ≥ n.cap := by unfold Nt.used; rw [full_used hn.full]; omega
  have hmk : n.make x = addN n x := by unfold Nt.make addN; rw [hf]
  have hat : n.at = n.ns.length := by unfold Nt.at; rw [hf]
  obtain ⟨v,σ',h1,k,rfl,h2,h3,h4,h5,h6⟩ := RMakeG_ok (n := n) (x := x) hn.ok (by omega) hn.ne hx hk hmay hu (((((St.empty.add 2 (.var ((encT n).map .p))).add 3 (.var ((encN x).map .p))).add 4 (.var [.nil,.p (.i .i64 0)]))))
  rw [hmk,hat] at h1
  rw [hmk] at h2
  have hlv' : ¬ x.lv > 60 := by omega
  have c4 : ((((St.empty.add 2 (.var ((encT n).map .p))).add 3 (.var ((encN x).map .p))).add 4 (.var [.nil,.p (.i .i64 0)]))).clk = 3 := rfl
  rw [c4] at h3 h6
  have b4 := h6 (4,2) (by simp)
  simp only [add_bs,add_clk,empty_clk,Nat.reduceAdd,if_true] at b4
  have htk : List.take (addN n x).ns.length ((addN n x).ns.map encN) = (addN n x).ns.map encN := List.take_of_length_le (by simp)
  have hca : (addN n x).cap = n.cap := rfl
  obtain ⟨kd,kc⟩ := k
  simp only at h3 h4
  have nk : ¬ kc = 2 := by omega
  simp only [encT,encN,List.map_cons,List.map_nil] at h1
  simp only [F82,encT,encN,List.map_cons,List.map_nil,hlv',h1,b4,h2,nk,htk,hca,List.length_map,Nat.zero_add,Nat.le_refl,List.drop_zero,fxa,fxc,fxE,fxL,fxI,nxE,evO,evR,cellsT,ldCells,mkT,lenA,binPV,Env.init,resV,resT,frT,klT,ownT,intT,O.adds,ownA,rowsA,over,wrOk,keysT,keysA,ne_eq,if_true,if_false,ite_self,Nat.reduceLT,Nat.reduceSub,Nat.reduceBEq,Nat.reduceEqDiff,Nat.reduceAdd,Nat.reduceLeDiff,reduceCtorEq,Nat.reduceMul]
def findF (l : List En) (v : Int) : Int := match l.findIdx? (fun x => decide (x.1 = v)) with | some i => (i : Nat) | none => -1
theorem find_ok {l : List En} {v : Int} (hl : l.length ≤ 1099511627776) : eP S 118 [.a (.l (l.map encE)),.a (.i .i64 v)] = some (.a (.i .i64 (findF l v))) := by
  refine x_fn (orcS (by decide)) (fc := F118) rfl rfl ?_
  simp only [F118,fxa,fxc,fxE,fxL,fxI,nxE,evO,evR,cellsT,ldCells,mkT,lenA,binPV,Env.init,resV,resT,frT,klT,ownT,intT,O.adds,ownA,rowsA,over,wrOk,keysT,keysA,ne_eq,if_true,if_false,ite_self,Nat.reduceLT,Nat.reduceSub,Nat.reduceBEq,Nat.reduceEqDiff,Nat.reduceAdd,Nat.reduceLeDiff,reduceCtorEq,Nat.reduceMul]
  refine loop_nat l.length (fun i e τ => e 0 = .a (.p (.l (l.map encE))) ∧ e 1 = .a (.p (.i .i64 v)) ∧ e 5 = .a (.p (.i .i64 (i : Nat))) ∧ ∀ j,j < i → ∀ y,l[j]? = some y → y.1 ≠ v) (i0 := 0) (Nat.zero_le _) ⟨rfl,rfl,rfl,fun j hj => by omega⟩ ?_ ?_
  · rintro i e τ hi ⟨e0,e1,e5,hf⟩
    obtain ⟨x,hx⟩ : ∃ x,l[i]? = some x := ⟨_,List.getElem?_eq_getElem hi⟩
    have hx' := mapE hx
    have hlt : ((i : Nat) : Int) < (l.length : Int) := by omega
    have hge : (0 : Int) ≤ ((i : Nat) : Int) := by omega
    have hw := wrap_succ i (by omega)
    by_cases h : x.1 = v
    · have hfi : findF l v = (i : Nat) := by
        unfold findF
        have : l.findIdx? (fun x => decide (x.1 = v)) = some i := by
          rw [List.findIdx?_eq_some_iff_getElem]
          refine ⟨hi,?_,fun j hj => ?_⟩
          · rw [(List.getElem?_eq_some_iff.1 hx).2]; simpa using h
          · have := hf j hj _ (List.getElem?_eq_getElem (by omega))
            simpa using this
        rw [this]
      rw [hfi]
      simp only [F118b0,e0,e1,e5,hlt,hge,hw,hx',h,allE,Int.toNat_natCast,List.length_map,List.length_cons,List.length_nil,fxa,fxc,fxE,fxL,fxI,nxE,evO,evR,cellsT,ldCells,mkT,lenA,binPV,Env.init,resV,resT,frT,klT,ownT,intT,O.adds,ownA,rowsA,over,wrOk,keysT,keysA,ne_eq,if_true,if_false,ite_self,Nat.reduceLT,Nat.reduceSub,Nat.reduceBEq,Nat.reduceEqDiff,Nat.reduceAdd,Nat.reduceLeDiff,reduceCtorEq,Nat.reduceMul]
    · simp only [F118b0,e0,e1,e5,hlt,hge,hw,hx',h,allE,Int.toNat_natCast,List.length_map,List.length_cons,List.length_nil,fxa,fxc,fxE,fxL,fxI,nxE,evO,evR,cellsT,ldCells,mkT,lenA,binPV,Env.init,resV,resT,frT,klT,ownT,intT,O.adds,ownA,rowsA,over,wrOk,keysT,keysA,ne_eq,if_true,if_false,ite_self,Nat.reduceLT,Nat.reduceSub,Nat.reduceBEq,Nat.reduceEqDiff,Nat.reduceAdd,Nat.reduceLeDiff,reduceCtorEq,Nat.reduceMul]
      intro j hj y hy
      by_cases e : j = i
      · rw [e,hx] at hy; rw [← Option.some.inj hy]; exact h
      · exact hf j (by omega) y hy
  · rintro e τ ⟨e0,e1,e5,hf⟩
    have hlt : ¬ ((l.length : Nat) : Int) < (l.length : Int) := by omega
    have hfi : findF l v = -1 := by
      unfold findF
      have : l.findIdx? (fun x => decide (x.1 = v)) = none := by
        rw [List.findIdx?_eq_none_iff]
        intro x hx
        obtain ⟨j,hj⟩ := List.getElem?_of_mem hx
        have := hf j (List.getElem?_eq_some_iff.1 hj).1 x hj
        simpa using this
      rw [this]
    rw [hfi]
    simp only [F118b0,e0,e1,e5,hlt,List.length_map,Int.reduceNeg,fxa,fxc,fxE,fxL,fxI,nxE,evO,evR,cellsT,ldCells,mkT,lenA,binPV,Env.init,resV,resT,frT,klT,ownT,intT,O.adds,ownA,rowsA,over,wrOk,keysT,keysA,ne_eq,if_true,if_false,ite_self,Nat.reduceLT,Nat.reduceSub,Nat.reduceBEq,Nat.reduceEqDiff,Nat.reduceAdd,Nat.reduceLeDiff,reduceCtorEq,Nat.reduceMul]
def withG (x : En) : Bool → List En → List En
  | laid,[] => if laid then [] else [x]
  | laid,y :: r => (if laid = false ∧ y.1 > x.1 then [x] else []) ++ y :: withG x (laid || decide (y.1 > x.1)) r
theorem withG_len (x : En) : ∀ (laid : Bool) (l : List En),(withG x laid l).length ≤ l.length + 1
  | laid,[] => by unfold withG; split <;> simp
  | laid,y :: r => by
    unfold withG
    cases laid with
    | true =>
      have : ∀ l,withG x true l = l := by
        intro l
        induction l with
        | nil => simp [withG]
        | cons z l ih => simp [withG,ih]
      simp [this]
    | false =>
      by_cases h : y.1 > x.1
      · have : ∀ l,withG x true l = l := by
          intro l
          induction l with
          | nil => simp [withG]
          | cons z l ih => simp [withG,ih]
        simp [h,this]
      · have := withG_len x false r
        simp [h]; omega
def OwnL (c : Nat) (σ : St) (X : AV) (l : List En) : Prop := (X = .nil ∧ l = []) ∨ ∃ d q,X = .own (d,q) 0 l.length ∧ σ.bs (d,q) = some (.row 3 108 (l.map encE)) ∧ c ≤ q ∧ q < σ.clk
structure Keep (c : Nat) (σ σ' : St) : Prop where
  clk : σ.clk ≤ σ'.clk
  ls : σ'.ls = σ.ls
  bs : ∀ s : Key,s.2 < c → σ'.bs s = σ.bs s
theorem Keep.refl (c : Nat) (σ : St) : Keep c σ σ := ⟨Nat.le_refl _,rfl,fun _ _ => rfl⟩
theorem Keep.trans {c : Nat} {a b d : St} (h : Keep c a b) (g : Keep c b d) : Keep c a d := ⟨Nat.le_trans h.clk g.clk,g.ls.trans h.ls,fun s hs => (g.bs s hs).trans (h.bs s hs)⟩
theorem Keep.mono {c c' : Nat} {a b : St} (h : Keep c a b) (hc : c' ≤ c) : Keep c' a b := ⟨h.clk,h.ls,fun s hs => h.bs s (by omega)⟩
theorem Keep.add {c : Nat} {a b : St} (h : Keep c a b) (hc : c ≤ b.clk) (d : Nat) (x : Blk) : Keep c a (b.add d x) := ⟨Nat.le_trans h.clk (by simp only [add_clk]; omega),h.ls,fun s hs => by
  have : ¬ s = (d,b.clk) := by rintro rfl; simp at hs; omega
  simp only [add_bs,this,if_false]; exact h.bs s hs⟩
theorem Keep.put {c : Nat} {a b : St} (h : Keep c a b) {k : Key} (hk : c ≤ k.2) (x : Blk) : Keep c a (b.put k x) := ⟨h.clk,h.ls,fun s hs => by
  have : ¬ s = k := by rintro rfl; omega
  simp only [put_bs,this,if_false]; exact h.bs s hs⟩
theorem Keep.kill {c : Nat} {a b : St} (h : Keep c a b) {k : Key} (hk : c ≤ k.2) : Keep c a (b.kill k) := ⟨h.clk,h.ls,fun s hs => by
  have : ¬ s = k := by rintro rfl; omega
  simp only [kill_bs,this,if_false]; exact h.bs s hs⟩
theorem OwnL.keep {c : Nat} {σ σ' : St} {X : AV} {l : List En} (h : OwnL c σ X l) (k : Keep σ.clk σ σ') : OwnL c σ' X l := by
  rcases h with h | ⟨d,q,h1,h2,h3,h4⟩
  · exact .inl h
  · exact .inr ⟨d,q,h1,(k.bs _ h4).trans h2,h3,Nat.lt_of_lt_of_le h4 k.clk⟩
theorem OwnL.put {c : Nat} {σ : St} {X : AV} {l : List En} (h : OwnL c σ X l) {k : Key} (hk : k.2 < c) (b : Blk) : OwnL c (σ.put k b) X l := by
  rcases h with h | ⟨d,q,h1,h2,h3,h4⟩
  · exact .inl h
  · refine .inr ⟨d,q,h1,?_,h3,h4⟩
    have : ¬ (d,q) = k := by rintro rfl; simp at hk; omega
    simp only [put_bs,this,if_false]; exact h2
theorem OwnL.add {c : Nat} {σ : St} {X : AV} {l : List En} (h : OwnL c σ X l) (d : Nat) (b : Blk) : OwnL c (σ.add d b) X l := by
  rcases h with h | ⟨d',q,h1,h2,h3,h4⟩
  · exact .inl h
  · refine .inr ⟨d',q,h1,?_,h3,by simp only [add_clk]; omega⟩
    have : ¬ (d',q) = (d,σ.clk) := by intro e; simp only [Prod.mk.injEq] at e; omega
    simp only [add_bs,this,if_false]; exact h2
theorem OwnL.mono {c c' : Nat} {σ : St} {X : AV} {l : List En} (h : OwnL c σ X l) (k : c' ≤ c) : OwnL c' σ X l := by
  rcases h with h | ⟨d,q,h1,h2,h3,h4⟩
  · exact .inl h
  · exact .inr ⟨d,q,h1,h2,by omega,h4⟩
theorem OwnL.fr {c : Nat} {σ : St} {X : AV} {l : List En} (h : OwnL c σ X l) : frA σ X = some (.l (l.map encE)) := by
  rcases h with ⟨rfl,rfl⟩ | ⟨d,q,rfl,h2,h3,h4⟩
  · rfl
  · simp only [frA,h2,List.length_map,Nat.zero_add,Nat.le_refl,if_true,List.drop_zero]
    rw [List.take_of_length_le (by simp)]
end Go.Proofs.Ytkpfjolcmkikeaa.Tm
end
section
set_option linter.unusedSimpArgs false
set_option linter.unusedVariables false
set_option maxHeartbeats 8000000
set_option maxRecDepth 10000
namespace Go.Proofs.Ytkpfjolcmkikeaa.Tm
open Go.Fx
theorem addN_len (n : Nt) (x : Nd) : (addN n x).ns.length = n.ns.length + 1 := by simp [addN]
theorem addN_cap (n : Nt) (x : Nd) : (addN n x).cap = n.cap := rfl
theorem room_add {n : Nt} {x : Nd} (hn : Room n) (hx : x.Ok) (hk : x.k ≠ 0) (h : ((n.ns.length + 1 : Nat) : Int) ≤ n.cap) : Room (addN n x) := by
  have hc := hn.cap
  have hp := ports_b hx
  have hl := addN_len n x
  refine ⟨⟨by rw [hl]; omega,hn.ok.cap,fun y hy => ?_⟩,fun y hy => ?_,by simp [addN],hn.cap,by rw [hl,addN_cap]; exact h⟩
  · rcases List.mem_append.1 hy with h | h
    · exact hn.ok.nd y h
    · rw [List.mem_singleton] at h
      subst h
      refine ⟨hx.k,hx.lv,hx.n,hx.s,hx.al,?_,hx.ap,fun p hp' => ?_⟩
      · show (List.replicate x.ports.toNat zP).length * 16 ≤ _
        rw [List.length_replicate]; omega
      · have : p = zP := List.eq_of_mem_replicate hp'
        rw [this]; exact ⟨⟨by decide,by decide⟩,⟨by decide,by decide⟩⟩
  · rcases List.mem_append.1 hy with h | h
    · exact hn.full y h
    · rw [List.mem_singleton] at h
      subst h; exact hk
theorem set_full {n : Nt} {p : Pt} (q : Pt) (h : ∀ x ∈ n.ns,x.k ≠ 0) (hp : n.has p = true) : ∀ x ∈ (n.set p q).ns,x.k ≠ 0 := by
  intro x hx
  have hp' := has_iff.1 hp
  rcases List.mem_or_eq_of_mem_set hx with h1 | rfl
  · exact h x h1
  · show (n.nd p.n).k ≠ 0
    exact h _ (nd_mem hp'.1 hp'.2.1)
theorem lnk_len (n : Nt) (p q : Pt) : (lnk n p q).ns.length = n.ns.length ∧ (lnk n p q).cap = n.cap := by
  unfold lnk linkR
  split
  · exact ⟨by rw [len_set,len_set],rfl⟩
  · exact ⟨rfl,rfl⟩
theorem room_lnk {n : Nt} {p q : Pt} (hn : Room n) (hp : wf p.n ∧ wf p.s) (hq : wf q.n ∧ wf q.s) : Room (lnk n p q) := by
  have hl := lnk_len n p q
  have hok : (lnk n p q).Ok := linkR_Ok hn.ok hp hq
  refine ⟨hok,?_,?_,by rw [hl.2]; exact hn.cap,by rw [hl.1,hl.2]; exact hn.len⟩
  · unfold lnk linkR
    split
    · rename_i h
      simp only [Bool.and_eq_true] at h
      exact set_full p (set_full q hn.full h.1.1) (by rw [has_set q q h.1.1]; exact h.1.2)
    · exact hn.full
  · intro h0
    have := hl.1
    rw [h0] at this
    exact hn.ne (List.eq_nil_of_length_eq_zero this.symm)
theorem wf_nat {n : Int} (h : 0 ≤ n ∧ n ≤ 1099511627776) : wf n := ⟨by omega,by omega⟩
def OkE (x : En) : Prop := (0 ≤ x.1 ∧ x.1 ≤ 1099511627776) ∧ (0 ≤ x.2.n ∧ x.2.n ≤ 1099511627776) ∧ (0 ≤ x.2.s ∧ x.2.s ≤ 1099511627776)
theorem OkE.wf {x : En} (h : OkE x) : wf x.2.n ∧ wf x.2.s := ⟨wf_nat h.2.1,wf_nat h.2.2⟩
theorem wf_small (i : Nat) (s : Nat) (h : i ≤ 5000) (h2 : s ≤ 100) : Go.Proofs.Ytkpfjolcmkikeaa.wf (i : Int) ∧ Go.Proofs.Ytkpfjolcmkikeaa.wf (s : Int) := ⟨⟨by omega,by omega⟩,⟨by omega,by omega⟩⟩
theorem nodeK_Ok {k lv : Int} (hk : 0 ≤ k ∧ k ≤ 100) (hl : 0 ≤ lv ∧ lv ≤ 60) : (nodeK k lv).Ok := ⟨⟨by show _ ≤ k; omega,by show k ≤ _; omega⟩,⟨by show _ ≤ lv; omega,by show lv ≤ _; omega⟩,⟨by show _ ≤ (0 : Int); decide,by show (0 : Int) ≤ _; decide⟩,by simp [nodeK],by simp [nodeK],by simp [nodeK],by simp [nodeK],by simp [nodeK]⟩
def boxG (lv : Int) : List En → Nt → Nt × List En
  | [],n => (n,[])
  | x :: r,n => ((boxG lv r (lnk (addN n (nodeK 6 lv)) ⟨(n.ns.length : Nat),1⟩ x.2)).1,(x.1,⟨(n.ns.length : Nat),0⟩) :: (boxG lv r (lnk (addN n (nodeK 6 lv)) ⟨(n.ns.length : Nat),1⟩ x.2)).2)
theorem boxG_len (lv : Int) : ∀ (l : List En) (n : Nt),(boxG lv l n).1.ns.length = n.ns.length + l.length ∧ (boxG lv l n).1.cap = n.cap ∧ (boxG lv l n).2.length = l.length
  | [],n => ⟨rfl,rfl,rfl⟩
  | x :: r,n => by
    have h := boxG_len lv r (lnk (addN n (nodeK 6 lv)) ⟨(n.ns.length : Nat),1⟩ x.2)
    have h2 := lnk_len (addN n (nodeK 6 lv)) ⟨(n.ns.length : Nat),1⟩ x.2
    rw [h2.1,h2.2,addN_len,addN_cap] at h
    simp only [boxG,List.length_cons]
    exact ⟨by omega,h.2.1,by omega⟩
def encW (n : Nt) (out : Pt) (X : AV) : List AV := [.p (.l (n.ns.map encN)),.p (.i .i64 n.cap),.p (.i .i64 out.n),.p (.i .i64 out.s),X,.p (.i .i64 0)]
theorem may6 {lv : Int} (h : 0 ≤ lv ∧ lv ≤ 60) {k : Int} (hk : k = 2 ∨ k = 3 ∨ k = 4 ∨ k = 5 ∨ k = 6 ∨ k = 7 ∨ k = 13) : (nodeK k lv).may := by
  rw [Go.Proofs.Ytkpfjolcmkikeaa.may_iff]
  unfold nodeK altsP
  rcases hk with rfl | rfl | rfl | rfl | rfl | rfl | rfl <;> simp <;> omega
theorem set_parts {α : Type} {M : List α} {i : Nat} (h : i < M.length) (y : α) : (M.set i y).take (i + 1) = M.take i ++ [y] ∧ (M.set i y).drop (i + 1) = M.drop (i + 1) := by
  have e : M.set i y = M.take i ++ y :: M.drop (i + 1) := by rw [List.set_eq_take_append_cons_drop,if_pos h]
  have hl : (M.take i).length = i := by rw [List.length_take]; omega
  constructor
  · rw [e,List.take_append,hl,show i + 1 - i = 1 by omega,List.take_of_length_le (by omega)]; rfl
  · rw [e,List.drop_append,hl,show i + 1 - i = 1 by omega,List.drop_of_length_le (by omega)]; rfl
def zE : En := (0,zP)
def mergeG (lv : Int) : List En → List En → Nt → Nt × List En
  | [],l,n => (n,l)
  | x :: r,l,n => if findF l x.1 < 0 then mergeG lv r (withG x false l) n else
      mergeG lv r (l.set (findF l x.1).toNat ((l.getD (findF l x.1).toNat zE).1,⟨(n.ns.length : Nat),0⟩))
        (lnk (lnk (addN n (nodeK 4 lv)) ⟨(n.ns.length : Nat),1⟩ (l.getD (findF l x.1).toNat zE).2) ⟨(n.ns.length : Nat),2⟩ x.2)
theorem mergeG_len (lv : Int) : ∀ (r l : List En) (n : Nt),n.ns.length ≤ (mergeG lv r l n).1.ns.length ∧ (mergeG lv r l n).1.cap = n.cap ∧ (mergeG lv r l n).2.length ≤ l.length + r.length
  | [],l,n => ⟨Nat.le_refl _,rfl,by simp [mergeG]⟩
  | x :: r,l,n => by
    unfold mergeG
    split
    · have h := mergeG_len lv r (withG x false l) n
      have h2 := withG_len x false l
      simp only [List.length_cons]
      exact ⟨h.1,h.2.1,by omega⟩
    · have h := mergeG_len lv r (l.set (findF l x.1).toNat ((l.getD (findF l x.1).toNat zE).1,⟨(n.ns.length : Nat),0⟩)) (lnk (lnk (addN n (nodeK 4 lv)) ⟨(n.ns.length : Nat),1⟩ (l.getD (findF l x.1).toNat zE).2) ⟨(n.ns.length : Nat),2⟩ x.2)
      have h2 := lnk_len (lnk (addN n (nodeK 4 lv)) ⟨(n.ns.length : Nat),1⟩ (l.getD (findF l x.1).toNat zE).2) ⟨(n.ns.length : Nat),2⟩ x.2
      have h3 := lnk_len (addN n (nodeK 4 lv)) ⟨(n.ns.length : Nat),1⟩ (l.getD (findF l x.1).toNat zE).2
      rw [addN_len,addN_cap] at h3
      rw [List.length_set] at h
      simp only [List.length_cons]
      exact ⟨by omega,h.2.1.trans (h2.2.trans h3.2),by omega⟩
theorem withG_mem (x : En) : ∀ (laid : Bool) (l : List En) (y : En),y ∈ withG x laid l → y = x ∨ y ∈ l
  | laid,[],y,h => by
    unfold withG at h
    split at h
    · simp at h
    · left; simpa using h
  | laid,z :: r,y,h => by
    unfold withG at h
    rw [List.mem_append,List.mem_cons] at h
    rcases h with h | rfl | h
    · split at h
      · left; simpa using h
      · simp at h
    · right; simp
    · rcases withG_mem x _ r y h with h | h
      · exact .inl h
      · right; simp [h]
theorem findF_get {l : List En} {v : Int} (h : ¬ findF l v < 0) : ∃ k : Nat,findF l v = (k : Int) ∧ k < l.length ∧ ∃ y,l[k]? = some y ∧ y.1 = v := by
  unfold findF at h ⊢
  cases hf : l.findIdx? (fun x => decide (x.1 = v)) with
  | none => rw [hf] at h; simp at h
  | some k =>
    rw [List.findIdx?_eq_some_iff_getElem] at hf
    obtain ⟨h1,h2,_⟩ := hf
    exact ⟨k,rfl,h1,l[k],List.getElem?_eq_getElem h1,by simpa using h2⟩
structure W where
  n : Nt
  out : Pt
  l : List En
def down (l : List En) : List En := (l.filter fun x => decide (x.1 > 0)).map fun x => (x.1 - 1,x.2)
theorem down_len (l : List En) : (down l).length ≤ l.length := by unfold down; rw [List.length_map]; exact List.length_filter_le _ _
theorem down_ok {l : List En} (h : ∀ x ∈ l,OkE x) : ∀ x ∈ down l,OkE x := by
  intro x hx
  unfold down at hx
  obtain ⟨y,hy,rfl⟩ := List.mem_map.1 hx
  rw [List.mem_filter] at hy
  have h1 := h y hy.1
  have h2 : y.1 > 0 := by simpa using hy.2
  exact ⟨⟨by show 0 ≤ y.1 - 1; omega,by show y.1 - 1 ≤ _; have := h1.1.2; omega⟩,h1.2⟩
theorem down_app (l : List En) (x : En) : down (l ++ [x]) = down l ++ (if x.1 > 0 then [(x.1 - 1,x.2)] else []) := by
  unfold down
  rw [List.filter_append,List.map_append]
  congr 1
  by_cases h : x.1 > 0 <;> simp [h]
def lamNet (lv : Int) (m : Nat) (y : W) : Nt :=
  if findF y.l 0 ≥ 0 then lnk (lnk y.n y.out ⟨(m : Nat),1⟩) (y.l.getD (findF y.l 0).toNat zE).2 ⟨(m : Nat),2⟩
  else lnk (addN (lnk y.n y.out ⟨(m : Nat),1⟩) (nodeK 7 lv)) ⟨(y.n.ns.length : Nat),0⟩ ⟨(m : Nat),2⟩
def lamStep (lv : Int) (m : Nat) (y : W) : W := ⟨lamNet lv m y,⟨(m : Nat),0⟩,down y.l⟩
def lamsG (lv : Int) (f : Nt → W) : Nat → Nt → W
  | 0,n => f n
  | k + 1,n => lamStep lv n.ns.length (lamsG lv f k (addN n (nodeK 2 lv)))
theorem lamNet_len (lv : Int) (m : Nat) (y : W) : y.n.ns.length ≤ (lamNet lv m y).ns.length ∧ (lamNet lv m y).cap = y.n.cap ∧ (¬ findF y.l 0 ≥ 0 → (lamNet lv m y).ns.length = y.n.ns.length + 1) := by
  unfold lamNet
  have h1 := lnk_len y.n y.out ⟨(m : Nat),1⟩
  split
  · rename_i h
    have h2 := lnk_len (lnk y.n y.out ⟨(m : Nat),1⟩) (y.l.getD (findF y.l 0).toNat zE).2 ⟨(m : Nat),2⟩
    exact ⟨by omega,h2.2.trans h1.2,fun h' => absurd h h'⟩
  · have h2 := lnk_len (addN (lnk y.n y.out ⟨(m : Nat),1⟩) (nodeK 7 lv)) ⟨(y.n.ns.length : Nat),0⟩ ⟨(m : Nat),2⟩
    rw [addN_len,addN_cap] at h2
    exact ⟨by omega,h2.2.trans h1.2,fun _ => by omega⟩
structure Mono (f : Nt → W) (B : Nat) : Prop where
  len : ∀ m,m.ns.length ≤ (f m).n.ns.length
  cap : ∀ m,(f m).n.cap = m.cap
  l : ∀ m,(f m).l.length ≤ B
theorem lams_mono {lv : Int} {f : Nt → W} {B : Nat} (hf : Mono f B) : ∀ k,Mono (lamsG lv f k) B
  | 0 => hf
  | k + 1 => by
    have ih := lams_mono (lv := lv) hf k
    refine ⟨fun m => ?_,fun m => ?_,fun m => ?_⟩
    · have h1 := ih.len (addN m (nodeK 2 lv))
      have h2 := lamNet_len lv m.ns.length (lamsG lv f k (addN m (nodeK 2 lv)))
      rw [addN_len] at h1
      show m.ns.length ≤ (lamNet lv m.ns.length (lamsG lv f k (addN m (nodeK 2 lv)))).ns.length
      omega
    · have h2 := lamNet_len lv m.ns.length (lamsG lv f k (addN m (nodeK 2 lv)))
      show (lamNet lv m.ns.length (lamsG lv f k (addN m (nodeK 2 lv)))).cap = m.cap
      rw [h2.2.1,ih.cap,addN_cap]
    · exact Nat.le_trans (down_len _) (ih.l _)
end Go.Proofs.Ytkpfjolcmkikeaa.Tm
end
section
set_option linter.unusedSimpArgs false
set_option linter.unusedVariables false
set_option maxHeartbeats 8000000
set_option maxRecDepth 10000
namespace Go.Proofs.Ytkpfjolcmkikeaa.Tm
open Go.Fx
theorem drop_consE {l : List En} {i : Nat} {x : En} (h : l[i]? = some x) : l.drop i = x :: l.drop (i + 1) := by
  obtain ⟨hi,rfl⟩ := List.getElem?_eq_some_iff.1 h
  rw [List.drop_eq_getElem_cons hi]
def ap (b : St) (d1 : Nat) (x : Blk) (k : Key) (d2 : Nat) (y : Blk) : St := ((b.add d1 x).kill k).add d2 y
theorem Keep.ap {c : Nat} {a b : St} (h : Keep c a b) (hc : c ≤ b.clk) {k : Key} (hk : c ≤ k.2) (d1 : Nat) (x : Blk) (d2 : Nat) (y : Blk) : Keep c a (((b.add d1 x).kill k).add d2 y) :=
  ((h.add hc d1 x).kill hk).add (by simp only [kill_clk,add_clk]; omega) d2 y
theorem ap_bs (b : St) (d1 : Nat) (x : Blk) (k : Key) (d2 : Nat) (y : Blk) : (((b.add d1 x).kill k).add d2 y).bs (d2,b.clk + 1) = some y := by
  simp only [add_bs,kill_clk,add_clk,if_true]
theorem ap_clk (b : St) (d1 : Nat) (x : Blk) (k : Key) (d2 : Nat) (y : Blk) : (((b.add d1 x).kill k).add d2 y).clk = b.clk + 2 := rfl
theorem bb1 {a b : Nat} (h : a ≤ 2 * b) (hb : b ≤ 1099511627776) : (a + 1) * 24 ≤ 140737488355328 := by omega
theorem bb2 {a b : Nat} (h : a ≤ 2 * b) (hb : b ≤ 1099511627776) : (a + 1 + 1) * 24 ≤ 140737488355328 := by omega
theorem with_ok {l : List En} {x : En} (hl : l.length ≤ 1099511627776) {c : Nat} {σ : St} {X : AV} (hc : c ≤ σ.clk) (hX : OwnL c σ X l) :
    ∃ v σ',eS S (.f 145) [.a X,.g ((encE x).map .p)] σ = some (v,σ') ∧ ∃ X',v = .a X' ∧ OwnL c σ' X' (withG x false l) ∧ Keep σ.clk σ σ' := by
  refine x_fnS (fc := F145) rfl rfl ?_
  obtain ⟨c0,hc0⟩ : ∃ c0,σ.clk = c0 := ⟨_,rfl⟩
  rw [hc0]
  simp only [F145,hc0,encE,List.map_cons,List.map_nil,List.length_cons,List.length_nil,fxa,fxc,fxE,fxL,fxI,nxE,evO,evR,cellsT,ldCells,mkT,lenA,binPV,Env.init,resV,resT,frT,klT,ownT,intT,O.adds,ownA,rowsA,over,wrOk,keysT,keysA,ne_eq,if_true,if_false,ite_self,Nat.reduceLT,Nat.reduceSub,Nat.reduceBEq,Nat.reduceEqDiff,Nat.reduceAdd,Nat.reduceLeDiff,reduceCtorEq,Nat.reduceMul]
  refine loop_nat l.length (fun i e τ => e 0 = .a X ∧ e 3 = .a (.ptr (3,c0) 0 0) ∧ e 7 = .a (.p (.i .i64 (i : Nat))) ∧ ∃ (done : List En) (laid : Bool) (d q : Nat),e 6 = .a (.p (.b laid)) ∧ e 5 = .a (.own (d,q) 0 done.length) ∧ τ.bs (d,q) = some (.row 3 108 (done.map encE)) ∧ (¬ d = 3 ∧ ¬ 3 = d) ∧ c0 ≤ q ∧ q < τ.clk ∧ τ.bs (3,c0) = some (.var ((encE x).map .p)) ∧ c0 < τ.clk ∧ Keep c0 σ τ ∧ done.length ≤ 2 * i ∧ done ++ withG x laid (l.drop i) = withG x false l) (i0 := 0) (Nat.zero_le _) ?_ ?_ ?_
  · refine ⟨rfl,by simp only [fxa,fxc,fxE,fxL,fxI,nxE,evO,evR,cellsT,ldCells,mkT,lenA,binPV,Env.init,resV,resT,frT,klT,ownT,intT,O.adds,ownA,rowsA,over,wrOk,keysT,keysA,ne_eq,if_true,if_false,ite_self,Nat.reduceLT,Nat.reduceSub,Nat.reduceBEq,Nat.reduceEqDiff,Nat.reduceAdd,Nat.reduceLeDiff,reduceCtorEq,Nat.reduceMul],rfl,[],false,8,c0 + 1,rfl,by simp only [fxa,fxc,fxE,fxL,fxI,nxE,evO,evR,cellsT,ldCells,mkT,lenA,binPV,Env.init,resV,resT,frT,klT,ownT,intT,O.adds,ownA,rowsA,over,wrOk,keysT,keysA,ne_eq,if_true,if_false,ite_self,Nat.reduceLT,Nat.reduceSub,Nat.reduceBEq,Nat.reduceEqDiff,Nat.reduceAdd,Nat.reduceLeDiff,reduceCtorEq,Nat.reduceMul],?_,by omega,by omega,?_,?_,?_,((Keep.refl c0 σ).add (by omega) _ _).add (by simp only [add_clk]; omega) _ _,by simp,by simp⟩
    · simp only [hc0,fxa,fxc,fxE,fxL,fxI,nxE,evO,evR,cellsT,ldCells,mkT,lenA,binPV,Env.init,resV,resT,frT,klT,ownT,intT,O.adds,ownA,rowsA,over,wrOk,keysT,keysA,ne_eq,if_true,if_false,ite_self,Nat.reduceLT,Nat.reduceSub,Nat.reduceBEq,Nat.reduceEqDiff,Nat.reduceAdd,Nat.reduceLeDiff,reduceCtorEq,Nat.reduceMul]; try rfl
    · simp only [hc0,fxa,fxc,fxE,fxL,fxI,nxE,evO,evR,cellsT,ldCells,mkT,lenA,binPV,Env.init,resV,resT,frT,klT,ownT,intT,O.adds,ownA,rowsA,over,wrOk,keysT,keysA,ne_eq,if_true,if_false,ite_self,Nat.reduceLT,Nat.reduceSub,Nat.reduceBEq,Nat.reduceEqDiff,Nat.reduceAdd,Nat.reduceLeDiff,reduceCtorEq,Nat.reduceMul]; try omega
    · simp only [hc0,encE,fxa,fxc,fxE,fxL,fxI,nxE,evO,evR,cellsT,ldCells,mkT,lenA,binPV,Env.init,resV,resT,frT,klT,ownT,intT,O.adds,ownA,rowsA,over,wrOk,keysT,keysA,ne_eq,if_true,if_false,ite_self,Nat.reduceLT,Nat.reduceSub,Nat.reduceBEq,Nat.reduceEqDiff,Nat.reduceAdd,Nat.reduceLeDiff,reduceCtorEq,Nat.reduceMul]
    · simp only [hc0,fxa,fxc,fxE,fxL,fxI,nxE,evO,evR,cellsT,ldCells,mkT,lenA,binPV,Env.init,resV,resT,frT,klT,ownT,intT,O.adds,ownA,rowsA,over,wrOk,keysT,keysA,ne_eq,if_true,if_false,ite_self,Nat.reduceLT,Nat.reduceSub,Nat.reduceBEq,Nat.reduceEqDiff,Nat.reduceAdd,Nat.reduceLeDiff,reduceCtorEq,Nat.reduceMul]; try omega
  · rintro i e τ hi ⟨e0,e3,e7,done,laid,d,q,e6,e5,hb,hd,hcq,hq,b3,hct,hK,hdl,hdone⟩
    obtain ⟨y,hy⟩ : ∃ y,l[i]? = some y := ⟨_,List.getElem?_eq_getElem hi⟩
    have hy' := mapE hy
    rcases hX with ⟨rfl,rfl⟩ | ⟨xd,xq,rfl,hXb,hX0,hX1⟩
    · simp at hi
    have bX := (hK.bs (xd,xq) (by show xq < c0; omega)).trans hXb
    have hlt : ((i : Nat) : Int) < (l.length : Int) := by omega
    have hge : (0 : Int) ≤ ((i : Nat) : Int) := by omega
    have hw := wrap_succ i (by omega)
    have htk : List.take done.length (done.map encE) = done.map encE := List.take_of_length_le (by simp)
    have hil : i ≤ 1099511627776 := Nat.le_trans (Nat.le_of_lt hi) hl
    have hbb := bb1 hdl hil
    have hbb2 := bb2 hdl hil
    have q0 : ¬ q = τ.clk ∧ ¬ q = τ.clk + 1 ∧ ¬ q = τ.clk + 1 + 1 ∧ ¬ q = τ.clk + 1 + 1 + 1 := by omega
    have x0 : ¬ xq = τ.clk ∧ ¬ xq = τ.clk + 1 ∧ ¬ xq = τ.clk + 1 + 1 ∧ ¬ xq = τ.clk + 1 + 1 + 1 ∧ ¬ xq = q ∧ ¬ q = xq := by omega
    have c1 : ¬ c0 = τ.clk ∧ ¬ c0 = τ.clk + 1 ∧ ¬ c0 = τ.clk + 1 + 1 ∧ ¬ c0 = τ.clk + 1 + 1 + 1 := by omega
    have k1 : ¬ τ.clk + 1 = τ.clk + 1 + 1 ∧ ¬ τ.clk + 1 = τ.clk + 1 + 1 + 1 := by omega
    simp only [encE,List.map_cons,List.map_nil] at b3
    rw [drop_consE hy] at hdone
    simp only [withG] at hdone
    by_cases hcond : laid = false ∧ y.1 > x.1
    · obtain ⟨rfl,hgt⟩ := hcond
      have htk2 : List.take (done.length + 1) (done.map encE ++ [[PV.i .i64 x.1,PV.i .i64 x.2.n,PV.i .i64 x.2.s]]) = done.map encE ++ [[PV.i .i64 x.1,PV.i .i64 x.2.n,PV.i .i64 x.2.s]] := List.take_of_length_le (by simp)
      simp only [if_pos (⟨rfl,hgt⟩ : false = false ∧ y.1 > x.1),hgt,Bool.false_or,decide_true] at hdone
      simp only [F145b0,e0,e3,e5,e6,e7,b3,hb,bX,hlt,hge,hw,hy',hgt,hd,htk,htk2,hbb,hbb2,q0,x0,c1,k1,rowK,allE,Int.toNat_natCast,List.length_map,List.length_append,List.length_cons,List.length_nil,Nat.le_refl,Nat.zero_add,Nat.one_mul,fxa,fxc,fxE,fxL,fxI,nxE,evO,evR,cellsT,ldCells,mkT,lenA,binPV,Env.init,resV,resT,frT,klT,ownT,intT,O.adds,ownA,rowsA,over,wrOk,keysT,keysA,ne_eq,if_true,if_false,ite_self,Nat.reduceLT,Nat.reduceSub,Nat.reduceBEq,Nat.reduceEqDiff,Nat.reduceAdd,Nat.reduceLeDiff,reduceCtorEq,Nat.reduceMul]
      refine ⟨done ++ [x] ++ [y],true,37,τ.clk + 1 + 1 + 1,rfl,by simp,by simp [encE],by omega,by omega,by omega,by simp [encE],by omega,?_,by simp only [List.length_append,List.length_cons,List.length_nil]; omega,by simpa using hdone⟩
      exact Keep.ap (Keep.ap hK (Nat.le_of_lt hct) (k := (d,q)) hcq 29 _ 30 _) (by rw [ap_clk]; omega) (k := (30,τ.clk + 1)) (Nat.le_succ_of_le (Nat.le_of_lt hct)) 36 _ 37 _
    · have hL : (laid || decide (y.1 > x.1)) = laid := by
        cases laid with
        | true => rfl
        | false =>
          have : ¬ y.1 > x.1 := fun h => hcond ⟨rfl,h⟩
          simp [this]
      have hcb : (!laid && decide (y.1 > x.1)) = false := by
        cases laid with
        | true => rfl
        | false =>
          have : ¬ y.1 > x.1 := fun h => hcond ⟨rfl,h⟩
          simp [this]
      rw [if_neg hcond,hL,List.nil_append] at hdone
      have fin : Keep c0 σ (((τ.add 36 (.row 3 108 [encE y])).kill (d,q)).add 37 (.row 3 108 (done.map encE ++ [encE y]))) := ((hK.add (by omega) _ _).kill (by show c0 ≤ q; omega)).add (by simp only [kill_clk,add_clk]; omega) _ _
      cases laid with
      | true =>
        simp only [F145b0,e0,e3,e5,e6,e7,b3,hb,bX,hlt,hge,hw,hy',hd,htk,hbb,q0,x0,c1,k1,rowK,allE,Int.toNat_natCast,List.length_map,List.length_append,List.length_cons,List.length_nil,Nat.le_refl,Nat.zero_add,Nat.one_mul,fxa,fxc,fxE,fxL,fxI,nxE,evO,evR,cellsT,ldCells,mkT,lenA,binPV,Env.init,resV,resT,frT,klT,ownT,intT,O.adds,ownA,rowsA,over,wrOk,keysT,keysA,ne_eq,if_true,if_false,ite_self,Nat.reduceLT,Nat.reduceSub,Nat.reduceBEq,Nat.reduceEqDiff,Nat.reduceAdd,Nat.reduceLeDiff,reduceCtorEq,Nat.reduceMul]
        exact ⟨done ++ [y],true,37,τ.clk + 1,rfl,by simp,by simp [encE],by omega,by omega,by omega,by simp [encE],by omega,fin,by simp only [List.length_append,List.length_cons,List.length_nil]; omega,by simpa using hdone⟩
      | false =>
        have hgt : ¬ y.1 > x.1 := fun h => hcond ⟨rfl,h⟩
        simp only [F145b0,e0,e3,e5,e6,e7,b3,hb,bX,hlt,hge,hw,hy',hgt,hd,htk,hbb,q0,x0,c1,k1,rowK,allE,Int.toNat_natCast,List.length_map,List.length_append,List.length_cons,List.length_nil,Nat.le_refl,Nat.zero_add,Nat.one_mul,fxa,fxc,fxE,fxL,fxI,nxE,evO,evR,cellsT,ldCells,mkT,lenA,binPV,Env.init,resV,resT,frT,klT,ownT,intT,O.adds,ownA,rowsA,over,wrOk,keysT,keysA,ne_eq,if_true,if_false,ite_self,Nat.reduceLT,Nat.reduceSub,Nat.reduceBEq,Nat.reduceEqDiff,Nat.reduceAdd,Nat.reduceLeDiff,reduceCtorEq,Nat.reduceMul]
        exact ⟨done ++ [y],false,37,τ.clk + 1,rfl,by simp,by simp [encE],by omega,by omega,by omega,by simp [encE],by omega,fin,by simp only [List.length_append,List.length_cons,List.length_nil]; omega,by simpa using hdone⟩
  · rintro e τ ⟨e0,e3,e7,done,laid,d,q,e6,e5,hb,hd,hcq,hq,b3,hct,hK,hdl,hdone⟩
    have hlt : ¬ ((l.length : Nat) : Int) < (l.length : Int) := by omega
    have hlen : ∀ e : Env,e 0 = .a X → evR (eP S) S.sp e τ (.len false (.t 0)) = some (.a (.p (.i .i64 (l.length : Nat)))) := by
      intro e h0
      rcases hX with ⟨rfl,rfl⟩ | ⟨xd,xq,rfl,hXb,hX0,hX1⟩
      · simp only [h0,fxa,fxc,fxE,fxL,fxI,nxE,evO,evR,cellsT,ldCells,mkT,lenA,binPV,Env.init,resV,resT,frT,klT,ownT,intT,O.adds,ownA,rowsA,over,wrOk,keysT,keysA,ne_eq,if_true,if_false,ite_self,Nat.reduceLT,Nat.reduceSub,Nat.reduceBEq,Nat.reduceEqDiff,Nat.reduceAdd,Nat.reduceLeDiff,reduceCtorEq,Nat.reduceMul]
      · simp only [h0,fxa,fxc,fxE,fxL,fxI,nxE,evO,evR,cellsT,ldCells,mkT,lenA,binPV,Env.init,resV,resT,frT,klT,ownT,intT,O.adds,ownA,rowsA,over,wrOk,keysT,keysA,ne_eq,if_true,if_false,ite_self,Nat.reduceLT,Nat.reduceSub,Nat.reduceBEq,Nat.reduceEqDiff,Nat.reduceAdd,Nat.reduceLeDiff,reduceCtorEq,Nat.reduceMul]
    have htk : List.take done.length (done.map encE) = done.map encE := List.take_of_length_le (by simp)
    have hbb := bb1 hdl hl
    have q0 : ¬ q = τ.clk ∧ ¬ q = τ.clk + 1 := by omega
    simp only [encE,List.map_cons,List.map_nil] at b3
    rw [List.drop_length] at hdone
    cases laid with
    | true =>
      simp only [withG,if_true,List.append_nil] at hdone
      rw [← hdone]
      rcases hX with ⟨rfl,rfl⟩ | ⟨xd,xq,rfl,hXb,hX0,hX1⟩
      · simp only [F145b0,e0,e3,e5,e6,e7,hlt,List.length_nil,Int.cast_ofNat_Int,Int.lt_irrefl,fxa,fxc,fxE,fxL,fxI,nxE,evO,evR,cellsT,ldCells,mkT,lenA,binPV,Env.init,resV,resT,frT,klT,ownT,intT,O.adds,ownA,rowsA,over,wrOk,keysT,keysA,ne_eq,if_true,if_false,ite_self,Nat.reduceLT,Nat.reduceSub,Nat.reduceBEq,Nat.reduceEqDiff,Nat.reduceAdd,Nat.reduceLeDiff,reduceCtorEq,Nat.reduceMul]
        exact ⟨_,rfl,.inr ⟨d,q,rfl,hb,by omega,hq⟩,hK⟩
      · simp only [F145b0,e0,e3,e5,e6,e7,hlt,fxa,fxc,fxE,fxL,fxI,nxE,evO,evR,cellsT,ldCells,mkT,lenA,binPV,Env.init,resV,resT,frT,klT,ownT,intT,O.adds,ownA,rowsA,over,wrOk,keysT,keysA,ne_eq,if_true,if_false,ite_self,Nat.reduceLT,Nat.reduceSub,Nat.reduceBEq,Nat.reduceEqDiff,Nat.reduceAdd,Nat.reduceLeDiff,reduceCtorEq,Nat.reduceMul]
        exact ⟨_,rfl,.inr ⟨d,q,rfl,hb,by omega,hq⟩,hK⟩
    | false =>
      simp only [withG,Bool.false_eq_true,if_false] at hdone
      rw [← hdone]
      have fin : Keep c0 σ (((τ.add 42 (.row 3 108 [encE x])).kill (d,q)).add 43 (.row 3 108 (done.map encE ++ [encE x]))) := ((hK.add (by omega) _ _).kill (by show c0 ≤ q; omega)).add (by simp only [kill_clk,add_clk]; omega) _ _
      rcases hX with ⟨rfl,rfl⟩ | ⟨xd,xq,rfl,hXb,hX0,hX1⟩
      · simp only [F145b0,e0,e3,e5,e6,e7,b3,hb,hlt,htk,hbb,q0,hd,List.length_map,List.length_nil,List.length_cons,List.length_append,Int.cast_ofNat_Int,Int.lt_irrefl,Nat.le_refl,Nat.zero_add,Nat.one_mul,fxa,fxc,fxE,fxL,fxI,nxE,evO,evR,cellsT,ldCells,mkT,lenA,binPV,Env.init,resV,resT,frT,klT,ownT,intT,O.adds,ownA,rowsA,over,wrOk,keysT,keysA,ne_eq,if_true,if_false,ite_self,Nat.reduceLT,Nat.reduceSub,Nat.reduceBEq,Nat.reduceEqDiff,Nat.reduceAdd,Nat.reduceLeDiff,reduceCtorEq,Nat.reduceMul]
        exact ⟨_,rfl,.inr ⟨43,τ.clk + 1,by simp,by rw [ap_bs]; simp [encE],by omega,by rw [ap_clk]; omega⟩,fin⟩
      · simp only [F145b0,e0,e3,e5,e6,e7,b3,hb,hlt,htk,hbb,q0,hd,List.length_map,List.length_nil,List.length_cons,List.length_append,Nat.le_refl,Nat.zero_add,Nat.one_mul,fxa,fxc,fxE,fxL,fxI,nxE,evO,evR,cellsT,ldCells,mkT,lenA,binPV,Env.init,resV,resT,frT,klT,ownT,intT,O.adds,ownA,rowsA,over,wrOk,keysT,keysA,ne_eq,if_true,if_false,ite_self,Nat.reduceLT,Nat.reduceSub,Nat.reduceBEq,Nat.reduceEqDiff,Nat.reduceAdd,Nat.reduceLeDiff,reduceCtorEq,Nat.reduceMul]
        exact ⟨_,rfl,.inr ⟨43,τ.clk + 1,by simp,by rw [ap_bs]; simp [encE],by omega,by rw [ap_clk]; omega⟩,fin⟩
end Go.Proofs.Ytkpfjolcmkikeaa.Tm
end
section
set_option linter.unusedSimpArgs false
set_option linter.unusedVariables false
set_option maxHeartbeats 8000000
set_option maxRecDepth 10000
namespace Go.Proofs.Ytkpfjolcmkikeaa.Tm
open Go.Fx
theorem box_ok {n : Nt} {out : Pt} {l : List En} {lv : Int} (hn : Room n) (hlv : 0 ≤ lv ∧ lv ≤ 60) (hroom : ((n.ns.length + l.length : Nat) : Int) ≤ n.cap) (hE : ∀ x ∈ l,OkE x) {c : Nat} {σ : St} {X : AV} (hc : c ≤ σ.clk) (hX : OwnL c σ X l) :
    ∃ v σ',eS S (.f 144) [.g (encW n out X),.a (.p (.i .i64 lv))] σ = some (v,σ') ∧ ∃ X',v = .g (encW (boxG lv l n).1 out X') ∧ OwnL c σ' X' (boxG lv l n).2 ∧ Keep c σ σ' := by
  refine x_fnS (fc := F144) rfl rfl ?_
  obtain ⟨c0,hc0⟩ : ∃ c0,σ.clk = c0 := ⟨_,rfl⟩
  obtain ⟨R,hR⟩ : ∃ R,boxG lv l n = R := ⟨_,rfl⟩
  have hcap := hn.cap
  have hbl := boxG_len lv l n
  rw [hR] at hbl ⊢
  simp only [F144,hc0,encW,List.length_cons,List.length_nil,fxa,fxc,fxE,fxL,fxI,nxE,evO,evR,cellsT,ldCells,mkT,lenA,binPV,Env.init,resV,resT,frT,klT,ownT,intT,O.adds,ownA,rowsA,over,wrOk,keysT,keysA,ne_eq,if_true,if_false,ite_self,Nat.reduceLT,Nat.reduceSub,Nat.reduceBEq,Nat.reduceEqDiff,Nat.reduceAdd,Nat.reduceLeDiff,reduceCtorEq,Nat.reduceMul]
  refine loop_nat l.length (fun i e τ => e 1 = .a (.p (.i .i64 lv)) ∧ e 2 = .a (.ptr (2,c0) 0 0) ∧ e 4 = .a (.ptr (4,c0 + 1) 0 0) ∧ e 5 = .a (.p (.i .i64 (i : Nat))) ∧ ∃ (m : Nt) (M : List En),τ.bs (2,c0) = some (.var (encW m out X)) ∧ τ.bs (4,c0 + 1) = some (.var [.nil,.p (.i .i64 0),.p (.i .i64 0),.p (.i .i64 0),.nil,.p (.i .i64 0)]) ∧ Room m ∧ m.ns.length = n.ns.length + i ∧ m.cap = n.cap ∧ OwnL c τ X M ∧ M.length = l.length ∧ M.drop i = l.drop i ∧ (boxG lv (l.drop i) m).1 = R.1 ∧ M.take i ++ (boxG lv (l.drop i) m).2 = R.2 ∧ Keep c σ τ ∧ c0 + 2 ≤ τ.clk) (i0 := 0) (Nat.zero_le _) ?_ ?_ ?_
  · refine ⟨by simp only [fxa,fxc,fxE,fxL,fxI,nxE,evO,evR,cellsT,ldCells,mkT,lenA,binPV,Env.init,resV,resT,frT,klT,ownT,intT,O.adds,ownA,rowsA,over,wrOk,keysT,keysA,ne_eq,if_true,if_false,ite_self,Nat.reduceLT,Nat.reduceSub,Nat.reduceBEq,Nat.reduceEqDiff,Nat.reduceAdd,Nat.reduceLeDiff,reduceCtorEq,Nat.reduceMul],by simp only [fxa,fxc,fxE,fxL,fxI,nxE,evO,evR,cellsT,ldCells,mkT,lenA,binPV,Env.init,resV,resT,frT,klT,ownT,intT,O.adds,ownA,rowsA,over,wrOk,keysT,keysA,ne_eq,if_true,if_false,ite_self,Nat.reduceLT,Nat.reduceSub,Nat.reduceBEq,Nat.reduceEqDiff,Nat.reduceAdd,Nat.reduceLeDiff,reduceCtorEq,Nat.reduceMul],by simp only [fxa,fxc,fxE,fxL,fxI,nxE,evO,evR,cellsT,ldCells,mkT,lenA,binPV,Env.init,resV,resT,frT,klT,ownT,intT,O.adds,ownA,rowsA,over,wrOk,keysT,keysA,ne_eq,if_true,if_false,ite_self,Nat.reduceLT,Nat.reduceSub,Nat.reduceBEq,Nat.reduceEqDiff,Nat.reduceAdd,Nat.reduceLeDiff,reduceCtorEq,Nat.reduceMul],by simp only [fxa,fxc,fxE,fxL,fxI,nxE,evO,evR,cellsT,ldCells,mkT,lenA,binPV,Env.init,resV,resT,frT,klT,ownT,intT,O.adds,ownA,rowsA,over,wrOk,keysT,keysA,ne_eq,if_true,if_false,ite_self,Nat.reduceLT,Nat.reduceSub,Nat.reduceBEq,Nat.reduceEqDiff,Nat.reduceAdd,Nat.reduceLeDiff,reduceCtorEq,Nat.reduceMul]; rfl,n,l,?_,?_,hn,rfl,rfl,hX.keep (((Keep.refl _ σ).add (by omega) _ _).add (by simp only [add_clk]; omega) _ _),rfl,rfl,by rw [List.drop_zero,hR],by rw [List.drop_zero,hR]; rfl,((Keep.refl _ σ).add (by omega) _ _).add (by simp only [add_clk]; omega) _ _,?_⟩
    · simp only [hc0,encW,fxa,fxc,fxE,fxL,fxI,nxE,evO,evR,cellsT,ldCells,mkT,lenA,binPV,Env.init,resV,resT,frT,klT,ownT,intT,O.adds,ownA,rowsA,over,wrOk,keysT,keysA,ne_eq,if_true,if_false,ite_self,Nat.reduceLT,Nat.reduceSub,Nat.reduceBEq,Nat.reduceEqDiff,Nat.reduceAdd,Nat.reduceLeDiff,reduceCtorEq,Nat.reduceMul]
    · simp only [hc0,fxa,fxc,fxE,fxL,fxI,nxE,evO,evR,cellsT,ldCells,mkT,lenA,binPV,Env.init,resV,resT,frT,klT,ownT,intT,O.adds,ownA,rowsA,over,wrOk,keysT,keysA,ne_eq,if_true,if_false,ite_self,Nat.reduceLT,Nat.reduceSub,Nat.reduceBEq,Nat.reduceEqDiff,Nat.reduceAdd,Nat.reduceLeDiff,reduceCtorEq,Nat.reduceMul]
    · simp only [hc0,fxa,fxc,fxE,fxL,fxI,nxE,evO,evR,cellsT,ldCells,mkT,lenA,binPV,Env.init,resV,resT,frT,klT,ownT,intT,O.adds,ownA,rowsA,over,wrOk,keysT,keysA,ne_eq,if_true,if_false,ite_self,Nat.reduceLT,Nat.reduceSub,Nat.reduceBEq,Nat.reduceEqDiff,Nat.reduceAdd,Nat.reduceLeDiff,reduceCtorEq,Nat.reduceMul]; try omega
  · rintro i e τ hi ⟨e1,e2,e4,e5,m,M,b2,b4,hm,hml,hmc,hXM,hMl,hMd,hG1,hG2,hK,hct⟩
    obtain ⟨x,hx⟩ : ∃ x,l[i]? = some x := ⟨_,List.getElem?_eq_getElem hi⟩
    have hxE := hE x (List.mem_of_getElem? hx)
    have hMx : M[i]? = some x := by
      have h1 : (M.drop i)[0]? = some x := by rw [hMd,List.getElem?_drop]; simpa using hx
      rw [List.getElem?_drop] at h1; simpa using h1
    have hMx' := mapE hMx
    rcases hXM with ⟨rfl,rfl⟩ | ⟨d,q,rfl,hXb,hX0,hX1⟩
    · simp at hMl; omega
    have hqc : q < c0 := by
      rcases hX with ⟨h,_⟩ | ⟨d',q',h,_,_,h4⟩
      · cases h
      · injection h with h1 _ _
        injection h1 with _ h2
        omega
    have hlt : ((i : Nat) : Int) < (M.length : Int) := by omega
    have hge : (0 : Int) ≤ ((i : Nat) : Int) := by omega
    have hw := wrap_succ i (by omega)
    have hN6 := nodeK_Ok (k := 6) (by omega) hlv
    have hrm : ((m.ns.length + 1 : Nat) : Int) ≤ m.cap := by omega
    have c1 := made_ok (x := nodeK 6 lv) hm hN6 (by show ¬ (6 : Int) < 2; decide) (may6 hlv (by omega)) (by show lv ≤ 60; omega) hrm
    have hm1 := room_add hm hN6 (by show (6 : Int) ≠ 0; decide) hrm
    have hwp := wf_small m.ns.length 1 (by omega) (by omega)
    have c2 := link_ok (p := ⟨(m.ns.length : Nat),1⟩) (q := x.2) hm1.ok hwp hxE.wf
    have hm2 := room_lnk (p := ⟨(m.ns.length : Nat),1⟩) (q := x.2) hm1 hwp hxE.wf
    have hl2 := lnk_len (addN m (nodeK 6 lv)) ⟨(m.ns.length : Nat),1⟩ x.2
    rw [addN_len,addN_cap] at hl2
    have a1 := at_ok (m.ns.length : Nat) 1
    have a0 := at_ok (m.ns.length : Nat) 0
    obtain ⟨m2,hm2e⟩ : ∃ m2,lnk (addN m (nodeK 6 lv)) ⟨(m.ns.length : Nat),1⟩ x.2 = m2 := ⟨_,rfl⟩
    rw [drop_consE hx] at hG1 hG2
    simp only [boxG] at hG1 hG2
    rw [hm2e] at c2 hm2 hl2 hG1 hG2
    obtain ⟨f,hf⟩ : ∃ f,m.ns.length = f := ⟨_,rfl⟩
    rw [hf] at c1 c2 a1 a0 hG2
    have q0 : ¬ q = c0 ∧ ¬ q = c0 + 1 ∧ ¬ q = τ.clk ∧ ¬ c0 = q ∧ ¬ c0 + 1 = q := by omega
    have k0 : ¬ c0 = τ.clk ∧ ¬ c0 + 1 = τ.clk := by omega
    have hset : (M.map encE).set i [.i .i64 x.1,.i .i64 (f : Nat),.i .i64 0] = (M.set i (x.1,⟨(f : Nat),0⟩)).map encE := by rw [List.map_set]; rfl
    have hsp := set_parts (M := M) (i := i) (by omega) (x.1,(⟨(f : Nat),0⟩ : Pt))
    simp only [encT,encP,nodeK,encN,List.map_nil] at c1 c2
    simp only [encW] at b2
    simp only [F144b0,e1,e2,e4,e5,b2,b4,hXb,hlt,hge,hw,hMx',c1,c2,a1,a0,q0,k0,hset,rowK,allE,Int.toNat_natCast,List.length_map,List.length_set,List.length_cons,List.length_nil,List.cons_append,List.nil_append,Nat.le_refl,Nat.zero_add,Nat.one_mul,fxa,fxc,fxE,fxL,fxI,nxE,evO,evR,cellsT,ldCells,mkT,lenA,binPV,Env.init,resV,resT,frT,klT,ownT,intT,O.adds,ownA,rowsA,over,wrOk,keysT,keysA,ne_eq,if_true,if_false,ite_self,Nat.reduceLT,Nat.reduceSub,Nat.reduceBEq,Nat.reduceEqDiff,Nat.reduceAdd,Nat.reduceLeDiff,reduceCtorEq,Nat.reduceMul]
    have hMd1 : M.drop (i + 1) = l.drop (i + 1) := by
      have := congrArg (List.drop 1) hMd
      rwa [List.drop_drop,List.drop_drop] at this
    refine ⟨m2,M.set i (x.1,⟨(f : Nat),0⟩),rfl,hm2,by omega,by omega,.inr ⟨d,q,by rw [List.length_set],by show (if (d,q) = (d,q) then _ else _) = _; rw [if_pos rfl],hX0,by show q < τ.clk + 1; omega⟩,by rw [List.length_set]; exact hMl,hsp.2.trans hMd1,hG1,by rw [hsp.1,List.append_assoc]; exact hG2,?_,by omega⟩
    exact ((((hK.add (by omega) _ _).put (k := (6,τ.clk)) (by show c ≤ τ.clk; omega) _).put (k := (2,c0)) (by show c ≤ c0; omega) _).put (k := (2,c0)) (by show c ≤ c0; omega) _).put (k := (d,q)) hX0 _
  · rintro e τ ⟨e1,e2,e4,e5,m,M,b2,b4,hm,hml,hmc,hXM,hMl,hMd,hG1,hG2,hK,hct⟩
    rw [List.drop_length] at hG1 hG2
    simp only [boxG,List.append_nil] at hG1 hG2
    rw [← hMl,List.take_length] at hG2
    have hlt : ¬ ((l.length : Nat) : Int) < (M.length : Int) := by omega
    have k0 : ¬ c0 = c0 + 1 := by omega
    simp only [encW] at b2
    rw [hG1] at b2
    have fin : Keep c σ (τ.put (4,c0 + 1) (.var [.p (.l (R.1.ns.map encN)),.p (.i .i64 R.1.cap),.p (.i .i64 out.n),.p (.i .i64 out.s),X,.p (.i .i64 0)])) := hK.put (k := (4,c0 + 1)) (by show c ≤ c0 + 1; omega) _
    have ow : OwnL c (τ.put (4,c0 + 1) (.var [.p (.l (R.1.ns.map encN)),.p (.i .i64 R.1.cap),.p (.i .i64 out.n),.p (.i .i64 out.s),X,.p (.i .i64 0)])) X R.2 := by
      rw [← hG2]
      rcases hXM with h | ⟨d,q,h1,h2,h3,h4⟩
      · exact .inl h
      · refine .inr ⟨d,q,h1,?_,h3,h4⟩
        have : ¬ (d,q) = (4,c0 + 1) := by rintro e; rw [e,b4] at h2; cases h2
        simp only [put_bs,this,if_false]; exact h2
    rcases hXM with ⟨rfl,hM0⟩ | ⟨d,q,rfl,hXb,hX0,hX1⟩
    · have hl0 : l.length = 0 := by rw [← hMl,hM0]; rfl
      rw [hl0] at e5
      simp only [F144b0,e1,e2,e4,e5,b2,b4,hl0,hlt,List.length_map,List.length_cons,List.length_nil,Int.cast_ofNat_Int,Int.lt_irrefl,fxa,fxc,fxE,fxL,fxI,nxE,evO,evR,cellsT,ldCells,mkT,lenA,binPV,Env.init,resV,resT,frT,klT,ownT,intT,O.adds,ownA,rowsA,over,wrOk,keysT,keysA,ne_eq,if_true,if_false,ite_self,Nat.reduceLT,Nat.reduceSub,Nat.reduceBEq,Nat.reduceEqDiff,Nat.reduceAdd,Nat.reduceLeDiff,reduceCtorEq,Nat.reduceMul]
      exact ⟨_,rfl,ow,fin⟩
    · simp only [F144b0,e1,e2,e4,e5,b2,b4,hlt,hXb,List.length_map,List.length_cons,List.length_nil,fxa,fxc,fxE,fxL,fxI,nxE,evO,evR,cellsT,ldCells,mkT,lenA,binPV,Env.init,resV,resT,frT,klT,ownT,intT,O.adds,ownA,rowsA,over,wrOk,keysT,keysA,ne_eq,if_true,if_false,ite_self,Nat.reduceLT,Nat.reduceSub,Nat.reduceBEq,Nat.reduceEqDiff,Nat.reduceAdd,Nat.reduceLeDiff,reduceCtorEq,Nat.reduceMul]
      exact ⟨_,rfl,ow,fin⟩
end Go.Proofs.Ytkpfjolcmkikeaa.Tm
end
section
set_option linter.unusedSimpArgs false
set_option linter.unusedVariables false
set_option maxHeartbeats 8000000
set_option maxRecDepth 10000
namespace Go.Proofs.Ytkpfjolcmkikeaa.Tm
open Go.Fx
theorem OwnL.putv {c : Nat} {σ : St} {X : AV} {l : List En} (h : OwnL c σ X l) {k : Key} {v : List AV} (hk : σ.bs k = some (.var v)) (b : Blk) : OwnL c (σ.put k b) X l := by
  rcases h with h | ⟨d,q,h1,h2,h3,h4⟩
  · exact .inl h
  · refine .inr ⟨d,q,h1,?_,h3,h4⟩
    have : ¬ (d,q) = k := by rintro rfl; rw [hk] at h2; cases h2
    simp only [put_bs,this,if_false]; exact h2
theorem merged_ok {n : Nt} {out : Pt} {yl l : List En} {lv : Int} (hn : Room n) (hlv : 0 ≤ lv ∧ lv ≤ 60) (hroom : ((mergeG lv yl l n).1.ns.length : Int) ≤ n.cap) (hy : ∀ x ∈ yl,OkE x) (hE : ∀ x ∈ l,OkE x) (hll : l.length + yl.length ≤ 1099511627776) {c : Nat} {σ : St} {X : AV} (hc : c ≤ σ.clk) (hX : OwnL c σ X l) :
    ∃ v σ',eS S (.f 120) [.g (encW n out (.p (.l (yl.map encE)))),.a X,.a (.p (.i .i64 lv))] σ = some (v,σ') ∧ ∃ X',v = .g (encW (mergeG lv yl l n).1 out X') ∧ OwnL c σ' X' (mergeG lv yl l n).2 ∧ Keep σ.clk σ σ' ∧ (∀ x ∈ (mergeG lv yl l n).2,OkE x) ∧ Room (mergeG lv yl l n).1 := by
  obtain ⟨c0,hc0⟩ : ∃ c0,σ.clk = c0 := ⟨_,rfl⟩
  obtain ⟨R,hR⟩ : ∃ R,mergeG lv yl l n = R := ⟨_,rfl⟩
  have hcap := hn.cap
  rw [hR] at hroom ⊢
  rw [hc0]
  refine x_fnS (fc := F120) rfl rfl ?_
  simp only [F120,hc0,encW,List.length_cons,List.length_nil,fxa,fxc,fxE,fxL,fxI,nxE,evO,evR,cellsT,ldCells,mkT,lenA,binPV,Env.init,resV,resT,frT,klT,ownT,intT,O.adds,ownA,rowsA,over,wrOk,keysT,keysA,ne_eq,if_true,if_false,ite_self,Nat.reduceLT,Nat.reduceSub,Nat.reduceBEq,Nat.reduceEqDiff,Nat.reduceAdd,Nat.reduceLeDiff,reduceCtorEq,Nat.reduceMul]
  refine loop_nat yl.length (fun i e τ => e 2 = .a (.p (.i .i64 lv)) ∧ e 3 = .a (.ptr (3,c0) 0 0) ∧ e 6 = .a (.ptr (6,c0 + 1) 0 0) ∧ e 7 = .a (.p (.i .i64 (i : Nat))) ∧ ∃ (m : Nt) (M : List En) (Y : AV),e 1 = .a Y ∧ τ.bs (3,c0) = some (.var (encW m out (.p (.l (yl.map encE))))) ∧ τ.bs (6,c0 + 1) = some (.var [.nil,.p (.i .i64 0),.p (.i .i64 0),.p (.i .i64 0),.nil,.p (.i .i64 0)]) ∧ Room m ∧ m.cap = n.cap ∧ OwnL c τ Y M ∧ M.length ≤ l.length + i ∧ (∀ x ∈ M,OkE x) ∧ mergeG lv (yl.drop i) M m = R ∧ Keep c0 σ τ ∧ c0 + 2 ≤ τ.clk) (i0 := 0) (Nat.zero_le _) ?_ ?_ ?_
  · refine ⟨by simp only [fxa,fxc,fxE,fxL,fxI,nxE,evO,evR,cellsT,ldCells,mkT,lenA,binPV,Env.init,resV,resT,frT,klT,ownT,intT,O.adds,ownA,rowsA,over,wrOk,keysT,keysA,ne_eq,if_true,if_false,ite_self,Nat.reduceLT,Nat.reduceSub,Nat.reduceBEq,Nat.reduceEqDiff,Nat.reduceAdd,Nat.reduceLeDiff,reduceCtorEq,Nat.reduceMul],by simp only [fxa,fxc,fxE,fxL,fxI,nxE,evO,evR,cellsT,ldCells,mkT,lenA,binPV,Env.init,resV,resT,frT,klT,ownT,intT,O.adds,ownA,rowsA,over,wrOk,keysT,keysA,ne_eq,if_true,if_false,ite_self,Nat.reduceLT,Nat.reduceSub,Nat.reduceBEq,Nat.reduceEqDiff,Nat.reduceAdd,Nat.reduceLeDiff,reduceCtorEq,Nat.reduceMul],by simp only [fxa,fxc,fxE,fxL,fxI,nxE,evO,evR,cellsT,ldCells,mkT,lenA,binPV,Env.init,resV,resT,frT,klT,ownT,intT,O.adds,ownA,rowsA,over,wrOk,keysT,keysA,ne_eq,if_true,if_false,ite_self,Nat.reduceLT,Nat.reduceSub,Nat.reduceBEq,Nat.reduceEqDiff,Nat.reduceAdd,Nat.reduceLeDiff,reduceCtorEq,Nat.reduceMul],by simp only [fxa,fxc,fxE,fxL,fxI,nxE,evO,evR,cellsT,ldCells,mkT,lenA,binPV,Env.init,resV,resT,frT,klT,ownT,intT,O.adds,ownA,rowsA,over,wrOk,keysT,keysA,ne_eq,if_true,if_false,ite_self,Nat.reduceLT,Nat.reduceSub,Nat.reduceBEq,Nat.reduceEqDiff,Nat.reduceAdd,Nat.reduceLeDiff,reduceCtorEq,Nat.reduceMul]; try rfl,n,l,X,by simp only [fxa,fxc,fxE,fxL,fxI,nxE,evO,evR,cellsT,ldCells,mkT,lenA,binPV,Env.init,resV,resT,frT,klT,ownT,intT,O.adds,ownA,rowsA,over,wrOk,keysT,keysA,ne_eq,if_true,if_false,ite_self,Nat.reduceLT,Nat.reduceSub,Nat.reduceBEq,Nat.reduceEqDiff,Nat.reduceAdd,Nat.reduceLeDiff,reduceCtorEq,Nat.reduceMul],?_,?_,hn,rfl,hX.keep (((Keep.refl _ σ).add (by omega) _ _).add (by simp only [add_clk]; omega) _ _),by omega,hE,by rw [List.drop_zero,hR],((Keep.refl _ σ).add (by omega) _ _).add (by simp only [add_clk]; omega) _ _,?_⟩
    · simp only [hc0,encW,fxa,fxc,fxE,fxL,fxI,nxE,evO,evR,cellsT,ldCells,mkT,lenA,binPV,Env.init,resV,resT,frT,klT,ownT,intT,O.adds,ownA,rowsA,over,wrOk,keysT,keysA,ne_eq,if_true,if_false,ite_self,Nat.reduceLT,Nat.reduceSub,Nat.reduceBEq,Nat.reduceEqDiff,Nat.reduceAdd,Nat.reduceLeDiff,reduceCtorEq,Nat.reduceMul]
    · simp only [hc0,fxa,fxc,fxE,fxL,fxI,nxE,evO,evR,cellsT,ldCells,mkT,lenA,binPV,Env.init,resV,resT,frT,klT,ownT,intT,O.adds,ownA,rowsA,over,wrOk,keysT,keysA,ne_eq,if_true,if_false,ite_self,Nat.reduceLT,Nat.reduceSub,Nat.reduceBEq,Nat.reduceEqDiff,Nat.reduceAdd,Nat.reduceLeDiff,reduceCtorEq,Nat.reduceMul]
    · simp only [hc0,fxa,fxc,fxE,fxL,fxI,nxE,evO,evR,cellsT,ldCells,mkT,lenA,binPV,Env.init,resV,resT,frT,klT,ownT,intT,O.adds,ownA,rowsA,over,wrOk,keysT,keysA,ne_eq,if_true,if_false,ite_self,Nat.reduceLT,Nat.reduceSub,Nat.reduceBEq,Nat.reduceEqDiff,Nat.reduceAdd,Nat.reduceLeDiff,reduceCtorEq,Nat.reduceMul]; try omega
  · rintro i e τ hi ⟨e2,e3,e6,e7,m,M,Y,e1,b3,b6,hm,hmc,hXM,hMl,hME,hG,hK,hct⟩
    obtain ⟨x,hx⟩ : ∃ x,yl[i]? = some x := ⟨_,List.getElem?_eq_getElem hi⟩
    have hxE := hy x (List.mem_of_getElem? hx)
    have hx' := mapE hx
    have hlt : ((i : Nat) : Int) < (yl.length : Int) := by omega
    have hge : (0 : Int) ≤ ((i : Nat) : Int) := by omega
    have hw := wrap_succ i (by omega)
    have hfr := hXM.fr
    have f1 := find_ok (l := M) (v := x.1) (by omega)
    have k0 : ¬ c0 = τ.clk ∧ ¬ c0 + 1 = τ.clk := by omega
    rw [drop_consE hx] at hG
    simp only [encW] at b3
    unfold mergeG at hG
    by_cases hk : findF M x.1 < 0
    · rw [if_pos hk] at hG
      obtain ⟨v,τ1,c1,X1,rfl,o1,o2⟩ := with_ok (x := x) (l := M) (by omega) (c := c) (σ := τ) (X := Y) (by omega) hXM
      simp only [encE,List.map_cons,List.map_nil] at c1
      have b3' := (o2.bs (3,c0) (by show c0 < τ.clk; omega)).trans b3
      have b6' := (o2.bs (6,c0 + 1) (by show c0 + 1 < τ.clk; omega)).trans b6
      simp only [F120b0,e1,e2,e3,e6,e7,b3,b3',b6',hlt,hge,hw,hx',hfr,f1,hk,c1,rowK,allE,Int.toNat_natCast,List.length_map,List.length_cons,List.length_nil,Nat.le_refl,Nat.zero_add,fxa,fxc,fxE,fxL,fxI,nxE,evO,evR,cellsT,ldCells,mkT,lenA,binPV,Env.init,resV,resT,frT,klT,ownT,intT,O.adds,ownA,rowsA,over,wrOk,keysT,keysA,ne_eq,if_true,if_false,ite_self,Nat.reduceLT,Nat.reduceSub,Nat.reduceBEq,Nat.reduceEqDiff,Nat.reduceAdd,Nat.reduceLeDiff,reduceCtorEq,Nat.reduceMul]
      refine ⟨m,withG x false M,X1,rfl,by simp only [encW],hm,hmc,o1,by have := withG_len x false M; omega,fun y hy' => ?_,hG,hK.trans (o2.mono (by omega)),by have := o2.clk; omega⟩
      rcases withG_mem x _ M y hy' with rfl | h
      · exact hxE
      · exact hME y h
    · rw [if_neg hk] at hG
      obtain ⟨k,hkk,hkl,y,hyk,hyv⟩ := findF_get hk
      rw [hkk] at f1 hG hk
      rw [Int.toNat_natCast] at hG
      have hgd : M.getD k zE = y := by rw [List.getD_eq_getElem?_getD,hyk]; rfl
      rw [hgd] at hG
      have hyE := hME y (List.mem_of_getElem? hyk)
      have hyk' := mapE hyk
      rcases hXM with ⟨rfl,rfl⟩ | ⟨d,q,rfl,hXb,hX0,hX1⟩
      · simp at hkl
      have hlv4 := nodeK_Ok (k := 4) (by omega) hlv
      have hmono := mergeG_len lv (yl.drop (i + 1)) (M.set k (y.1,⟨(m.ns.length : Nat),0⟩)) (lnk (lnk (addN m (nodeK 4 lv)) ⟨(m.ns.length : Nat),1⟩ y.2) ⟨(m.ns.length : Nat),2⟩ x.2)
      have hl2 := lnk_len (addN m (nodeK 4 lv)) ⟨(m.ns.length : Nat),1⟩ y.2
      have hl3 := lnk_len (lnk (addN m (nodeK 4 lv)) ⟨(m.ns.length : Nat),1⟩ y.2) ⟨(m.ns.length : Nat),2⟩ x.2
      rw [hG,hl3.1,hl2.1,addN_len] at hmono
      have hrm : ((m.ns.length + 1 : Nat) : Int) ≤ m.cap := by omega
      have c1 := made_ok (x := nodeK 4 lv) hm hlv4 (by show ¬ (4 : Int) < 2; decide) (may6 hlv (by omega)) (by show lv ≤ 60; omega) hrm
      have hm1 := room_add hm hlv4 (by show (4 : Int) ≠ 0; decide) hrm
      have hwp := wf_small m.ns.length 1 (by omega) (by omega)
      have hwq := wf_small m.ns.length 2 (by omega) (by omega)
      have c2 := link_ok (p := ⟨(m.ns.length : Nat),1⟩) (q := y.2) hm1.ok hwp hyE.wf
      have hm2 := room_lnk (p := ⟨(m.ns.length : Nat),1⟩) (q := y.2) hm1 hwp hyE.wf
      have c3 := link_ok (p := ⟨(m.ns.length : Nat),2⟩) (q := x.2) hm2.ok hwq hxE.wf
      have hm3 := room_lnk (p := ⟨(m.ns.length : Nat),2⟩) (q := x.2) hm2 hwq hxE.wf
      have a1 := at_ok (m.ns.length : Nat) 1
      have a2 := at_ok (m.ns.length : Nat) 2
      have a0 := at_ok (m.ns.length : Nat) 0
      rw [hl2.2,addN_cap] at hl3
      obtain ⟨m3,hm3e⟩ : ∃ m3,lnk (lnk (addN m (nodeK 4 lv)) ⟨(m.ns.length : Nat),1⟩ y.2) ⟨(m.ns.length : Nat),2⟩ x.2 = m3 := ⟨_,rfl⟩
      obtain ⟨m2,hm2e⟩ : ∃ m2,lnk (addN m (nodeK 4 lv)) ⟨(m.ns.length : Nat),1⟩ y.2 = m2 := ⟨_,rfl⟩
      rw [hm3e] at c3 hm3 hl3 hG
      rw [hm2e] at c2 c3
      obtain ⟨f,hf⟩ : ∃ f,m.ns.length = f := ⟨_,rfl⟩
      rw [hf] at c1 c2 c3 a1 a2 a0 hG
      have hbb : M.length * 24 ≤ 140737488355328 := by omega
      have htk : List.take M.length (M.map encE) = M.map encE := List.take_of_length_le (by simp)
      have q0 : ¬ (d = 3 ∧ q = c0) ∧ ¬ (3 = d ∧ c0 = q) ∧ ¬ (d = 6 ∧ q = c0 + 1) ∧ ¬ (6 = d ∧ c0 + 1 = q) := by
        refine ⟨?_,?_,?_,?_⟩
        · rintro ⟨rfl,rfl⟩; rw [b3] at hXb; cases hXb
        · rintro ⟨rfl,rfl⟩; rw [b3] at hXb; cases hXb
        · rintro ⟨rfl,rfl⟩; rw [b6] at hXb; cases hXb
        · rintro ⟨rfl,rfl⟩; rw [b6] at hXb; cases hXb
      have q1 : ¬ q = τ.clk ∧ ¬ q = τ.clk + 1 ∧ ¬ q = τ.clk + 1 + 1 := by omega
      have k1 : ¬ c0 = τ.clk + 1 ∧ ¬ c0 + 1 = τ.clk + 1 ∧ ¬ c0 = τ.clk + 1 + 1 ∧ ¬ c0 + 1 = τ.clk + 1 + 1 := by omega
      have hset : (M.map encE).set k [.i .i64 y.1,.i .i64 (f : Nat),.i .i64 0] = (M.set k (y.1,⟨(f : Nat),0⟩)).map encE := by rw [List.map_set]; rfl
      have hk0 : (0 : Int) ≤ (k : Int) := by omega
      have hkl' : (k : Int) < (M.length : Int) := by omega
      simp only [encT,encP,nodeK,encN,List.map_nil] at c1 c2 c3
      simp only [F120b0,e1,e2,e3,e6,e7,b3,b6,hXb,hlt,hge,hw,hx',hyk',hfr,f1,hk,hk0,hkl',c1,c2,c3,a1,a2,a0,q0,q1,k0,k1,hbb,htk,hset,rowK,allE,Int.toNat_natCast,List.length_map,List.length_set,List.length_cons,List.length_nil,List.cons_append,List.nil_append,Nat.le_refl,Nat.zero_add,Nat.one_mul,fxa,fxc,fxE,fxL,fxI,nxE,evO,evR,cellsT,ldCells,mkT,lenA,binPV,Env.init,resV,resT,frT,klT,ownT,intT,O.adds,ownA,rowsA,over,wrOk,keysT,keysA,ne_eq,if_true,if_false,ite_self,Nat.reduceLT,Nat.reduceSub,Nat.reduceBEq,Nat.reduceEqDiff,Nat.reduceAdd,Nat.reduceLeDiff,reduceCtorEq,Nat.reduceMul]
      refine ⟨m3,M.set k (y.1,⟨(f : Nat),0⟩),.own (73,τ.clk + 1 + 1) 0 M.length,rfl,by simp only [encW],hm3,by omega,.inr ⟨73,τ.clk + 1 + 1,by rw [List.length_set],by show (if (73,τ.clk + 1 + 1) = (73,τ.clk + 1 + 1) then _ else _) = _; rw [if_pos rfl],by omega,by show τ.clk + 1 + 1 < τ.clk + 1 + 1 + 1; omega⟩,by rw [List.length_set]; omega,fun z hz => ?_,hG,?_,by omega⟩
      · rcases List.mem_or_eq_of_mem_set hz with h | rfl
        · exact hME z h
        · exact ⟨hyE.1,⟨by show (0 : Int) ≤ ((f : Nat) : Int); omega,by show ((f : Nat) : Int) ≤ _; omega⟩,⟨by show (0 : Int) ≤ 0; decide,by show (0 : Int) ≤ _; decide⟩⟩
      · have k1 := (((hK.add (by omega) 9 (.var [.nil,.p (.i .i64 0)])).put (k := (9,τ.clk)) (by show c0 ≤ τ.clk; omega) (.var [.p (.l ((addN m (nodeK 4 lv)).ns.map encN)),.p (.i .i64 (addN m (nodeK 4 lv)).cap)])).put (k := (3,c0)) (Nat.le_refl c0) (.var [.p (.l (m.ns.map encN)),.p (.i .i64 m.cap),.p (.i .i64 out.n),.p (.i .i64 out.s),.p (.l (yl.map encE)),.p (.i .i64 0)])).put (k := (3,c0)) (Nat.le_refl c0) (.var [.p (.l (m3.ns.map encN)),.p (.i .i64 m3.cap),.p (.i .i64 out.n),.p (.i .i64 out.s),.p (.l (yl.map encE)),.p (.i .i64 0)])
        exact ((Keep.ap k1 (by show c0 ≤ τ.clk + 1; omega) (k := (71,τ.clk + 1)) (by show c0 ≤ τ.clk + 1; omega) 71 _ 73 _).put (k := (73,τ.clk + 1 + 1)) (by show c0 ≤ τ.clk + 1 + 1; omega) _)
  · rintro e τ ⟨e2,e3,e6,e7,m,M,Y,e1,b3,b6,hm,hmc,hXM,hMl,hME,hG,hK,hct⟩
    rw [List.drop_length] at hG
    unfold mergeG at hG
    subst hG
    have hlt : ¬ ((yl.length : Nat) : Int) < (yl.length : Int) := by omega
    simp only [encW] at b3
    simp only [F120b0,e1,e2,e3,e6,e7,b3,b6,hlt,List.length_map,List.length_cons,List.length_nil,fxa,fxc,fxE,fxL,fxI,nxE,evO,evR,cellsT,ldCells,mkT,lenA,binPV,Env.init,resV,resT,frT,klT,ownT,intT,O.adds,ownA,rowsA,over,wrOk,keysT,keysA,ne_eq,if_true,if_false,ite_self,Nat.reduceLT,Nat.reduceSub,Nat.reduceBEq,Nat.reduceEqDiff,Nat.reduceAdd,Nat.reduceLeDiff,reduceCtorEq,Nat.reduceMul]
    have b6' : (τ.put (3,c0) (.var [.p (.l (m.ns.map encN)),.p (.i .i64 m.cap),.p (.i .i64 out.n),.p (.i .i64 out.s),Y,.p (.i .i64 0)])).bs (6,c0 + 1) = some (.var [.nil,.p (.i .i64 0),.p (.i .i64 0),.p (.i .i64 0),.nil,.p (.i .i64 0)]) := by
      have : ¬ ((6,c0 + 1) : Key) = (3,c0) := by intro e; injection e with e _; omega
      simp only [put_bs,this,if_false]; exact b6
    refine ⟨Y,rfl,(hXM.putv b3 _).putv b6' _,(hK.put (k := (3,c0)) (Nat.le_refl c0) _).put (k := (6,c0 + 1)) (by show c0 ≤ c0 + 1; omega) _,hME,hm⟩
end Go.Proofs.Ytkpfjolcmkikeaa.Tm
end
section
set_option linter.unusedSimpArgs false
set_option linter.unusedVariables false
set_option maxHeartbeats 8000000
set_option maxRecDepth 10000
namespace Go.Proofs.Ytkpfjolcmkikeaa.Tm
open Go.Fx
def Goes (g : FuncId) (args : Nt → List TV) (f : Nt → W) : Prop := ∀ m : Nt,Room m → ((f m).n.ns.length : Int) ≤ m.cap →
  Room (f m).n ∧ (∀ x ∈ (f m).l,OkE x) ∧ ((0 ≤ (f m).out.n ∧ (f m).out.n ≤ 5000) ∧ (0 ≤ (f m).out.s ∧ (f m).out.s ≤ 100)) ∧
  ∀ σ : St,∃ v σ',eS S (.f g) (args m) σ = some (v,σ') ∧ ∃ X,v = .g (encW (f m).n (f m).out X) ∧ OwnL σ.clk σ' X (f m).l ∧ Keep σ.clk σ σ'
theorem downLoop {l : List En} (hl : l.length ≤ 1099511627776) (hE : ∀ x ∈ l,OkE x) {σ : St} {c1 q0 : Nat} {m : Nt} {out : Pt} {X : AV} {c : Nat} (hX : OwnL c σ X l) (hq0 : c1 < q0 ∧ q0 < σ.clk) (hb : σ.bs (11,c1) = some (.var (encW m out X))) (h94 : σ.bs (94,q0) = some (.row 3 108 [])) (hXq : ∀ d q,X = .own (d,q) 0 l.length → q < q0) (e : Env)
    (e11 : e 11 = .a (.ptr (11,c1) 0 0)) (e16 : e 16 = .a (.own (94,q0) 0 0)) (e17 : e 17 = .a (.p (.i .i64 0))) :
    wp S false (.loop F83b0) e σ (fun z e' σ' => z = .exit 0 ∧ e' 11 = .a (.ptr (11,c1) 0 0) ∧ e' 8 = e 8 ∧ (∃ Y,e' 16 = .a Y ∧ OwnL q0 σ' Y (down l)) ∧ Keep q0 σ σ') := by
  obtain ⟨u8,hu8⟩ : ∃ z,e 8 = z := ⟨_,rfl⟩
  rw [hu8]
  refine loop_nat l.length (fun i e τ => e 11 = .a (.ptr (11,c1) 0 0) ∧ e 8 = u8 ∧ e 17 = .a (.p (.i .i64 (i : Nat))) ∧ ∃ d q,e 16 = .a (.own (d,q) 0 (down (l.take i)).length) ∧ τ.bs (d,q) = some (.row 3 108 ((down (l.take i)).map encE)) ∧ q0 ≤ q ∧ q < τ.clk ∧ Keep q0 σ τ ∧ (down (l.take i)).length ≤ i) (i0 := 0) (Nat.zero_le _) ⟨e11,hu8,e17,94,q0,e16,h94,Nat.le_refl _,hq0.2,Keep.refl _ _,Nat.le_refl _⟩ ?_ ?_
  · rintro i e τ hi ⟨e11,e8,e17,d,q,e16,hbq,hq,hqc,hK,hdl⟩
    obtain ⟨x,hx⟩ : ∃ x,l[i]? = some x := ⟨_,List.getElem?_eq_getElem hi⟩
    have hxE := hE x (List.mem_of_getElem? hx)
    have hx' := mapE hx
    have hlt : ((i : Nat) : Int) < (l.length : Int) := by omega
    have hge : (0 : Int) ≤ ((i : Nat) : Int) := by omega
    have hw := wrap_succ i (by omega)
    rcases hX with ⟨rfl,rfl⟩ | ⟨xd,xq,rfl,hXb,hX0,hX1⟩
    · simp at hi
    have hxq := hXq xd xq rfl
    have bX := (hK.bs (xd,xq) hxq).trans hXb
    have b11 := (hK.bs (11,c1) hq0.1).trans hb
    simp only [encW] at b11
    have htk : l.take (i + 1) = l.take i ++ [x] := by rw [List.take_add_one,hx]; rfl
    rw [htk,down_app]
    obtain ⟨D,hD⟩ : ∃ D,down (l.take i) = D := ⟨_,rfl⟩
    rw [hD] at e16 hbq hdl ⊢
    by_cases h : x.1 > 0
    · have hbb : (D.length + 1) * 24 ≤ 140737488355328 := by omega
      have htk2 : List.take D.length (D.map encE) = D.map encE := List.take_of_length_le (by simp)
      have hw1 : IntKind.i64.wrap (x.1 - 1) = x.1 - 1 := by have := hxE.1; exact wrap_in _ (by omega)
      have n0 : ¬ q = τ.clk ∧ ¬ q = τ.clk + 1 := by omega
      rw [if_pos h]
      simp only [F83b0,e11,e8,e16,e17,b11,bX,hbq,hlt,hge,hw,hw1,hx',h,htk2,hbb,n0,rowK,allE,Int.toNat_natCast,List.length_map,List.length_cons,List.length_nil,Nat.le_refl,Nat.zero_add,Nat.one_mul,fxa,fxc,fxE,fxL,fxI,nxE,evO,evR,cellsT,ldCells,mkT,lenA,binPV,Env.init,resV,resT,frT,klT,ownT,intT,O.adds,ownA,rowsA,over,wrOk,keysT,keysA,ne_eq,if_true,if_false,ite_self,Nat.reduceLT,Nat.reduceSub,Nat.reduceBEq,Nat.reduceEqDiff,Nat.reduceAdd,Nat.reduceLeDiff,reduceCtorEq,Nat.reduceMul]
      exact ⟨125,τ.clk + 1,by simp,by simp [encE],by omega,by omega,((hK.add (by omega) 124 _).kill hq).add (by simp only [kill_clk,add_clk]; omega) 125 _,by simp only [List.length_append,List.length_cons,List.length_nil]; omega⟩
    · rw [if_neg h,List.append_nil]
      simp only [F83b0,e11,e8,e16,e17,b11,bX,hbq,hlt,hge,hw,hx',h,rowK,allE,Int.toNat_natCast,List.length_map,List.length_cons,List.length_nil,Nat.le_refl,Nat.zero_add,Nat.one_mul,fxa,fxc,fxE,fxL,fxI,nxE,evO,evR,cellsT,ldCells,mkT,lenA,binPV,Env.init,resV,resT,frT,klT,ownT,intT,O.adds,ownA,rowsA,over,wrOk,keysT,keysA,ne_eq,if_true,if_false,ite_self,Nat.reduceLT,Nat.reduceSub,Nat.reduceBEq,Nat.reduceEqDiff,Nat.reduceAdd,Nat.reduceLeDiff,reduceCtorEq,Nat.reduceMul]
      exact ⟨d,q,rfl,hbq,hq,hqc,hK,by omega⟩
  · rintro e τ ⟨e11,e8,e17,d,q,e16,hbq,hq,hqc,hK,hdl⟩
    have b11 := (hK.bs (11,c1) hq0.1).trans hb
    simp only [encW] at b11
    rw [List.take_length] at e16 hbq
    rcases hX with ⟨rfl,rfl⟩ | ⟨xd,xq,rfl,hXb,hX0,hX1⟩
    · simp only [F83b0,e11,e8,e16,e17,b11,List.length_nil,Int.cast_ofNat_Int,Int.lt_irrefl,fxa,fxc,fxE,fxL,fxI,nxE,evO,evR,cellsT,ldCells,mkT,lenA,binPV,Env.init,resV,resT,frT,klT,ownT,intT,O.adds,ownA,rowsA,over,wrOk,keysT,keysA,ne_eq,if_true,if_false,ite_self,Nat.reduceLT,Nat.reduceSub,Nat.reduceBEq,Nat.reduceEqDiff,Nat.reduceAdd,Nat.reduceLeDiff,reduceCtorEq,Nat.reduceMul]
      exact ⟨⟨_,rfl,.inr ⟨d,q,rfl,hbq,hq,hqc⟩⟩,hK⟩
    · have hlt : ¬ ((l.length : Nat) : Int) < (l.length : Int) := by omega
      simp only [F83b0,e11,e8,e16,e17,b11,hlt,fxa,fxc,fxE,fxL,fxI,nxE,evO,evR,cellsT,ldCells,mkT,lenA,binPV,Env.init,resV,resT,frT,klT,ownT,intT,O.adds,ownA,rowsA,over,wrOk,keysT,keysA,ne_eq,if_true,if_false,ite_self,Nat.reduceLT,Nat.reduceSub,Nat.reduceBEq,Nat.reduceEqDiff,Nat.reduceAdd,Nat.reduceLeDiff,reduceCtorEq,Nat.reduceMul]
      exact ⟨⟨_,rfl,.inr ⟨d,q,rfl,hbq,hq,hqc⟩⟩,hK⟩
end Go.Proofs.Ytkpfjolcmkikeaa.Tm
end
section
set_option linter.unusedSimpArgs false
set_option linter.unusedVariables false
set_option maxHeartbeats 8000000
set_option maxRecDepth 10000
namespace Go.Proofs.Ytkpfjolcmkikeaa.Tm
open Go.Fx
def argsP (t : T) (lv : Int) (m : Nt) : List TV := [.g ((encT m).map .p),.g ((enc t).map .p),.a (.p (.i .i64 lv))]
def argsL (t : T) (k : Nat) (lv : Int) (m : Nt) : List TV := [.g ((encT m).map .p),.g ((enc t).map .p),.a (.p (.i .i64 (k : Nat))),.a (.p (.i .i64 lv))]
theorem findF_neg {l : List En} {v : Int} (h : ¬ findF l v ≥ 0) : findF l v = -1 := by
  unfold findF at h ⊢
  split
  · rename_i k hk; rw [hk] at h; simp at h
  · rfl
theorem Keep.adds {c : Nat} {σ : St} (hc : c ≤ σ.clk) (d1 d2 d3 : Nat) (x1 x2 x3 : Blk) : Keep c σ (((σ.add d1 x1).add d2 x2).add d3 x3) :=
  (((Keep.refl c σ).add hc _ _).add (by simp only [add_clk]; omega) _ _).add (by simp only [add_clk]; omega) _ _
theorem lams_ok {lv : Int} {t : T} {f : Nt → W} {B : Nat} (hlv : 0 ≤ lv ∧ lv ≤ 60) (hB : B ≤ 549755813888) (hM : Mono f B) (hf : Goes 60 (argsP t lv) f) : ∀ k : Nat,k ≤ 100 → Goes 83 (argsL t k lv) (lamsG lv f k)
  | 0,_ => by
    intro m hm hfit
    obtain ⟨g1,g2,g3,g4⟩ := hf m hm hfit
    refine ⟨g1,g2,g3,fun σ => ?_⟩
    refine x_fnS (fc := F83) rfl rfl ?_
    obtain ⟨c0,hc0⟩ : ∃ c0,σ.clk = c0 := ⟨_,rfl⟩
    have et := enc_eq t
    obtain ⟨v,σ',h1,X,rfl,h2,h3⟩ := g4 (((σ.add 4 (.var [.p (.l (m.ns.map encN)),.p (.i .i64 m.cap)])).add 5 (.var [.p (.i .i64 t.k),.p (.i .i64 t.n),.p (.s t.s),.p (.l (t.l.map enc))])).add 8 (.var [.nil,.p (.i .i64 0),.p (.i .i64 0),.p (.i .i64 0),.nil,.p (.i .i64 0)]))
    have hcl : ((((σ.add 4 (.var [.p (.l (m.ns.map encN)),.p (.i .i64 m.cap)])).add 5 (.var [.p (.i .i64 t.k),.p (.i .i64 t.n),.p (.s t.s),.p (.l (t.l.map enc))])).add 8 (.var [.nil,.p (.i .i64 0),.p (.i .i64 0),.p (.i .i64 0),.nil,.p (.i .i64 0)]))).clk = c0 + 3 := by simp only [add_clk,hc0]
    rw [hcl] at h2 h3
    have b8 := h3.bs (8,c0 + 2) (by simp)
    simp only [add_bs,add_clk,hc0,Nat.add_assoc,Nat.reduceAdd,if_true] at b8
    show wp S false _ _ _ _
    unfold argsP at h1
    simp only [argsL,et,encT,encW,List.map_cons,List.map_nil] at h1 ⊢
    have z0 : ((0 : Nat) : Int) = 0 := rfl
    simp only [F83,hc0,z0,h1,b8,Nat.add_assoc,Nat.reduceAdd,List.length_cons,List.length_nil,fxa,fxc,fxE,fxL,fxI,nxE,evO,evR,cellsT,ldCells,mkT,lenA,binPV,Env.init,resV,resT,frT,klT,ownT,intT,O.adds,ownA,rowsA,over,wrOk,keysT,keysA,ne_eq,if_true,if_false,ite_self,Nat.reduceLT,Nat.reduceSub,Nat.reduceBEq,Nat.reduceEqDiff,Nat.reduceAdd,Nat.reduceLeDiff,reduceCtorEq,Nat.reduceMul]
    exact ⟨X,rfl,(h2.putv b8 _).mono (by omega),(((Keep.adds (by omega) 4 5 8 _ _ _).trans (h3.mono (by omega))).put (k := (8,c0 + 2)) (by show c0 ≤ c0 + 2; omega) _)⟩
  | k + 1,hk => by
    intro m hm hfit
    have e0 : lamsG lv f (k + 1) m = lamStep lv m.ns.length (lamsG lv f k (addN m (nodeK 2 lv))) := rfl
    have ih := lams_ok hlv hB hM hf k (by omega)
    have mo := lams_mono (lv := lv) hM k
    have hcap := hm.cap
    have hmo := mo.len (addN m (nodeK 2 lv))
    have hln := lamNet_len lv m.ns.length (lamsG lv f k (addN m (nodeK 2 lv)))
    have hyB := mo.l (addN m (nodeK 2 lv))
    rw [e0] at hfit ⊢
    have hfit' : ((lamNet lv m.ns.length (lamsG lv f k (addN m (nodeK 2 lv)))).ns.length : Int) ≤ m.cap := hfit
    rw [addN_len] at hmo
    have hN2 := nodeK_Ok (k := 2) (by omega) hlv
    have hrm : ((m.ns.length + 1 : Nat) : Int) ≤ m.cap := by omega
    have hm1 := room_add hm hN2 (by show (2 : Int) ≠ 0; decide) hrm
    have c1 := made_ok (x := nodeK 2 lv) hm hN2 (by show ¬ (2 : Int) < 2; decide) (may6 hlv (by omega)) (by show lv ≤ 60; omega) hrm
    obtain ⟨y1,y2,y3,y4⟩ := ih (addN m (nodeK 2 lv)) hm1 (by rw [addN_cap]; omega)
    obtain ⟨y,hy⟩ : ∃ y,lamsG lv f k (addN m (nodeK 2 lv)) = y := ⟨_,rfl⟩
    rw [hy] at hln hyB hfit' hmo y1 y2 y3 y4 ⊢
    obtain ⟨a,ha⟩ : ∃ a,m.ns.length = a := ⟨_,rfl⟩
    rw [ha] at hln hfit' hmo c1 hrm ⊢
    have wo : wf y.out.n ∧ wf y.out.s := ⟨⟨by omega,by omega⟩,⟨by omega,by omega⟩⟩
    have hwp := wf_small a 1 (by omega) (by omega)
    have hwq := wf_small a 2 (by omega) (by omega)
    have c2 := link_ok (p := y.out) (q := ⟨(a : Nat),1⟩) y1.ok wo hwp
    have r1 := room_lnk (p := y.out) (q := ⟨(a : Nat),1⟩) y1 wo hwp
    have l1 := lnk_len y.n y.out ⟨(a : Nat),1⟩
    obtain ⟨n1,hn1⟩ : ∃ n1,lnk y.n y.out ⟨(a : Nat),1⟩ = n1 := ⟨_,rfl⟩
    rw [hn1] at c2 r1 l1
    have fd := find_ok (l := y.l) (v := 0) (by omega)
    have a1 := at_ok (a : Nat) 1
    have a0 := at_ok (a : Nat) 0
    have a2 := at_ok (a : Nat) 2
    have q3 : (0 ≤ (lamStep lv a y).out.n ∧ (lamStep lv a y).out.n ≤ 5000) ∧ (0 ≤ (lamStep lv a y).out.s ∧ (lamStep lv a y).out.s ≤ 100) := ⟨⟨by show (0 : Int) ≤ (a : Nat); omega,by show ((a : Nat) : Int) ≤ 5000; omega⟩,⟨by show (0 : Int) ≤ 0; decide,by show (0 : Int) ≤ 100; decide⟩⟩
    have q2 : ∀ x ∈ (lamStep lv a y).l,OkE x := down_ok y2
    have et := enc_eq t
    unfold argsL at y4 ⊢
    simp only [et,encT,encW,List.map_cons,List.map_nil] at y4
    have hk1 : IntKind.i64.wrap (((k + 1 : Nat) : Int) - 1) = ((k : Nat) : Int) := by rw [wrap_in _ (by omega)]; omega
    have hk0 : ¬ ((k + 1 : Nat) : Int) = 0 := by omega
    by_cases hfz : findF y.l 0 ≥ 0
    · obtain ⟨j,hj,hjl,x,hx,hxv⟩ := findF_get (l := y.l) (v := 0) (by omega)
      have hgd : y.l.getD (findF y.l 0).toNat zE = x := by rw [hj,Int.toNat_natCast,List.getD_eq_getElem?_getD,hx]; rfl
      have en : lamNet lv a y = lnk n1 x.2 ⟨(a : Nat),2⟩ := by unfold lamNet; rw [if_pos hfz,hgd,hn1]
      have hxE := y2 x (List.mem_of_getElem? hx)
      have hx' := mapE hx
      have c3 := link_ok (p := x.2) (q := ⟨(a : Nat),2⟩) r1.ok hxE.wf hwq
      have r2 := room_lnk (p := x.2) (q := ⟨(a : Nat),2⟩) r1 hxE.wf hwq
      rw [← en] at c3 r2
      refine ⟨r2,q2,q3,fun σ => ?_⟩
      refine x_fnS (fc := F83) rfl rfl ?_
      obtain ⟨c0,hc0⟩ : ∃ c0,σ.clk = c0 := ⟨_,rfl⟩
      rw [hc0]
      have ge : (0 : Int) ≤ (j : Int) := by omega
      simp only [encT,encP,nodeK,encN,List.map_nil] at c1 c2 c3 y4
      simp only [F83,hc0,et,encT,c1,hk1,hk0,List.map_cons,List.map_nil,Nat.add_assoc,Nat.reduceAdd,List.length_cons,List.length_nil,List.cons_append,List.nil_append,fxa,fxc,fxE,fxL,fxI,nxE,evO,evR,cellsT,ldCells,mkT,lenA,binPV,Env.init,resV,resT,frT,klT,ownT,intT,O.adds,ownA,rowsA,over,wrOk,keysT,keysA,ne_eq,if_true,if_false,ite_self,Nat.reduceLT,Nat.reduceSub,Nat.reduceBEq,Nat.reduceEqDiff,Nat.reduceAdd,Nat.reduceLeDiff,reduceCtorEq,Nat.reduceMul]
      obtain ⟨σ1,hσ1⟩ : ∃ s,((((σ.add 4 (.var [.p (.l (m.ns.map encN)),.p (.i .i64 m.cap)])).add 5 (.var [.p (.i .i64 t.k),.p (.i .i64 t.n),.p (.s t.s),.p (.l (t.l.map enc))])).add 8 (.var [.nil,.p (.i .i64 0),.p (.i .i64 0),.p (.i .i64 0),.nil,.p (.i .i64 0)])).put (4,c0) (.var [.p (.l ((addN m ⟨2,lv,0,[],[],[]⟩).ns.map encN)),.p (.i .i64 (addN m ⟨2,lv,0,[],[],[]⟩).cap)])) = s := ⟨_,rfl⟩
      rw [hσ1]
      have hcl : σ1.clk = c0 + 3 := by rw [← hσ1]; simp only [put_clk,add_clk,hc0]
      have hK1 : Keep c0 σ σ1 := by rw [← hσ1]; exact (Keep.adds (by omega) 4 5 8 _ _ _).put (k := (4,c0)) (Nat.le_refl c0) _
      have b8 : σ1.bs (8,c0 + 2) = some (.var [.nil,.p (.i .i64 0),.p (.i .i64 0),.p (.i .i64 0),.nil,.p (.i .i64 0)]) := by
        rw [← hσ1]
        have : ¬ ((8,c0 + 2) : Key) = (4,c0) := by intro e; injection e with e _; omega
        simp only [put_bs,this,if_false,add_bs,add_clk,hc0,Nat.add_assoc,Nat.reduceAdd,if_true]
      obtain ⟨v,σ2,g1,X,rfl,g2,g3⟩ := y4 σ1
      rw [hcl] at g2 g3
      have b8' := (g3.bs (8,c0 + 2) (by show c0 + 2 < c0 + 3; omega)).trans b8
      obtain ⟨c1',hc1'⟩ : ∃ c,σ2.clk = c := ⟨_,rfl⟩
      have hclk2 := g3.clk
      rw [hcl,hc1'] at hclk2
      rcases g2 with ⟨rfl,hnil⟩ | ⟨d,q,rfl,hXb,hX0,hX1⟩
      · rw [hnil] at hjl; simp at hjl
      have q0 : ¬ q = c1' ∧ ¬ c1' = q ∧ ¬ q = c1' + 1 := by omega
      have hjl' : (j : Int) < (y.l.length : Int) := by omega
      have htk : List.take y.l.length (y.l.map encE) = y.l.map encE := List.take_of_length_le (by simp)
      rw [hj] at fd
      simp only [g1,c2,c3,htk,fd,hj,ge,hjl',a0,a1,a2,hXb,hx',q0,hc1',rowK,allE,Int.toNat_natCast,List.length_map,List.length_cons,List.length_nil,List.cons_append,List.nil_append,Nat.le_refl,Nat.zero_add,Nat.one_mul,fxa,fxc,fxE,fxL,fxI,nxE,evO,evR,cellsT,ldCells,mkT,lenA,binPV,Env.init,resV,resT,frT,klT,ownT,intT,O.adds,ownA,rowsA,over,wrOk,keysT,keysA,ne_eq,if_true,if_false,ite_self,Nat.reduceLT,Nat.reduceSub,Nat.reduceBEq,Nat.reduceEqDiff,Nat.reduceAdd,Nat.reduceLeDiff,reduceCtorEq,Nat.reduceMul]
      have kk : ∀ v1 v2 v3 v4 v5,Keep (c0 + 3) σ1 ((((((σ2.add 11 v1).put (11,c1') v2).put (11,c1') v3).put (11,c1') v4).put (11,c1') v5).add 94 (.row 3 108 [])) := fun v1 v2 v3 v4 v5 =>
        ((((((g3.add (by omega) 11 v1).put (k := (11,c1')) (by show c0 + 3 ≤ c1'; omega) v2).put (k := (11,c1')) (by show c0 + 3 ≤ c1'; omega) v3).put (k := (11,c1')) (by show c0 + 3 ≤ c1'; omega) v4).put (k := (11,c1')) (by show c0 + 3 ≤ c1'; omega) v5).add (by show c0 + 3 ≤ σ2.clk + 1; omega) 94 _)
      refine Go.Fx.wp_mono (downLoop (l := y.l) (m := lamNet lv a y) (out := ⟨(a : Nat),0⟩) (X := .own (d,q) 0 y.l.length) (c := c0) (c1 := c1') (q0 := c1' + 1) (by omega) y2 ?_ ⟨by omega,?_⟩ ?_ ?_ ?_ _ ?_ ?_ ?_) ?_
      · refine .inr ⟨d,q,rfl,?_,by omega,?_⟩
        · simp only [put_bs,add_bs,put_clk,add_clk,hc1',Prod.mk.injEq,q0,and_false,if_false]; exact hXb
        · show q < σ2.clk + 1 + 1; omega
      · show c1' + 1 < σ2.clk + 1 + 1; omega
      · have : ¬ c1' = c1' + 1 := by omega
        simp only [put_bs,add_bs,put_clk,add_clk,hc1',Prod.mk.injEq,this,and_false,if_false,and_self,if_true,encW]
      · simp only [add_bs,put_clk,add_clk,hc1',if_true]
      · intro d' q' h
        injection h with h _ _
        injection h with _ h
        omega
      · simp only [fxa,fxc,fxE,fxL,fxI,nxE,evO,evR,cellsT,ldCells,mkT,lenA,binPV,Env.init,resV,resT,frT,klT,ownT,intT,O.adds,ownA,rowsA,over,wrOk,keysT,keysA,ne_eq,if_true,if_false,ite_self,Nat.reduceLT,Nat.reduceSub,Nat.reduceBEq,Nat.reduceEqDiff,Nat.reduceAdd,Nat.reduceLeDiff,reduceCtorEq,Nat.reduceMul]
      · simp only [fxa,fxc,fxE,fxL,fxI,nxE,evO,evR,cellsT,ldCells,mkT,lenA,binPV,Env.init,resV,resT,frT,klT,ownT,intT,O.adds,ownA,rowsA,over,wrOk,keysT,keysA,ne_eq,if_true,if_false,ite_self,Nat.reduceLT,Nat.reduceSub,Nat.reduceBEq,Nat.reduceEqDiff,Nat.reduceAdd,Nat.reduceLeDiff,reduceCtorEq,Nat.reduceMul]
      · simp only [fxa,fxc,fxE,fxL,fxI,nxE,evO,evR,cellsT,ldCells,mkT,lenA,binPV,Env.init,resV,resT,frT,klT,ownT,intT,O.adds,ownA,rowsA,over,wrOk,keysT,keysA,ne_eq,if_true,if_false,ite_self,Nat.reduceLT,Nat.reduceSub,Nat.reduceBEq,Nat.reduceEqDiff,Nat.reduceAdd,Nat.reduceLeDiff,reduceCtorEq,Nat.reduceMul]
      · rintro z e' τ ⟨rfl,f11,f8,⟨Y,f16,hY⟩,hK2⟩
        simp only [fxa,fxc,fxE,fxL,fxI,nxE,evO,evR,cellsT,ldCells,mkT,lenA,binPV,Env.init,resV,resT,frT,klT,ownT,intT,O.adds,ownA,rowsA,over,wrOk,keysT,keysA,ne_eq,if_true,if_false,ite_self,Nat.reduceLT,Nat.reduceSub,Nat.reduceBEq,Nat.reduceEqDiff,Nat.reduceAdd,Nat.reduceLeDiff,reduceCtorEq,Nat.reduceMul] at f8
        have t11 := hK2.bs (11,c1') (by show c1' < c1' + 1; omega)
        have t8 := (hK2.bs (8,c0 + 2) (by show c0 + 2 < c1' + 1; omega)).trans (((kk _ _ _ _ _).bs (8,c0 + 2) (by show c0 + 2 < c0 + 3; omega)).trans b8)
        have n11 : ¬ c1' = c1' + 1 := by omega
        simp only [put_bs,add_bs,put_clk,add_clk,hc1',Prod.mk.injEq,n11,and_false,if_false,and_self,if_true] at t11
        have n8 : ¬ (8,c0 + 2) = ((11,c1') : Key) := by intro e; injection e with e _; omega
        simp only [f8,f11,f16,t11,t8,n8,lamStep,encW,fxa,fxc,fxE,fxL,fxI,nxE,evO,evR,cellsT,ldCells,mkT,lenA,binPV,Env.init,resV,resT,frT,klT,ownT,intT,O.adds,ownA,rowsA,over,wrOk,keysT,keysA,ne_eq,if_true,if_false,ite_self,Nat.reduceLT,Nat.reduceSub,Nat.reduceBEq,Nat.reduceEqDiff,Nat.reduceAdd,Nat.reduceLeDiff,reduceCtorEq,Nat.reduceMul]
        have hK3 := (hK1.trans ((kk _ _ _ _ _).mono (by omega))).trans (hK2.mono (by omega))
        refine ⟨Y,rfl,((hY.putv t11 _).putv (k := (8,c0 + 2)) (v := [.nil,.p (.i .i64 0),.p (.i .i64 0),.p (.i .i64 0),.nil,.p (.i .i64 0)]) ?_ _).mono (by omega),(hK3.put (k := (11,c1')) (by show c0 ≤ c1'; omega) _).put (k := (8,c0 + 2)) (by show c0 ≤ c0 + 2; omega) _⟩
        simp only [put_bs,n8,if_false]; exact t8
    · have hfn := findF_neg hfz
      have en : lamNet lv a y = lnk (addN n1 (nodeK 7 lv)) ⟨(y.n.ns.length : Nat),0⟩ ⟨(a : Nat),2⟩ := by unfold lamNet; rw [if_neg hfz,hn1]
      have hl7 := hln.2.2 hfz
      have hN7 := nodeK_Ok (k := 7) (by omega) hlv
      have hycap : y.n.cap = m.cap := by rw [← hy,mo.cap,addN_cap]
      have hrm7 : ((n1.ns.length + 1 : Nat) : Int) ≤ n1.cap := by rw [l1.1,l1.2]; omega
      have c4 := made_ok (x := nodeK 7 lv) r1 hN7 (by show ¬ (7 : Int) < 2; decide) (may6 hlv (by omega)) (by show lv ≤ 60; omega) hrm7
      have r3 := room_add r1 hN7 (by show (7 : Int) ≠ 0; decide) hrm7
      rw [l1.1] at c4
      obtain ⟨b,hb⟩ : ∃ b,y.n.ns.length = b := ⟨_,rfl⟩
      rw [hb] at c4 en hl7
      have hwd := wf_small b 0 (by omega) (by omega)
      have c3 := link_ok (p := ⟨(b : Nat),0⟩) (q := ⟨(a : Nat),2⟩) r3.ok hwd hwq
      have r2 := room_lnk (p := ⟨(b : Nat),0⟩) (q := ⟨(a : Nat),2⟩) r3 hwd hwq
      have d0 := at_ok (b : Nat) 0
      rw [← en] at c3 r2
      refine ⟨r2,q2,q3,fun σ => ?_⟩
      refine x_fnS (fc := F83) rfl rfl ?_
      obtain ⟨c0,hc0⟩ : ∃ c0,σ.clk = c0 := ⟨_,rfl⟩
      rw [hc0]
      simp only [encT,encP,nodeK,encN,List.map_nil] at c1 c2 c3 c4 y4
      simp only [F83,hc0,et,encT,c1,hk1,hk0,List.map_cons,List.map_nil,Nat.add_assoc,Nat.reduceAdd,List.length_cons,List.length_nil,List.cons_append,List.nil_append,fxa,fxc,fxE,fxL,fxI,nxE,evO,evR,cellsT,ldCells,mkT,lenA,binPV,Env.init,resV,resT,frT,klT,ownT,intT,O.adds,ownA,rowsA,over,wrOk,keysT,keysA,ne_eq,if_true,if_false,ite_self,Nat.reduceLT,Nat.reduceSub,Nat.reduceBEq,Nat.reduceEqDiff,Nat.reduceAdd,Nat.reduceLeDiff,reduceCtorEq,Nat.reduceMul]
      obtain ⟨σ1,hσ1⟩ : ∃ s,((((σ.add 4 (.var [.p (.l (m.ns.map encN)),.p (.i .i64 m.cap)])).add 5 (.var [.p (.i .i64 t.k),.p (.i .i64 t.n),.p (.s t.s),.p (.l (t.l.map enc))])).add 8 (.var [.nil,.p (.i .i64 0),.p (.i .i64 0),.p (.i .i64 0),.nil,.p (.i .i64 0)])).put (4,c0) (.var [.p (.l ((addN m ⟨2,lv,0,[],[],[]⟩).ns.map encN)),.p (.i .i64 (addN m ⟨2,lv,0,[],[],[]⟩).cap)])) = s := ⟨_,rfl⟩
      rw [hσ1]
      have hcl : σ1.clk = c0 + 3 := by rw [← hσ1]; simp only [put_clk,add_clk,hc0]
      have hK1 : Keep c0 σ σ1 := by rw [← hσ1]; exact (Keep.adds (by omega) 4 5 8 _ _ _).put (k := (4,c0)) (Nat.le_refl c0) _
      have b8 : σ1.bs (8,c0 + 2) = some (.var [.nil,.p (.i .i64 0),.p (.i .i64 0),.p (.i .i64 0),.nil,.p (.i .i64 0)]) := by
        rw [← hσ1]
        have : ¬ ((8,c0 + 2) : Key) = (4,c0) := by intro e; injection e with e _; omega
        simp only [put_bs,this,if_false,add_bs,add_clk,hc0,Nat.add_assoc,Nat.reduceAdd,if_true]
      obtain ⟨v,σ2,g1,X,rfl,g2,g3⟩ := y4 σ1
      rw [hcl] at g2 g3
      have b8' := (g3.bs (8,c0 + 2) (by show c0 + 2 < c0 + 3; omega)).trans b8
      obtain ⟨c1',hc1'⟩ : ∃ c,σ2.clk = c := ⟨_,rfl⟩
      have hclk2 := g3.clk
      rw [hcl,hc1'] at hclk2
      rw [hfn] at fd
      have hneg : ¬ ((-1 : Int) ≥ 0) := by decide
      have kk : ∀ v1 v2 v3 v4 v5 v6 v7,Keep (c0 + 3) σ1 ((((((((σ2.add 11 v1).put (11,c1') v2).put (11,c1') v3).put (11,c1') v4).add 13 v5).put (13,c1' + 1) v6).put (11,c1') v7).add 94 (.row 3 108 [])) := fun v1 v2 v3 v4 v5 v6 v7 =>
        ((((((((g3.add (by omega) 11 v1).put (k := (11,c1')) (by show c0 + 3 ≤ c1'; omega) v2).put (k := (11,c1')) (by show c0 + 3 ≤ c1'; omega) v3).put (k := (11,c1')) (by show c0 + 3 ≤ c1'; omega) v4).add (by show c0 + 3 ≤ σ2.clk + 1; omega) 13 v5).put (k := (13,c1' + 1)) (by show c0 + 3 ≤ c1' + 1; omega) v6).put (k := (11,c1')) (by show c0 + 3 ≤ c1'; omega) v7).add (by show c0 + 3 ≤ σ2.clk + 1 + 1; omega) 94 _)
      have n11 : ¬ c1' = c1' + 1 + 1 ∧ ¬ c1' = c1' + 1 := by omega
      have n13 : ¬ ((11,c1') : Key) = (13,c1' + 1) := by intro e; injection e with e _; omega
      rcases g2 with ⟨rfl,hnil⟩ | ⟨d,q,rfl,hXb,hX0,hX1⟩
      · rw [hnil,List.map_nil] at fd
        simp only [g1,c2,c3,c4,fd,hneg,a0,a1,a2,d0,hc1',rowK,allE,Int.toNat_natCast,Int.reduceNeg,List.length_map,List.length_cons,List.length_nil,List.cons_append,List.nil_append,Nat.le_refl,Nat.zero_add,Nat.one_mul,fxa,fxc,fxE,fxL,fxI,nxE,evO,evR,cellsT,ldCells,mkT,lenA,binPV,Env.init,resV,resT,frT,klT,ownT,intT,O.adds,ownA,rowsA,over,wrOk,keysT,keysA,ne_eq,if_true,if_false,ite_self,Nat.reduceLT,Nat.reduceSub,Nat.reduceBEq,Nat.reduceEqDiff,Nat.reduceAdd,Nat.reduceLeDiff,reduceCtorEq,Nat.reduceMul]
        refine Go.Fx.wp_mono (downLoop (l := y.l) (m := lamNet lv a y) (out := ⟨(a : Nat),0⟩) (X := .nil) (c := c0) (c1 := c1') (q0 := c1' + 1 + 1) (by omega) y2 ?_ ⟨by omega,?_⟩ ?_ ?_ ?_ _ ?_ ?_ ?_) ?_
        · exact .inl ⟨rfl,hnil⟩
        · show c1' + 1 + 1 < σ2.clk + 1 + 1 + 1; omega
        · simp only [put_bs,add_bs,put_clk,add_clk,hc1',Prod.mk.injEq,n11,and_false,if_false,and_self,if_true,encW]
        · simp only [add_bs,put_clk,add_clk,hc1',if_true]
        · intro d' q' h; cases h
        · simp only [fxa,fxc,fxE,fxL,fxI,nxE,evO,evR,cellsT,ldCells,mkT,lenA,binPV,Env.init,resV,resT,frT,klT,ownT,intT,O.adds,ownA,rowsA,over,wrOk,keysT,keysA,ne_eq,if_true,if_false,ite_self,Nat.reduceLT,Nat.reduceSub,Nat.reduceBEq,Nat.reduceEqDiff,Nat.reduceAdd,Nat.reduceLeDiff,reduceCtorEq,Nat.reduceMul]
        · simp only [fxa,fxc,fxE,fxL,fxI,nxE,evO,evR,cellsT,ldCells,mkT,lenA,binPV,Env.init,resV,resT,frT,klT,ownT,intT,O.adds,ownA,rowsA,over,wrOk,keysT,keysA,ne_eq,if_true,if_false,ite_self,Nat.reduceLT,Nat.reduceSub,Nat.reduceBEq,Nat.reduceEqDiff,Nat.reduceAdd,Nat.reduceLeDiff,reduceCtorEq,Nat.reduceMul]
        · simp only [fxa,fxc,fxE,fxL,fxI,nxE,evO,evR,cellsT,ldCells,mkT,lenA,binPV,Env.init,resV,resT,frT,klT,ownT,intT,O.adds,ownA,rowsA,over,wrOk,keysT,keysA,ne_eq,if_true,if_false,ite_self,Nat.reduceLT,Nat.reduceSub,Nat.reduceBEq,Nat.reduceEqDiff,Nat.reduceAdd,Nat.reduceLeDiff,reduceCtorEq,Nat.reduceMul]
        · rintro z e' τ ⟨rfl,f11,f8,⟨Y,f16,hY⟩,hK2⟩
          simp only [fxa,fxc,fxE,fxL,fxI,nxE,evO,evR,cellsT,ldCells,mkT,lenA,binPV,Env.init,resV,resT,frT,klT,ownT,intT,O.adds,ownA,rowsA,over,wrOk,keysT,keysA,ne_eq,if_true,if_false,ite_self,Nat.reduceLT,Nat.reduceSub,Nat.reduceBEq,Nat.reduceEqDiff,Nat.reduceAdd,Nat.reduceLeDiff,reduceCtorEq,Nat.reduceMul] at f8
          have t11 := hK2.bs (11,c1') (by show c1' < c1' + 1 + 1; omega)
          have t8 := (hK2.bs (8,c0 + 2) (by show c0 + 2 < c1' + 1 + 1; omega)).trans (((kk _ _ _ _ _ _ _).bs (8,c0 + 2) (by show c0 + 2 < c0 + 3; omega)).trans b8)
          simp only [put_bs,add_bs,put_clk,add_clk,hc1',Prod.mk.injEq,n11,and_false,if_false,and_self,if_true] at t11
          have n8 : ¬ (8,c0 + 2) = ((11,c1') : Key) := by intro e; injection e with e _; omega
          simp only [f8,f11,f16,t11,t8,n8,lamStep,encW,fxa,fxc,fxE,fxL,fxI,nxE,evO,evR,cellsT,ldCells,mkT,lenA,binPV,Env.init,resV,resT,frT,klT,ownT,intT,O.adds,ownA,rowsA,over,wrOk,keysT,keysA,ne_eq,if_true,if_false,ite_self,Nat.reduceLT,Nat.reduceSub,Nat.reduceBEq,Nat.reduceEqDiff,Nat.reduceAdd,Nat.reduceLeDiff,reduceCtorEq,Nat.reduceMul]
          have hK3 := (hK1.trans ((kk _ _ _ _ _ _ _).mono (by omega))).trans (hK2.mono (by omega))
          refine ⟨Y,rfl,((hY.putv t11 _).putv (k := (8,c0 + 2)) (v := [.nil,.p (.i .i64 0),.p (.i .i64 0),.p (.i .i64 0),.nil,.p (.i .i64 0)]) ?_ _).mono (by omega),(hK3.put (k := (11,c1')) (by show c0 ≤ c1'; omega) _).put (k := (8,c0 + 2)) (by show c0 ≤ c0 + 2; omega) _⟩
          simp only [put_bs,n8,if_false]; exact t8
      · have q0 : ¬ q = c1' ∧ ¬ c1' = q ∧ ¬ q = c1' + 1 ∧ ¬ q = c1' + 1 + 1 := by omega
        have htk : List.take y.l.length (y.l.map encE) = y.l.map encE := List.take_of_length_le (by simp)
        simp only [g1,c2,c3,c4,htk,fd,hneg,a0,a1,a2,d0,hXb,q0,hc1',rowK,allE,Int.toNat_natCast,Int.reduceNeg,List.length_map,List.length_cons,List.length_nil,List.cons_append,List.nil_append,Nat.le_refl,Nat.zero_add,Nat.one_mul,fxa,fxc,fxE,fxL,fxI,nxE,evO,evR,cellsT,ldCells,mkT,lenA,binPV,Env.init,resV,resT,frT,klT,ownT,intT,O.adds,ownA,rowsA,over,wrOk,keysT,keysA,ne_eq,if_true,if_false,ite_self,Nat.reduceLT,Nat.reduceSub,Nat.reduceBEq,Nat.reduceEqDiff,Nat.reduceAdd,Nat.reduceLeDiff,reduceCtorEq,Nat.reduceMul]
        refine Go.Fx.wp_mono (downLoop (l := y.l) (m := lamNet lv a y) (out := ⟨(a : Nat),0⟩) (X := .own (d,q) 0 y.l.length) (c := c0) (c1 := c1') (q0 := c1' + 1 + 1) (by omega) y2 ?_ ⟨by omega,?_⟩ ?_ ?_ ?_ _ ?_ ?_ ?_) ?_
        · refine .inr ⟨d,q,rfl,?_,by omega,?_⟩
          · simp only [put_bs,add_bs,put_clk,add_clk,hc1',Prod.mk.injEq,q0,and_false,if_false]; exact hXb
          · show q < σ2.clk + 1 + 1 + 1; omega
        · show c1' + 1 + 1 < σ2.clk + 1 + 1 + 1; omega
        · simp only [put_bs,add_bs,put_clk,add_clk,hc1',Prod.mk.injEq,n11,and_false,if_false,and_self,if_true,encW]
        · simp only [add_bs,put_clk,add_clk,hc1',if_true]
        · intro d' q' h
          injection h with h _ _
          injection h with _ h
          omega
        · simp only [fxa,fxc,fxE,fxL,fxI,nxE,evO,evR,cellsT,ldCells,mkT,lenA,binPV,Env.init,resV,resT,frT,klT,ownT,intT,O.adds,ownA,rowsA,over,wrOk,keysT,keysA,ne_eq,if_true,if_false,ite_self,Nat.reduceLT,Nat.reduceSub,Nat.reduceBEq,Nat.reduceEqDiff,Nat.reduceAdd,Nat.reduceLeDiff,reduceCtorEq,Nat.reduceMul]
        · simp only [fxa,fxc,fxE,fxL,fxI,nxE,evO,evR,cellsT,ldCells,mkT,lenA,binPV,Env.init,resV,resT,frT,klT,ownT,intT,O.adds,ownA,rowsA,over,wrOk,keysT,keysA,ne_eq,if_true,if_false,ite_self,Nat.reduceLT,Nat.reduceSub,Nat.reduceBEq,Nat.reduceEqDiff,Nat.reduceAdd,Nat.reduceLeDiff,reduceCtorEq,Nat.reduceMul]
        · simp only [fxa,fxc,fxE,fxL,fxI,nxE,evO,evR,cellsT,ldCells,mkT,lenA,binPV,Env.init,resV,resT,frT,klT,ownT,intT,O.adds,ownA,rowsA,over,wrOk,keysT,keysA,ne_eq,if_true,if_false,ite_self,Nat.reduceLT,Nat.reduceSub,Nat.reduceBEq,Nat.reduceEqDiff,Nat.reduceAdd,Nat.reduceLeDiff,reduceCtorEq,Nat.reduceMul]
        · rintro z e' τ ⟨rfl,f11,f8,⟨Y,f16,hY⟩,hK2⟩
          simp only [fxa,fxc,fxE,fxL,fxI,nxE,evO,evR,cellsT,ldCells,mkT,lenA,binPV,Env.init,resV,resT,frT,klT,ownT,intT,O.adds,ownA,rowsA,over,wrOk,keysT,keysA,ne_eq,if_true,if_false,ite_self,Nat.reduceLT,Nat.reduceSub,Nat.reduceBEq,Nat.reduceEqDiff,Nat.reduceAdd,Nat.reduceLeDiff,reduceCtorEq,Nat.reduceMul] at f8
          have t11 := hK2.bs (11,c1') (by show c1' < c1' + 1 + 1; omega)
          have t8 := (hK2.bs (8,c0 + 2) (by show c0 + 2 < c1' + 1 + 1; omega)).trans (((kk _ _ _ _ _ _ _).bs (8,c0 + 2) (by show c0 + 2 < c0 + 3; omega)).trans b8)
          simp only [put_bs,add_bs,put_clk,add_clk,hc1',Prod.mk.injEq,n11,and_false,if_false,and_self,if_true] at t11
          have n8 : ¬ (8,c0 + 2) = ((11,c1') : Key) := by intro e; injection e with e _; omega
          simp only [f8,f11,f16,t11,t8,n8,lamStep,encW,fxa,fxc,fxE,fxL,fxI,nxE,evO,evR,cellsT,ldCells,mkT,lenA,binPV,Env.init,resV,resT,frT,klT,ownT,intT,O.adds,ownA,rowsA,over,wrOk,keysT,keysA,ne_eq,if_true,if_false,ite_self,Nat.reduceLT,Nat.reduceSub,Nat.reduceBEq,Nat.reduceEqDiff,Nat.reduceAdd,Nat.reduceLeDiff,reduceCtorEq,Nat.reduceMul]
          have hK3 := (hK1.trans ((kk _ _ _ _ _ _ _).mono (by omega))).trans (hK2.mono (by omega))
          refine ⟨Y,rfl,((hY.putv t11 _).putv (k := (8,c0 + 2)) (v := [.nil,.p (.i .i64 0),.p (.i .i64 0),.p (.i .i64 0),.nil,.p (.i .i64 0)]) ?_ _).mono (by omega),(hK3.put (k := (11,c1')) (by show c0 ≤ c1'; omega) _).put (k := (8,c0 + 2)) (by show c0 ≤ c0 + 2; omega) _⟩
          simp only [put_bs,n8,if_false]; exact t8
end Go.Proofs.Ytkpfjolcmkikeaa.Tm
end
section
set_option linter.unusedSimpArgs false
set_option linter.unusedVariables false
set_option maxHeartbeats 4000000
namespace Go.Proofs.Ytkpfjolcmkikeaa
open Go.Fx
structure Semi (n : Nt) (X : Pt → Prop) : Prop where
  cap1 : 1 ≤ n.cap
  cap2 : n.cap ≤ 4000
  ln1 : 1 ≤ (n.ns.length : Int)
  ln2 : (n.ns.length : Int) ≤ n.cap
  last : (n.nd (n.ns.length - 1)).k ≠ 0
  nds : ∀ (i : Nat) (x : Nd),n.ns[i]? = some x → x.may ∧ (x.to.length : Int) = x.ports ∧ ((i : Int) = 0 ↔ x.k = 1)
  xs : ∀ p,X p → n.has p = true
  ln : ∀ p,n.has p = true → ¬ X p → n.lk p ≠ p ∧ n.has (n.lk p) = true ∧ ¬ X (n.lk p) ∧ n.lk (n.lk p) = p
theorem Semi.iff {n : Nt} {X Y : Pt → Prop} (h : Semi n X) (e : ∀ p,X p ↔ Y p) : Semi n Y := by
  have : X = Y := funext fun p => propext (e p)
  exact this ▸ h
theorem Nt.Good.semi {n : Nt} (h : n.Good) : Semi n fun _ => False :=
  ⟨h.cap1,h.cap2,h.ln1,h.ln2,h.last,fun i x hx => ⟨(h.nds i x hx).1,(h.nds i x hx).2.1,(h.nds i x hx).2.2.1⟩,fun _ h => h.elim,fun p hp _ => by
    obtain ⟨h1,h2,h3⟩ := good_link h hp
    exact ⟨h1,h2,id,h3⟩⟩
theorem Semi.good {n : Nt} (h : Semi n fun _ => False) : n.Good :=
  ⟨h.cap1,h.cap2,h.ln1,h.ln2,h.last,fun i x hx => ⟨(h.nds i x hx).1,(h.nds i x hx).2.1,(h.nds i x hx).2.2,fun j q hq => by
    have hj := (List.getElem?_eq_some_iff.1 hq).1
    obtain ⟨h1,h2,_,h3⟩ := h.ln ⟨i,j⟩ (has_get hx hj) id
    rw [lk_get hx hq] at h1 h2 h3
    exact ⟨h1,h2,h3⟩⟩⟩
theorem may_to {x : Nd} {t : List Pt} (h : x.may) (ht : t.length = x.to.length) : ({ x with to := t } : Nd).may :=
  ⟨h.k0,h.k1,h.lv0,h.lv1,h.lv2,h.nm,h.nn,by simp only [ht]; exact h.to8,h.al9,h.aln,h.al8,h.alt⟩
theorem ports_to {x : Nd} {t : List Pt} (ht : t.length = x.to.length) : ({ x with to := t } : Nd).ports = x.ports := by unfold Nd.ports; simp only [ht]
theorem Shp.get {n m : Nt} (h : Shp n m) {i : Nat} {y : Nd} (hy : m.ns[i]? = some y) : ∃ x,n.ns[i]? = some x ∧ y = { x with to := y.to } ∧ y.to.length = x.to.length := by
  have hl := (List.getElem?_eq_some_iff.1 hy).1
  obtain ⟨x,hx⟩ : ∃ x,n.ns[i]? = some x := ⟨_,List.getElem?_eq_getElem (by rw [h.1]; exact hl)⟩
  have h1 := h.2.2 (i : Int) (by omega)
  rw [nd_get hx,nd_get hy] at h1
  obtain ⟨xk,xl,xn,x0,xa,x1⟩ := x
  obtain ⟨yk,yl,yn,y0,ya,y1⟩ := y
  simp only at h1
  obtain ⟨a1,a2,a3,a4,a5,a6⟩ := h1
  subst a1 a2 a3 a4 a5
  exact ⟨_,hx,rfl,a6⟩
theorem Shp.used {n m : Nt} (h : Shp n m) : m.used = n.used := by
  have key : ∀ (l l' : List Nd),l.length = l'.length → (∀ (i : Nat) (x y : Nd),l[i]? = some x → l'[i]? = some y → y.k = x.k) → usedL l' = usedL l := by
    intro l
    induction l with
    | nil => intro l' hl _; rw [List.eq_nil_of_length_eq_zero hl.symm]
    | cons x l ih =>
      intro l' hl hk
      cases l' with
      | nil => simp at hl
      | cons y l' =>
        rw [usedL_cons,usedL_cons,ih l' (by simpa using hl) (fun i a b ha hb => hk (i + 1) a b (by simpa using ha) (by simpa using hb)),hk 0 x y rfl rfl]
  refine key _ _ h.1 fun i x y hx hy => ?_
  obtain ⟨x',hx',h1,_⟩ := h.get hy
  rw [hx] at hx'
  obtain rfl := Option.some.inj hx'
  rw [h1]
theorem Shp.semi {n m : Nt} (h : Shp n m) {X Y : Pt → Prop} (hn : Semi n X) (hY : ∀ p,Y p → n.has p = true)
    (hl : ∀ p,n.has p = true → ¬ Y p → m.lk p ≠ p ∧ n.has (m.lk p) = true ∧ ¬ Y (m.lk p) ∧ m.lk (m.lk p) = p) : Semi m Y := by
  have hc := h.2.1
  have hlen := h.1
  have hl1 := hn.ln1
  refine ⟨hc ▸ hn.cap1,hc ▸ hn.cap2,hlen ▸ hn.ln1,by rw [← hc,← hlen]; exact hn.ln2,?_,fun i y hy => ?_,fun p hp => by rw [h.has]; exact hY p hp,fun p hp hy => ?_⟩
  · rw [← hlen,(h.2.2 _ (by omega)).1]; exact hn.last
  · obtain ⟨x,hx,h1,h2⟩ := h.get hy
    obtain ⟨g1,g2,g3⟩ := hn.nds i x hx
    refine ⟨by rw [h1]; exact may_to g1 h2,?_,by rw [h1]; exact g3⟩
    rw [h2,g2,h1]
    exact (ports_to (x := x) h2).symm
  · rw [h.has] at hp
    obtain ⟨h1,h2,h3,h4⟩ := hl p hp hy
    exact ⟨h1,by rw [h.has]; exact h2,h3,h4⟩
theorem Semi.link {n : Nt} {X : Pt → Prop} (h : Semi n X) {p q : Pt} (hp : X p) (hq : X q) (hne : p ≠ q) : linkR n p q = (n.ln p q,0) ∧ Semi (n.ln p q) fun r => X r ∧ r ≠ p ∧ r ≠ q := by
  have hp1 := h.xs p hp
  have hq1 := h.xs q hq
  refine ⟨linkR_ok hp1 hq1 hne,(ln_shp hp1 hq1).semi h (fun r hr => h.xs r hr.1) fun r hr hX => ?_⟩
  have hpl : (n.ln p q).lk p = q := by rw [ln_lk hp1 hq1 hp1,if_neg hne,if_pos rfl]
  have hql : (n.ln p q).lk q = p := by rw [ln_lk hp1 hq1 hq1,if_pos rfl]
  by_cases e1 : r = p
  · subst e1; rw [hpl,hql]; exact ⟨Ne.symm hne,hq1,fun k => k.2.2 rfl,rfl⟩
  by_cases e2 : r = q
  · subst e2; rw [hql,hpl]; exact ⟨hne,hp1,fun k => k.2.1 rfl,rfl⟩
  have hX' : ¬ X r := fun k => hX ⟨k,e1,e2⟩
  obtain ⟨h1,h2,h3,h4⟩ := h.ln r hr hX'
  have e : (n.ln p q).lk r = n.lk r := by rw [ln_lk hp1 hq1 hr,if_neg e2,if_neg e1]
  rw [e]
  refine ⟨h1,h2,fun k => h3 k.1,?_⟩
  rw [ln_lk hp1 hq1 h2,if_neg (fun k : n.lk r = q => h3 (k ▸ hq)),if_neg (fun k : n.lk r = p => h3 (k ▸ hp)),h4]
theorem Semi.inj {n : Nt} {X : Pt → Prop} (h : Semi n X) {p q : Pt} (hp : n.has p = true) (hq : n.has q = true) (hp' : ¬ X p) (hq' : ¬ X q) (e : n.lk p = n.lk q) : p = q := by
  rw [← (h.ln p hp hp').2.2.2,← (h.ln q hq hq').2.2.2,e]
theorem Semi.move {n : Nt} {X : Pt → Prop} (h : Semi n X) {p q : Pt} (hp1 : n.has p = true) (hp : ¬ X p) (hq : X q) : moveR n p q = (n.ln q (n.lk p),0) ∧ Semi (n.ln q (n.lk p)) fun r => X r ∧ r ≠ q ∨ r = p := by
  have hq1 := h.xs q hq
  obtain ⟨k1,k2,k3,k4⟩ := h.ln p hp1 hp
  have hpq : p ≠ q := fun e => hp (e ▸ hq)
  have hne : n.lk p ≠ q := fun e => k3 (e ▸ hq)
  refine ⟨?_,(ln_shp hq1 k2).semi h (fun r hr => hr.elim (fun k => h.xs r k.1) (fun e => e ▸ hp1)) fun r hr hX => ?_⟩
  · unfold moveR
    rw [if_pos (by simp [hp1,hq1,hpq,k2]),if_neg hne]
    exact linkR_ok hq1 k2 (Ne.symm hne)
  have hql : (n.ln q (n.lk p)).lk q = n.lk p := by rw [ln_lk hq1 k2 hq1,if_neg (Ne.symm hne),if_pos rfl]
  have hpl : (n.ln q (n.lk p)).lk (n.lk p) = q := by rw [ln_lk hq1 k2 k2,if_pos rfl]
  by_cases e1 : r = q
  · subst e1; rw [hql,hpl]; exact ⟨hne,k2,fun k => k.elim (fun k => k3 k.1) k1,rfl⟩
  by_cases e2 : r = n.lk p
  · subst e2; rw [hpl,hql]; exact ⟨Ne.symm hne,hq1,fun k => k.elim (fun k => k.2 rfl) (Ne.symm hpq),rfl⟩
  have hX' : ¬ X r := fun k => hX (.inl ⟨k,e1⟩)
  have hrp : r ≠ p := fun k => hX (.inr k)
  obtain ⟨h1,h2,h3,h4⟩ := h.ln r hr hX'
  have e : (n.ln q (n.lk p)).lk r = n.lk r := by rw [ln_lk hq1 k2 hr,if_neg e2,if_neg e1]
  rw [e]
  refine ⟨h1,h2,fun k => k.elim (fun k => h3 k.1) (fun k => e2 (by rw [← k,h4])),?_⟩
  rw [ln_lk hq1 k2 h2,if_neg (fun k => hrp (h.inj hr hp1 hX' hp k)),if_neg (fun k : n.lk r = q => h3 (k ▸ hq)),h4]
theorem semi_root {n : Nt} {X : Pt → Prop} (h : Semi n X) : ∃ y,n.ns[0]? = some y ∧ y.k = 1 := by
  have := h.ln1
  obtain ⟨y,hy⟩ : ∃ y,n.ns[0]? = some y := ⟨_,List.getElem?_eq_getElem (by omega)⟩
  exact ⟨y,hy,(h.nds 0 y hy).2.2.1 (by simp)⟩
theorem semi_zN {n : Nt} {X : Pt → Prop} (h : Semi n X) {i : Nat} {x : Nd} (hx : n.ns[i]? = some x) (hk : x.k = 0) : x = zN := free_zN (h.nds i x hx).1 (h.nds i x hx).2.1 hk
theorem semi_k {n : Nt} {X : Pt → Prop} (h : Semi n X) {p : Pt} (hp : n.has p = true) : (n.nd p.n).k ≠ 0 := by
  intro hk
  have h1 := has_iff.1 hp
  have := semi_zN h (get_nd h1.1 h1.2.1) hk
  rw [this] at h1; simp [zN] at h1; omega
structure MadeS (n : Nt) (x : Nd) (a : Nt) (t : Nat) : Prop where
  one : 1 ≤ t
  le : t ≤ n.ns.length
  was : ∀ y,n.ns[t]? = some y → y.k = 0
  now : a.ns[t]? = some x.fresh
  cap : a.cap = n.cap
  rest : ∀ i : Nat,i ≠ t → a.ns[i]? = n.ns[i]?
  len : a.ns.length = n.ns.length ∧ t < n.ns.length ∨ a.ns.length = n.ns.length + 1 ∧ t = n.ns.length ∧ n.used = n.ns.length
theorem used_all {l : List Nd} (h : ∀ x ∈ l,isFree x = false) : usedL l = l.length := by
  induction l with
  | nil => rfl
  | cons x l ih =>
    rw [usedL_cons,ih fun y hy => h y (by simp [hy])]
    have := h x (by simp)
    simp only [isFree,decide_eq_false_iff_not] at this
    rw [if_neg this]; simp only [List.length_cons]; omega
theorem madeS {n : Nt} {X : Pt → Prop} (h : Semi n X) (x : Nd) : MadeS n x (n.make x) n.at := by
  obtain ⟨r,hr,hr1⟩ := semi_root h
  have hl := h.ln1
  cases hf : n.ns.findIdx? isFree with
  | some i =>
    obtain ⟨hi,hfi,hbef⟩ := List.findIdx?_eq_some_iff_getElem.1 hf
    have e1 : n.at = i := by unfold Nt.at; rw [hf]
    have e2 : n.make x = ⟨n.ns.set i x.fresh,n.cap⟩ := by unfold Nt.make; rw [hf]
    have hy : n.ns[i]? = some n.ns[i] := List.getElem?_eq_getElem hi
    have hyk : (n.ns[i]).k = 0 := by simpa [isFree] using hfi
    rw [e1,e2]
    refine ⟨?_,by omega,fun y h => ?_,by simp [List.getElem?_set,hi],rfl,fun j hj => List.getElem?_set_ne (Ne.symm hj),.inl ⟨by simp,hi⟩⟩
    · rcases Nat.eq_zero_or_pos i with rfl | h
      · rw [hr] at hy; simp only [Option.some.injEq] at hy; rw [← hy,hr1] at hyk; omega
      · exact h
    · rw [hy] at h; rw [← Option.some.inj h]; exact hyk
  | none =>
    have hnone := List.findIdx?_eq_none_iff.1 hf
    have e1 : n.at = n.ns.length := by unfold Nt.at; rw [hf]
    have e2 : n.make x = ⟨n.ns ++ [x.fresh],n.cap⟩ := by unfold Nt.make; rw [hf]
    rw [e1,e2]
    refine ⟨by omega,Nat.le_refl _,fun y h => ?_,by simp,rfl,fun j hj => ?_,.inr ⟨by simp,rfl,used_all fun y hy => by simpa using hnone y hy⟩⟩
    · rw [List.getElem?_eq_none (Nat.le_refl _)] at h; cases h
    · by_cases hjl : j < n.ns.length
      · exact List.getElem?_append_left hjl
      · rw [List.getElem?_append_right (by omega),List.getElem?_eq_none (l := n.ns) (by omega),List.getElem?_eq_none]; simp; omega
theorem MadeS.nd {n a : Nt} {x : Nd} {t : Nat} (h : MadeS n x a t) {i : Int} (h0 : 0 ≤ i) (hi : i ≠ t) : a.nd i = n.nd i := by
  unfold Nt.nd; rw [List.getD_eq_getElem?_getD,List.getD_eq_getElem?_getD,h.rest i.toNat (by omega)]
theorem MadeS.nd_now {n a : Nt} {x : Nd} {t : Nat} (h : MadeS n x a t) : a.nd t = x.fresh := nd_get h.now
theorem MadeS.lt {n a : Nt} {x : Nd} {t : Nat} (h : MadeS n x a t) : t < a.ns.length := (List.getElem?_eq_some_iff.1 h.now).1
theorem fresh_len {x : Nd} (hx : x.Ok) : (x.fresh.to.length : Int) = x.ports := by
  have hp := ports_b hx
  simp only [Nd.fresh,List.length_replicate]; omega
theorem MadeS.has {n a : Nt} {x : Nd} {t : Nat} (h : MadeS n x a t) (hx : x.Ok) {X : Pt → Prop} (hs : Semi n X) (p : Pt) : a.has p = true ↔ n.has p = true ∨ p.n = t ∧ 0 ≤ p.s ∧ p.s < x.ports := by
  have hlt := h.lt
  have hfl := fresh_len hx
  by_cases e : p.n = t
  · constructor
    · intro k
      have k1 := has_iff.1 k
      rw [e,h.nd_now,hfl] at k1
      exact .inr ⟨e,k1.2.2.1,k1.2.2.2⟩
    · rintro (k | k)
      · exfalso
        have k1 := has_iff.1 k
        have := h.was _ (by have := get_nd (n := n) k1.1 k1.2.1; rw [e] at this; simpa using this)
        have hk := semi_k hs k
        rw [e] at hk; exact hk this
      · rw [has_iff,e,h.nd_now,hfl]; exact ⟨by omega,by omega,k.2.1,k.2.2⟩
  · rw [has_iff,has_iff]
    constructor
    · rintro ⟨k1,k2,k3,k4⟩
      rw [h.nd k1 e] at k4
      refine .inl ⟨k1,?_,k3,k4⟩
      rcases h.len with ⟨l1,_⟩ | ⟨l1,l2,_⟩ <;> omega
    · rintro (⟨k1,k2,k3,k4⟩ | k)
      · rw [h.nd k1 e]
        refine ⟨k1,?_,k3,k4⟩
        rcases h.len with ⟨l1,_⟩ | ⟨l1,l2,_⟩ <;> omega
      · exact absurd k.1 e
theorem MadeS.lk {n a : Nt} {x : Nd} {t : Nat} (h : MadeS n x a t) {X : Pt → Prop} (hs : Semi n X) {p : Pt} (hp : n.has p = true) : p.n ≠ t ∧ a.lk p = n.lk p := by
  have k1 := has_iff.1 hp
  have e : p.n ≠ t := fun e => by
    have := h.was _ (by have := get_nd (n := n) k1.1 k1.2.1; rw [e] at this; simpa using this)
    have hk := semi_k hs hp
    rw [e] at hk; exact hk this
  exact ⟨e,by unfold Nt.lk; rw [h.nd k1.1 e]⟩
theorem fresh_may {x : Nd} (hx : x.Ok) (h : x.may) : x.fresh.may := by
  refine ⟨h.k0,h.k1,h.lv0,h.lv1,h.lv2,h.nm,h.nn,fun h8 => ?_,h.al9,h.aln,h.al8,h.alt⟩
  have h8' : x.k = 8 := h8
  have hp : x.ports = x.to.length := by unfold Nd.ports; rw [h8']; simp
  rw [fresh_len hx,hp]; exact h.to8 h8'
theorem Semi.make {n : Nt} {X : Pt → Prop} (h : Semi n X) {x : Nd} (hx : x.Ok) (hm : x.may) (hk0 : x.k ≠ 0) (hk1 : x.k ≠ 1) (hu : n.used < n.cap) :
    makeR n x = (n.make x,(n.at : Int),0) ∧ Semi (n.make x) fun r => X r ∨ r.n = n.at ∧ 0 ≤ r.s ∧ r.s < x.ports := by
  have hM := madeS h x
  obtain ⟨t,ht⟩ : ∃ t,n.at = t := ⟨_,rfl⟩
  obtain ⟨a,ha⟩ : ∃ a,n.make x = a := ⟨_,rfl⟩
  rw [ht,ha] at hM
  refine ⟨?_,?_⟩
  · unfold makeR
    rw [bool_t hm,if_neg (by simp [hk0,hk1]),if_neg (by omega)]
  rw [ht,ha]
  have hl1 := h.ln1
  refine ⟨hM.cap ▸ h.cap1,hM.cap ▸ h.cap2,?_,?_,?_,fun i y hy => ?_,fun p hp => (hM.has hx h p).2 (hp.imp (h.xs p) id),fun p hp hX => ?_⟩
  · rcases hM.len with ⟨l1,_⟩ | ⟨l1,_⟩ <;> omega
  · have := h.ln2
    rw [hM.cap]
    rcases hM.len with ⟨l1,_⟩ | ⟨l1,_,l3⟩ <;> omega
  · rcases hM.len with ⟨l1,l2⟩ | ⟨l1,l2,_⟩
    · rw [l1,hM.nd (by omega) ?_]
      · exact h.last
      · intro e
        have := h.last
        rw [e] at this
        obtain ⟨y,hy⟩ : ∃ y,n.ns[t]? = some y := ⟨_,List.getElem?_eq_getElem l2⟩
        rw [nd_get hy] at this
        exact this (hM.was y hy)
    · rw [l1,show ((n.ns.length + 1 : Nat) : Int) - 1 = ((t : Nat) : Int) by omega,hM.nd_now]; exact hk0
  · by_cases e : i = t
    · subst e
      rw [hM.now] at hy
      obtain rfl := Option.some.inj hy
      have h1 := hM.one
      refine ⟨fresh_may hx hm,by rw [fresh_len hx,fresh_ports hx],?_⟩
      constructor
      · intro e; omega
      · intro e; exact absurd e hk1
    · rw [hM.rest i e] at hy; exact h.nds i y hy
  · have hp' : n.has p = true := ((hM.has hx h p).1 hp).resolve_right fun k => hX (.inr k)
    obtain ⟨e1,e2⟩ := hM.lk h hp'
    obtain ⟨h1,h2,h3,h4⟩ := h.ln p hp' fun k => hX (.inl k)
    rw [e2]
    refine ⟨h1,(hM.has hx h _).2 (.inl h2),fun k => k.elim h3 fun k => (hM.lk h h2).1 k.1,by rw [(hM.lk h h2).2,h4]⟩
theorem Semi.free {n : Nt} {X : Pt → Prop} (h : Semi n X) {i : Nat} {x : Nd} (hx : n.ns[i]? = some x) (hi : 1 ≤ i) (hk : x.k ≠ 0) (hX : ∀ p,n.has p = true → p.n = i → X p) :
    freeR n i = (n.free i,0) ∧ Semi (n.free i) (fun r => X r ∧ r.n ≠ i) ∧ (n.free i).used = n.used - 1 ∧ (∀ p,(n.free i).has p = true ↔ n.has p = true ∧ p.n ≠ i) ∧ ∀ p,n.has p = true → p.n ≠ i → (n.free i).lk p = n.lk p := by
  have hil := (List.getElem?_eq_some_iff.1 hx).1
  obtain ⟨r,hr,hr1⟩ := semi_root h
  have hlen := free_len n (i : Int)
  have hr2 := free_get (i := i) hr (by omega) (by omega)
  have hl0 := (List.getElem?_eq_some_iff.1 hr2).1
  have hc : (n.free (i : Int)).cap = n.cap := rfl
  have hhas : ∀ p,(n.free (i : Int)).has p = true ↔ n.has p = true ∧ p.n ≠ i := by
    intro p
    constructor
    · intro k
      have k1 := has_iff.1 k
      have g := get_nd (n := n.free (i : Int)) k1.1 k1.2.1
      rcases free_get_inv g with ⟨e1,e2⟩ | ⟨e1,e2⟩
      · rw [e2] at k1; simp [zN] at k1; omega
      · refine ⟨has_iff.2 ⟨k1.1,by have := (List.getElem?_eq_some_iff.1 e2).1; omega,k1.2.2.1,?_⟩,by omega⟩
        have := nd_get e2
        rw [show ((p.n.toNat : Nat) : Int) = p.n by omega] at this
        rw [this]; exact k1.2.2.2
    · rintro ⟨k,e⟩
      have k1 := has_iff.1 k
      have g := free_get (i := i) (get_nd (n := n) k1.1 k1.2.1) (by omega) (semi_k h k)
      have := nd_get g
      rw [show ((p.n.toNat : Nat) : Int) = p.n by omega] at this
      exact has_iff.2 ⟨k1.1,by have := (List.getElem?_eq_some_iff.1 g).1; omega,k1.2.2.1,by rw [this]; exact k1.2.2.2⟩
  have hlk : ∀ p,n.has p = true → p.n ≠ i → (n.free (i : Int)).lk p = n.lk p := by
    intro p k e
    have k1 := has_iff.1 k
    have g := free_get (i := i) (get_nd (n := n) k1.1 k1.2.1) (by omega) (semi_k h k)
    have := nd_get g
    rw [show ((p.n.toNat : Nat) : Int) = p.n by omega] at this
    unfold Nt.lk; rw [this]
  refine ⟨?_,⟨h.cap1,h.cap2,by omega,?_,?_,fun m y hy => ?_,fun p hp => (hhas p).2 ⟨h.xs p hp.1,hp.2⟩,fun p hp hX' => ?_⟩,free_used hx hk,hhas,hlk⟩
  · unfold freeR
    rw [if_pos ⟨by omega,by omega,by rw [nd_get hx]; exact hk⟩]
  · have := h.ln2; rw [hc]; omega
  · have e : (n.free (i : Int)).ns.length = tl (n.ns.set (i : Int).toNat zN) (n.ns.set (i : Int).toNat zN).length := trim_len _
    have h1 := tl_last (n.ns.set (i : Int).toNat zN) (n.ns.set (i : Int).toNat zN).length (by omega)
    obtain ⟨z,hz⟩ : ∃ z,(n.free (i : Int)).ns[(n.free (i : Int)).ns.length - 1]? = some z := ⟨_,List.getElem?_eq_getElem (by omega)⟩
    have h2 : (trim (n.ns.set (i : Int).toNat zN))[(n.free (i : Int)).ns.length - 1]? = some z := hz
    rw [trim_get (by show _ < (n.free (i : Int)).ns.length; omega)] at h2
    rw [← e,getD_of h2] at h1
    have h3 : (((n.free (i : Int)).ns.length : Nat) : Int) - 1 = (((n.free (i : Int)).ns.length - 1 : Nat) : Int) := by omega
    rw [h3,nd_get hz]; exact h1
  · rcases free_get_inv hy with ⟨rfl,rfl⟩ | ⟨hmi,hy0⟩
    · refine ⟨⟨by decide,by decide,by decide,by decide,by decide,by decide,by decide,by decide,by decide,by decide,by decide,fun i a h => by simp [zN] at h⟩,by decide,?_⟩
      constructor
      · intro e; omega
      · intro e; simp [zN] at e
    · exact h.nds m y hy0
  · obtain ⟨g1,g2⟩ := (hhas p).1 hp
    have hX1 : ¬ X p := fun k => hX' ⟨k,g2⟩
    obtain ⟨h1,h2,h3,h4⟩ := h.ln p g1 hX1
    have h5 : (n.lk p).n ≠ i := fun e => h3 (hX _ h2 e)
    rw [hlk p g1 g2]
    exact ⟨h1,(hhas _).2 ⟨h2,h5⟩,fun k => h3 k.1,by rw [hlk _ h2 h5,h4]⟩
end Go.Proofs.Ytkpfjolcmkikeaa
end
