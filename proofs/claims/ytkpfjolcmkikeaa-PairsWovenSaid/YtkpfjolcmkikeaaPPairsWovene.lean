/- Part 5 of what is proved for the law PairsWoven: it returns true,whatever the input. No condition. -/
import Derived.Test.YtkpfjolcmkikeaaPPairsWovend
section
set_option linter.unusedSimpArgs false
set_option linter.unusedVariables false
set_option maxHeartbeats 4000000
set_option maxRecDepth 10000
namespace Go.Proofs.Ytkpfjolcmkikeaa
open Go.Fx
structure Pl where
  k : Int
  sw : Bool
  lv : Int
  alt : Int
  nd : Nd
  deriving DecidableEq
def encL (p : Pl) : List PV := [.i .i64 p.k,.b p.sw,.i .i64 p.lv,.i .i64 p.alt,.i .i64 p.nd.k,.i .i64 p.nd.lv,.i .i64 p.nd.n,.s p.nd.s,.l (p.nd.al.map encA),.l (p.nd.to.map encP)]
def encLE (x : Pl × Int) : PT := .t [(true,encL x.1),(false,[.i .i64 x.2])]
def p0 : Pl := ⟨0,false,0,0,zN⟩
def plainR (k : Int) : Pl × Int := (⟨k,false,0,0,zN⟩,0)
def noR (e : Int) : Pl × Int := (p0,e)
def swapR (x : Pl × Int) : Pl × Int := if x.2 = 0 then (⟨x.1.k,true,x.1.lv,x.1.alt,x.1.nd⟩,0) else x
def cls (k : Int) : Int := if k = 3 ∨ k = 9 ∨ k = 11 ∨ k = 12 then 1 else if k = 2 ∨ k = 8 ∨ k = 10 ∨ k = 13 then 2 else if k = 4 ∨ k = 5 ∨ k = 6 then 3 else if k = 7 then 4 else 0
def wr (i : Int) : Int := IntKind.i64.wrap i
def passLv (x y : Nd) : Int := if x.k = 5 then wr (y.lv - 1) else if x.k = 6 then wr (y.lv + 1) else y.lv
def passR (x y : Nd) : Pl × Int := if x.lv ≥ y.lv then noR 140 else if passLv x y > 60 then noR 141 else (⟨7,false,passLv x y,0,zN⟩,0)
def pickIx (x y : Nd) : Int := idx (fun a => decide (a.s = y.s) && decide (a.n = wr (y.to.length - 1))) x.al
def pickR (x y : Nd) : Pl × Int := if x.lv ≠ y.lv then noR 140 else if pickIx x y < 0 then plainR 5 else (⟨2,false,0,pickIx x y,zN⟩,0)
def truthN (b : Bool) : Nd := ⟨8,0,0,if b then [84,114,117,101] else [70,97,108,115,101],[],[zP]⟩
def outN (x y : Nd) : Nd :=
  if x.s = [43] then ⟨10,0,wr (x.n + y.n),[],[],[]⟩ else if x.s = [45] then ⟨10,0,wr (x.n - y.n),[],[],[]⟩ else if x.s = [42] then ⟨10,0,wr (x.n * y.n),[],[],[]⟩
  else if x.s = [47] then ⟨10,0,wr (x.n.tdiv y.n),[],[],[]⟩ else if x.s = [60] then truthN (decide (x.n < y.n)) else if x.s = [61,61] then truthN (decide (x.n = y.n)) else ⟨10,0,0,[],[],[]⟩
def outR (x y : Nd) : Pl × Int := if x.s = [47] ∧ y.n = 0 then plainR 5 else (⟨4,false,0,0,{ outN x y with lv := x.lv }⟩,0)
def askR (x y : Nd) : Pl × Int :=
  if x.k = 3 ∧ y.k = 2 then (if x.lv ≠ y.lv then noR 140 else plainR 1) else if x.k = 9 ∧ y.k = 8 then pickR x y else if x.k = 11 ∧ y.k = 10 then plainR 3 else if x.k = 12 ∧ y.k = 10 then outR x y else plainR 5
def ofR (a b : Nd) : Pl × Int :=
  if cls a.k = 0 ∨ cls b.k = 0 then noR 140 else if cls a.k = 4 then plainR 8 else if cls b.k = 4 then swapR (plainR 8)
  else if cls a.k = 3 ∧ cls b.k = 3 ∧ a.lv = b.lv ∧ a.k = b.k then plainR 6
  else if cls a.k = 3 ∧ (cls b.k ≠ 3 ∨ a.lv ≤ b.lv) then passR a b
  else if cls b.k = 3 then swapR (passR b a) else if cls a.k = 1 ∧ cls b.k = 2 then askR a b else if cls a.k = 2 ∧ cls b.k = 1 then swapR (askR b a) else noR 140
theorem class_ok (k : Int) : eP S 97 [.a (.i .i64 k)] = some (.a (.i .i64 (cls k))) := by
  refine x_fn (orcS (by decide)) (fc := F97) rfl rfl ?_
  unfold cls
  by_cases h1 : k = 3
  · simp only [F97,h1,Int.reduceEq,or_true,true_or,or_false,false_or,fxa,fxc,fxE,fxL,fxI,nxE,evO,evR,cellsT,ldCells,mkT,lenA,binPV,Env.init,resV,resT,frT,klT,ownT,intT,O.adds,ownA,rowsA,over,wrOk,keysT,keysA,ne_eq,if_true,if_false,ite_self,Nat.reduceLT,Nat.reduceSub,Nat.reduceBEq,Nat.reduceEqDiff,Nat.reduceAdd,Nat.reduceLeDiff,reduceCtorEq,Nat.reduceMul]
  by_cases h2 : k = 9
  · simp only [F97,h2,Int.reduceEq,or_true,true_or,or_false,false_or,fxa,fxc,fxE,fxL,fxI,nxE,evO,evR,cellsT,ldCells,mkT,lenA,binPV,Env.init,resV,resT,frT,klT,ownT,intT,O.adds,ownA,rowsA,over,wrOk,keysT,keysA,ne_eq,if_true,if_false,ite_self,Nat.reduceLT,Nat.reduceSub,Nat.reduceBEq,Nat.reduceEqDiff,Nat.reduceAdd,Nat.reduceLeDiff,reduceCtorEq,Nat.reduceMul]
  by_cases h3 : k = 11
  · simp only [F97,h3,Int.reduceEq,or_true,true_or,or_false,false_or,fxa,fxc,fxE,fxL,fxI,nxE,evO,evR,cellsT,ldCells,mkT,lenA,binPV,Env.init,resV,resT,frT,klT,ownT,intT,O.adds,ownA,rowsA,over,wrOk,keysT,keysA,ne_eq,if_true,if_false,ite_self,Nat.reduceLT,Nat.reduceSub,Nat.reduceBEq,Nat.reduceEqDiff,Nat.reduceAdd,Nat.reduceLeDiff,reduceCtorEq,Nat.reduceMul]
  by_cases h4 : k = 12
  · simp only [F97,h4,Int.reduceEq,or_true,true_or,or_false,false_or,fxa,fxc,fxE,fxL,fxI,nxE,evO,evR,cellsT,ldCells,mkT,lenA,binPV,Env.init,resV,resT,frT,klT,ownT,intT,O.adds,ownA,rowsA,over,wrOk,keysT,keysA,ne_eq,if_true,if_false,ite_self,Nat.reduceLT,Nat.reduceSub,Nat.reduceBEq,Nat.reduceEqDiff,Nat.reduceAdd,Nat.reduceLeDiff,reduceCtorEq,Nat.reduceMul]
  by_cases h5 : k = 2
  · simp only [F97,h5,Int.reduceEq,or_true,true_or,or_false,false_or,or_self,fxa,fxc,fxE,fxL,fxI,nxE,evO,evR,cellsT,ldCells,mkT,lenA,binPV,Env.init,resV,resT,frT,klT,ownT,intT,O.adds,ownA,rowsA,over,wrOk,keysT,keysA,ne_eq,if_true,if_false,ite_self,Nat.reduceLT,Nat.reduceSub,Nat.reduceBEq,Nat.reduceEqDiff,Nat.reduceAdd,Nat.reduceLeDiff,reduceCtorEq,Nat.reduceMul]
  by_cases h6 : k = 8
  · simp only [F97,h6,Int.reduceEq,or_true,true_or,or_false,false_or,or_self,fxa,fxc,fxE,fxL,fxI,nxE,evO,evR,cellsT,ldCells,mkT,lenA,binPV,Env.init,resV,resT,frT,klT,ownT,intT,O.adds,ownA,rowsA,over,wrOk,keysT,keysA,ne_eq,if_true,if_false,ite_self,Nat.reduceLT,Nat.reduceSub,Nat.reduceBEq,Nat.reduceEqDiff,Nat.reduceAdd,Nat.reduceLeDiff,reduceCtorEq,Nat.reduceMul]
  by_cases h7 : k = 10
  · simp only [F97,h7,Int.reduceEq,or_true,true_or,or_false,false_or,or_self,fxa,fxc,fxE,fxL,fxI,nxE,evO,evR,cellsT,ldCells,mkT,lenA,binPV,Env.init,resV,resT,frT,klT,ownT,intT,O.adds,ownA,rowsA,over,wrOk,keysT,keysA,ne_eq,if_true,if_false,ite_self,Nat.reduceLT,Nat.reduceSub,Nat.reduceBEq,Nat.reduceEqDiff,Nat.reduceAdd,Nat.reduceLeDiff,reduceCtorEq,Nat.reduceMul]
  by_cases h8 : k = 13
  · simp only [F97,h8,Int.reduceEq,or_true,true_or,or_false,false_or,or_self,fxa,fxc,fxE,fxL,fxI,nxE,evO,evR,cellsT,ldCells,mkT,lenA,binPV,Env.init,resV,resT,frT,klT,ownT,intT,O.adds,ownA,rowsA,over,wrOk,keysT,keysA,ne_eq,if_true,if_false,ite_self,Nat.reduceLT,Nat.reduceSub,Nat.reduceBEq,Nat.reduceEqDiff,Nat.reduceAdd,Nat.reduceLeDiff,reduceCtorEq,Nat.reduceMul]
  by_cases h9 : k = 4
  · simp only [F97,h9,Int.reduceEq,or_true,true_or,or_false,false_or,or_self,fxa,fxc,fxE,fxL,fxI,nxE,evO,evR,cellsT,ldCells,mkT,lenA,binPV,Env.init,resV,resT,frT,klT,ownT,intT,O.adds,ownA,rowsA,over,wrOk,keysT,keysA,ne_eq,if_true,if_false,ite_self,Nat.reduceLT,Nat.reduceSub,Nat.reduceBEq,Nat.reduceEqDiff,Nat.reduceAdd,Nat.reduceLeDiff,reduceCtorEq,Nat.reduceMul]
  by_cases h10 : k = 5
  · simp only [F97,h10,Int.reduceEq,or_true,true_or,or_false,false_or,or_self,fxa,fxc,fxE,fxL,fxI,nxE,evO,evR,cellsT,ldCells,mkT,lenA,binPV,Env.init,resV,resT,frT,klT,ownT,intT,O.adds,ownA,rowsA,over,wrOk,keysT,keysA,ne_eq,if_true,if_false,ite_self,Nat.reduceLT,Nat.reduceSub,Nat.reduceBEq,Nat.reduceEqDiff,Nat.reduceAdd,Nat.reduceLeDiff,reduceCtorEq,Nat.reduceMul]
  by_cases h11 : k = 6
  · simp only [F97,h11,Int.reduceEq,or_true,true_or,or_false,false_or,or_self,fxa,fxc,fxE,fxL,fxI,nxE,evO,evR,cellsT,ldCells,mkT,lenA,binPV,Env.init,resV,resT,frT,klT,ownT,intT,O.adds,ownA,rowsA,over,wrOk,keysT,keysA,ne_eq,if_true,if_false,ite_self,Nat.reduceLT,Nat.reduceSub,Nat.reduceBEq,Nat.reduceEqDiff,Nat.reduceAdd,Nat.reduceLeDiff,reduceCtorEq,Nat.reduceMul]
  by_cases h12 : k = 7
  · simp only [F97,h12,Int.reduceEq,or_true,true_or,or_false,false_or,or_self,fxa,fxc,fxE,fxL,fxI,nxE,evO,evR,cellsT,ldCells,mkT,lenA,binPV,Env.init,resV,resT,frT,klT,ownT,intT,O.adds,ownA,rowsA,over,wrOk,keysT,keysA,ne_eq,if_true,if_false,ite_self,Nat.reduceLT,Nat.reduceSub,Nat.reduceBEq,Nat.reduceEqDiff,Nat.reduceAdd,Nat.reduceLeDiff,reduceCtorEq,Nat.reduceMul]
  · simp only [F97,h1,h2,h3,h4,h5,h6,h7,h8,h9,h10,h11,h12,or_self,fxa,fxc,fxE,fxL,fxI,nxE,evO,evR,cellsT,ldCells,mkT,lenA,binPV,Env.init,resV,resT,frT,klT,ownT,intT,O.adds,ownA,rowsA,over,wrOk,keysT,keysA,ne_eq,if_true,if_false,ite_self,Nat.reduceLT,Nat.reduceSub,Nat.reduceBEq,Nat.reduceEqDiff,Nat.reduceAdd,Nat.reduceLeDiff,reduceCtorEq,Nat.reduceMul]
theorem plain_ok (k : Int) : eP S 99 [.a (.i .i64 k)] = some (encLE (plainR k)) := by
  refine x_fn (orcS (by decide)) (fc := F99) rfl rfl ?_
  simp only [F99,encLE,encL,plainR,zN,fxa,fxc,fxE,fxL,fxI,nxE,evO,evR,cellsT,ldCells,mkT,lenA,binPV,Env.init,resV,resT,frT,klT,ownT,intT,O.adds,ownA,rowsA,over,wrOk,keysT,keysA,ne_eq,if_true,if_false,ite_self,Nat.reduceLT,Nat.reduceSub,Nat.reduceBEq,Nat.reduceEqDiff,Nat.reduceAdd,Nat.reduceLeDiff,reduceCtorEq,Nat.reduceMul]
theorem swapped_ok (x : Pl × Int) : eP S 100 [.g (encL x.1),.a (.i .i64 x.2)] = some (encLE (swapR x)) := by
  refine x_fn (orcS (by decide)) (fc := F100) rfl rfl ?_
  unfold swapR
  by_cases h : x.2 = 0
  · simp only [F100,encLE,encL,h,fxa,fxc,fxE,fxL,fxI,nxE,evO,evR,cellsT,ldCells,mkT,lenA,binPV,Env.init,resV,resT,frT,klT,ownT,intT,O.adds,ownA,rowsA,over,wrOk,keysT,keysA,ne_eq,if_true,if_false,ite_self,Nat.reduceLT,Nat.reduceSub,Nat.reduceBEq,Nat.reduceEqDiff,Nat.reduceAdd,Nat.reduceLeDiff,reduceCtorEq,Nat.reduceMul]
  · simp only [F100,encLE,encL,h,fxa,fxc,fxE,fxL,fxI,nxE,evO,evR,cellsT,ldCells,mkT,lenA,binPV,Env.init,resV,resT,frT,klT,ownT,intT,O.adds,ownA,rowsA,over,wrOk,keysT,keysA,ne_eq,if_true,if_false,ite_self,Nat.reduceLT,Nat.reduceSub,Nat.reduceBEq,Nat.reduceEqDiff,Nat.reduceAdd,Nat.reduceLeDiff,reduceCtorEq,Nat.reduceMul]
theorem pass_ok (x y : Nd) : eP S 101 [.g (encN x),.g (encN y)] = some (encLE (passR x y)) := by
  refine x_fn (orcS (by decide)) (fc := F101) rfl rfl ?_
  unfold passR passLv wr
  by_cases h5 : x.k = 5
  · by_cases h1 : x.lv ≥ y.lv
    · simp only [F101,encLE,encL,noR,p0,zN,h5,h1,fxa,fxc,fxE,fxL,fxI,nxE,evO,evR,cellsT,ldCells,mkT,lenA,binPV,Env.init,resV,resT,frT,klT,ownT,intT,O.adds,ownA,rowsA,over,wrOk,keysT,keysA,ne_eq,if_true,if_false,ite_self,Nat.reduceLT,Nat.reduceSub,Nat.reduceBEq,Nat.reduceEqDiff,Nat.reduceAdd,Nat.reduceLeDiff,reduceCtorEq,Nat.reduceMul]
    · by_cases h2 : IntKind.i64.wrap (y.lv - 1) > 60
      · simp only [F101,encLE,encL,noR,p0,zN,h5,h1,h2,fxa,fxc,fxE,fxL,fxI,nxE,evO,evR,cellsT,ldCells,mkT,lenA,binPV,Env.init,resV,resT,frT,klT,ownT,intT,O.adds,ownA,rowsA,over,wrOk,keysT,keysA,ne_eq,if_true,if_false,ite_self,Nat.reduceLT,Nat.reduceSub,Nat.reduceBEq,Nat.reduceEqDiff,Nat.reduceAdd,Nat.reduceLeDiff,reduceCtorEq,Nat.reduceMul]
      · simp only [F101,encLE,encL,noR,p0,zN,h5,h1,h2,fxa,fxc,fxE,fxL,fxI,nxE,evO,evR,cellsT,ldCells,mkT,lenA,binPV,Env.init,resV,resT,frT,klT,ownT,intT,O.adds,ownA,rowsA,over,wrOk,keysT,keysA,ne_eq,if_true,if_false,ite_self,Nat.reduceLT,Nat.reduceSub,Nat.reduceBEq,Nat.reduceEqDiff,Nat.reduceAdd,Nat.reduceLeDiff,reduceCtorEq,Nat.reduceMul]
  by_cases h6 : x.k = 6
  · by_cases h1 : x.lv ≥ y.lv
    · simp only [F101,encLE,encL,noR,p0,zN,h6,h1,Int.reduceEq,fxa,fxc,fxE,fxL,fxI,nxE,evO,evR,cellsT,ldCells,mkT,lenA,binPV,Env.init,resV,resT,frT,klT,ownT,intT,O.adds,ownA,rowsA,over,wrOk,keysT,keysA,ne_eq,if_true,if_false,ite_self,Nat.reduceLT,Nat.reduceSub,Nat.reduceBEq,Nat.reduceEqDiff,Nat.reduceAdd,Nat.reduceLeDiff,reduceCtorEq,Nat.reduceMul]
    · by_cases h2 : IntKind.i64.wrap (y.lv + 1) > 60
      · simp only [F101,encLE,encL,noR,p0,zN,h6,h1,h2,Int.reduceEq,fxa,fxc,fxE,fxL,fxI,nxE,evO,evR,cellsT,ldCells,mkT,lenA,binPV,Env.init,resV,resT,frT,klT,ownT,intT,O.adds,ownA,rowsA,over,wrOk,keysT,keysA,ne_eq,if_true,if_false,ite_self,Nat.reduceLT,Nat.reduceSub,Nat.reduceBEq,Nat.reduceEqDiff,Nat.reduceAdd,Nat.reduceLeDiff,reduceCtorEq,Nat.reduceMul]
      · simp only [F101,encLE,encL,noR,p0,zN,h6,h1,h2,Int.reduceEq,fxa,fxc,fxE,fxL,fxI,nxE,evO,evR,cellsT,ldCells,mkT,lenA,binPV,Env.init,resV,resT,frT,klT,ownT,intT,O.adds,ownA,rowsA,over,wrOk,keysT,keysA,ne_eq,if_true,if_false,ite_self,Nat.reduceLT,Nat.reduceSub,Nat.reduceBEq,Nat.reduceEqDiff,Nat.reduceAdd,Nat.reduceLeDiff,reduceCtorEq,Nat.reduceMul]
  by_cases h1 : x.lv ≥ y.lv
  · simp only [F101,encLE,encL,noR,p0,zN,h5,h6,h1,Int.reduceEq,fxa,fxc,fxE,fxL,fxI,nxE,evO,evR,cellsT,ldCells,mkT,lenA,binPV,Env.init,resV,resT,frT,klT,ownT,intT,O.adds,ownA,rowsA,over,wrOk,keysT,keysA,ne_eq,if_true,if_false,ite_self,Nat.reduceLT,Nat.reduceSub,Nat.reduceBEq,Nat.reduceEqDiff,Nat.reduceAdd,Nat.reduceLeDiff,reduceCtorEq,Nat.reduceMul]
  · by_cases h2 : y.lv > 60
    · simp only [F101,encLE,encL,noR,p0,zN,h5,h6,h1,h2,Int.reduceEq,fxa,fxc,fxE,fxL,fxI,nxE,evO,evR,cellsT,ldCells,mkT,lenA,binPV,Env.init,resV,resT,frT,klT,ownT,intT,O.adds,ownA,rowsA,over,wrOk,keysT,keysA,ne_eq,if_true,if_false,ite_self,Nat.reduceLT,Nat.reduceSub,Nat.reduceBEq,Nat.reduceEqDiff,Nat.reduceAdd,Nat.reduceLeDiff,reduceCtorEq,Nat.reduceMul]
    · simp only [F101,encLE,encL,noR,p0,zN,h5,h6,h1,h2,Int.reduceEq,fxa,fxc,fxE,fxL,fxI,nxE,evO,evR,cellsT,ldCells,mkT,lenA,binPV,Env.init,resV,resT,frT,klT,ownT,intT,O.adds,ownA,rowsA,over,wrOk,keysT,keysA,ne_eq,if_true,if_false,ite_self,Nat.reduceLT,Nat.reduceSub,Nat.reduceBEq,Nat.reduceEqDiff,Nat.reduceAdd,Nat.reduceLeDiff,reduceCtorEq,Nat.reduceMul]
theorem pick1_ok (a : Ar) (y : Nd) (k : Key) (σ : St) (hk : σ.bs k = some (.var ((encN y).map .p))) (hlt : k.2 < σ.clk) :
    eS S (.f 150) [.g ((encA a).map .p),.a (.ptr k 0 0)] σ = some (.a (.p (.b (decide (a.s = y.s) && decide (a.n = wr (y.to.length - 1))))),σ.add 2 (.var ((encA a).map .p))) := by
  have hne : ¬ k = (2,σ.clk) := by rintro rfl; exact Nat.lt_irrefl _ hlt
  simp only [encN,List.map_cons,List.map_nil] at hk
  refine x_fnX (fc := F150) rfl rfl ?_
  unfold wr
  cases h1 : decide (a.s = y.s) with
  | false => simp only [F150,hk,hne,h1,fxa,fxc,fxE,fxL,fxI,nxE,evO,evR,cellsT,ldCells,mkT,lenA,binPV,Env.init,resV,resT,frT,klT,ownT,intT,O.adds,ownA,rowsA,over,wrOk,keysT,keysA,ne_eq,if_true,if_false,ite_self,Nat.reduceLT,Nat.reduceSub,Nat.reduceBEq,Nat.reduceEqDiff,Nat.reduceAdd,Nat.reduceLeDiff,reduceCtorEq,Nat.reduceMul]
  | true => simp only [F150,hk,hne,h1,fxa,fxc,fxE,fxL,fxI,nxE,evO,evR,cellsT,ldCells,mkT,lenA,binPV,Env.init,resV,resT,frT,klT,ownT,intT,O.adds,ownA,rowsA,over,wrOk,keysT,keysA,ne_eq,if_true,if_false,ite_self,Nat.reduceLT,Nat.reduceSub,Nat.reduceBEq,Nat.reduceEqDiff,Nat.reduceAdd,Nat.reduceLeDiff,reduceCtorEq,Nat.reduceMul]
theorem pick_ok {x y : Nd} (hx : x.Ok) : eP S 131 [.g (encN x),.g (encN y)] = some (encLE (pickR x y)) := by
  refine x_fn (orcS (by decide)) (fc := F131) rfl rfl ?_
  have c5 := plain_ok 5
  unfold pickR
  by_cases h1 : x.lv = y.lv
  case neg => simp only [F131,encLE,encL,noR,p0,zN,h1,fxa,fxc,fxE,fxL,fxI,nxE,evO,evR,cellsT,ldCells,mkT,lenA,binPV,Env.init,resV,resT,frT,klT,ownT,intT,O.adds,ownA,rowsA,over,wrOk,keysT,keysA,ne_eq,if_true,if_false,ite_self,Nat.reduceLT,Nat.reduceSub,Nat.reduceBEq,Nat.reduceEqDiff,Nat.reduceAdd,Nat.reduceLeDiff,reduceCtorEq,Nat.reduceMul]
  obtain ⟨σ0,hσ0⟩ : ∃ σ0,σ0 = ((St.empty.add 2 (.var ((encN x).map .p))).add 3 (.var ((encN y).map .p))).add 4 (.var [.p (.i .i64 0),.p (.b false),.p (.i .i64 0),.p (.i .i64 0),.p (.i .i64 0),.p (.i .i64 0),.p (.i .i64 0),.p (.s []),.nil,.nil]) := ⟨_,rfl⟩
  obtain ⟨σ1,hcall,h4,h5⟩ := indexA_ok x.al hx.al 150 [(3,1)] (by simp) (by decide) (fun a => decide (a.s = y.s) && decide (a.n = wr (y.to.length - 1))) (fun σ => (σ.bs (3,1) = some (.var ((encN y).map .p)) ∧ 2 ≤ σ.clk) ∧ σ.bs (4,2) = some (.var [.p (.i .i64 0),.p (.b false),.p (.i .i64 0),.p (.i .i64 0),.p (.i .i64 0),.p (.i .i64 0),.p (.i .i64 0),.p (.s []),.nil,.nil]))
    (fun a σ hσ => ⟨_,pick1_ok a y (3,1) σ hσ.1.1 (by have := hσ.1.2; simp; omega),by
      refine ⟨⟨?_,?_⟩,?_⟩
      · simp only [add_bs]; rw [if_neg (by simp)]; exact hσ.1.1
      · simp only [add_clk]; have := hσ.1.2; omega
      · simp only [add_bs]; rw [if_neg (by simp)]; exact hσ.2⟩) σ0 (by rw [hσ0]; refine ⟨⟨?_,?_⟩,?_⟩ <;> simp [add_bs,add_clk,empty_clk])
  rw [hσ0] at hcall
  have hcall : eS S (.f 149) [.a (.p (.l (x.al.map encA))),.a (.fn 150 [(3,1)])] _ = some (.a (.p (.i .i64 (pickIx x y))),σ1) := hcall
  simp only [encN,List.map_cons,List.map_nil,h1] at hcall h4
  simp only [encLE,encL,plainR,zN,List.map_nil] at c5
  by_cases h2 : pickIx x y < 0
  · simp only [F131,encLE,encL,noR,plainR,p0,zN,h1,capsOf,hcall,h2,h4,h5,c5,not_true_eq_false,fxa,fxc,fxE,fxL,fxI,nxE,evO,evR,cellsT,ldCells,mkT,lenA,binPV,Env.init,resV,resT,frT,klT,ownT,intT,O.adds,ownA,rowsA,over,wrOk,keysT,keysA,ne_eq,if_true,if_false,ite_self,Nat.reduceLT,Nat.reduceSub,Nat.reduceBEq,Nat.reduceEqDiff,Nat.reduceAdd,Nat.reduceLeDiff,reduceCtorEq,Nat.reduceMul]
  · simp only [F131,encLE,encL,noR,plainR,p0,zN,h1,capsOf,hcall,h2,h4,h5,c5,not_true_eq_false,fxa,fxc,fxE,fxL,fxI,nxE,evO,evR,cellsT,ldCells,mkT,lenA,binPV,Env.init,resV,resT,frT,klT,ownT,intT,O.adds,ownA,rowsA,over,wrOk,keysT,keysA,ne_eq,if_true,if_false,ite_self,Nat.reduceLT,Nat.reduceSub,Nat.reduceBEq,Nat.reduceEqDiff,Nat.reduceAdd,Nat.reduceLeDiff,reduceCtorEq,Nat.reduceMul]
theorem truth_ok (b : Bool) : eP S 151 [.a (.b b)] = some (.g (encN (truthN b))) := by
  refine x_fn (orcS (by decide)) (fc := F151) rfl rfl ?_
  unfold truthN
  cases b
  · simp only [F151,zP,Int.reduceLE,Int.reduceMul,Int.reduceToNat,Int.cast_ofNat_Int,fxa,fxc,fxE,fxL,fxI,nxE,evO,evR,cellsT,ldCells,mkT,lenA,binPV,Env.init,resV,resT,frT,klT,ownT,intT,O.adds,ownA,rowsA,over,wrOk,keysT,keysA,ne_eq,if_true,if_false,ite_self,Nat.reduceLT,Nat.reduceSub,Nat.reduceBEq,Nat.reduceEqDiff,Nat.reduceAdd,Nat.reduceLeDiff,reduceCtorEq,Nat.reduceMul]
  · simp only [F151,zP,Int.reduceLE,Int.reduceMul,Int.reduceToNat,Int.cast_ofNat_Int,fxa,fxc,fxE,fxL,fxI,nxE,evO,evR,cellsT,ldCells,mkT,lenA,binPV,Env.init,resV,resT,frT,klT,ownT,intT,O.adds,ownA,rowsA,over,wrOk,keysT,keysA,ne_eq,if_true,if_false,ite_self,Nat.reduceLT,Nat.reduceSub,Nat.reduceBEq,Nat.reduceEqDiff,Nat.reduceAdd,Nat.reduceLeDiff,reduceCtorEq,Nat.reduceMul]
theorem nmU : ((43 : UInt8) = 45) = False ∧ ((43 : UInt8) = 42) = False ∧ ((43 : UInt8) = 47) = False ∧ ((43 : UInt8) = 60) = False ∧ ((43 : UInt8) = 61) = False ∧ ((45 : UInt8) = 43) = False ∧ ((45 : UInt8) = 42) = False ∧ ((45 : UInt8) = 47) = False ∧ ((45 : UInt8) = 60) = False ∧ ((45 : UInt8) = 61) = False ∧ ((42 : UInt8) = 43) = False ∧ ((42 : UInt8) = 45) = False ∧ ((42 : UInt8) = 47) = False ∧ ((42 : UInt8) = 60) = False ∧ ((42 : UInt8) = 61) = False ∧ ((47 : UInt8) = 43) = False ∧ ((47 : UInt8) = 45) = False ∧ ((47 : UInt8) = 42) = False ∧ ((47 : UInt8) = 60) = False ∧ ((47 : UInt8) = 61) = False ∧ ((60 : UInt8) = 43) = False ∧ ((60 : UInt8) = 45) = False ∧ ((60 : UInt8) = 42) = False ∧ ((60 : UInt8) = 47) = False ∧ ((60 : UInt8) = 61) = False ∧ ((61 : UInt8) = 43) = False ∧ ((61 : UInt8) = 45) = False ∧ ((61 : UInt8) = 42) = False ∧ ((61 : UInt8) = 47) = False ∧ ((61 : UInt8) = 60) = False :=
  ⟨eq_false (by decide),eq_false (by decide),eq_false (by decide),eq_false (by decide),eq_false (by decide),eq_false (by decide),eq_false (by decide),eq_false (by decide),eq_false (by decide),eq_false (by decide),eq_false (by decide),eq_false (by decide),eq_false (by decide),eq_false (by decide),eq_false (by decide),eq_false (by decide),eq_false (by decide),eq_false (by decide),eq_false (by decide),eq_false (by decide),eq_false (by decide),eq_false (by decide),eq_false (by decide),eq_false (by decide),eq_false (by decide),eq_false (by decide),eq_false (by decide),eq_false (by decide),eq_false (by decide),eq_false (by decide)⟩
theorem out_ok (x y : Nd) : eP S 132 [.g (encN x),.g (encN y)] = some (encLE (outR x y)) := by
  refine x_fn (orcS (by decide)) (fc := F132) rfl rfl ?_
  have c5 := plain_ok 5
  have t1 := truth_ok (decide (x.n < y.n))
  have t2 := truth_ok (decide (x.n = y.n))
  unfold outR outN
  simp only [encN,truthN,zP,encP,List.map_cons,List.map_nil] at t1 t2
  obtain ⟨n1,hn1⟩ : ∃ b,decide (x.n < y.n) = b := ⟨_,rfl⟩
  obtain ⟨n2,hn2⟩ : ∃ b,decide (x.n = y.n) = b := ⟨_,rfl⟩
  rw [hn1] at t1 ⊢
  rw [hn2] at t2 ⊢
  simp only [encLE,encL,plainR,zN,List.map_nil] at c5
  by_cases h1 : x.s = [43]
  · simp only [F132,encLE,encL,plainR,zN,wr,h1,List.cons.injEq,nmU,List.cons_ne_nil,not_true_eq_false,fxa,fxc,fxE,fxL,fxI,nxE,evO,evR,cellsT,ldCells,mkT,lenA,binPV,Env.init,resV,resT,frT,klT,ownT,intT,O.adds,ownA,rowsA,over,wrOk,keysT,keysA,ne_eq,if_true,if_false,ite_self,Nat.reduceLT,Nat.reduceSub,Nat.reduceBEq,Nat.reduceEqDiff,Nat.reduceAdd,Nat.reduceLeDiff,reduceCtorEq,Nat.reduceMul]
  by_cases h2 : x.s = [45]
  · simp only [F132,encLE,encL,plainR,zN,wr,h2,List.cons.injEq,nmU,List.cons_ne_nil,not_true_eq_false,fxa,fxc,fxE,fxL,fxI,nxE,evO,evR,cellsT,ldCells,mkT,lenA,binPV,Env.init,resV,resT,frT,klT,ownT,intT,O.adds,ownA,rowsA,over,wrOk,keysT,keysA,ne_eq,if_true,if_false,ite_self,Nat.reduceLT,Nat.reduceSub,Nat.reduceBEq,Nat.reduceEqDiff,Nat.reduceAdd,Nat.reduceLeDiff,reduceCtorEq,Nat.reduceMul]
  by_cases h3 : x.s = [42]
  · simp only [F132,encLE,encL,plainR,zN,wr,h3,List.cons.injEq,nmU,List.cons_ne_nil,not_true_eq_false,fxa,fxc,fxE,fxL,fxI,nxE,evO,evR,cellsT,ldCells,mkT,lenA,binPV,Env.init,resV,resT,frT,klT,ownT,intT,O.adds,ownA,rowsA,over,wrOk,keysT,keysA,ne_eq,if_true,if_false,ite_self,Nat.reduceLT,Nat.reduceSub,Nat.reduceBEq,Nat.reduceEqDiff,Nat.reduceAdd,Nat.reduceLeDiff,reduceCtorEq,Nat.reduceMul]
  by_cases h4 : x.s = [47]
  · by_cases h5 : y.n = 0
    · simp only [F132,encLE,encL,plainR,zN,wr,h4,h5,c5,List.cons.injEq,nmU,List.cons_ne_nil,not_true_eq_false,fxa,fxc,fxE,fxL,fxI,nxE,evO,evR,cellsT,ldCells,mkT,lenA,binPV,Env.init,resV,resT,frT,klT,ownT,intT,O.adds,ownA,rowsA,over,wrOk,keysT,keysA,ne_eq,if_true,if_false,ite_self,Nat.reduceLT,Nat.reduceSub,Nat.reduceBEq,Nat.reduceEqDiff,Nat.reduceAdd,Nat.reduceLeDiff,reduceCtorEq,Nat.reduceMul]
    · simp only [F132,encLE,encL,plainR,zN,wr,h4,h5,c5,List.cons.injEq,nmU,List.cons_ne_nil,not_true_eq_false,fxa,fxc,fxE,fxL,fxI,nxE,evO,evR,cellsT,ldCells,mkT,lenA,binPV,Env.init,resV,resT,frT,klT,ownT,intT,O.adds,ownA,rowsA,over,wrOk,keysT,keysA,ne_eq,if_true,if_false,ite_self,Nat.reduceLT,Nat.reduceSub,Nat.reduceBEq,Nat.reduceEqDiff,Nat.reduceAdd,Nat.reduceLeDiff,reduceCtorEq,Nat.reduceMul]
  by_cases h6 : x.s = [60]
  · simp only [F132,encLE,encL,plainR,zN,wr,h6,t1,hn1,truthN,zP,List.cons.injEq,nmU,List.cons_ne_nil,not_true_eq_false,fxa,fxc,fxE,fxL,fxI,nxE,evO,evR,cellsT,ldCells,mkT,lenA,binPV,Env.init,resV,resT,frT,klT,ownT,intT,O.adds,ownA,rowsA,over,wrOk,keysT,keysA,ne_eq,if_true,if_false,ite_self,Nat.reduceLT,Nat.reduceSub,Nat.reduceBEq,Nat.reduceEqDiff,Nat.reduceAdd,Nat.reduceLeDiff,reduceCtorEq,Nat.reduceMul]
  by_cases h7 : x.s = [61,61]
  · simp only [F132,encLE,encL,plainR,zN,wr,h7,t2,hn2,truthN,zP,List.cons.injEq,nmU,List.cons_ne_nil,not_true_eq_false,fxa,fxc,fxE,fxL,fxI,nxE,evO,evR,cellsT,ldCells,mkT,lenA,binPV,Env.init,resV,resT,frT,klT,ownT,intT,O.adds,ownA,rowsA,over,wrOk,keysT,keysA,ne_eq,if_true,if_false,ite_self,Nat.reduceLT,Nat.reduceSub,Nat.reduceBEq,Nat.reduceEqDiff,Nat.reduceAdd,Nat.reduceLeDiff,reduceCtorEq,Nat.reduceMul]
  · simp only [F132,encLE,encL,plainR,zN,wr,h1,h2,h3,h4,h6,h7,List.cons.injEq,nmU,List.cons_ne_nil,not_true_eq_false,fxa,fxc,fxE,fxL,fxI,nxE,evO,evR,cellsT,ldCells,mkT,lenA,binPV,Env.init,resV,resT,frT,klT,ownT,intT,O.adds,ownA,rowsA,over,wrOk,keysT,keysA,ne_eq,if_true,if_false,ite_self,Nat.reduceLT,Nat.reduceSub,Nat.reduceBEq,Nat.reduceEqDiff,Nat.reduceAdd,Nat.reduceLeDiff,reduceCtorEq,Nat.reduceMul]
theorem ask_ok {x y : Nd} (hx : x.Ok) : eP S 102 [.g (encN x),.g (encN y)] = some (encLE (askR x y)) := by
  refine x_fn (orcS (by decide)) (fc := F102) rfl rfl ?_
  have c1 := plain_ok 1
  have c3 := plain_ok 3
  have c5 := plain_ok 5
  have cp := pick_ok (x := x) (y := y) hx
  have co := out_ok x y
  obtain ⟨⟨⟨pk,ps,pl,pa,⟨n1,n2,n3,n4,n5,n6⟩⟩,pe⟩,hp⟩ : ∃ z,pickR x y = z := ⟨_,rfl⟩
  obtain ⟨⟨⟨ok,os,ol,oa,⟨m1,m2,m3,m4,m5,m6⟩⟩,oe⟩,ho⟩ : ∃ z,outR x y = z := ⟨_,rfl⟩
  unfold askR
  rw [hp] at cp ⊢
  rw [ho] at co ⊢
  simp only [encN,encLE,encL] at cp co
  simp only [encLE,encL,plainR,zN,List.map_nil] at c1 c3 c5
  by_cases h1 : x.k = 3 ∧ y.k = 2
  · obtain ⟨h1,h2⟩ := h1
    by_cases h3 : x.lv = y.lv
    · simp only [F102,encLE,encL,plainR,noR,p0,zN,h1,h2,h3,c1,Int.reduceEq,not_true_eq_false,fxa,fxc,fxE,fxL,fxI,nxE,evO,evR,cellsT,ldCells,mkT,lenA,binPV,Env.init,resV,resT,frT,klT,ownT,intT,O.adds,ownA,rowsA,over,wrOk,keysT,keysA,ne_eq,if_true,if_false,ite_self,Nat.reduceLT,Nat.reduceSub,Nat.reduceBEq,Nat.reduceEqDiff,Nat.reduceAdd,Nat.reduceLeDiff,reduceCtorEq,Nat.reduceMul]
    · simp only [F102,encLE,encL,plainR,noR,p0,zN,h1,h2,h3,c1,Int.reduceEq,not_true_eq_false,fxa,fxc,fxE,fxL,fxI,nxE,evO,evR,cellsT,ldCells,mkT,lenA,binPV,Env.init,resV,resT,frT,klT,ownT,intT,O.adds,ownA,rowsA,over,wrOk,keysT,keysA,ne_eq,if_true,if_false,ite_self,Nat.reduceLT,Nat.reduceSub,Nat.reduceBEq,Nat.reduceEqDiff,Nat.reduceAdd,Nat.reduceLeDiff,reduceCtorEq,Nat.reduceMul]
  by_cases h2 : x.k = 9 ∧ y.k = 8
  · obtain ⟨h2,h3⟩ := h2
    rw [h2,h3] at cp
    simp only [F102,encLE,encL,plainR,noR,p0,zN,h2,h3,cp,Int.reduceEq,not_true_eq_false,fxa,fxc,fxE,fxL,fxI,nxE,evO,evR,cellsT,ldCells,mkT,lenA,binPV,Env.init,resV,resT,frT,klT,ownT,intT,O.adds,ownA,rowsA,over,wrOk,keysT,keysA,ne_eq,if_true,if_false,ite_self,Nat.reduceLT,Nat.reduceSub,Nat.reduceBEq,Nat.reduceEqDiff,Nat.reduceAdd,Nat.reduceLeDiff,reduceCtorEq,Nat.reduceMul]
  by_cases h3 : x.k = 11 ∧ y.k = 10
  · obtain ⟨h3,h4⟩ := h3
    simp only [F102,encLE,encL,plainR,noR,p0,zN,h3,h4,c3,Int.reduceEq,not_true_eq_false,fxa,fxc,fxE,fxL,fxI,nxE,evO,evR,cellsT,ldCells,mkT,lenA,binPV,Env.init,resV,resT,frT,klT,ownT,intT,O.adds,ownA,rowsA,over,wrOk,keysT,keysA,ne_eq,if_true,if_false,ite_self,Nat.reduceLT,Nat.reduceSub,Nat.reduceBEq,Nat.reduceEqDiff,Nat.reduceAdd,Nat.reduceLeDiff,reduceCtorEq,Nat.reduceMul]
  by_cases h4 : x.k = 12 ∧ y.k = 10
  · obtain ⟨h4,h5⟩ := h4
    rw [h4,h5] at co
    simp only [F102,encLE,encL,plainR,noR,p0,zN,h4,h5,co,Int.reduceEq,not_true_eq_false,fxa,fxc,fxE,fxL,fxI,nxE,evO,evR,cellsT,ldCells,mkT,lenA,binPV,Env.init,resV,resT,frT,klT,ownT,intT,O.adds,ownA,rowsA,over,wrOk,keysT,keysA,ne_eq,if_true,if_false,ite_self,Nat.reduceLT,Nat.reduceSub,Nat.reduceBEq,Nat.reduceEqDiff,Nat.reduceAdd,Nat.reduceLeDiff,reduceCtorEq,Nat.reduceMul]
  have g1 : (decide (x.k = 3) && decide (y.k = 2)) = false := by simpa using h1
  have g2 : (decide (x.k = 9) && decide (y.k = 8)) = false := by simpa using h2
  have g3 : (decide (x.k = 11) && decide (y.k = 10)) = false := by simpa using h3
  have g4 : (decide (x.k = 12) && decide (y.k = 10)) = false := by simpa using h4
  simp only [F102,encLE,encL,plainR,noR,p0,zN,h1,h2,h3,h4,g1,g2,g3,g4,c5,Int.reduceEq,not_true_eq_false,fxa,fxc,fxE,fxL,fxI,nxE,evO,evR,cellsT,ldCells,mkT,lenA,binPV,Env.init,resV,resT,frT,klT,ownT,intT,O.adds,ownA,rowsA,over,wrOk,keysT,keysA,ne_eq,if_true,if_false,ite_self,Nat.reduceLT,Nat.reduceSub,Nat.reduceBEq,Nat.reduceEqDiff,Nat.reduceAdd,Nat.reduceLeDiff,reduceCtorEq,Nat.reduceMul]
theorem of1_ok (i j : Int) (a b : Nd) (ka kb : Key) (σ : St) (ha : σ.bs ka = some (.var ((encN a).map .p))) (hb : σ.bs kb = some (.var ((encN b).map .p))) :
    eS S (.f 96) [.a (.p (.i .i64 i)),.a (.p (.i .i64 j)),.a (.ptr ka 0 0),.a (.ptr kb 0 0)] σ = some (.a (.p (.b (decide (cls a.k = i) && decide (cls b.k = j)))),σ) := by
  have c1 := class_ok a.k
  have c2 := class_ok b.k
  simp only [encN,List.map_cons,List.map_nil] at ha hb
  refine x_fnX (fc := F96) rfl rfl ?_
  cases h1 : decide (cls a.k = i) with
  | false => simp only [F96,ha,hb,c1,c2,h1,fxa,fxc,fxE,fxL,fxI,nxE,evO,evR,cellsT,ldCells,mkT,lenA,binPV,Env.init,resV,resT,frT,klT,ownT,intT,O.adds,ownA,rowsA,over,wrOk,keysT,keysA,ne_eq,if_true,if_false,ite_self,Nat.reduceLT,Nat.reduceSub,Nat.reduceBEq,Nat.reduceEqDiff,Nat.reduceAdd,Nat.reduceLeDiff,reduceCtorEq,Nat.reduceMul]
  | true => simp only [F96,ha,hb,c1,c2,h1,fxa,fxc,fxE,fxL,fxI,nxE,evO,evR,cellsT,ldCells,mkT,lenA,binPV,Env.init,resV,resT,frT,klT,ownT,intT,O.adds,ownA,rowsA,over,wrOk,keysT,keysA,ne_eq,if_true,if_false,ite_self,Nat.reduceLT,Nat.reduceSub,Nat.reduceBEq,Nat.reduceEqDiff,Nat.reduceAdd,Nat.reduceLeDiff,reduceCtorEq,Nat.reduceMul]
theorem of2_ok (i : Int) (a b : Nd) (ka kb : Key) (σ : St) (ha : σ.bs ka = some (.var ((encN a).map .p))) (hb : σ.bs kb = some (.var ((encN b).map .p))) :
    eS S (.f 98) [.a (.p (.i .i64 i)),.a (.ptr ka 0 0),.a (.ptr kb 0 0)] σ = some (.a (.p (.b (decide (cls a.k = i) || decide (cls b.k = i)))),σ) := by
  have c1 := class_ok a.k
  have c2 := class_ok b.k
  simp only [encN,List.map_cons,List.map_nil] at ha hb
  refine x_fnX (fc := F98) rfl rfl ?_
  cases h1 : decide (cls a.k = i) with
  | false => simp only [F98,ha,hb,c1,c2,h1,fxa,fxc,fxE,fxL,fxI,nxE,evO,evR,cellsT,ldCells,mkT,lenA,binPV,Env.init,resV,resT,frT,klT,ownT,intT,O.adds,ownA,rowsA,over,wrOk,keysT,keysA,ne_eq,if_true,if_false,ite_self,Nat.reduceLT,Nat.reduceSub,Nat.reduceBEq,Nat.reduceEqDiff,Nat.reduceAdd,Nat.reduceLeDiff,reduceCtorEq,Nat.reduceMul]
  | true => simp only [F98,ha,hb,c1,c2,h1,fxa,fxc,fxE,fxL,fxI,nxE,evO,evR,cellsT,ldCells,mkT,lenA,binPV,Env.init,resV,resT,frT,klT,ownT,intT,O.adds,ownA,rowsA,over,wrOk,keysT,keysA,ne_eq,if_true,if_false,ite_self,Nat.reduceLT,Nat.reduceSub,Nat.reduceBEq,Nat.reduceEqDiff,Nat.reduceAdd,Nat.reduceLeDiff,reduceCtorEq,Nat.reduceMul]
theorem Of_ok {a b : Nd} (ha : a.Ok) (hb : b.Ok) : eP S 70 [.g (encN a),.g (encN b)] = some (encLE (ofR a b)) := by
  have ca := class_ok a.k
  have cb := class_ok b.k
  have c8 := plain_ok 8
  have c6 := plain_ok 6
  have cs8 := swapped_ok (plainR 8)
  have pab := pass_ok a b
  have pba := pass_ok b a
  have spba := swapped_ok (passR b a)
  have aab := ask_ok (x := a) (y := b) ha
  have aba := ask_ok (x := b) (y := a) hb
  have saba := swapped_ok (askR b a)
  obtain ⟨⟨⟨q1,q2,q3,q4,⟨q5,q6,q7,q8,q9,q10⟩⟩,qe⟩,hq⟩ : ∃ z,passR a b = z := ⟨_,rfl⟩
  obtain ⟨⟨⟨r1,r2,r3,r4,⟨r5,r6,r7,r8,r9,r10⟩⟩,re⟩,hr⟩ : ∃ z,passR b a = z := ⟨_,rfl⟩
  obtain ⟨⟨⟨s1,s2,s3,s4,⟨s5,s6,s7,s8,s9,s10⟩⟩,se⟩,hs⟩ : ∃ z,askR a b = z := ⟨_,rfl⟩
  obtain ⟨⟨⟨t1,t2,t3,t4,⟨t5,t6,t7,t8,t9,t10⟩⟩,te⟩,ht⟩ : ∃ z,askR b a = z := ⟨_,rfl⟩
  rw [hq] at pab
  rw [hr] at pba spba
  rw [hs] at aab
  rw [ht] at aba saba
  obtain ⟨⟨⟨u1,u2,u3,u4,⟨u5,u6,u7,u8,u9,u10⟩⟩,ue⟩,hu⟩ : ∃ z,swapR (⟨r1,r2,r3,r4,⟨r5,r6,r7,r8,r9,r10⟩⟩,re) = z := ⟨_,rfl⟩
  obtain ⟨⟨⟨w1,w2,w3,w4,⟨w5,w6,w7,w8,w9,w10⟩⟩,we⟩,hw⟩ : ∃ z,swapR (⟨t1,t2,t3,t4,⟨t5,t6,t7,t8,t9,t10⟩⟩,te) = z := ⟨_,rfl⟩
  rw [hu] at spba
  rw [hw] at saba
  have e8 : swapR (plainR 8) = (⟨8,true,0,0,zN⟩,0) := rfl
  rw [e8] at cs8
  simp only [encLE,encL,encN,plainR,zN,List.map_nil] at c8 c6 cs8 pab pba spba aab aba saba
  have o1 := fun i j σ (h1 : σ.bs (2,0) = some (.var ((encN a).map .p))) h2 => of1_ok i j a b (2,0) (3,1) σ h1 h2
  have o2 := fun i σ (h1 : σ.bs (2,0) = some (.var ((encN a).map .p))) h2 => of2_ok i a b (2,0) (3,1) σ h1 h2
  obtain ⟨σ1,hσ1⟩ : ∃ σ1,σ1 = ((St.empty.add 2 (.var ((encN a).map .p))).add 3 (.var ((encN b).map .p))).add 4 (.var [.p (.i .i64 0),.p (.b false),.p (.i .i64 0),.p (.i .i64 0),.p (.i .i64 0),.p (.i .i64 0),.p (.i .i64 0),.p (.s []),.nil,.nil]) := ⟨_,rfl⟩
  have b2 : σ1.bs (2,0) = some (.var ((encN a).map .p)) := by rw [hσ1]; simp [add_bs,add_clk,empty_clk]
  have b3 : σ1.bs (3,1) = some (.var ((encN b).map .p)) := by rw [hσ1]; simp [add_bs,add_clk,empty_clk]
  have k0 := o2 0 σ1 b2 b3
  have k33 := o1 3 3 σ1 b2 b3
  have k12 := o1 1 2 σ1 b2 b3
  have k21 := o1 2 1 σ1 b2 b3
  rw [hσ1] at k0 k33 k12 k21
  simp only [encN,List.map_cons,List.map_nil] at k0 k33 k12 k21
  unfold ofR
  rw [hq,hr,hs,ht]
  refine x_fn (orcS (by decide)) (fc := F70) rfl rfl ?_
  by_cases h0 : cls a.k = 0 ∨ cls b.k = 0
  · have d0 : (decide (cls a.k = 0) || decide (cls b.k = 0)) = true := by simpa using h0
    rw [d0] at k0
    simp only [F70,capsOf,encLE,encL,noR,p0,zN,h0,k0,fxa,fxc,fxE,fxL,fxI,nxE,evO,evR,cellsT,ldCells,mkT,lenA,binPV,Env.init,resV,resT,frT,klT,ownT,intT,O.adds,ownA,rowsA,over,wrOk,keysT,keysA,ne_eq,if_true,if_false,ite_self,Nat.reduceLT,Nat.reduceSub,Nat.reduceBEq,Nat.reduceEqDiff,Nat.reduceAdd,Nat.reduceLeDiff,reduceCtorEq,Nat.reduceMul]
  have d0 : (decide (cls a.k = 0) || decide (cls b.k = 0)) = false := by simpa using h0
  rw [d0] at k0
  have h0a : ¬ cls a.k = 0 := fun h => h0 (.inl h)
  have h0b : ¬ cls b.k = 0 := fun h => h0 (.inr h)
  by_cases h1 : cls a.k = 4
  · simp only [F70,capsOf,encLE,encL,plainR,zN,h0a,h0b,h1,k0,ca,c8,Int.reduceEq,or_self,false_or,or_false,not_false_eq_true,not_true_eq_false,fxa,fxc,fxE,fxL,fxI,nxE,evO,evR,cellsT,ldCells,mkT,lenA,binPV,Env.init,resV,resT,frT,klT,ownT,intT,O.adds,ownA,rowsA,over,wrOk,keysT,keysA,ne_eq,if_true,if_false,ite_self,Nat.reduceLT,Nat.reduceSub,Nat.reduceBEq,Nat.reduceEqDiff,Nat.reduceAdd,Nat.reduceLeDiff,reduceCtorEq,Nat.reduceMul]
  by_cases h2 : cls b.k = 4
  · simp only [F70,capsOf,encLE,encL,plainR,zN,swapR,h0a,h0b,h1,h2,k0,ca,cb,c8,cs8,Int.reduceEq,or_self,false_or,or_false,not_false_eq_true,not_true_eq_false,fxa,fxc,fxE,fxL,fxI,nxE,evO,evR,cellsT,ldCells,mkT,lenA,binPV,Env.init,resV,resT,frT,klT,ownT,intT,O.adds,ownA,rowsA,over,wrOk,keysT,keysA,ne_eq,if_true,if_false,ite_self,Nat.reduceLT,Nat.reduceSub,Nat.reduceBEq,Nat.reduceEqDiff,Nat.reduceAdd,Nat.reduceLeDiff,reduceCtorEq,Nat.reduceMul]
  by_cases h3 : cls a.k = 3 ∧ cls b.k = 3 ∧ a.lv = b.lv ∧ a.k = b.k
  · obtain ⟨h3,h4,h5,h6⟩ := h3
    have d3 : (decide (cls a.k = 3) && decide (cls b.k = 3)) = true := by simp [h3,h4]
    rw [d3] at k33
    have h43 : ¬ (3 : Int) = 4 := by decide
    have h03 : ¬ ((3 : Int) = 0 ∨ (3 : Int) = 0) := by decide
    rw [h6] at h3 ca k0 k33
    rw [h5] at k0 k33
    simp only [F70,capsOf,encLE,encL,plainR,zN,h3,h4,h5,h6,h43,h03,k0,k33,ca,cb,c6,Int.reduceEq,or_self,false_or,or_false,not_false_eq_true,not_true_eq_false,fxa,fxc,fxE,fxL,fxI,nxE,evO,evR,cellsT,ldCells,mkT,lenA,binPV,Env.init,resV,resT,frT,klT,ownT,intT,O.adds,ownA,rowsA,over,wrOk,keysT,keysA,ne_eq,if_true,if_false,ite_self,Nat.reduceLT,Nat.reduceSub,Nat.reduceBEq,Nat.reduceEqDiff,Nat.reduceAdd,Nat.reduceLeDiff,reduceCtorEq,Nat.reduceMul]
  have d33 : ((decide (cls a.k = 3) && decide (cls b.k = 3)) = true ∧ a.lv = b.lv ∧ a.k = b.k) ↔ False := by simp; intro x y; exact fun z w => h3 ⟨x,y,z,w⟩
  obtain ⟨v33,hv33⟩ : ∃ v,(decide (cls a.k = 3) && decide (cls b.k = 3)) = v := ⟨_,rfl⟩
  rw [hv33] at k33 d33
  have g33 : ∀ {α : Type} (x y : α),(if ((decide (cls a.k = 3) && decide (cls b.k = 3)) && decide (a.lv = b.lv) && decide (a.k = b.k)) = true then x else y) = y := by
    intro α x y; rw [if_neg]; simp; intro x y; exact fun z w => h3 ⟨x,y,z,w⟩
  by_cases h4 : cls a.k = 3
  · by_cases h5 : cls b.k = 3
    · have hv : v33 = true := by rw [← hv33]; simp [h4,h5]
      rw [hv] at k33
      by_cases h6 : a.lv ≤ b.lv
      · by_cases h7 : a.lv = b.lv
        · have h8 : ¬ a.k = b.k := fun h => h3 ⟨h4,h5,h7,h⟩
          rw [h7] at k0 k33 pab
          simp only [F70,capsOf,encLE,encL,h0a,h0b,h1,h2,h4,h5,h7,h8,Int.le_refl,k0,k33,ca,cb,pab,true_or,or_true,Int.reduceEq,or_self,false_or,or_false,not_false_eq_true,not_true_eq_false,fxa,fxc,fxE,fxL,fxI,nxE,evO,evR,cellsT,ldCells,mkT,lenA,binPV,Env.init,resV,resT,frT,klT,ownT,intT,O.adds,ownA,rowsA,over,wrOk,keysT,keysA,ne_eq,if_true,if_false,ite_self,Nat.reduceLT,Nat.reduceSub,Nat.reduceBEq,Nat.reduceEqDiff,Nat.reduceAdd,Nat.reduceLeDiff,reduceCtorEq,Nat.reduceMul]
        · simp only [F70,capsOf,encLE,encL,h0a,h0b,h1,h2,h4,h5,h6,h7,k0,k33,ca,cb,pab,true_or,or_true,Int.reduceEq,or_self,false_or,or_false,not_false_eq_true,not_true_eq_false,fxa,fxc,fxE,fxL,fxI,nxE,evO,evR,cellsT,ldCells,mkT,lenA,binPV,Env.init,resV,resT,frT,klT,ownT,intT,O.adds,ownA,rowsA,over,wrOk,keysT,keysA,ne_eq,if_true,if_false,ite_self,Nat.reduceLT,Nat.reduceSub,Nat.reduceBEq,Nat.reduceEqDiff,Nat.reduceAdd,Nat.reduceLeDiff,reduceCtorEq,Nat.reduceMul]
      · have h7 : ¬ a.lv = b.lv := by omega
        simp only [F70,capsOf,encLE,encL,h0a,h0b,h1,h2,h4,h5,h6,h7,hu,k0,k33,ca,cb,pba,spba,or_self,Int.reduceEq,or_self,false_or,or_false,not_false_eq_true,not_true_eq_false,fxa,fxc,fxE,fxL,fxI,nxE,evO,evR,cellsT,ldCells,mkT,lenA,binPV,Env.init,resV,resT,frT,klT,ownT,intT,O.adds,ownA,rowsA,over,wrOk,keysT,keysA,ne_eq,if_true,if_false,ite_self,Nat.reduceLT,Nat.reduceSub,Nat.reduceBEq,Nat.reduceEqDiff,Nat.reduceAdd,Nat.reduceLeDiff,reduceCtorEq,Nat.reduceMul]
    · have hv : v33 = false := by rw [← hv33]; simp [h5]
      rw [hv] at k33
      simp only [F70,capsOf,encLE,encL,h0a,h0b,h1,h2,h4,h5,k0,k33,ca,cb,pab,true_or,or_true,Int.reduceEq,or_self,false_or,or_false,not_false_eq_true,not_true_eq_false,fxa,fxc,fxE,fxL,fxI,nxE,evO,evR,cellsT,ldCells,mkT,lenA,binPV,Env.init,resV,resT,frT,klT,ownT,intT,O.adds,ownA,rowsA,over,wrOk,keysT,keysA,ne_eq,if_true,if_false,ite_self,Nat.reduceLT,Nat.reduceSub,Nat.reduceBEq,Nat.reduceEqDiff,Nat.reduceAdd,Nat.reduceLeDiff,reduceCtorEq,Nat.reduceMul]
  · have hv : v33 = false := by rw [← hv33]; simp [h4]
    rw [hv] at k33
    by_cases h5 : cls b.k = 3
    · simp only [F70,capsOf,encLE,encL,h0a,h0b,h1,h2,h4,h5,hu,k0,k33,ca,cb,pba,spba,or_self,Int.reduceEq,or_self,false_or,or_false,not_false_eq_true,not_true_eq_false,fxa,fxc,fxE,fxL,fxI,nxE,evO,evR,cellsT,ldCells,mkT,lenA,binPV,Env.init,resV,resT,frT,klT,ownT,intT,O.adds,ownA,rowsA,over,wrOk,keysT,keysA,ne_eq,if_true,if_false,ite_self,Nat.reduceLT,Nat.reduceSub,Nat.reduceBEq,Nat.reduceEqDiff,Nat.reduceAdd,Nat.reduceLeDiff,reduceCtorEq,Nat.reduceMul]
    by_cases h6 : cls a.k = 1 ∧ cls b.k = 2
    · have d6 : (decide (cls a.k = 1) && decide (cls b.k = 2)) = true := by simpa using h6
      rw [d6] at k12
      simp only [F70,capsOf,encLE,encL,h0a,h0b,h1,h2,h4,h5,h6,k0,k33,k12,ca,cb,aab,Int.reduceEq,or_self,false_or,or_false,not_false_eq_true,not_true_eq_false,fxa,fxc,fxE,fxL,fxI,nxE,evO,evR,cellsT,ldCells,mkT,lenA,binPV,Env.init,resV,resT,frT,klT,ownT,intT,O.adds,ownA,rowsA,over,wrOk,keysT,keysA,ne_eq,if_true,if_false,ite_self,Nat.reduceLT,Nat.reduceSub,Nat.reduceBEq,Nat.reduceEqDiff,Nat.reduceAdd,Nat.reduceLeDiff,reduceCtorEq,Nat.reduceMul]
    have d6 : (decide (cls a.k = 1) && decide (cls b.k = 2)) = false := by simpa using h6
    rw [d6] at k12
    by_cases h7 : cls a.k = 2 ∧ cls b.k = 1
    · have d7 : (decide (cls a.k = 2) && decide (cls b.k = 1)) = true := by simpa using h7
      rw [d7] at k21
      simp only [F70,capsOf,encLE,encL,h0a,h0b,h1,h2,h4,h5,h6,h7,hw,k0,k33,k12,k21,ca,cb,aba,saba,Int.reduceEq,or_self,false_or,or_false,not_false_eq_true,not_true_eq_false,fxa,fxc,fxE,fxL,fxI,nxE,evO,evR,cellsT,ldCells,mkT,lenA,binPV,Env.init,resV,resT,frT,klT,ownT,intT,O.adds,ownA,rowsA,over,wrOk,keysT,keysA,ne_eq,if_true,if_false,ite_self,Nat.reduceLT,Nat.reduceSub,Nat.reduceBEq,Nat.reduceEqDiff,Nat.reduceAdd,Nat.reduceLeDiff,reduceCtorEq,Nat.reduceMul]
    · have d7 : (decide (cls a.k = 2) && decide (cls b.k = 1)) = false := by simpa using h7
      rw [d7] at k21
      simp only [F70,capsOf,encLE,encL,noR,p0,zN,h0a,h0b,h1,h2,h4,h5,h6,h7,k0,k33,k12,k21,ca,cb,Int.reduceEq,or_self,false_or,or_false,not_false_eq_true,not_true_eq_false,fxa,fxc,fxE,fxL,fxI,nxE,evO,evR,cellsT,ldCells,mkT,lenA,binPV,Env.init,resV,resT,frT,klT,ownT,intT,O.adds,ownA,rowsA,over,wrOk,keysT,keysA,ne_eq,if_true,if_false,ite_self,Nat.reduceLT,Nat.reduceSub,Nat.reduceBEq,Nat.reduceEqDiff,Nat.reduceAdd,Nat.reduceLeDiff,reduceCtorEq,Nat.reduceMul]
end Go.Proofs.Ytkpfjolcmkikeaa
end
section
set_option linter.unusedSimpArgs false
set_option linter.unusedVariables false
set_option maxHeartbeats 4000000
set_option maxRecDepth 10000
namespace Go.Proofs.Ytkpfjolcmkikeaa
open Go.Fx
def Nt.step (n : Nt) (i j : Nat) : Prop := ∃ x q,n.ns[i]? = some x ∧ q ∈ x.to ∧ q.n = (j : Int)
inductive Rch (n : Nt) : Nat → Prop
  | root : Rch n 0
  | step {i j : Nat} : Rch n i → n.step i j → Rch n j
def cntF (l : List Bool) : Nat := l.countP fun b => !b
end Go.Proofs.Ytkpfjolcmkikeaa
end
section
set_option linter.unusedSimpArgs false
set_option linter.unusedVariables false
namespace Go.Fx
variable {S : Seat}
theorem evY_up {cp : FuncId → List PT → Option PT} {cs : Cal → List TV → St → Option (TV × St)} {sp : FuncId → Bool} {j k : Nat} (h : j ≤ k) (l : Nat) (args : List TV) (σ : St) : Le (evY cp cs sp j l args σ) (evY cp cs sp k l args σ) := by
  induction h with
  | refl => exact Le.refl _
  | step _ ih => exact ih.trans (evY_le (fun _ _ => Le.refl _) (fun _ _ _ => Le.refl _) _ l args σ)
theorem eS_y_of {n l : Nat} {args : List TV} {σ : St} {x : TV × St} (h : evY (eP S) (eS S) S.sp n l args σ = some x) : eS S (.y l) args σ = some x := by
  have hl := evY_lim (cp := eP S) (cs := eS S) (sp := S.sp) (fun f ps => eP_lim S f ps) (fun f vs σ => eS_lim S f vs σ) n l args σ
  obtain ⟨k,hk⟩ := hl.ex _ h
  refine (eS_some S).2 ⟨max k n + 1,?_⟩
  rw [evS]
  exact evY_up (Nat.le_max_right k n) l args σ _ (hl.mono (Nat.le_max_left k n) _ hk)
theorem y_round {l : Nat} {args : List TV} {σ : St} {r : LRec} (hr : σ.ls[l]? = some r) (hn : args.length = r.params.length) {K : TV → St → Prop}
    (h : wp S true r.assign (putAll r.env r.params args) σ fun x e1 σ1 => x = .norm ∧ ∃ r1,σ1.ls[l]? = some r1 ∧ r1.st = .ready ∧ wp S true r.body e1 (setL σ1 l { r1 with st := .busy }) fun y e2 σ2 =>
      ∃ r2,σ2.ls[l]? = some r2 ∧ (if y = .norm then K (.a (.p (.b true))) (setL σ2 l { r2 with st := .ready,pend := none }) else K (.a (.p (.b false))) (setL σ2 l { r2 with st := .done,pend := some y }))) :
    ∃ v σ',eS S (.y l) args σ = some (v,σ') ∧ K v σ' := by
  obtain ⟨n1,⟨x,e1,σ1⟩,h1,hx,r1,hr1,hst,n2,⟨y,e2,σ2⟩,h2,r2,hr2,hK⟩ := h
  simp only at hx hr1 hst h2 hr2 hK
  subst hx
  have a := evW_le (Nat.le_max_left n1 n2) true r.assign _ _ _ h1
  have b := evW_le (Nat.le_max_right n1 n2) true r.body _ _ _ h2
  simp only [evW] at a b
  by_cases hy : y = .norm
  · subst hy
    rw [if_pos rfl] at hK
    refine ⟨_,_,eS_y_of (n := max n1 n2) ?_,hK⟩
    simp only [evY,hr,hn,if_true,a,Option.bind_some,hr1,hst,b,hr2]
  · rw [if_neg hy] at hK
    refine ⟨_,_,eS_y_of (n := max n1 n2) ?_,hK⟩
    simp only [evY,hr,hn,if_true,a,Option.bind_some,hr1,hst,b,hr2,if_neg hy]
theorem wp_rng {f : X} {ps : List Nat} {assign body : C} {e : Env} {σ : St} {Q : Ex → Env → St → Prop} {g : FuncId} {caps : List Key} (hf : ev e f = .a (.fn g caps))
    (h : ∃ v σ1,eS S (.f g) (.a (.yl σ.ls.length) :: caps.map fun s => .a (.ptr s 0 0)) { σ with ls := σ.ls ++ [{ env := e,params := ps,assign := assign,body := body,st := .ready,pend := none }] } = some (v,σ1) ∧
      ∃ r,σ1.ls[σ.ls.length]? = some r ∧ r.st ≠ .busy ∧ Q (r.pend.getD .norm) e (setL σ1 σ.ls.length { r with st := .gone })) : wp S false (.rng f ps assign body) e σ Q := by
  obtain ⟨v,σ1,h1,r,hr,hs,hQ⟩ := h
  refine ⟨1,(r.pend.getD .norm,e,setL σ1 σ.ls.length { r with st := .gone }),?_,hQ⟩
  simp only [evW,evC,Bool.false_eq_true,if_false,hf,h1,Option.bind_some,hr,if_neg hs]
theorem setL_bs (σ : St) (l : Nat) (r : LRec) : (setL σ l r).bs = σ.bs := rfl
theorem setL_clk (σ : St) (l : Nat) (r : LRec) : (setL σ l r).clk = σ.clk := rfl
theorem setL_ls (σ : St) (l : Nat) (r : LRec) : (setL σ l r).ls = σ.ls.set l r := rfl
end Go.Fx
end
section
set_option linter.unusedSimpArgs false
set_option linter.unusedVariables false
set_option maxHeartbeats 4000000
set_option maxRecDepth 10000
namespace Go.Proofs.Ytkpfjolcmkikeaa
open Go.Fx
def Nt.pr (n : Nt) (i : Nat) : Option Pt := if n.has ⟨i,0⟩ = true ∧ (n.lk ⟨i,0⟩).s = 0 ∧ (i : Int) < (n.lk ⟨i,0⟩).n then some ⟨i,(n.lk ⟨i,0⟩).n⟩ else none
def prsTo (n : Nt) (k : Nat) : List Pt := (List.range k).filterMap n.pr
def Nt.prs (n : Nt) : List Pt := prsTo n n.ns.length
theorem prsTo_succ (n : Nt) (k : Nat) : prsTo n (k + 1) = prsTo n k ++ (n.pr k).toList := by
  unfold prsTo
  rw [List.range_succ,List.filterMap_append]
  cases h : n.pr k <;> simp [h]
theorem meetings_ok (n : Nt) (σ : St) : eS S (.f 65) [.g ((encT n).map .p)] σ = some (.a (.fn 90 [(1,σ.clk)]),σ.add 1 (.var ((encT n).map .p))) := by
  refine x_fnX (fc := F65) rfl rfl ?_
  simp only [F65,capsOf,fxa,fxc,fxE,fxL,fxI,nxE,evO,evR,cellsT,ldCells,mkT,lenA,binPV,Env.init,resV,resT,frT,klT,ownT,intT,O.adds,ownA,rowsA,over,wrOk,keysT,keysA,ne_eq,if_true,if_false,ite_self,Nat.reduceLT,Nat.reduceSub,Nat.reduceBEq,Nat.reduceEqDiff,Nat.reduceAdd,Nat.reduceLeDiff,reduceCtorEq,Nat.reduceMul]
theorem each_ok {n : Nt} (hn : n.Ok) (l : Nat) (kn : Key) (I : Nat → St → Prop) (hI : ∀ k σ,I k σ → σ.bs kn = some (.var ((encT n).map .p)) ∧ kn.2 < σ.clk)
    (hadd : ∀ k σ c b,I k σ → c = σ.clk → I k ((σ.add 4 (.var [.p (.i .i64 0),.p (.i .i64 0)])).put (4,c) b))
    (hy : n.Good → ∀ k σ p,I k σ → n.prs[k]? = some p → ∃ σ',eS S (.y l) [.g [.p (.i .i64 p.n),.p (.i .i64 p.s)]] σ = some (.a (.p (.b true)),σ') ∧ I (k + 1) σ') (σ : St) (h0 : I 0 σ) :
    ∃ σ',eS S (.f 90) [.a (.yl l),.a (.ptr kn 0 0)] σ = some (.u,σ') ∧ I (if bool n.Good then n.prs.length else 0) σ' := by
  refine x_fnR (fc := F90) rfl rfl ?_
  have c1 := sCheck_ok hn
  have hns := hn.ns
  obtain ⟨s1,hc⟩ := hI 0 σ h0
  by_cases hG : n.Good
  case neg =>
    rw [bool_f hG] at c1 ⊢
    simp only [Bool.false_eq_true,if_false,encT,List.map_cons,List.map_nil] at c1 s1
    simp only [F90,s1,c1,Int.reduceEq,fxa,fxc,fxE,fxL,fxI,nxE,evO,evR,cellsT,ldCells,mkT,lenA,binPV,Env.init,resV,resT,frT,klT,ownT,intT,O.adds,ownA,rowsA,over,wrOk,keysT,keysA,ne_eq,if_true,if_false,ite_self,Nat.reduceLT,Nat.reduceSub,Nat.reduceBEq,Nat.reduceEqDiff,Nat.reduceAdd,Nat.reduceLeDiff,reduceCtorEq,Nat.reduceMul]
    exact h0
  rw [bool_t hG] at c1 ⊢
  simp only [if_true,encT,List.map_cons,List.map_nil] at c1 s1
  simp only [F90,s1,c1,fxa,fxc,fxE,fxL,fxI,nxE,evO,evR,cellsT,ldCells,mkT,lenA,binPV,Env.init,resV,resT,frT,klT,ownT,intT,O.adds,ownA,rowsA,over,wrOk,keysT,keysA,ne_eq,if_true,if_false,ite_self,Nat.reduceLT,Nat.reduceSub,Nat.reduceBEq,Nat.reduceEqDiff,Nat.reduceAdd,Nat.reduceLeDiff,reduceCtorEq,Nat.reduceMul]
  refine loop_nat n.ns.length (fun i e σ => e 0 = .a (.yl l) ∧ e 1 = .a (.ptr kn 0 0) ∧ e 11 = .a (.p (.i .i64 n.ns.length)) ∧ e 12 = .a (.p (.i .i64 (i : Nat))) ∧ I (prsTo n i).length σ) (i0 := 0) (Nat.zero_le _) ?_ ?_ ?_
  · refine ⟨?_,?_,?_,?_,h0⟩ <;> simp only [fxa,fxc,fxE,fxL,fxI,nxE,evO,evR,cellsT,ldCells,mkT,lenA,binPV,Env.init,resV,resT,frT,klT,ownT,intT,O.adds,ownA,rowsA,over,wrOk,keysT,keysA,ne_eq,if_true,if_false,ite_self,Nat.reduceLT,Nat.reduceSub,Nat.reduceBEq,Nat.reduceEqDiff,Nat.reduceAdd,Nat.reduceLeDiff,reduceCtorEq,Nat.reduceMul]
    rfl
  · rintro i e σ hi ⟨e0,e1,e11,e12,hIi⟩
    obtain ⟨s1,hc⟩ := hI _ σ hIi
    have hlt : ((i : Nat) : Int) < (n.ns.length : Int) := by omega
    have c2 := Peer_ok n ⟨i,0⟩
    have hsuc := prsTo_succ n i
    have hkn : ¬ kn = (4,σ.clk) := by rintro rfl; simp at hc
    rw [hsuc]
    simp only [encT,encP,List.map_cons,List.map_nil] at s1 c2
    cases hh : n.has ⟨i,0⟩ with
    | false =>
      have hp : n.pr i = none := by unfold Nt.pr; rw [hh]; simp
      rw [hh] at c2
      simp only [Bool.false_eq_true,if_false,zP] at c2
      simp only [F90b0,e0,e1,e11,e12,s1,hlt,c2,hp,Option.toList_none,Int.reduceEq,fxa,fxc,fxE,fxL,fxI,nxE,evO,evR,cellsT,ldCells,mkT,lenA,binPV,Env.init,resV,resT,frT,klT,ownT,intT,O.adds,ownA,rowsA,over,wrOk,keysT,keysA,ne_eq,if_true,if_false,ite_self,Nat.reduceLT,Nat.reduceSub,Nat.reduceBEq,Nat.reduceEqDiff,Nat.reduceAdd,Nat.reduceLeDiff,reduceCtorEq,Nat.reduceMul]
      exact ⟨by rw [wrap_succ i (by omega)],hadd _ σ _ _ hIi rfl⟩
    | true =>
      rw [hh] at c2
      simp only [if_true] at c2
      obtain ⟨q,hq⟩ : ∃ q,n.lk ⟨i,0⟩ = q := ⟨_,rfl⟩
      rw [hq] at c2
      by_cases h1 : q.s = 0
      case neg =>
        have hp : n.pr i = none := by unfold Nt.pr; rw [hq,if_neg (fun h => h1 h.2.1)]
        simp only [F90b0,e0,e1,e11,e12,s1,hlt,c2,h1,hp,Option.toList_none,Int.reduceEq,fxa,fxc,fxE,fxL,fxI,nxE,evO,evR,cellsT,ldCells,mkT,lenA,binPV,Env.init,resV,resT,frT,klT,ownT,intT,O.adds,ownA,rowsA,over,wrOk,keysT,keysA,ne_eq,if_true,if_false,ite_self,Nat.reduceLT,Nat.reduceSub,Nat.reduceBEq,Nat.reduceEqDiff,Nat.reduceAdd,Nat.reduceLeDiff,reduceCtorEq,Nat.reduceMul]
        exact ⟨by rw [wrap_succ i (by omega)],hadd _ σ _ _ hIi rfl⟩
      by_cases h2 : q.n ≤ (i : Int)
      · have hp : n.pr i = none := by unfold Nt.pr; rw [hq,if_neg (fun h => by have := h.2.2; omega)]
        rw [h1] at c2
        simp only [F90b0,e0,e1,e11,e12,s1,hlt,c2,h1,h2,hp,Option.toList_none,Int.reduceEq,fxa,fxc,fxE,fxL,fxI,nxE,evO,evR,cellsT,ldCells,mkT,lenA,binPV,Env.init,resV,resT,frT,klT,ownT,intT,O.adds,ownA,rowsA,over,wrOk,keysT,keysA,ne_eq,if_true,if_false,ite_self,Nat.reduceLT,Nat.reduceSub,Nat.reduceBEq,Nat.reduceEqDiff,Nat.reduceAdd,Nat.reduceLeDiff,reduceCtorEq,Nat.reduceMul]
        exact ⟨by rw [wrap_succ i (by omega)],hadd _ σ _ _ hIi rfl⟩
      · have hp : n.pr i = some ⟨i,q.n⟩ := by unfold Nt.pr; rw [hq,if_pos ⟨hh,h1,by omega⟩]
        have hget : n.prs[(prsTo n i).length]? = some ⟨i,q.n⟩ := by
          have : ∀ k,i + 1 ≤ k → (prsTo n k)[(prsTo n i).length]? = some ⟨i,q.n⟩ := by
            intro k hk
            induction hk with
            | refl => rw [hsuc,hp]; simp
            | step hk ih =>
              rw [prsTo_succ,List.getElem?_append_left]
              · exact ih
              · exact (List.getElem?_eq_some_iff.1 ih).1
          exact this n.ns.length (by omega)
        obtain ⟨σ',hcall,hI'⟩ := hy hG _ _ _ (hadd _ σ σ.clk (.var [.p (.i .i64 q.n),.p (.i .i64 q.s)]) hIi rfl) hget
        rw [h1] at c2 hcall
        simp only [F90b0,e0,e1,e11,e12,s1,hlt,c2,h1,h2,hp,hcall,Option.toList_some,List.length_append,Int.reduceEq,fxa,fxc,fxE,fxL,fxI,nxE,evO,evR,cellsT,ldCells,mkT,lenA,binPV,Env.init,resV,resT,frT,klT,ownT,intT,O.adds,ownA,rowsA,over,wrOk,keysT,keysA,ne_eq,if_true,if_false,ite_self,Nat.reduceLT,Nat.reduceSub,Nat.reduceBEq,Nat.reduceEqDiff,Nat.reduceAdd,Nat.reduceLeDiff,reduceCtorEq,Nat.reduceMul]
        exact ⟨by rw [wrap_succ i (by omega)],hI'⟩
  · rintro e σ ⟨e0,e1,e11,e12,hIi⟩
    have hlt : ¬ ((n.ns.length : Nat) : Int) < (n.ns.length : Int) := by omega
    simp only [F90b0,e0,e1,e11,e12,hlt,fxa,fxc,fxE,fxL,fxI,nxE,evO,evR,cellsT,ldCells,mkT,lenA,binPV,Env.init,resV,resT,frT,klT,ownT,intT,O.adds,ownA,rowsA,over,wrOk,keysT,keysA,ne_eq,if_true,if_false,ite_self,Nat.reduceLT,Nat.reduceSub,Nat.reduceBEq,Nat.reduceEqDiff,Nat.reduceAdd,Nat.reduceLeDiff,reduceCtorEq,Nat.reduceMul]
    exact hIi
end Go.Proofs.Ytkpfjolcmkikeaa
end
section
set_option linter.unusedSimpArgs false
set_option linter.unusedVariables false
set_option maxHeartbeats 4000000
set_option maxRecDepth 10000
namespace Go.Proofs.Ytkpfjolcmkikeaa
open Go.Fx
theorem prsTo_len (n : Nt) (k : Nat) : (prsTo n k).length ≤ k := by
  unfold prsTo
  have := List.length_filterMap_le n.pr (List.range k)
  simpa using this
def rdy (n : Nt) (p : Pt) : Bool := decide ((ofR (n.nd p.n) (n.nd p.s)).2 = 0)
theorem pr_spec {n : Nt} {i : Nat} {p : Pt} (h : n.pr i = some p) : p.n = i ∧ n.has ⟨i,0⟩ = true ∧ n.lk ⟨i,0⟩ = ⟨p.s,0⟩ ∧ (i : Int) < p.s := by
  unfold Nt.pr at h
  split at h
  · rename_i h1
    rw [← Option.some.inj h]
    refine ⟨rfl,h1.1,?_,h1.2.2⟩
    obtain ⟨q,hq⟩ : ∃ q,n.lk ⟨i,0⟩ = q := ⟨_,rfl⟩
    rw [hq] at h1 ⊢
    obtain ⟨a,b⟩ := q
    have h2 : b = 0 := h1.2.1
    rw [h2]
  · cases h
theorem prs_mem {n : Nt} {p : Pt} : p ∈ n.prs ↔ ∃ i,i < n.ns.length ∧ n.pr i = some p := by
  unfold Nt.prs prsTo
  rw [List.mem_filterMap]
  constructor
  · rintro ⟨i,h1,h2⟩; exact ⟨i,List.mem_range.1 h1,h2⟩
  · rintro ⟨i,h1,h2⟩; exact ⟨i,List.mem_range.2 h1,h2⟩
theorem prs_in {n : Nt} (hG : n.Good) {p : Pt} (h : p ∈ n.prs) : 0 ≤ p.n ∧ p.n < n.ns.length ∧ 0 ≤ p.s ∧ p.s < n.ns.length ∧ p.n < p.s := by
  obtain ⟨i,h1,h2⟩ := prs_mem.1 h
  obtain ⟨e1,e2,e3,e4⟩ := pr_spec h2
  have h3 := has_iff.1 (good_link hG e2).2.1
  rw [e3] at h3
  simp only at h3
  omega
theorem ready_ok {n : Nt} (hn : n.Ok) {p : Pt} (hp : 0 ≤ p.n ∧ p.n < n.ns.length ∧ 0 ≤ p.s ∧ p.s < n.ns.length) : eP S 67 [.g (encT n),.g (encP p)] = some (.a (.b (rdy n p))) := by
  refine x_fn (orcS (by decide)) (fc := F67) rfl rfl ?_
  have g1 := getN (l := n.ns) hp.1 hp.2.1
  have g2 := getN (l := n.ns) hp.2.2.1 hp.2.2.2
  have c1 := Of_ok (hn.nd _ (nd_mem hp.1 hp.2.1)) (hn.nd _ (nd_mem hp.2.2.1 hp.2.2.2))
  obtain ⟨a,ha⟩ : ∃ a,n.nd p.n = a := ⟨_,rfl⟩
  obtain ⟨b,hb⟩ : ∃ b,n.nd p.s = b := ⟨_,rfl⟩
  have ha2 : n.ns.getD p.n.toNat zN = a := ha
  have hb2 : n.ns.getD p.s.toNat zN = b := hb
  unfold rdy
  rw [ha,hb] at c1 ⊢
  rw [ha2] at g1
  rw [hb2] at g2
  obtain ⟨⟨r,e⟩,hr⟩ : ∃ r,ofR a b = r := ⟨_,rfl⟩
  rw [hr] at c1 ⊢
  simp only [encLE,encL,encN] at c1
  simp only [F67,g1,g2,hp.1,hp.2.1,hp.2.2.1,hp.2.2.2,c1,fxa,fxc,fxE,fxL,fxI,nxE,evO,evR,cellsT,ldCells,mkT,lenA,binPV,Env.init,resV,resT,frT,klT,ownT,intT,O.adds,ownA,rowsA,over,wrOk,keysT,keysA,ne_eq,if_true,if_false,ite_self,Nat.reduceLT,Nat.reduceSub,Nat.reduceBEq,Nat.reduceEqDiff,Nat.reduceAdd,Nat.reduceLeDiff,reduceCtorEq,Nat.reduceMul]
noncomputable def Nt.rds (n : Nt) : List Pt := if bool n.Good then n.prs.filter (rdy n) else []
theorem Ready_ok {n : Nt} (hn : n.Ok) : eP S 45 [.g (encT n)] = some (.a (.l (n.rds.map encP))) := by
  refine x_fn (orcS (by decide)) (fc := F45) rfl rfl ?_
  have hns := hn.ns
  have hpl2 : n.prs.length ≤ n.ns.length := prsTo_len n n.ns.length
  have hm := meetings_ok n ((St.empty.add 1 (.var ((encT n).map .p))).add 3 (.var [.nil]))
  simp only [encT,List.map_cons,List.map_nil,add_clk,empty_clk,Nat.zero_add,Nat.reduceAdd] at hm
  simp only [F45,hm,fxa,fxc,fxE,fxL,fxI,nxE,evO,evR,cellsT,ldCells,mkT,lenA,binPV,Env.init,resV,resT,frT,klT,ownT,intT,O.adds,ownA,rowsA,over,wrOk,keysT,keysA,ne_eq,if_true,if_false,ite_self,Nat.reduceLT,Nat.reduceSub,Nat.reduceBEq,Nat.reduceEqDiff,Nat.reduceAdd,Nat.reduceLeDiff,reduceCtorEq,Nat.reduceMul]
  obtain ⟨E,hE⟩ : ∃ E : Env,E = ((((((Env.init [TV.g [.p (.l (n.ns.map encN)),.p (.i .i64 n.cap)]]).put 1 (.a (.ptr (1,0) 0 0))).put 2 (.a .nil)).put 3 (.a (.ptr (3,1) 0 0))).put 5 (.g [.p (.l (n.ns.map encN)),.p (.i .i64 n.cap)])).put 6 (.a (.fn 90 [(1,2)]))) := ⟨_,rfl⟩
  have E1 : E 1 = .a (.ptr (1,0) 0 0) := by rw [hE]; rfl
  have E3 : E 3 = .a (.ptr (3,1) 0 0) := by rw [hE]; rfl
  refine wp_rng (g := 90) (caps := [(1,2)]) (by simp only [fxa,fxc,fxE,fxL,fxI,nxE,evO,evR,cellsT,ldCells,mkT,lenA,binPV,Env.init,resV,resT,frT,klT,ownT,intT,O.adds,ownA,rowsA,over,wrOk,keysT,keysA,ne_eq,if_true,if_false,ite_self,Nat.reduceLT,Nat.reduceSub,Nat.reduceBEq,Nat.reduceEqDiff,Nat.reduceAdd,Nat.reduceLeDiff,reduceCtorEq,Nat.reduceMul]) ?_
  rw [← hE]
  obtain ⟨r0,hr0⟩ : ∃ r0 : LRec,r0 = { env := E,params := [7],assign := (.reg [ia 4 (.new [(.p (.i .i64 0)),(.p (.i .i64 0))]),io (.st 2 (.t 4) (.t 7))]),body := (.block 1 (.seq (.reg [ia 8 (.ld 2 true (.t 1)),ia 9 (.ld 2 true (.t 4)),ia 10 (.call (.f 67) [(.t 8),(.t 9)])]) (.cond (.t 10) (.reg [ia 11 (.ld 1 false (.t 3)),ia 12 (.ld 2 true (.t 4)),ia 13 (.bsl 2 60 [(.p (.i .i64 0)),(.p (.i .i64 0))] 1 [(0,(.t 12))]),ia 14 (.app 2 60 16 (.t 11) (.t 13)),io (.st 1 (.t 3) (.t 14))]) .skip))),st := .ready,pend := none } := ⟨_,rfl⟩
  have hls0 : (((St.empty.add 1 (.var [.p (.l (n.ns.map encN)),.p (.i .i64 n.cap)])).add 3 (.var [.nil])).add 1 (.var [.p (.l (n.ns.map encN)),.p (.i .i64 n.cap)])).ls = [] := rfl
  rw [hls0]
  simp only [List.length_nil,List.nil_append,List.map_cons,List.map_nil]
  rw [← hr0]
  have hcall := each_ok hn 0 (1,2) (fun k σ' => (σ'.bs (1,2) = some (.var ((encT n).map .p)) ∧ (1,2).2 < σ'.clk) ∧ σ'.bs (1,0) = some (.var ((encT n).map .p)) ∧ σ'.ls = [r0] ∧ ∃ x,σ'.bs (3,1) = some (.var [x]) ∧ (((n.prs.take k).filter (rdy n)) = [] ∧ x = .nil ∨ ∃ q : Nat,x = .own (14,q) 0 ((n.prs.take k).filter (rdy n)).length ∧ σ'.bs (14,q) = some (.row 2 60 (((n.prs.take k).filter (rdy n)).map encP)) ∧ q < σ'.clk))
    (fun k σ' h => h.1) (by
      rintro k σ' c b ⟨⟨h1,h2⟩,h3,h4,x,h5,h6⟩ rfl
      refine ⟨⟨by simp only [put_bs,add_bs,Prod.mk.injEq,Nat.reduceEqDiff,false_and,if_false]; exact h1,by simp only [put_clk,add_clk]; omega⟩,by simp only [put_bs,add_bs,Prod.mk.injEq,Nat.reduceEqDiff,false_and,if_false]; exact h3,h4,x,by simp only [put_bs,add_bs,Prod.mk.injEq,Nat.reduceEqDiff,false_and,if_false]; exact h5,?_⟩
      rcases h6 with h6 | ⟨q,e1,e2,e3⟩
      · exact .inl h6
      · exact .inr ⟨q,e1,by simp only [put_bs,add_bs,Prod.mk.injEq,Nat.reduceEqDiff,false_and,if_false]; exact e2,by simp only [put_clk,add_clk]; omega⟩)
  specialize hcall (by
      rintro hG k σ' p ⟨⟨h1,h2⟩,h3,h4,x,h5,h6⟩ hp
      have hpm := prs_in hG (List.mem_of_getElem? hp)
      have c1 := ready_ok hn (p := p) ⟨hpm.1,hpm.2.1,hpm.2.2.1,hpm.2.2.2.1⟩
      obtain ⟨v,σ2,g1,g2⟩ := y_round (S := S) (l := 0) (args := [.g [.p (.i .i64 p.n),.p (.i .i64 p.s)]]) (σ := σ') (r := r0) (by rw [h4]; rfl) (by rw [hr0]; rfl) (K := fun v σ2 => v = .a (.p (.b true)) ∧ (σ2.bs (1,2) = some (.var ((encT n).map .p)) ∧ 2 < σ2.clk) ∧ σ2.bs (1,0) = some (.var ((encT n).map .p)) ∧ σ2.ls = [r0] ∧ ∃ x,σ2.bs (3,1) = some (.var [x]) ∧ (((n.prs.take (k + 1)).filter (rdy n)) = [] ∧ x = .nil ∨ ∃ q : Nat,x = .own (14,q) 0 ((n.prs.take (k + 1)).filter (rdy n)).length ∧ σ2.bs (14,q) = some (.row 2 60 (((n.prs.take (k + 1)).filter (rdy n)).map encP)) ∧ q < σ2.clk)) (by
        have hset : [r0].set 0 { r0 with st := .busy } = [{ r0 with st := .busy }] := rfl
        have hback : [{ r0 with st := LSt.busy }].set 0 { ({ r0 with st := LSt.busy } : LRec) with st := .ready,pend := none } = [r0] := by rw [hr0]; rfl
        have ra : r0.assign = (.reg [ia 4 (.new [(.p (.i .i64 0)),(.p (.i .i64 0))]),io (.st 2 (.t 4) (.t 7))]) := by rw [hr0]
        have rb : r0.body = (.block 1 (.seq (.reg [ia 8 (.ld 2 true (.t 1)),ia 9 (.ld 2 true (.t 4)),ia 10 (.call (.f 67) [(.t 8),(.t 9)])]) (.cond (.t 10) (.reg [ia 11 (.ld 1 false (.t 3)),ia 12 (.ld 2 true (.t 4)),ia 13 (.bsl 2 60 [(.p (.i .i64 0)),(.p (.i .i64 0))] 1 [(0,(.t 12))]),ia 14 (.app 2 60 16 (.t 11) (.t 13)),io (.st 1 (.t 3) (.t 14))]) .skip))) := by rw [hr0]
        have re : r0.env = E := by rw [hr0]
        have rp : r0.params = [7] := by rw [hr0]
        have rs : r0.st = .ready := by rw [hr0]
        obtain ⟨L,hL⟩ : ∃ L,(n.prs.take k).filter (rdy n) = L := ⟨_,rfl⟩
        have hLl : L.length ≤ n.ns.length := by
          have h8 := List.length_filter_le (rdy n) (n.prs.take k)
          rw [hL] at h8
          have h9 := List.length_take_le k n.prs
          rw [List.length_take] at h8; omega
        have hL2 : (n.prs.take (k + 1)).filter (rdy n) = L ++ (if rdy n p then [p] else []) := by
          rw [List.take_add_one,hp,List.filter_append,hL]
          cases h : rdy n p <;> simp [h]
        rw [hL] at h6
        rw [hL2]
        have hbb : (L.length + 1) * 16 ≤ 140737488355328 := by omega
        have htk2 : List.take L.length (L.map encP) = L.map encP := List.take_of_length_le (by simp)
        simp only [encT,encP,List.map_cons,List.map_nil] at c1
        have h1' := h1
        have h3' := h3
        simp only [encT,List.map_cons,List.map_nil] at h1' h3'
        have nc : ¬ 0 = σ'.clk ∧ ¬ 0 = σ'.clk + 1 ∧ ¬ 1 = σ'.clk := by omega
        simp only [ra,rb,re,rp,putAll,fxa,fxc,fxE,fxL,fxI,nxE,evO,evR,cellsT,ldCells,mkT,lenA,binPV,Env.init,resV,resT,frT,klT,ownT,intT,O.adds,ownA,rowsA,over,wrOk,keysT,keysA,ne_eq,if_true,if_false,ite_self,Nat.reduceLT,Nat.reduceSub,Nat.reduceBEq,Nat.reduceEqDiff,Nat.reduceAdd,Nat.reduceLeDiff,reduceCtorEq,Nat.reduceMul]
        refine ⟨r0,by rw [h4]; rfl,rs,?_⟩
        cases hrd : rdy n p with
        | false =>
          rw [hrd] at c1
          simp only [setL_bs,setL_clk,setL_ls,E1,E3,h1',h3',h4,h5,c1,hset,List.getElem?_cons_zero,List.append_nil,Bool.false_eq_true,fxa,fxc,fxE,fxL,fxI,nxE,evO,evR,cellsT,ldCells,mkT,lenA,binPV,Env.init,resV,resT,frT,klT,ownT,intT,O.adds,ownA,rowsA,over,wrOk,keysT,keysA,ne_eq,if_true,if_false,ite_self,Nat.reduceLT,Nat.reduceSub,Nat.reduceBEq,Nat.reduceEqDiff,Nat.reduceAdd,Nat.reduceLeDiff,reduceCtorEq,Nat.reduceMul]
          refine ⟨_,rfl,by omega,hback,?_⟩
          rcases h6 with ⟨rfl,rfl⟩ | ⟨q,rfl,e2,e3⟩
          · exact ⟨_,rfl,.inl ⟨rfl,rfl⟩⟩
          · exact ⟨_,rfl,.inr ⟨q,rfl,e2,by omega⟩⟩
        | true =>
          rw [hrd] at c1
          rcases h6 with ⟨rfl,rfl⟩ | ⟨q,rfl,e2,e3⟩
          · simp only [setL_bs,setL_clk,setL_ls,E1,E3,h1',h3',h4,h5,c1,hset,List.getElem?_cons_zero,Nat.zero_add,Nat.one_mul,Nat.reduceLeDiff,Nat.zero_lt_one,fxa,fxc,fxE,fxL,fxI,nxE,evO,evR,cellsT,ldCells,mkT,lenA,binPV,Env.init,resV,resT,frT,klT,ownT,intT,O.adds,ownA,rowsA,over,wrOk,keysT,keysA,ne_eq,if_true,if_false,ite_self,Nat.reduceLT,Nat.reduceSub,Nat.reduceBEq,Nat.reduceEqDiff,Nat.reduceAdd,Nat.reduceLeDiff,reduceCtorEq,Nat.reduceMul]
            refine ⟨_,rfl,by omega,hback,_,rfl,.inr ⟨σ'.clk + 1 + 1,rfl,?_,by omega⟩⟩
            simp [encP]
          · have nq : ¬ q = σ'.clk ∧ ¬ q = σ'.clk + 1 ∧ ¬ q = σ'.clk + 1 + 1 := by omega
            simp only [setL_bs,setL_clk,setL_ls,E1,E3,h1',h3',h4,h5,e2,c1,nq,hset,htk2,hbb,List.length_map,Nat.le_refl,List.getElem?_cons_zero,Nat.zero_add,Nat.one_mul,Nat.reduceLeDiff,Nat.zero_lt_one,fxa,fxc,fxE,fxL,fxI,nxE,evO,evR,cellsT,ldCells,mkT,lenA,binPV,Env.init,resV,resT,frT,klT,ownT,intT,O.adds,ownA,rowsA,over,wrOk,keysT,keysA,ne_eq,if_true,if_false,ite_self,Nat.reduceLT,Nat.reduceSub,Nat.reduceBEq,Nat.reduceEqDiff,Nat.reduceAdd,Nat.reduceLeDiff,reduceCtorEq,Nat.reduceMul]
            refine ⟨_,rfl,by omega,hback,_,rfl,.inr ⟨σ'.clk + 1 + 1,by simp,?_,by omega⟩⟩
            simp [encP])
      obtain ⟨rfl,g2,g3,g4,g5⟩ := g2
      exact ⟨σ2,g1,g2,g3,g4,g5⟩)
  obtain ⟨σ1,hc,hI⟩ := hcall { (((St.empty.add 1 (.var [.p (.l (n.ns.map encN)),.p (.i .i64 n.cap)])).add 3 (.var [.nil])).add 1 (.var [.p (.l (n.ns.map encN)),.p (.i .i64 n.cap)])) with ls := [r0] } ⟨⟨rfl,by show 2 < 3; omega⟩,rfl,rfl,.nil,rfl,.inl ⟨by simp,rfl⟩⟩
  obtain ⟨_,_,h4,x,h5,h6⟩ := hI
  refine ⟨_,σ1,hc,r0,by rw [h4]; rfl,by rw [hr0]; simp,?_⟩
  have hp0 : r0.pend = none := by rw [hr0]
  rw [hp0]
  have hfin : ∃ L,n.rds = L ∧ (L = [] ∧ x = .nil ∨ ∃ q : Nat,x = .own (14,q) 0 L.length ∧ σ1.bs (14,q) = some (.row 2 60 (L.map encP))) := by
    unfold Nt.rds
    by_cases hG : n.Good
    · rw [bool_t hG] at h6 ⊢
      simp only [if_true,List.take_length] at h6 ⊢
      refine ⟨_,rfl,?_⟩
      rcases h6 with h6 | ⟨q,e1,e2,e3⟩
      · exact .inl h6
      · exact .inr ⟨q,e1,e2⟩
    · rw [bool_f hG] at h6 ⊢
      simp only [Bool.false_eq_true,if_false,List.take_zero,List.filter_nil] at h6 ⊢
      refine ⟨_,rfl,?_⟩
      rcases h6 with h6 | ⟨q,e1,e2,e3⟩
      · exact .inl ⟨rfl,h6.2⟩
      · exact .inr ⟨q,e1,e2⟩
  obtain ⟨L,hL,hx⟩ := hfin
  rw [hL]
  rcases hx with ⟨rfl,rfl⟩ | ⟨q,rfl,e2⟩
  · simp only [Option.getD_none,setL_bs,setL_clk,setL_ls,E3,h5,fxa,fxc,fxE,fxL,fxI,nxE,evO,evR,cellsT,ldCells,mkT,lenA,binPV,Env.init,resV,resT,frT,klT,ownT,intT,O.adds,ownA,rowsA,over,wrOk,keysT,keysA,ne_eq,if_true,if_false,ite_self,Nat.reduceLT,Nat.reduceSub,Nat.reduceBEq,Nat.reduceEqDiff,Nat.reduceAdd,Nat.reduceLeDiff,reduceCtorEq,Nat.reduceMul]
  · have htk2 : List.take L.length (L.map encP) = L.map encP := List.take_of_length_le (by simp)
    simp only [Option.getD_none,setL_bs,setL_clk,setL_ls,E3,h5,e2,htk2,List.length_map,Nat.zero_add,Nat.le_refl,fxa,fxc,fxE,fxL,fxI,nxE,evO,evR,cellsT,ldCells,mkT,lenA,binPV,Env.init,resV,resT,frT,klT,ownT,intT,O.adds,ownA,rowsA,over,wrOk,keysT,keysA,ne_eq,if_true,if_false,ite_self,Nat.reduceLT,Nat.reduceSub,Nat.reduceBEq,Nat.reduceEqDiff,Nat.reduceAdd,Nat.reduceLeDiff,reduceCtorEq,Nat.reduceMul]
end Go.Proofs.Ytkpfjolcmkikeaa
end
section
set_option linter.unusedSimpArgs false
set_option linter.unusedVariables false
set_option maxHeartbeats 4000000
namespace Go.Proofs.Ytkpfjolcmkikeaa.Tm
open Go.Fx
def toldN (k : Int) : Prop := k = 2 ∨ k = 8 ∨ k = 10 ∨ k = 13
def asksN (k : Int) : Prop := k = 3 ∨ k = 9 ∨ k = 11
structure Inv (n : Nt) (L : List Pt) : Prop where
  room : Room n
  semi : Semi n fun p => p ∈ L
  nd : L.Nodup
  z : ∀ p ∈ L,n.lk p = zP
  pk : ∀ (i : Nat) (p : Pt),n.pr i = some p → i ≠ 0 → asksN (n.nd p.n).k ∧ toldN (n.nd p.s).k ∧ (n.nd p.n).lv = (n.nd p.s).lv
structure Gr (n : Nt) (L : List Pt) (m : Nt) (M : List Pt) : Prop where
  len : n.ns.length ≤ m.ns.length
  cap : m.cap = n.cap
  nd : ∀ i : Int,0 ≤ i → i < n.ns.length → (m.nd i).k = (n.nd i).k ∧ (m.nd i).lv = (n.nd i).lv ∧ (m.nd i).to.length = (n.nd i).to.length
  cl : ∀ p,n.has p = true → p ∉ L → p ∉ M ∧ m.lk p = n.lk p
  op : ∀ p ∈ M,p ∈ L ∨ (n.ns.length : Int) ≤ p.n
theorem Gr.refl (n : Nt) (L : List Pt) : Gr n L n L := ⟨Nat.le_refl _,rfl,fun _ _ _ => ⟨rfl,rfl,rfl⟩,fun _ _ h => ⟨h,rfl⟩,fun _ h => .inl h⟩
theorem Gr.has {n m : Nt} {L M : List Pt} (h : Gr n L m M) {p : Pt} (hp : n.has p = true) : m.has p = true := by
  rw [has_iff] at hp ⊢
  have := h.nd p.n hp.1 hp.2.1
  have := h.len
  omega
theorem Gr.trans {a b c : Nt} {L M N : List Pt} (h : Gr a L b M) (g : Gr b M c N) : Gr a L c N := by
  have hl := h.len
  refine ⟨Nat.le_trans h.len g.len,g.cap.trans h.cap,fun i h0 h1 => ?_,fun p hp hL => ?_,fun p hp => ?_⟩
  · have a1 := h.nd i h0 h1
    have a2 := g.nd i h0 (by omega)
    exact ⟨a2.1.trans a1.1,a2.2.1.trans a1.2.1,a2.2.2.trans a1.2.2⟩
  · obtain ⟨a1,a2⟩ := h.cl p hp hL
    obtain ⟨b1,b2⟩ := g.cl p (h.has hp) a1
    exact ⟨b1,b2.trans a2⟩
  · rcases g.op p hp with h1 | h1
    · exact h.op p h1
    · right; omega
theorem Gr.mem {n m : Nt} {L L' M M' : List Pt} (h : Gr n L m M) (h1 : ∀ p,p ∈ L ↔ p ∈ L') (h2 : ∀ p,p ∈ M ↔ p ∈ M') : Gr n L' m M' :=
  ⟨h.len,h.cap,h.nd,fun p hp hL => by have := h.cl p hp fun k => hL ((h1 p).1 k); exact ⟨fun k => this.1 ((h2 p).2 k),this.2⟩,fun p hp => (h.op p ((h2 p).2 hp)).imp (h1 p).1 id⟩
theorem Inv.perm {n : Nt} {L M : List Pt} (h : Inv n L) (e : L.Perm M) : Inv n M :=
  ⟨h.room,h.semi.iff fun p => e.mem_iff,e.nodup_iff.1 h.nd,fun p hp => h.z p (e.mem_iff.2 hp),h.pk⟩
theorem Gr.perm {n m : Nt} {L L' M M' : List Pt} (h : Gr n L m M) (h1 : L.Perm L') (h2 : M.Perm M') : Gr n L' m M' := h.mem (fun _ => h1.mem_iff) (fun _ => h2.mem_iff)
def askB (n : Nt) (i : Nat) : Bool := decide (i ≠ 0) && (n.pr i).isSome
def Ct (n : Nt) : Nat := (List.range n.ns.length).countP (askB n)
theorem pr_congr {n m : Nt} {i : Nat} (h1 : m.has ⟨i,0⟩ = n.has ⟨i,0⟩) (h2 : n.has ⟨i,0⟩ = true → m.lk ⟨i,0⟩ = n.lk ⟨i,0⟩) : m.pr i = n.pr i := by
  unfold Nt.pr
  rw [h1]
  by_cases h : n.has ⟨i,0⟩ = true
  · rw [h2 h]
  · rw [if_neg fun k => h k.1,if_neg fun k => h k.1]
theorem pr_none {n : Nt} {i : Nat} (h : n.has ⟨i,0⟩ = true → (n.lk ⟨i,0⟩).s = 0 → ¬ (i : Int) < (n.lk ⟨i,0⟩).n) : n.pr i = none := by
  unfold Nt.pr
  exact if_neg fun k => h k.1 k.2.1 k.2.2
theorem pr_z {n : Nt} {i : Nat} (h : n.lk ⟨i,0⟩ = zP) : n.pr i = none := pr_none fun _ _ => by rw [h]; show ¬ (i : Int) < 0; omega
theorem countP_range_one {f g : Nat → Bool} {m : Nat} : ∀ {k : Nat},m < k → f m = true → g m = false → (∀ i,i ≠ m → f i = g i) → (List.range k).countP f = (List.range k).countP g + 1
  | 0,h,_,_,_ => by omega
  | k + 1,h,hf,hg,he => by
    rw [List.range_succ,List.countP_append,List.countP_append]
    by_cases e : m = k
    · subst e
      have : (List.range m).countP f = (List.range m).countP g := List.countP_congr fun i hi => by rw [he i (by rw [List.mem_range] at hi; omega)]
      rw [this]
      simp [hf,hg]
    · rw [countP_range_one (k := k) (by omega) hf hg he]
      have : f k = g k := he k fun h => e h.symm
      simp [List.countP_cons,this]
      omega
theorem lnk_ln {n : Nt} {L : List Pt} {p q : Pt} (h : Inv n (p :: q :: L)) : p ≠ q ∧ n.has p = true ∧ n.has q = true ∧ lnk n p q = n.ln p q := by
  have h1 := h.semi.xs p (by simp)
  have h2 := h.semi.xs q (by simp)
  have hne : p ≠ q := by have := h.nd; simp at this; exact this.1.1
  refine ⟨hne,h1,h2,?_⟩
  unfold lnk
  rw [linkR_ok h1 h2 hne]
theorem wf_has {n : Nt} (hn : Room n) {p : Pt} (h : n.has p = true) : wf p.n ∧ wf p.s := by
  rw [has_iff] at h
  have h1 := hn.len; have h2 := hn.cap
  have h3 := (hn.ok.nd _ (nd_mem h.1 h.2.1)).to
  exact ⟨⟨by omega,by omega⟩,⟨by omega,by omega⟩⟩
theorem Inv.lnk0 {n : Nt} {L : List Pt} {p q : Pt} (h : Inv n (p :: q :: L)) :
    Room (lnk n p q) ∧ Semi (lnk n p q) (fun r => r ∈ L) ∧ L.Nodup ∧ (∀ r ∈ L,(lnk n p q).lk r = zP) ∧ Gr n (p :: q :: L) (lnk n p q) L ∧ Shp n (lnk n p q) ∧ (lnk n p q).lk p = q ∧ (lnk n p q).lk q = p ∧ (∀ r,n.has r = true → r ≠ p → r ≠ q → (lnk n p q).lk r = n.lk r) := by
  obtain ⟨hne,hp,hq,he⟩ := lnk_ln h
  have hnd := h.nd
  simp only [List.nodup_cons,List.mem_cons,not_or] at hnd
  obtain ⟨⟨_,n1⟩,n2,n3⟩ := hnd
  have s1 := (h.semi.link (p := p) (q := q) (by simp) (by simp) hne).2
  have shp := ln_shp hp hq
  have lkr : ∀ r,n.has r = true → r ≠ p → r ≠ q → (n.ln p q).lk r = n.lk r := fun r hr e1 e2 => by rw [ln_lk hp hq hr,if_neg e2,if_neg e1]
  rw [he]
  refine ⟨he ▸ room_lnk h.room (wf_has h.room hp) (wf_has h.room hq),s1.iff fun r => ?_,n3,fun r hr => ?_,⟨by rw [shp.1]; exact Nat.le_refl _,shp.2.1.symm,fun i h0 h1 => ?_,fun r hr hL => ?_,fun r hr => .inl (by simp [hr])⟩,shp,?_,?_,lkr⟩
  · constructor
    · rintro ⟨k,e1,e2⟩; simp only [List.mem_cons] at k; exact (k.resolve_left e1).resolve_left e2
    · intro k
      refine ⟨by simp [k],?_,?_⟩
      · rintro rfl; exact n1 k
      · rintro rfl; exact n2 k
  · rw [lkr r (h.semi.xs r (by simp [hr])) (by rintro rfl; exact n1 hr) (by rintro rfl; exact n2 hr)]
    exact h.z r (by simp [hr])
  · have := shp.2.2 i h0
    exact ⟨this.1,this.2.1,this.2.2.2.2.2⟩
  · simp only [List.mem_cons,not_or] at hL
    exact ⟨hL.2.2,lkr r hr hL.1 hL.2.1⟩
  · rw [ln_lk hp hq hp,if_neg hne,if_pos rfl]
  · rw [ln_lk hp hq hq,if_pos rfl]
theorem Inv.link {n : Nt} {L : List Pt} {p q : Pt} (h : Inv n (p :: q :: L)) (hs : p.s ≠ 0 ∨ q.s ≠ 0) :
    Inv (lnk n p q) L ∧ Gr n (p :: q :: L) (lnk n p q) L ∧ (lnk n p q).lk p = q ∧ (lnk n p q).lk q = p ∧ Ct (lnk n p q) = Ct n := by
  obtain ⟨a1,a2,a3,a4,a5,a6,a7,a8,a9⟩ := h.lnk0
  have hpr : ∀ i,(lnk n p q).pr i = n.pr i := by
    intro i
    by_cases e1 : (⟨i,0⟩ : Pt) = p
    · subst e1
      rw [pr_z (h.z _ (by simp))]
      refine pr_none fun _ k => ?_
      rw [a7] at k
      rcases hs with hs | hs
      · exact absurd rfl hs
      · exact absurd k hs
    by_cases e2 : (⟨i,0⟩ : Pt) = q
    · subst e2
      rw [pr_z (h.z _ (by simp))]
      refine pr_none fun _ k => ?_
      rw [a8] at k
      rcases hs with hs | hs
      · exact absurd k hs
      · exact absurd rfl hs
    · exact pr_congr (a6.has _) fun k => a9 _ k e1 e2
  refine ⟨⟨a1,a2,a3,a4,fun i r hi h0 => ?_⟩,a5,a7,a8,?_⟩
  · rw [hpr] at hi
    have := h.pk i r hi h0
    have hr := pr_spec hi
    rw [(a6.2.2 r.n (by omega)).1,(a6.2.2 r.s (by omega)).1,(a6.2.2 r.n (by omega)).2.1,(a6.2.2 r.s (by omega)).2.1]
    exact this
  · unfold Ct
    rw [← a6.1]
    exact List.countP_congr fun i _ => by unfold askB; rw [hpr]
theorem Inv.linkP {n : Nt} {L : List Pt} {m c : Nat} (h : Inv n (⟨c,0⟩ :: ⟨m,0⟩ :: L)) (hmc : m < c) (hm0 : m ≠ 0) (hk : asksN (n.nd m).k ∧ toldN (n.nd c).k ∧ (n.nd m).lv = (n.nd c).lv) :
    Inv (lnk n ⟨c,0⟩ ⟨m,0⟩) L ∧ Gr n (⟨c,0⟩ :: ⟨m,0⟩ :: L) (lnk n ⟨c,0⟩ ⟨m,0⟩) L ∧ (lnk n ⟨c,0⟩ ⟨m,0⟩).lk ⟨c,0⟩ = ⟨m,0⟩ ∧ (lnk n ⟨c,0⟩ ⟨m,0⟩).lk ⟨m,0⟩ = ⟨c,0⟩ ∧ Ct (lnk n ⟨c,0⟩ ⟨m,0⟩) = Ct n + 1 := by
  obtain ⟨a1,a2,a3,a4,a5,a6,a7,a8,a9⟩ := h.lnk0
  have hm1 := h.semi.xs ⟨m,0⟩ (by simp)
  have hmh := has_iff.1 hm1
  have hml : m < n.ns.length := by have := hmh.2.1; simp only at this; omega
  have hprm : (lnk n ⟨c,0⟩ ⟨m,0⟩).pr m = some ⟨m,c⟩ := by
    unfold Nt.pr
    rw [a8,if_pos ⟨by rw [a6.has]; exact hm1,rfl,by show (m : Int) < (c : Int); omega⟩]
  have hpr : ∀ i,i ≠ m → (lnk n ⟨c,0⟩ ⟨m,0⟩).pr i = n.pr i := by
    intro i hi
    by_cases e1 : i = c
    · subst e1
      rw [pr_z (h.z _ (by simp))]
      refine pr_none fun _ k => ?_
      rw [a7]
      show ¬ (i : Int) < (m : Int)
      omega
    · refine pr_congr (a6.has _) fun k => a9 _ k (fun e => ?_) (fun e => ?_)
      · injection e with e _; omega
      · injection e with e _; omega
  refine ⟨⟨a1,a2,a3,a4,fun i r hi h0 => ?_⟩,a5,a7,a8,?_⟩
  · by_cases e : i = m
    · subst e
      rw [hprm] at hi
      obtain rfl := Option.some.inj hi
      have q1 := a6.2.2 (i : Int) (by omega)
      have q2 := a6.2.2 (c : Int) (by omega)
      show asksN ((lnk n ⟨c,0⟩ ⟨i,0⟩).nd i).k ∧ toldN ((lnk n ⟨c,0⟩ ⟨i,0⟩).nd c).k ∧ ((lnk n ⟨c,0⟩ ⟨i,0⟩).nd i).lv = ((lnk n ⟨c,0⟩ ⟨i,0⟩).nd c).lv
      rw [q1.1,q2.1,q1.2.1,q2.2.1]
      exact hk
    · rw [hpr i e] at hi
      have := h.pk i r hi h0
      have hr := pr_spec hi
      rw [(a6.2.2 r.n (by omega)).1,(a6.2.2 r.s (by omega)).1,(a6.2.2 r.n (by omega)).2.1,(a6.2.2 r.s (by omega)).2.1]
      exact this
  · unfold Ct
    rw [← a6.1]
    refine countP_range_one hml ?_ ?_ fun i hi => ?_
    · unfold askB; rw [hprm]; simp [hm0]
    · unfold askB; rw [pr_z (h.z _ (by simp))]; simp
    · unfold askB; rw [hpr i hi]
theorem Inv.linkZ {n : Nt} {L : List Pt} {c : Nat} (h : Inv n (⟨c,0⟩ :: ⟨0,0⟩ :: L)) (hc : c ≠ 0) :
    Inv (lnk n ⟨c,0⟩ ⟨0,0⟩) L ∧ Gr n (⟨c,0⟩ :: ⟨0,0⟩ :: L) (lnk n ⟨c,0⟩ ⟨0,0⟩) L ∧ (lnk n ⟨c,0⟩ ⟨0,0⟩).lk ⟨c,0⟩ = ⟨0,0⟩ ∧ (lnk n ⟨c,0⟩ ⟨0,0⟩).lk ⟨0,0⟩ = ⟨c,0⟩ ∧ Ct (lnk n ⟨c,0⟩ ⟨0,0⟩) = Ct n := by
  obtain ⟨a1,a2,a3,a4,a5,a6,a7,a8,a9⟩ := h.lnk0
  have hpr : ∀ i,i ≠ 0 → (lnk n ⟨c,0⟩ ⟨0,0⟩).pr i = n.pr i := by
    intro i hi
    by_cases e1 : i = c
    · subst e1
      rw [pr_z (h.z _ (by simp))]
      refine pr_none fun _ k => ?_
      rw [a7]
      show ¬ (i : Int) < 0
      omega
    · refine pr_congr (a6.has _) fun k => a9 _ k (fun e => ?_) (fun e => ?_)
      · injection e with e _; omega
      · injection e with e _; omega
  refine ⟨⟨a1,a2,a3,a4,fun i r hi h0 => ?_⟩,a5,a7,a8,?_⟩
  · rw [hpr i h0] at hi
    have := h.pk i r hi h0
    have hr := pr_spec hi
    rw [(a6.2.2 r.n (by omega)).1,(a6.2.2 r.s (by omega)).1,(a6.2.2 r.n (by omega)).2.1,(a6.2.2 r.s (by omega)).2.1]
    exact this
  · unfold Ct
    rw [← a6.1]
    refine List.countP_congr fun i _ => ?_
    unfold askB
    by_cases hi : i = 0
    · simp [hi]
    · rw [hpr i hi]
def ptsN (a : Nat) (k : Nat) : List Pt := (List.range k).map fun s => ⟨(a : Nat),(s : Nat)⟩
theorem mem_ptsN {a k : Nat} {p : Pt} : p ∈ ptsN a k ↔ p.n = a ∧ 0 ≤ p.s ∧ p.s < k := by
  unfold ptsN
  rw [List.mem_map]
  constructor
  · rintro ⟨s,hs,rfl⟩
    rw [List.mem_range] at hs
    exact ⟨rfl,by show (0 : Int) ≤ (s : Int); omega,by show (s : Int) < (k : Int); omega⟩
  · rintro ⟨h1,h2,h3⟩
    refine ⟨p.s.toNat,by rw [List.mem_range]; omega,?_⟩
    obtain ⟨a',s'⟩ := p
    simp only at h1 h2 h3
    subst h1
    show (⟨(a : Nat),((s'.toNat : Nat) : Int)⟩ : Pt) = _
    congr 1
    omega
theorem nodup_ptsN (a k : Nat) : (ptsN a k).Nodup := by
  unfold ptsN
  refine List.Pairwise.map _ (R := fun a b => a ≠ b) (fun x y h e => ?_) List.nodup_range
  injection e with _ e
  exact h (by omega)
theorem addN_nd {n : Nt} {x : Nd} {i : Int} (h0 : 0 ≤ i) (h1 : i < n.ns.length) : (addN n x).nd i = n.nd i := by
  unfold Nt.nd addN
  rw [List.getD_eq_getElem?_getD,List.getD_eq_getElem?_getD,List.getElem?_append_left (by omega)]
theorem addN_now (n : Nt) (x : Nd) : (addN n x).nd (n.ns.length : Nat) = x.fresh := by
  unfold Nt.nd addN
  rw [List.getD_eq_getElem?_getD,Int.toNat_natCast,List.getElem?_append_right (Nat.le_refl _),Nat.sub_self]; rfl
theorem Inv.add {n : Nt} {L : List Pt} (h : Inv n L) {x : Nd} (hx : x.Ok) (hm : x.may) (hk : ¬ x.k < 2) (hr : ((n.ns.length + 1 : Nat) : Int) ≤ n.cap) :
    Inv (addN n x) (ptsN n.ns.length x.ports.toNat ++ L) ∧ Gr n L (addN n x) (ptsN n.ns.length x.ports.toNat ++ L) ∧ Ct (addN n x) = Ct n := by
  have hf := full_free h.room.full
  have hu : n.used < n.cap := by unfold Nt.used; rw [full_used h.room.full]; omega
  have hmk : n.make x = addN n x := by unfold Nt.make addN; rw [hf]
  have hat : n.at = n.ns.length := by unfold Nt.at; rw [hf]
  have hM := madeS h.semi x
  rw [hmk,hat] at hM
  obtain ⟨_,hS⟩ := h.semi.make hx hm (by omega) (by omega) hu
  rw [hmk,hat] at hS
  have hp := ports_b hx
  have hpc : (x.ports.toNat : Int) = x.ports := by omega
  have hl := addN_len n x
  have hasold : ∀ p,n.has p = true → (p.n : Int) < n.ns.length := fun p hp => (has_iff.1 hp).2.1
  have hlk : ∀ p,n.has p = true → (addN n x).lk p = n.lk p := fun p hp => (hM.lk h.semi hp).2
  have hnew : ∀ p : Pt,p.n = (n.ns.length : Nat) → 0 ≤ p.s → (addN n x).lk p = zP := fun p hp hs => by
    unfold Nt.lk
    rw [hp,addN_now]
    unfold Nd.tt Nd.fresh
    rw [List.getD_eq_getElem?_getD,List.getElem?_replicate]
    split <;> rfl
  have hhas := fun p => hM.has hx h.semi p
  have hpr : ∀ i,i < n.ns.length → (addN n x).pr i = n.pr i := fun i hi => by
    refine pr_congr ?_ fun k => hlk _ k
    rw [Bool.eq_iff_iff,hhas]
    constructor
    · rintro (k | k)
      · exact k
      · exfalso; have := k.1; simp only at this; omega
    · exact .inl
  have hprn : (addN n x).pr n.ns.length = none := pr_z (hnew _ rfl (by show (0 : Int) ≤ 0; omega))
  refine ⟨⟨room_add h.room hx (by omega) hr,hS.iff fun r => ?_,?_,fun p hp => ?_,fun i r hi h0 => ?_⟩,⟨by omega,rfl,fun i h0 h1 => by rw [addN_nd h0 h1]; exact ⟨rfl,rfl,rfl⟩,fun p hp hL => ⟨fun k => ?_,hlk p hp⟩,fun p hp => ?_⟩,?_⟩
  · rw [List.mem_append,mem_ptsN,hpc]
    constructor
    · rintro (k | k)
      · exact .inr k
      · exact .inl k
    · rintro (k | k)
      · exact .inr k
      · exact .inl k
  · rw [List.nodup_append]
    refine ⟨nodup_ptsN _ _,h.nd,fun p hp q hq e => ?_⟩
    subst e
    have := (mem_ptsN.1 hp).1
    have := hasold _ (h.semi.xs _ hq)
    omega
  · rcases List.mem_append.1 hp with k | k
    · rw [mem_ptsN] at k; exact hnew p k.1 k.2.1
    · rw [hlk p (h.semi.xs p k)]; exact h.z p k
  · have hi' : i < n.ns.length := by
      have := (pr_spec hi).2.1
      rw [has_iff] at this
      have h2 := this.2.1
      rw [hl] at h2
      simp only at h2
      rcases Nat.lt_or_ge i n.ns.length with k | k
      · exact k
      · have : i = n.ns.length := by omega
        rw [this,hprn] at hi; cases hi
    rw [hpr i hi'] at hi
    have k1 := h.pk i r hi h0
    have k2 := pr_spec hi
    have k3 := h.semi.ln ⟨i,0⟩ k2.2.1 (fun k => by have := h.z _ k; rw [k2.2.2.1] at this; injection this with e _; omega)
    rw [k2.2.2.1] at k3
    have k4 := (has_iff.1 k3.2.1).2.1
    simp only at k4
    rw [addN_nd (by omega) (by omega),addN_nd (by omega) (by omega)]
    exact k1
  · rcases List.mem_append.1 k with k | k
    · have := (mem_ptsN.1 k).1
      have := hasold _ hp
      omega
    · exact hL k
  · rcases List.mem_append.1 hp with k | k
    · right; rw [(mem_ptsN.1 k).1]; exact Int.le_refl _
    · exact .inl k
  · unfold Ct
    rw [hl,List.range_succ,List.countP_append]
    have : List.countP (askB (addN n x)) [n.ns.length] = 0 := by
      rw [List.countP_eq_zero]
      intro a ha
      rw [List.mem_singleton] at ha
      subst ha
      unfold askB; rw [hprn]; simp
    rw [this,Nat.add_zero]
    exact List.countP_congr fun i hi => by unfold askB; rw [hpr i (List.mem_range.1 hi)]
inductive Cn (n : Nt) (L : List Pt) (a : Int) : Int → Prop
  | refl : Cn n L a a
  | step {p : Pt} : Cn n L a p.n → n.has p = true → p ∉ L → Cn n L a (n.lk p).n
theorem Cn.trans {n : Nt} {L : List Pt} {a b c : Int} (h : Cn n L a b) (g : Cn n L b c) : Cn n L a c := by
  induction g with
  | refl => exact h
  | step _ h1 h2 ih => exact .step ih h1 h2
theorem Cn.mono {n m : Nt} {L M : List Pt} (g : Gr n L m M) {a b : Int} (h : Cn n L a b) : Cn m M a b := by
  induction h with
  | refl => exact .refl
  | step _ h1 h2 ih =>
    obtain ⟨k1,k2⟩ := g.cl _ h1 h2
    rw [← k2]
    exact .step ih (g.has h1) k1
def Reach (n : Nt) (L : List Pt) (a : Int) (b : Nat) : Prop := ∀ i : Nat,b ≤ i → i < n.ns.length → Cn n L a i
inductive Spine (n : Nt) (L : List Pt) : Pt → Prop
  | there {p : Pt} : p.s = 0 → 0 < p.n → p.n < n.ns.length → Spine n L p
  | next {p : Pt} : p.s = 1 → 0 < p.n → p.n < n.ns.length → asksN (n.nd p.n).k → n.has ⟨p.n,0⟩ = true → ⟨p.n,0⟩ ∉ L → p.n < (n.lk ⟨p.n,0⟩).n → Spine n L (n.lk ⟨p.n,0⟩) → Spine n L p
theorem Spine.mono {n m : Nt} {L M : List Pt} (g : Gr n L m M) {p : Pt} (h : Spine n L p) : Spine m M p := by
  have hl := g.len
  induction h with
  | there h1 h2 h3 => exact .there h1 h2 (by omega)
  | next h1 h2 h3 h4 h5 h6 h7 h8 ih =>
    obtain ⟨k1,k2⟩ := g.cl _ h5 h6
    refine .next h1 h2 (by omega) ?_ (g.has h5) k1 (by rw [k2]; exact h7) (by rw [k2]; exact ih)
    rw [(g.nd _ (by omega) h3).1]; exact h4
end Go.Proofs.Ytkpfjolcmkikeaa.Tm
end
section
set_option linter.unusedSimpArgs false
set_option linter.unusedVariables false
set_option maxHeartbeats 4000000
namespace Go.Proofs.Ytkpfjolcmkikeaa.Tm
open Go.Fx
def pts (l : List En) : List Pt := l.map (·.2)
theorem Reach.mono {n m : Nt} {L M : List Pt} (g : Gr n L m M) {a : Int} {b : Nat} (h : Reach n L a b) (hn : ∀ i : Nat,n.ns.length ≤ i → i < m.ns.length → Cn m M a i) : Reach m M a b := fun i h1 h2 => by
  by_cases e : i < n.ns.length
  · exact (h i h1 e).mono g
  · exact hn i (by omega) h2
theorem Inv.lt {n : Nt} {L : List Pt} (h : Inv n L) {p : Pt} (hp : p ∈ L) : ∃ i : Nat,p.n = (i : Int) ∧ i < n.ns.length := by
  have := has_iff.1 (h.semi.xs p hp)
  exact ⟨p.n.toNat,by omega,by omega⟩
theorem Cn.lnk {n m : Nt} {L M : List Pt} {a : Int} {p q : Pt} (g : Gr n L m M) (hp : n.has p = true) (hM : p ∉ M) (hl : m.lk p = q) (h : Cn n L a p.n) : Cn m M a q.n := by
  have := Cn.step (h.mono g) (g.has hp) hM
  rwa [hl] at this
theorem box_inv {lv : Int} (hlv : 0 ≤ lv ∧ lv ≤ 60) : ∀ (l : List En) (n : Nt) (R : List Pt),Inv n (pts l ++ R) → ((n.ns.length + l.length : Nat) : Int) ≤ n.cap →
    Inv (boxG lv l n).1 (pts (boxG lv l n).2 ++ R) ∧ Gr n (pts l ++ R) (boxG lv l n).1 (pts (boxG lv l n).2 ++ R) ∧ (boxG lv l n).2.map (·.1) = l.map (·.1) ∧ Ct (boxG lv l n).1 = Ct n ∧
    ∀ (a : Int) (b : Nat),Reach n (pts l ++ R) a b → (∀ e ∈ l,(b : Int) ≤ e.2.n) → Reach (boxG lv l n).1 (pts (boxG lv l n).2 ++ R) a b
  | [],n,R,h,hr => ⟨h,Gr.refl _ _,rfl,rfl,fun a b k _ => k⟩
  | x :: r,n,R,h,hr => by
    have e : boxG lv (x :: r) n = ((boxG lv r (lnk (addN n (nodeK 6 lv)) ⟨(n.ns.length : Nat),1⟩ x.2)).1,(x.1,⟨(n.ns.length : Nat),0⟩) :: (boxG lv r (lnk (addN n (nodeK 6 lv)) ⟨(n.ns.length : Nat),1⟩ x.2)).2) := rfl
    rw [e]
    obtain ⟨f,hf⟩ : ∃ f,n.ns.length = f := ⟨_,rfl⟩
    simp only [List.length_cons] at hr
    have h6 := nodeK_Ok (k := 6) (by omega) hlv
    obtain ⟨a1,a2,a3⟩ := h.add h6 (may6 hlv (by omega)) (by show ¬ (6 : Int) < 2; decide) (by omega)
    have hp : ptsN n.ns.length (nodeK 6 lv).ports.toNat = [⟨(f : Nat),0⟩,⟨(f : Nat),1⟩] := by rw [hf]; rfl
    rw [hp] at a1 a2
    have pm : List.Perm (α := Pt) ([⟨(f : Nat),0⟩,⟨(f : Nat),1⟩] ++ (pts (x :: r) ++ R)) (⟨(f : Nat),1⟩ :: x.2 :: (⟨(f : Nat),0⟩ :: (pts r ++ R))) := by
      show List.Perm (α := Pt) (⟨(f : Nat),0⟩ :: ⟨(f : Nat),1⟩ :: x.2 :: (pts r ++ R)) _
      exact (List.Perm.swap _ _ _).trans ((List.Perm.swap _ _ _).cons _)
    have b1 := a1.perm pm
    obtain ⟨c1,c2,c3,c4,c5⟩ := b1.link (.inl (by show (1 : Int) ≠ 0; decide))
    have a2' := a2.perm (List.Perm.refl _) pm
    rw [hf]
    obtain ⟨n2,hn2⟩ : ∃ n2,lnk (addN n (nodeK 6 lv)) ⟨(f : Nat),1⟩ x.2 = n2 := ⟨_,rfl⟩
    have hl := (lnk_len (addN n (nodeK 6 lv)) ⟨(f : Nat),1⟩ x.2)
    rw [hn2] at c1 c2 c3 c4 c5 hl ⊢
    rw [addN_len,addN_cap] at hl
    have pm2 : List.Perm (α := Pt) (⟨(f : Nat),0⟩ :: (pts r ++ R)) (pts r ++ (⟨(f : Nat),0⟩ :: R)) := List.perm_middle.symm
    obtain ⟨d1,d2,d3,d4,d5⟩ := box_inv hlv r n2 (⟨(f : Nat),0⟩ :: R) (c1.perm pm2) (by omega)
    have pm3 : (pts (boxG lv r n2).2 ++ (⟨(f : Nat),0⟩ :: R)).Perm (pts ((x.1,⟨(f : Nat),0⟩) :: (boxG lv r n2).2) ++ R) := List.perm_middle
    have g2 : Gr n (pts (x :: r) ++ R) n2 (⟨(f : Nat),0⟩ :: (pts r ++ R)) := a2'.trans c2
    refine ⟨d1.perm pm3,(g2.perm (.refl _) pm2).trans (d2.perm (.refl _) pm3),by simp [d3],d4.trans (c5.trans a3),fun a b k hb => ?_⟩
    have hx := hb x (by simp)
    have hxm : x.2 ∈ pts (x :: r) ++ R := by simp [pts]
    have hxh := h.semi.xs _ hxm
    have hnd : x.2 ∉ (⟨(f : Nat),0⟩ :: (pts r ++ R) : List Pt) := by
      have := b1.nd
      simp only [List.nodup_cons] at this
      exact this.2.1
    obtain ⟨j,hj,hjl⟩ := h.lt hxm
    have r2 : Reach n2 (⟨(f : Nat),0⟩ :: (pts r ++ R)) a b := k.mono g2 fun i h1 h2 => by
      have : i = f := by omega
      subst this
      have := Cn.lnk g2 hxh hnd c4 (a := a) (by rw [hj]; exact k j (by omega) hjl)
      exact this
    have r3 := d5 a b (by
      have : Reach n2 (pts r ++ (⟨(f : Nat),0⟩ :: R)) a b := r2.mono (Gr.perm (Gr.refl _ _) (.refl _) pm2) fun i h1 h2 => by omega
      exact this) fun e he => hb e (by simp [he])
    exact r3.mono (Gr.perm (Gr.refl _ _) (.refl _) pm3) fun i h1 h2 => by omega
theorem withG_true (x : En) : ∀ l : List En,withG x true l = l
  | [] => by simp [withG]
  | z :: l => by simp [withG,withG_true x l]
theorem withG_perm (x : En) : ∀ l : List En,(withG x false l).Perm (x :: l)
  | [] => by simp [withG]
  | y :: r => by
    unfold withG
    by_cases h : y.1 > x.1
    · simp only [h,decide_true,Bool.false_or,withG_true,and_self,if_true]
      exact .refl _
    · simp only [h,decide_false,Bool.or_self,and_false,if_false,List.nil_append]
      exact ((withG_perm x r).cons y).trans (.swap _ _ _)
theorem perm_erase {α : Type} {l : List α} {k : Nat} {y : α} (h : l[k]? = some y) : l.Perm (y :: l.eraseIdx k) := by
  obtain ⟨hk,rfl⟩ := List.getElem?_eq_some_iff.1 h
  have e : l = l.take k ++ l[k] :: l.drop (k + 1) := by rw [← List.drop_eq_getElem_cons hk,List.take_append_drop]
  rw [List.eraseIdx_eq_take_drop_succ]
  conv => lhs; rw [e]
  exact List.perm_middle
theorem perm_set {α : Type} {l : List α} {k : Nat} (h : k < l.length) (z : α) : (l.set k z).Perm (z :: l.eraseIdx k) := by
  rw [List.eraseIdx_eq_take_drop_succ,List.set_eq_take_append_cons_drop,if_pos h]
  exact List.perm_middle
theorem pts_perm {l r : List En} (h : l.Perm r) : (pts l).Perm (pts r) := h.map _
theorem findF_no {l : List En} {v : Int} (h : findF l v < 0) : v ∉ l.map (·.1) := by
  unfold findF at h
  split at h
  · omega
  · rename_i hf
    rw [List.findIdx?_eq_none_iff] at hf
    intro k
    obtain ⟨y,hy,rfl⟩ := List.mem_map.1 k
    simpa using hf y hy
theorem merge_inv {lv : Int} (hlv : 0 ≤ lv ∧ lv ≤ 60) : ∀ (r l : List En) (n : Nt) (R : List Pt),Inv n (pts r ++ (pts l ++ R)) → ((mergeG lv r l n).1.ns.length : Int) ≤ n.cap → (l.map (·.1)).Nodup →
    Inv (mergeG lv r l n).1 (pts (mergeG lv r l n).2 ++ R) ∧ Gr n (pts r ++ (pts l ++ R)) (mergeG lv r l n).1 (pts (mergeG lv r l n).2 ++ R) ∧ ((mergeG lv r l n).2.map (·.1)).Nodup ∧ (∀ e ∈ (mergeG lv r l n).2,e.1 ∈ r.map (·.1) ∨ e.1 ∈ l.map (·.1)) ∧ Ct (mergeG lv r l n).1 = Ct n ∧
    ∀ (a : Int) (b : Nat),Reach n (pts r ++ (pts l ++ R)) a b → (∀ e ∈ r,(b : Int) ≤ e.2.n) → (∀ e ∈ l,(b : Int) ≤ e.2.n) → Reach (mergeG lv r l n).1 (pts (mergeG lv r l n).2 ++ R) a b
  | [],l,n,R,h,hr,hk => ⟨h,Gr.refl _ _,hk,fun e he => .inr (List.mem_map_of_mem he),rfl,fun a b k _ _ => k⟩
  | x :: r,l,n,R,h,hr,hk => by
    by_cases hf : findF l x.1 < 0
    · have e : mergeG lv (x :: r) l n = mergeG lv r (withG x false l) n := by
        show (if findF l x.1 < 0 then _ else _) = _
        rw [if_pos hf]
      rw [e] at hr ⊢
      have hw := withG_perm x l
      have pm : (pts (x :: r) ++ (pts l ++ R)).Perm (pts r ++ (pts (withG x false l) ++ R)) := by
        have : (pts (withG x false l)).Perm (x.2 :: pts l) := pts_perm hw
        refine List.Perm.trans ?_ ((this.append_right R).append_left (pts r)).symm
        exact (List.perm_middle (a := x.2) (l₁ := pts r) (l₂ := pts l ++ R)).symm
      have hk2 : ((withG x false l).map (·.1)).Nodup := by
        rw [(hw.map _).nodup_iff]
        exact List.nodup_cons.2 ⟨findF_no hf,hk⟩
      obtain ⟨d1,d2,d3,d4,d5,d6⟩ := merge_inv hlv r (withG x false l) n R (h.perm pm) hr hk2
      refine ⟨d1,d2.perm pm.symm (.refl _),d3,fun y hy => ?_,d5,fun a b k hb hc => ?_⟩
      · rcases d4 y hy with k | k
        · left; simp only [List.map_cons,List.mem_cons]; exact .inr k
        · have := (hw.map (·.1)).mem_iff.1 k
          simp only [List.map_cons,List.mem_cons] at this ⊢
          rcases this with k | k
          · exact .inl (.inl k)
          · exact .inr k
      · refine d6 a b (k.mono (Gr.perm (Gr.refl _ _) (.refl _) pm) fun i h1 h2 => by omega) (fun e he => hb e (by simp [he])) fun e he => ?_
        rcases withG_mem x false l e he with rfl | h
        · exact hb _ (by simp)
        · exact hc e h
    · obtain ⟨k,hkk,hkl,y,hyk,hyv⟩ := findF_get hf
      have hgd : l.getD (findF l x.1).toNat zE = y := by rw [hkk,Int.toNat_natCast,List.getD_eq_getElem?_getD,hyk]; rfl
      have e : mergeG lv (x :: r) l n = mergeG lv r (l.set k (y.1,⟨(n.ns.length : Nat),0⟩)) (lnk (lnk (addN n (nodeK 4 lv)) ⟨(n.ns.length : Nat),1⟩ y.2) ⟨(n.ns.length : Nat),2⟩ x.2) := by
        show (if findF l x.1 < 0 then _ else _) = _
        rw [if_neg hf,hgd,hkk,Int.toNat_natCast]
      rw [e] at hr ⊢
      obtain ⟨f,hff⟩ : ∃ f,n.ns.length = f := ⟨_,rfl⟩
      rw [hff] at hr ⊢
      have hmono := mergeG_len lv r (l.set k (y.1,⟨(f : Nat),0⟩)) (lnk (lnk (addN n (nodeK 4 lv)) ⟨(f : Nat),1⟩ y.2) ⟨(f : Nat),2⟩ x.2)
      have hl2 := lnk_len (addN n (nodeK 4 lv)) ⟨(f : Nat),1⟩ y.2
      have hl3 := lnk_len (lnk (addN n (nodeK 4 lv)) ⟨(f : Nat),1⟩ y.2) ⟨(f : Nat),2⟩ x.2
      rw [addN_len,addN_cap] at hl2
      have h4 := nodeK_Ok (k := 4) (by omega) hlv
      obtain ⟨a1,a2,a3⟩ := h.add h4 (may6 hlv (by omega)) (by show ¬ (4 : Int) < 2; decide) (by omega)
      have hp : ptsN n.ns.length (nodeK 4 lv).ports.toNat = [⟨(f : Nat),0⟩,⟨(f : Nat),1⟩,⟨(f : Nat),2⟩] := by rw [hff]; rfl
      rw [hp] at a1 a2
      have pe := pts_perm (perm_erase hyk)
      have ps := pts_perm (perm_set hkl (y.1,(⟨(f : Nat),0⟩ : Pt)))
      obtain ⟨l0,hl0⟩ : ∃ l0,pts (l.eraseIdx k) = l0 := ⟨_,rfl⟩
      have pe' : (pts l).Perm (y.2 :: l0) := by rw [← hl0]; exact pe
      have ps' : (pts (l.set k (y.1,⟨(f : Nat),0⟩))).Perm (⟨(f : Nat),0⟩ :: l0) := by rw [← hl0]; exact ps
      have pm : List.Perm (α := Pt) ([⟨(f : Nat),0⟩,⟨(f : Nat),1⟩,⟨(f : Nat),2⟩] ++ (pts (x :: r) ++ (pts l ++ R))) (⟨(f : Nat),1⟩ :: y.2 :: ⟨(f : Nat),2⟩ :: x.2 :: (⟨(f : Nat),0⟩ :: (pts r ++ (l0 ++ R)))) := by
        have q1 : (pts (x :: r) ++ (pts l ++ R)).Perm (y.2 :: x.2 :: (pts r ++ (l0 ++ R))) := by
          refine ((pe'.append_right R).append_left (pts (x :: r))).trans ?_
          exact List.perm_middle (a := y.2) (l₁ := x.2 :: pts r) (l₂ := l0 ++ R)
        refine (q1.append_left _).trans ?_
        show List.Perm (α := Pt) (⟨(f : Nat),0⟩ :: ⟨(f : Nat),1⟩ :: ⟨(f : Nat),2⟩ :: y.2 :: x.2 :: (pts r ++ (l0 ++ R))) _
        refine (List.Perm.swap _ _ _).trans (List.Perm.cons _ ?_)
        refine (((List.Perm.swap _ _ _).cons _)).trans ?_
        refine (List.Perm.swap _ _ _).trans (List.Perm.cons _ ?_)
        refine (List.Perm.swap _ _ _).trans (List.Perm.cons _ ?_)
        exact List.Perm.swap _ _ _
      have b1 := a1.perm pm
      obtain ⟨c1,c2,c3,c4,c5⟩ := b1.link (.inl (by show (1 : Int) ≠ 0; decide))
      obtain ⟨e1,e2,e3,e4,e5⟩ := c1.link (.inl (by show (2 : Int) ≠ 0; decide))
      obtain ⟨n3,hn3⟩ : ∃ n3,lnk (lnk (addN n (nodeK 4 lv)) ⟨(f : Nat),1⟩ y.2) ⟨(f : Nat),2⟩ x.2 = n3 := ⟨_,rfl⟩
      obtain ⟨n2,hn2⟩ : ∃ n2,lnk (addN n (nodeK 4 lv)) ⟨(f : Nat),1⟩ y.2 = n2 := ⟨_,rfl⟩
      rw [hn3] at e1 e2 e3 e4 e5 hr hl3 hmono ⊢
      rw [hn2] at c1 c2 c3 c4 c5 e2 e5 hl2 hl3
      have pm2 : List.Perm (α := Pt) (⟨(f : Nat),0⟩ :: (pts r ++ (l0 ++ R))) (pts r ++ (pts (l.set k (y.1,⟨(f : Nat),0⟩)) ++ R)) := by
        refine List.Perm.trans ?_ ((ps'.append_right R).append_left (pts r)).symm
        exact List.perm_middle.symm
      have hkeys : (l.set k (y.1,(⟨(f : Nat),0⟩ : Pt))).map (·.1) = l.map (·.1) := by
        rw [List.map_set]
        refine List.ext_getElem? fun i => ?_
        rw [List.getElem?_set,List.getElem?_map]
        split
        · rename_i hi; subst hi
          rw [hyk]; simp [hkl]
        · rfl
      obtain ⟨d1,d2,d3,d4,d5,d6⟩ := merge_inv hlv r (l.set k (y.1,⟨(f : Nat),0⟩)) n3 R (e1.perm pm2) (by rw [hl3.2,hl2.2]; exact hr) (by rw [hkeys]; exact hk)
      have g1 : Gr n (pts (x :: r) ++ (pts l ++ R)) n3 (⟨(f : Nat),0⟩ :: (pts r ++ (l0 ++ R))) := ((a2.perm (.refl _) pm).trans c2).trans e2
      rw [hkeys] at d4
      refine ⟨d1,(g1.perm (.refl _) pm2).trans d2,d3,fun z hz => ?_,d5.trans (e5.trans (c5.trans a3)),fun a b kR hb hc => ?_⟩
      · rcases d4 z hz with h | h
        · left; simp only [List.map_cons,List.mem_cons]; exact .inr h
        · exact .inr h
      · have hym : y.2 ∈ pts (x :: r) ++ (pts l ++ R) := by
          simp only [List.mem_append]
          exact .inr (.inl (List.mem_map_of_mem (List.mem_of_getElem? hyk)))
        have hyh := h.semi.xs _ hym
        have hnd : y.2 ∉ (⟨(f : Nat),0⟩ :: (pts r ++ (l0 ++ R)) : List Pt) := by
          have := b1.nd
          simp only [List.nodup_cons,List.mem_cons,not_or] at this ⊢
          exact this.2.1.2.2
        obtain ⟨j,hj,hjl⟩ := h.lt hym
        have hyb := hc y (List.mem_of_getElem? hyk)
        have gl : n3.lk y.2 = ⟨(f : Nat),1⟩ := by
          have hcl := e2.cl y.2 (c2.has (a2.has hyh)) (by
            have := c1.nd
            have h2 := b1.nd
            simp only [List.nodup_cons,List.mem_cons,not_or] at h2 ⊢
            exact h2.2.1)
          rw [hcl.2,c4]
        have r2 : Reach n3 (⟨(f : Nat),0⟩ :: (pts r ++ (l0 ++ R))) a b := kR.mono g1 fun i h1 h2 => by
          have : i = f := by omega
          subst this
          exact Cn.lnk g1 hyh hnd gl (a := a) (by rw [hj]; exact kR j (by omega) hjl)
        refine d6 a b (r2.mono (Gr.perm (Gr.refl _ _) (.refl _) pm2) fun i h1 h2 => by omega) (fun e he => hb e (by simp [he])) fun e he => ?_
        rcases List.mem_or_eq_of_mem_set he with h | rfl
        · exact hc e h
        · show (b : Int) ≤ ((f : Nat) : Int)
          omega
def KeyOk (f : Int) (l : List En) : Prop := (∀ e ∈ l,0 ≤ e.1 ∧ e.1 < f) ∧ (l.map (·.1)).Nodup
structure Wo (f : Int) (n : Nt) (R : List Pt) (y : W) (c : Nat) : Prop where
  inv : Inv y.n (y.out :: (pts y.l ++ R))
  gr : Gr n R y.n (y.out :: (pts y.l ++ R))
  key : KeyOk f y.l
  con : Reach y.n (y.out :: (pts y.l ++ R)) y.out.n n.ns.length
  out : y.out.n = (n.ns.length : Nat)
  ct : Ct y.n = Ct n + c
theorem Wo.lt {f : Int} {n : Nt} {R : List Pt} {y : W} {c : Nat} (h : Wo f n R y c) : n.ns.length < y.n.ns.length := by
  obtain ⟨i,h1,h2⟩ := h.inv.lt (p := y.out) (by simp)
  have := h.out
  omega
theorem Wo.new {f : Int} {n : Nt} {R : List Pt} {y : W} {c : Nat} (h : Wo f n R y c) : ∀ e ∈ y.l,(n.ns.length : Int) ≤ e.2.n := fun e he => by
  have hm : e.2 ∈ pts y.l := List.mem_map_of_mem he
  rcases h.gr.op e.2 (by simp [hm]) with k | k
  · exfalso
    have := h.inv.nd
    rw [List.nodup_cons,List.nodup_append] at this
    exact this.2.2.2 _ hm _ k rfl
  · exact k
theorem down_all {l : List En} (h : ∀ e ∈ l,0 < e.1) : down l = l.map fun x => (x.1 - 1,x.2) := by
  unfold down
  rw [List.filter_eq_self.2 fun x hx => by simpa using h x hx]
theorem down_perm {l r : List En} (h : l.Perm r) : (down l).Perm (down r) := (h.filter _).map _
theorem down_key {f : Int} {l : List En} (h : KeyOk (f + 1) l) : KeyOk f (down l) := by
  refine ⟨fun e he => ?_,?_⟩
  · unfold down at he
    obtain ⟨y,hy,rfl⟩ := List.mem_map.1 he
    rw [List.mem_filter] at hy
    have h1 := h.1 y hy.1
    have h2 : y.1 > 0 := by simpa using hy.2
    exact ⟨by show 0 ≤ y.1 - 1; omega,by show y.1 - 1 < f; omega⟩
  · unfold down
    rw [List.map_map]
    have e : (List.filter (fun x : En => decide (x.1 > 0)) l).map ((fun x : En => x.1) ∘ fun x => (x.1 - 1,x.2)) = ((List.filter (fun x : En => decide (x.1 > 0)) l).map (·.1)).map (fun z => z - 1) := by rw [List.map_map]; rfl
    rw [e]
    have h1 : ((List.filter (fun x : En => decide (x.1 > 0)) l).map (·.1)).Nodup := h.2.sublist ((List.filter_sublist (l := l)).map _)
    exact List.Pairwise.map _ (fun a b hab e => hab (by omega)) h1
theorem lamStep_inv {lv f : Int} (hlv : 0 ≤ lv ∧ lv ≤ 60) {n : Nt} {R : List Pt} (h : Inv n R) {y : W} {c : Nat} (hy : Wo (f + 1) (addN n (nodeK 2 lv)) (⟨(n.ns.length : Nat),0⟩ :: ⟨(n.ns.length : Nat),1⟩ :: ⟨(n.ns.length : Nat),2⟩ :: R) y c)
    (g0 : Gr n R (addN n (nodeK 2 lv)) (⟨(n.ns.length : Nat),0⟩ :: ⟨(n.ns.length : Nat),1⟩ :: ⟨(n.ns.length : Nat),2⟩ :: R)) (c0 : Ct (addN n (nodeK 2 lv)) = Ct n)
    (hr : ((lamNet lv n.ns.length y).ns.length : Int) ≤ n.cap) : Wo f n R (lamStep lv n.ns.length y) c ∧ ((lamStep lv n.ns.length y).n.nd (n.ns.length : Nat)).k = 2 ∧ ((lamStep lv n.ns.length y).n.nd (n.ns.length : Nat)).lv = lv := by
  obtain ⟨m,hm⟩ : ∃ m,n.ns.length = m := ⟨_,rfl⟩
  have hin := hy.inv
  have hlt := hy.lt
  have hout := hy.out
  have hnew := hy.new
  have hcon := hy.con
  rw [addN_len] at hlt hout hnew hcon
  rw [hm] at hlt hout hnew hcon hin hr ⊢
  have hgy := hy.gr
  rw [hm] at hgy g0
  have hk2 : ((addN n (nodeK 2 lv)).nd (m : Nat)).k = 2 ∧ ((addN n (nodeK 2 lv)).nd (m : Nat)).lv = lv := by rw [← hm,addN_now]; exact ⟨rfl,rfl⟩
  have pm1 : (y.out :: (pts y.l ++ (⟨(m : Nat),0⟩ :: ⟨(m : Nat),1⟩ :: ⟨(m : Nat),2⟩ :: R))).Perm (y.out :: ⟨(m : Nat),1⟩ :: (⟨(m : Nat),2⟩ :: (pts y.l ++ (⟨(m : Nat),0⟩ :: R)))) := by
    refine List.Perm.cons _ ?_
    refine (((List.Perm.swap _ _ _).append_left (pts y.l))).trans ?_
    refine List.perm_middle.trans (List.Perm.cons _ ?_)
    refine (((List.Perm.swap _ _ _).append_left (pts y.l))).trans ?_
    exact List.perm_middle
  have b1 := hin.perm pm1
  obtain ⟨c1,c2,c3,c4,c5⟩ := b1.link (.inr (by show (1 : Int) ≠ 0; decide))
  obtain ⟨n1,hn1⟩ : ∃ n1,lnk y.n y.out ⟨(m : Nat),1⟩ = n1 := ⟨_,rfl⟩
  have hl1 := lnk_len y.n y.out ⟨(m : Nat),1⟩
  rw [hn1] at c1 c2 c3 c4 c5 hl1
  have gy : Gr n R y.n (y.out :: ⟨(m : Nat),1⟩ :: (⟨(m : Nat),2⟩ :: (pts y.l ++ (⟨(m : Nat),0⟩ :: R)))) := (g0.trans hgy).perm (.refl _) pm1
  have g1 := gy.trans c2
  have hm1h : y.n.has ⟨(m : Nat),1⟩ = true := b1.semi.xs _ (by simp)
  have hm1n : (⟨(m : Nat),1⟩ : Pt) ∉ (⟨(m : Nat),2⟩ :: (pts y.l ++ (⟨(m : Nat),0⟩ :: R)) : List Pt) := by
    have := b1.nd
    simp only [List.nodup_cons] at this
    exact this.2.1
  have r1 : Reach n1 (⟨(m : Nat),2⟩ :: (pts y.l ++ (⟨(m : Nat),0⟩ :: R))) (m : Nat) m := fun i h1 h2 => by
    by_cases e : i = m
    · subst e; exact .refl
    · have k1 : Cn n1 (⟨(m : Nat),2⟩ :: (pts y.l ++ (⟨(m : Nat),0⟩ :: R))) (m : Nat) y.out.n := Cn.lnk c2 hm1h hm1n c4 .refl
      refine k1.trans ?_
      have := hcon i (by omega) (by rw [← hl1.1]; exact h2)
      exact this.mono ((Gr.refl _ _).perm (.refl _) pm1 |>.trans c2)
  have hk1 : (n1.nd (m : Nat)).k = 2 ∧ (n1.nd (m : Nat)).lv = lv := by
    have q1 := c2.nd (m : Nat) (by omega) (by omega)
    have q2 := hgy.nd (m : Nat) (by omega) (by rw [addN_len]; omega)
    rw [q1.1,q1.2.1,q2.1,q2.2.1]; exact hk2
  have key := down_key hy.key
  by_cases hf : findF y.l 0 ≥ 0
  · obtain ⟨k,hkk,hkl,x,hxk,hxv⟩ := findF_get (l := y.l) (v := 0) (by omega)
    have hgd : y.l.getD (findF y.l 0).toNat zE = x := by rw [hkk,Int.toNat_natCast,List.getD_eq_getElem?_getD,hxk]; rfl
    have en : lamNet lv m y = lnk n1 x.2 ⟨(m : Nat),2⟩ := by unfold lamNet; rw [if_pos hf,hgd,hn1]
    have pe := perm_erase hxk
    have hrest : ∀ e ∈ y.l.eraseIdx k,0 < e.1 := fun e he => by
      have h1 := (hy.key.1 e (List.mem_of_mem_eraseIdx he)).1
      have h2 := (pe.map (·.1)).nodup_iff.1 hy.key.2
      rw [List.map_cons,List.nodup_cons] at h2
      have h3 : e.1 ≠ x.1 := fun k => h2.1 (k ▸ List.mem_map_of_mem he)
      omega
    have hd : (pts (down y.l)).Perm (pts (y.l.eraseIdx k)) := by
      refine (pts_perm (down_perm pe)).trans ?_
      have : down (x :: y.l.eraseIdx k) = down (y.l.eraseIdx k) := by unfold down; rw [List.filter_cons_of_neg (by simp [hxv])]
      rw [this,down_all hrest]
      unfold pts
      rw [List.map_map]
      exact .refl _
    have pm2 : List.Perm (α := Pt) (⟨(m : Nat),2⟩ :: (pts y.l ++ (⟨(m : Nat),0⟩ :: R))) (x.2 :: ⟨(m : Nat),2⟩ :: (⟨(m : Nat),0⟩ :: (pts (down y.l) ++ R))) := by
      have q : (pts y.l ++ (⟨(m : Nat),0⟩ :: R)).Perm (x.2 :: (⟨(m : Nat),0⟩ :: (pts (down y.l) ++ R))) := by
        refine ((pts_perm pe).append_right _).trans ?_
        show (x.2 :: (pts (y.l.eraseIdx k) ++ (⟨(m : Nat),0⟩ :: R))).Perm _
        refine List.Perm.cons _ (List.perm_middle.trans (List.Perm.cons _ (hd.symm.append_right R)))
      exact (q.cons _).trans (List.Perm.swap _ _ _)
    have b2 := c1.perm pm2
    obtain ⟨d1,d2,d3,d4,d5⟩ := b2.link (.inr (by show (2 : Int) ≠ 0; decide))
    have hl2 := lnk_len n1 x.2 ⟨(m : Nat),2⟩
    have g2 := (g1.perm (.refl _) pm2).trans d2
    rw [← en] at d1 d2 d3 d4 d5 g2 hl2
    refine ⟨⟨d1,g2,key,?_,by rw [hm]; rfl,by rw [show (lamStep lv m y).n = lamNet lv m y from rfl,d5,c5,hy.ct,c0]⟩,?_⟩
    · show Reach (lamNet lv m y) (⟨(m : Nat),0⟩ :: (pts (down y.l) ++ R)) (m : Nat) n.ns.length
      rw [hm]
      exact r1.mono (((Gr.refl _ _).perm (.refl _) pm2).trans d2) fun i h1 h2 => by omega
    · show ((lamNet lv m y).nd (m : Nat)).k = 2 ∧ ((lamNet lv m y).nd (m : Nat)).lv = lv
      have q1 := d2.nd (m : Nat) (by omega) (by omega)
      rw [q1.1,q1.2.1]; exact hk1
  · have hfn := findF_no (l := y.l) (v := 0) (by omega)
    have hrest : ∀ e ∈ y.l,0 < e.1 := fun e he => by
      have h1 := (hy.key.1 e he).1
      have h3 : e.1 ≠ 0 := fun k => hfn (k ▸ List.mem_map_of_mem he)
      omega
    have hd : pts (down y.l) = pts y.l := by rw [down_all hrest]; unfold pts; rw [List.map_map]; rfl
    obtain ⟨d,hdd⟩ : ∃ d,y.n.ns.length = d := ⟨_,rfl⟩
    have en : lamNet lv m y = lnk (addN n1 (nodeK 7 lv)) ⟨(d : Nat),0⟩ ⟨(m : Nat),2⟩ := by unfold lamNet; rw [if_neg hf,hn1,hdd]
    have hl2 := lnk_len (addN n1 (nodeK 7 lv)) ⟨(d : Nat),0⟩ ⟨(m : Nat),2⟩
    have h7 := nodeK_Ok (k := 7) (by omega) hlv
    have hcap : n1.cap = n.cap := g1.cap
    have e1 := c1
    rw [← en,addN_len] at hl2
    obtain ⟨a1,a2,a3⟩ := e1.add h7 (may6 hlv (by omega)) (by show ¬ (7 : Int) < 2; decide) (by omega)
    have hp : ptsN n1.ns.length (nodeK 7 lv).ports.toNat = [⟨(d : Nat),0⟩] := by rw [hl1.1,hdd]; rfl
    rw [hp] at a1 a2
    have pm2 : List.Perm (α := Pt) ([⟨(d : Nat),0⟩] ++ (⟨(m : Nat),2⟩ :: (pts y.l ++ (⟨(m : Nat),0⟩ :: R)))) (⟨(d : Nat),0⟩ :: ⟨(m : Nat),2⟩ :: (⟨(m : Nat),0⟩ :: (pts (down y.l) ++ R))) := by
      rw [hd]
      exact List.Perm.cons _ (List.Perm.cons _ List.perm_middle)
    have b2 := a1.perm pm2
    obtain ⟨d1,d2,d3,d4,d5⟩ := b2.link (.inr (by show (2 : Int) ≠ 0; decide))
    have g2 := (g1.trans (a2.perm (.refl _) pm2)).trans d2
    have hm2h : n1.has ⟨(m : Nat),2⟩ = true := c1.semi.xs _ (by simp)
    have hm2n : (⟨(m : Nat),2⟩ : Pt) ∉ (⟨(m : Nat),0⟩ :: (pts (down y.l) ++ R) : List Pt) := by
      have := b2.nd
      simp only [List.nodup_cons] at this
      exact this.2.1
    have ga : Gr n1 (⟨(m : Nat),2⟩ :: (pts y.l ++ (⟨(m : Nat),0⟩ :: R))) (lamNet lv m y) (⟨(m : Nat),0⟩ :: (pts (down y.l) ++ R)) := by rw [en]; exact (a2.perm (.refl _) pm2).trans d2
    rw [← en] at d1 d2 d3 d4 d5 g2
    refine ⟨⟨d1,g2,key,?_,by rw [hm]; rfl,by rw [show (lamStep lv m y).n = lamNet lv m y from rfl,d5,a3,c5,hy.ct,c0]⟩,?_⟩
    · show Reach (lamNet lv m y) (⟨(m : Nat),0⟩ :: (pts (down y.l) ++ R)) (m : Nat) n.ns.length
      rw [hm]
      refine r1.mono ga fun i h1 h2 => ?_
      have : i = d := by omega
      subst this
      exact Cn.lnk ga hm2h hm2n d4 .refl
    · show ((lamNet lv m y).nd (m : Nat)).k = 2 ∧ ((lamNet lv m y).nd (m : Nat)).lv = lv
      have q1 := ga.nd (m : Nat) (by omega) (by omega)
      rw [q1.1,q1.2.1]; exact hk1
theorem lam_add {lv : Int} (hlv : 0 ≤ lv ∧ lv ≤ 60) {n : Nt} {R : List Pt} (h : Inv n R) (hr : ((n.ns.length + 1 : Nat) : Int) ≤ n.cap) :
    Inv (addN n (nodeK 2 lv)) (⟨(n.ns.length : Nat),0⟩ :: ⟨(n.ns.length : Nat),1⟩ :: ⟨(n.ns.length : Nat),2⟩ :: R) ∧ Gr n R (addN n (nodeK 2 lv)) (⟨(n.ns.length : Nat),0⟩ :: ⟨(n.ns.length : Nat),1⟩ :: ⟨(n.ns.length : Nat),2⟩ :: R) ∧ Ct (addN n (nodeK 2 lv)) = Ct n := by
  have h2 := nodeK_Ok (k := 2) (by omega) hlv
  obtain ⟨a1,a2,a3⟩ := h.add h2 (may6 hlv (by omega)) (by show ¬ (2 : Int) < 2; decide) hr
  have hp : ptsN n.ns.length (nodeK 2 lv).ports.toNat = [⟨(n.ns.length : Nat),0⟩,⟨(n.ns.length : Nat),1⟩,⟨(n.ns.length : Nat),2⟩] := rfl
  rw [hp] at a1 a2
  exact ⟨a1,a2,a3⟩
theorem lams_inv {lv : Int} (hlv : 0 ≤ lv ∧ lv ≤ 60) {g : Nt → W} {B : Nat} (hM : Mono g B) {c : Nat} : ∀ (k : Nat) (f : Int),(∀ n R,Inv n R → ((g n).n.ns.length : Int) ≤ n.cap → Wo (f + k) n R (g n) c) → ∀ n R,Inv n R → ((lamsG lv g k n).n.ns.length : Int) ≤ n.cap →
    Wo f n R (lamsG lv g k n) c ∧ (k ≠ 0 → ((lamsG lv g k n).n.nd (n.ns.length : Nat)).k = 2 ∧ ((lamsG lv g k n).n.nd (n.ns.length : Nat)).lv = lv ∧ (lamsG lv g k n).out.s = 0)
  | 0,f,H,n,R,h,hr => ⟨by have := H n R h hr; rwa [show f + ((0 : Nat) : Int) = f by omega] at this,fun k => absurd rfl k⟩
  | k + 1,f,H,n,R,h,hr => by
    have e : lamsG lv g (k + 1) n = lamStep lv n.ns.length (lamsG lv g k (addN n (nodeK 2 lv))) := rfl
    rw [e] at hr ⊢
    have m1 := (lams_mono (lv := lv) hM k).len (addN n (nodeK 2 lv))
    have m2 := lamNet_len lv n.ns.length (lamsG lv g k (addN n (nodeK 2 lv)))
    rw [addN_len] at m1
    have hr' : ((lamNet lv n.ns.length (lamsG lv g k (addN n (nodeK 2 lv)))).ns.length : Int) ≤ n.cap := hr
    obtain ⟨a1,a2,a3⟩ := lam_add hlv h (by omega)
    have ih := lams_inv hlv hM k (f + 1) (fun n R h hr => by rw [show f + 1 + ((k : Nat) : Int) = f + ((k + 1 : Nat) : Int) by omega]; exact H n R h hr) (addN n (nodeK 2 lv)) _ a1 (by rw [addN_cap]; omega)
    obtain ⟨b1,b2⟩ := lamStep_inv hlv h ih.1 a2 a3 hr'
    exact ⟨b1,fun _ => ⟨b2.1,b2.2,rfl⟩⟩
end Go.Proofs.Ytkpfjolcmkikeaa.Tm
end
section
set_option linter.unusedSimpArgs false
set_option linter.unusedVariables false
set_option maxHeartbeats 4000000
namespace Go.Proofs.Ytkpfjolcmkikeaa.Tm
open Go.Fx
def boxW (lv : Int) (y : W) : W := ⟨(boxG lv y.l y.n).1,y.out,(boxG lv y.l y.n).2⟩
def leafG (k n lv : Int) (m : Nt) : W :=
  if k = 1 then ⟨addN m (nodeK 5 lv),⟨(m.ns.length : Nat),1⟩,[(n,⟨(m.ns.length : Nat),0⟩)]⟩
  else if k = 7 then ⟨addN m ⟨10,lv,n,[],[],[]⟩,⟨(m.ns.length : Nat),0⟩,[]⟩
  else ⟨addN m (nodeK 13 lv),⟨(m.ns.length : Nat),0⟩,[]⟩
def arT (u : T) : Ar := ⟨u.s,u.n⟩
def nodeT (k : Int) (s : List UInt8) (l : List T) (lv : Int) : Nd :=
  if k = 3 then nodeK 3 lv else if k = 4 then ⟨8,lv,0,s,[],List.replicate (l.length + 1) zP⟩ else if k = 5 then ⟨9,lv,0,[],(l.drop 1).map arT,[]⟩ else ⟨11,lv,0,s,[],[]⟩
def slotF (k : Int) (i : Nat) : Nat := if i = 0 ∧ k ≠ 4 then 0 else i + 1
def outF (k : Int) : Nat := if k = 4 then 0 else 1
def boxed (k : Int) (i : Nat) : Prop := k = 4 ∨ k = 3 ∧ i = 1
instance (k : Int) (i : Nat) : Decidable (boxed k i) := by unfold boxed; infer_instance
def kidG (k lv : Int) (a : Nat) (i : Nat) (y : W) (l : List En) : Nt × List En := mergeG lv y.l l (lnk y.n y.out ⟨(a : Nat),(slotF k i : Nat)⟩)
mutual
def partG : T → Int → Nt → W
  | .mk k n s l,lv,m =>
    if k = 1 ∨ k = 7 ∨ k = 9 then leafG k n lv m
    else if k = 2 then lamsG lv (headG l lv) 1 m
    else if k = 6 then lamsG lv (headG l lv) n.toNat m
    else ⟨(kidsG l k lv m.ns.length 0 (addN m (nodeT k s l lv),[])).1,⟨(m.ns.length : Nat),(outF k : Nat)⟩,(kidsG l k lv m.ns.length 0 (addN m (nodeT k s l lv),[])).2⟩
def headG : List T → Int → Nt → W
  | [],_,m => ⟨m,zP,[]⟩
  | t :: _,lv,m => partG t lv m
def kidsG : List T → Int → Int → Nat → Nat → Nt × List En → Nt × List En
  | [],_,_,_,_,x => x
  | t :: r,k,lv,a,i,x => kidsG r k lv a (i + 1) (kidG k lv a i (if boxed k i then boxW lv (partG t (lv + 1) x.1) else partG t lv x.1) x.2)
end
def subG (k lv : Int) (i : Nat) (t : T) (m : Nt) : W := if boxed k i then boxW lv (partG t (lv + 1) m) else partG t lv m
theorem kidsG_cons (t : T) (r : List T) (k lv : Int) (a i : Nat) (x : Nt × List En) : kidsG (t :: r) k lv a i x = kidsG r k lv a (i + 1) (kidG k lv a i (subG k lv i t x.1) x.2) := rfl
theorem kidsG_nil (k lv : Int) (a i : Nat) (x : Nt × List En) : kidsG [] k lv a i x = x := rfl
theorem partG_mk (k n : Int) (s : List UInt8) (l : List T) (lv : Int) (m : Nt) : partG (.mk k n s l) lv m = if k = 1 ∨ k = 7 ∨ k = 9 then leafG k n lv m
    else if k = 2 then lamsG lv (headG l lv) 1 m
    else if k = 6 then lamsG lv (headG l lv) n.toNat m
    else ⟨(kidsG l k lv m.ns.length 0 (addN m (nodeT k s l lv),[])).1,⟨(m.ns.length : Nat),(outF k : Nat)⟩,(kidsG l k lv m.ns.length 0 (addN m (nodeT k s l lv),[])).2⟩ := rfl
mutual
def nv : T → Nat
  | .mk k _ _ l => (if k = 1 then 1 else 0) + nvL l
def nvL : List T → Nat
  | [] => 0
  | t :: r => nv t + nvL r
end
structure Much (f : Nt → W) (B P : Nat) : Prop where
  len : ∀ m,m.ns.length ≤ (f m).n.ns.length
  cap : ∀ m,(f m).n.cap = m.cap
  l : ∀ m,(f m).l.length ≤ B
  sum : ∀ m,(f m).n.ns.length + (f m).l.length ≤ m.ns.length + P
theorem Much.mono {f : Nt → W} {B P : Nat} (h : Much f B P) : Mono f B := ⟨h.len,h.cap,h.l⟩
theorem Much.le {f : Nt → W} {B P B' P' : Nat} (h : Much f B P) (h1 : B ≤ B') (h2 : P ≤ P') : Much f B' P' := ⟨h.len,h.cap,fun m => Nat.le_trans (h.l m) h1,fun m => Nat.le_trans (h.sum m) (by omega)⟩
theorem findF_pos {l : List En} (h : findF l 0 ≥ 0) : (down l).length + 1 ≤ l.length := by
  obtain ⟨k,_,hk,y,hy,hv⟩ := findF_get (l := l) (v := 0) (by omega)
  unfold down
  rw [List.length_map]
  have := (perm_erase hy).filter (fun x : En => decide (x.1 > 0))
  rw [this.length_eq,List.filter_cons_of_neg (by simp [hv])]
  have h2 := List.length_filter_le (fun x : En => decide (x.1 > 0)) (l.eraseIdx k)
  rw [List.length_eraseIdx,if_pos hk] at h2
  omega
theorem lams_much {lv : Int} {f : Nt → W} {B P : Nat} (hf : Much f B P) : ∀ k,Much (lamsG lv f k) B (P + 2 * k)
  | 0 => hf
  | k + 1 => by
    have ih := lams_much (lv := lv) hf k
    have mo := lams_mono (lv := lv) hf.mono (k + 1)
    refine ⟨mo.len,mo.cap,mo.l,fun m => ?_⟩
    have h1 := ih.sum (addN m (nodeK 2 lv))
    have h2 := lamNet_len lv m.ns.length (lamsG lv f k (addN m (nodeK 2 lv)))
    rw [addN_len] at h1
    obtain ⟨y,hy⟩ : ∃ y,lamsG lv f k (addN m (nodeK 2 lv)) = y := ⟨_,rfl⟩
    rw [hy] at h1 h2
    show (lamNet lv m.ns.length (lamsG lv f k (addN m (nodeK 2 lv)))).ns.length + (down (lamsG lv f k (addN m (nodeK 2 lv))).l).length ≤ _
    rw [hy]
    by_cases h : findF y.l 0 ≥ 0
    · have h3 := findF_pos h
      have h4 : (lamNet lv m.ns.length y).ns.length = y.n.ns.length := by
        unfold lamNet
        rw [if_pos h,(lnk_len _ _ _).1,(lnk_len _ _ _).1]
      omega
    · have h3 := h2.2.2 h
      have h4 := down_len y.l
      omega
theorem merge_sum (lv : Int) : ∀ (r l : List En) (n : Nt),(mergeG lv r l n).1.ns.length + (mergeG lv r l n).2.length = n.ns.length + l.length + r.length
  | [],l,n => rfl
  | x :: r,l,n => by
    by_cases hf : findF l x.1 < 0
    · have e : mergeG lv (x :: r) l n = mergeG lv r (withG x false l) n := by
        show (if findF l x.1 < 0 then _ else _) = _
        rw [if_pos hf]
      rw [e,merge_sum lv r _ n,(withG_perm x l).length_eq]
      simp only [List.length_cons]
      omega
    · have e : mergeG lv (x :: r) l n = mergeG lv r (l.set (findF l x.1).toNat ((l.getD (findF l x.1).toNat zE).1,⟨(n.ns.length : Nat),0⟩))
        (lnk (lnk (addN n (nodeK 4 lv)) ⟨(n.ns.length : Nat),1⟩ (l.getD (findF l x.1).toNat zE).2) ⟨(n.ns.length : Nat),2⟩ x.2) := by
        show (if findF l x.1 < 0 then _ else _) = _
        rw [if_neg hf]
      rw [e,merge_sum lv r _ _,List.length_set,(lnk_len _ _ _).1,(lnk_len _ _ _).1,addN_len]
      simp only [List.length_cons]
      omega
theorem sub_much {k lv : Int} {i : Nat} {t : T} {B P : Nat} (h : ∀ lv,Much (partG t lv) B P) : Much (subG k lv i t) B (P + B) := by
  unfold subG
  by_cases hb : boxed k i
  · simp only [if_pos hb]
    have h1 := h (lv + 1)
    have bl := fun m => boxG_len lv (partG t (lv + 1) m).l (partG t (lv + 1) m).n
    refine ⟨fun m => ?_,fun m => ?_,fun m => ?_,fun m => ?_⟩
    · show _ ≤ (boxG lv (partG t (lv + 1) m).l (partG t (lv + 1) m).n).1.ns.length
      have := h1.len m; have := (bl m).1; omega
    · show (boxG lv (partG t (lv + 1) m).l (partG t (lv + 1) m).n).1.cap = _
      rw [(bl m).2.1,h1.cap]
    · show (boxG lv (partG t (lv + 1) m).l (partG t (lv + 1) m).n).2.length ≤ _
      rw [(bl m).2.2]; exact h1.l m
    · show (boxG lv (partG t (lv + 1) m).l (partG t (lv + 1) m).n).1.ns.length + (boxG lv (partG t (lv + 1) m).l (partG t (lv + 1) m).n).2.length ≤ _
      have := bl m; have := h1.sum m; have := h1.l m; omega
  · simp only [if_neg hb]
    exact (h lv).le (Nat.le_refl _) (by omega)
theorem kid_sum (k lv : Int) (a i : Nat) (y : W) (l : List En) : (kidG k lv a i y l).1.ns.length + (kidG k lv a i y l).2.length = y.n.ns.length + y.l.length + l.length ∧ y.n.ns.length ≤ (kidG k lv a i y l).1.ns.length ∧ (kidG k lv a i y l).1.cap = y.n.cap ∧ (kidG k lv a i y l).2.length ≤ l.length + y.l.length := by
  unfold kidG
  have h1 := merge_sum lv y.l l (lnk y.n y.out ⟨(a : Nat),(slotF k i : Nat)⟩)
  have h2 := mergeG_len lv y.l l (lnk y.n y.out ⟨(a : Nat),(slotF k i : Nat)⟩)
  have h3 := lnk_len y.n y.out ⟨(a : Nat),(slotF k i : Nat)⟩
  rw [h3.1] at h1
  rw [h3.1,h3.2] at h2
  exact ⟨by omega,h2.1,h2.2.1,h2.2.2⟩
def mostT (t : T) : Nat := 16 * (sizeZ t).toNat + nv t * dep t
theorem kids_len {k lv : Int} {a : Nat} : ∀ (l : List T) (i : Nat) (x : Nt × List En),(∀ t ∈ l,∀ lv,∃ B P,Much (partG t lv) B P) → x.1.ns.length ≤ (kidsG l k lv a i x).1.ns.length ∧ (kidsG l k lv a i x).1.cap = x.1.cap
  | [],i,x,_ => ⟨Nat.le_refl _,rfl⟩
  | t :: r,i,x,h => by
    rw [kidsG_cons]
    have h1 := kids_len (k := k) (lv := lv) (a := a) r (i + 1) (kidG k lv a i (subG k lv i t x.1) x.2) fun t ht => h t (by simp [ht])
    have h2 := kid_sum k lv a i (subG k lv i t x.1) x.2
    have h3 : x.1.ns.length ≤ (subG k lv i t x.1).n.ns.length ∧ (subG k lv i t x.1).n.cap = x.1.cap := by
      unfold subG
      by_cases hb : boxed k i
      · simp only [if_pos hb]
        obtain ⟨B,P,h4⟩ := h t (by simp) (lv + 1)
        have bl := boxG_len lv (partG t (lv + 1) x.1).l (partG t (lv + 1) x.1).n
        refine ⟨?_,bl.2.1.trans (h4.cap _)⟩
        show _ ≤ (boxG lv (partG t (lv + 1) x.1).l (partG t (lv + 1) x.1).n).1.ns.length
        have := h4.len x.1; have := bl.1; omega
      · simp only [if_neg hb]
        obtain ⟨B,P,h4⟩ := h t (by simp) lv
        exact ⟨h4.len _,h4.cap _⟩
    exact ⟨by omega,h1.2.trans (h2.2.2.1.trans h3.2)⟩
inductive Cl : Int → Bool → T → Prop
  | leaf {f k n : Int} : (k = 1 ∧ 0 ≤ n ∧ n < f) ∨ k = 7 ∨ k = 9 → Cl f false (.mk k n [] [])
  | lam {f : Int} {b : T} : Cl (f + 1) false b → Cl f false (.mk 2 0 [] [b])
  | alt {f n : Int} {s : List UInt8} {b : T} : 0 ≤ n → n ≤ 8 → s ≠ [] → Cl (f + n) false b → Cl f true (.mk 6 n s [b])
  | node {f k : Int} {s : List UInt8} {l : List T} : (k = 3 ∧ s = [] ∧ l.length = 2) ∨ (k = 4 ∧ s ≠ [] ∧ l.length ≤ 8) ∨ (k = 8 ∧ s ≠ [] ∧ l.length = 2) ∨ (k = 5 ∧ s = [] ∧ 2 ≤ l.length ∧ l.length ≤ 9 ∧ ((l.drop 1).map T.s).Nodup) →
      (∀ (j : Nat) (t : T),l[j]? = some t → Cl f (decide (k = 5 ∧ 0 < j)) t) → Cl f false (.mk k 0 s l)
theorem Cl.nn {f : Int} {a : Bool} {t : T} (h : Cl f a t) : 1 ≤ dep t ∧ nv t + dep t ≤ (sizeZ t).toNat + 1 ∧ (t.k = 6 → a = true) ∧ (a = true → t.k = 6) := by
  have kids : ∀ (l : List T),(∀ t ∈ l,1 ≤ dep t ∧ nv t + dep t ≤ (sizeZ t).toNat + 1) → nvL l + depL l ≤ (sizeLZ l).toNat + 1 ∧ nvL l ≤ (sizeLZ l).toNat := by
    intro l
    induction l with
    | nil => intro _; simp [nvL,depL]
    | cons x l ih =>
      intro hl
      have h1 := hl x (by simp)
      have h2 := ih fun t ht => hl t (by simp [ht])
      have h3 := sizeZ_pos x
      have h4 := sizeLZ_nn l
      simp only [nvL,depL,sizeLZ]
      omega
  induction h with
  | @leaf f k n h =>
    refine ⟨Nat.le_refl _,?_,fun e => ?_,fun e => by cases e⟩
    · show (if k = 1 then 1 else 0) + 0 + 1 ≤ (sizeLZ [] + 1).toNat + 1
      simp only [sizeLZ]
      split <;> omega
    · simp only [T.k] at e; omega
  | @lam f b h ih =>
    have := sizeZ_pos b
    refine ⟨by show 1 ≤ depL [b] + 1; omega,?_,fun e => by simp [T.k] at e,fun e => by cases e⟩
    show (if (2 : Int) = 1 then 1 else 0) + nvL [b] + (depL [b] + 1) ≤ (sizeLZ [b] + 1).toNat + 1
    simp only [nvL,depL,sizeLZ,Int.reduceEq,if_false]
    omega
  | @alt f n s b h1 h2 h3 h ih =>
    have := sizeZ_pos b
    refine ⟨by show 1 ≤ depL [b] + 1; omega,?_,fun e => rfl,fun e => rfl⟩
    show (if (6 : Int) = 1 then 1 else 0) + nvL [b] + (depL [b] + 1) ≤ (sizeLZ [b] + 1).toNat + 1
    simp only [nvL,depL,sizeLZ,Int.reduceEq,if_false]
    omega
  | @node f k s l hk hl ih =>
    have hk1 : k ≠ 1 ∧ k ≠ 6 := by omega
    have := kids l fun t ht => by
      obtain ⟨j,hj⟩ := List.getElem?_of_mem ht
      have := ih j t hj
      exact ⟨this.1,this.2.1⟩
    have h4 := sizeLZ_nn l
    refine ⟨by show 1 ≤ depL l + 1; omega,?_,fun e => absurd e hk1.2,fun e => by cases e⟩
    show (if k = 1 then 1 else 0) + nvL l + (depL l + 1) ≤ (sizeLZ l + 1).toNat + 1
    rw [if_neg hk1.1]
    omega
theorem kids_much {k lv : Int} {a : Nat} : ∀ (l : List T) (i : Nat) (x : Nt × List En),(∀ t ∈ l,∀ lv,Much (partG t lv) (nv t) (mostT t)) → (∀ t ∈ l,1 ≤ dep t) → ∀ D,(∀ t ∈ l,dep t + 1 ≤ D) →
    (kidsG l k lv a i x).1.ns.length + (kidsG l k lv a i x).2.length ≤ x.1.ns.length + x.2.length + 16 * (sizeLZ l).toNat + nvL l * D ∧ (kidsG l k lv a i x).2.length ≤ x.2.length + nvL l ∧ x.1.ns.length ≤ (kidsG l k lv a i x).1.ns.length ∧ (kidsG l k lv a i x).1.cap = x.1.cap
  | [],i,x,_,_,D,_ => ⟨by rw [kidsG_nil]; omega,by rw [kidsG_nil]; omega,by rw [kidsG_nil]; omega,rfl⟩
  | t :: r,i,x,h,h1,D,hD => by
    have sm := sub_much (k := k) (lv := lv) (i := i) (h t (by simp))
    have ks := kid_sum k lv a i (subG k lv i t x.1) x.2
    have ih := kids_much (k := k) (lv := lv) (a := a) r (i + 1) (kidG k lv a i (subG k lv i t x.1) x.2) (fun t ht => h t (by simp [ht])) (fun t ht => h1 t (by simp [ht])) D fun t ht => hD t (by simp [ht])
    have s1 := sm.sum x.1
    have s2 := sm.l x.1
    have s3 := sm.len x.1
    have s4 := sm.cap x.1
    have p1 := sizeZ_pos t
    have p2 := sizeLZ_nn r
    have hDt := hD t (by simp)
    have hm : nv t * dep t + nv t ≤ nv t * D := by
      have := Nat.mul_le_mul_left (nv t) hDt
      rw [Nat.mul_add] at this
      omega
    rw [kidsG_cons]
    obtain ⟨z,hz⟩ : ∃ z,kidG k lv a i (subG k lv i t x.1) x.2 = z := ⟨_,rfl⟩
    rw [hz] at ks ih ⊢
    unfold mostT at s1
    have e1 : (sizeLZ (t :: r)).toNat = (sizeZ t).toNat + (sizeLZ r).toNat := by simp only [sizeLZ]; omega
    have e2 : nvL (t :: r) = nv t + nvL r := rfl
    rw [e1,e2,Nat.add_mul]
    exact ⟨by omega,by omega,by omega,ih.2.2.2.trans (ks.2.2.1.trans s4)⟩
theorem leaf_len (k n lv : Int) (m : Nt) : (leafG k n lv m).n.ns.length = m.ns.length + 1 ∧ (leafG k n lv m).n.cap = m.cap ∧ (leafG k n lv m).l.length = if k = 1 then 1 else 0 := by
  unfold leafG
  by_cases h1 : k = 1
  · simp only [if_pos h1]
    exact ⟨addN_len _ _,addN_cap _ _,rfl⟩
  · simp only [if_neg h1]
    by_cases h7 : k = 7
    · simp only [if_pos h7]
      exact ⟨addN_len _ _,addN_cap _ _,rfl⟩
    · simp only [if_neg h7]
      exact ⟨addN_len _ _,addN_cap _ _,rfl⟩
theorem part_much {f : Int} {a : Bool} {t : T} (h : Cl f a t) : ∀ lv,Much (partG t lv) (nv t) (mostT t) := by
  induction h with
  | @leaf f k n h =>
    intro lv
    have e : ∀ m,partG (.mk k n [] []) lv m = leafG k n lv m := fun m => by rw [partG_mk,if_pos (by omega)]
    have em : mostT (.mk k n [] []) = 16 + (if k = 1 then 1 else 0) := by
      show 16 * (sizeLZ [] + 1).toNat + ((if k = 1 then 1 else 0) + nvL []) * (depL [] + 1) = _
      simp only [sizeLZ,nvL,depL]; omega
    have en : nv (.mk k n [] []) = if k = 1 then 1 else 0 := by show (if k = 1 then 1 else 0) + nvL [] = _; simp only [nvL]; omega
    rw [em,en]
    refine ⟨fun m => ?_,fun m => ?_,fun m => ?_,fun m => ?_⟩ <;> rw [e] <;> have := leaf_len k n lv m <;> omega
  | @lam f b h ih =>
    intro lv
    have e : ∀ m,partG (.mk 2 0 [] [b]) lv m = lamsG lv (partG b lv) 1 m := fun m => by rw [partG_mk]; rfl
    have e' : partG (.mk 2 0 [] [b]) lv = lamsG lv (partG b lv) 1 := funext e
    rw [e']
    have p := sizeZ_pos b
    refine (lams_much (lv := lv) (ih lv) 1).le ?_ ?_
    · show nv b ≤ (if (2 : Int) = 1 then 1 else 0) + (nv b + 0); omega
    · show 16 * (sizeZ b).toNat + nv b * dep b + 2 * 1 ≤ 16 * (sizeLZ [b] + 1).toNat + ((if (2 : Int) = 1 then 1 else 0) + (nv b + 0)) * (depL [b] + 1)
      simp only [sizeLZ,depL,Int.reduceEq,if_false,Nat.mul_add]
      have : (0 + (nv b + 0)) * max (dep b) 0 = nv b * dep b := by rw [Nat.zero_add,Nat.add_zero,Nat.max_eq_left (Nat.zero_le _)]
      omega
  | @alt f n s b h1 h2 h3 h ih =>
    intro lv
    have e : ∀ m,partG (.mk 6 n s [b]) lv m = lamsG lv (partG b lv) n.toNat m := fun m => by rw [partG_mk]; rfl
    have e' : partG (.mk 6 n s [b]) lv = lamsG lv (partG b lv) n.toNat := funext e
    rw [e']
    have p := sizeZ_pos b
    refine (lams_much (lv := lv) (ih lv) n.toNat).le ?_ ?_
    · show nv b ≤ (if (6 : Int) = 1 then 1 else 0) + (nv b + 0); omega
    · show 16 * (sizeZ b).toNat + nv b * dep b + 2 * n.toNat ≤ 16 * (sizeLZ [b] + 1).toNat + ((if (6 : Int) = 1 then 1 else 0) + (nv b + 0)) * (depL [b] + 1)
      simp only [sizeLZ,depL,Int.reduceEq,if_false,Nat.mul_add]
      have : (0 + (nv b + 0)) * max (dep b) 0 = nv b * dep b := by rw [Nat.zero_add,Nat.add_zero,Nat.max_eq_left (Nat.zero_le _)]
      omega
  | @node f k s l hk hl ih =>
    intro lv
    have hkn : ¬ (k = 1 ∨ k = 7 ∨ k = 9) ∧ k ≠ 2 ∧ k ≠ 6 := by omega
    have e : ∀ m,partG (.mk k 0 s l) lv m = ⟨(kidsG l k lv m.ns.length 0 (addN m (nodeT k s l lv),[])).1,⟨(m.ns.length : Nat),(outF k : Nat)⟩,(kidsG l k lv m.ns.length 0 (addN m (nodeT k s l lv),[])).2⟩ := fun m => by rw [partG_mk,if_neg hkn.1,if_neg hkn.2.1,if_neg hkn.2.2]
    have km := fun m : Nt => kids_much (k := k) (lv := lv) (a := m.ns.length) l 0 (addN m (nodeT k s l lv),[]) (fun t ht => by obtain ⟨j,hj⟩ := List.getElem?_of_mem ht; exact ih j t hj) (fun t ht => by obtain ⟨j,hj⟩ := List.getElem?_of_mem ht; exact (hl j t hj).nn.1) (depL l + 1) fun t ht => by have := depL_mem ht; omega
    have en : nv (.mk k 0 s l) = nvL l := by show (if k = 1 then 1 else 0) + nvL l = _; rw [if_neg (by omega)]; omega
    have em : mostT (.mk k 0 s l) = 16 * (sizeLZ l).toNat + 16 + nvL l * (depL l + 1) := by
      unfold mostT
      rw [en]
      show 16 * (sizeLZ l + 1).toNat + nvL l * (depL l + 1) = _
      have := sizeLZ_nn l
      omega
    rw [en,em]
    refine ⟨fun m => ?_,fun m => ?_,fun m => ?_,fun m => ?_⟩ <;> rw [e] <;> have := km m <;> simp only [addN_len,addN_cap,List.length_nil] at this ⊢
    · omega
    · exact this.2.2.2
    · omega
    · omega
theorem most_le {t : T} {f : Int} {a : Bool} (h : Cl f a t) (hs : sizeZ t ≤ 80) (hd : dep t ≤ 50) : mostT t ≤ 3000 := by
  have h1 := h.nn.2.1
  have hp := sizeZ_pos t
  unfold mostT
  have h2 : nv t * dep t ≤ (81 - dep t) * dep t := Nat.mul_le_mul_right _ (by omega)
  have h3 : ∀ d,d < 51 → (81 - d) * d ≤ 1640 := by decide
  have := h3 (dep t) (by omega)
  omega
end Go.Proofs.Ytkpfjolcmkikeaa.Tm
end
section
set_option linter.unusedSimpArgs false
set_option linter.unusedVariables false
set_option maxHeartbeats 8000000
set_option maxRecDepth 10000
namespace Go.Proofs.Ytkpfjolcmkikeaa.Tm
open Go.Fx
def encWp (y : W) : List PV := [.l (y.n.ns.map encN),.i .i64 y.n.cap,.i .i64 y.out.n,.i .i64 y.out.s,.l (y.l.map encE),.i .i64 0]
structure Fit (y : W) : Prop where
  room : Room y.n
  ends : ∀ x ∈ y.l,OkE x
  out : (0 ≤ y.out.n ∧ y.out.n ≤ 5000) ∧ (0 ≤ y.out.s ∧ y.out.s ≤ 100)
theorem box_fit {lv : Int} (hlv : 0 ≤ lv ∧ lv ≤ 60) : ∀ (l : List En) (n : Nt),Room n → (∀ x ∈ l,OkE x) → ((n.ns.length + l.length : Nat) : Int) ≤ n.cap → Room (boxG lv l n).1 ∧ ∀ x ∈ (boxG lv l n).2,OkE x
  | [],n,h,hE,hr => ⟨h,hE⟩
  | x :: r,n,h,hE,hr => by
    have e : boxG lv (x :: r) n = ((boxG lv r (lnk (addN n (nodeK 6 lv)) ⟨(n.ns.length : Nat),1⟩ x.2)).1,(x.1,⟨(n.ns.length : Nat),0⟩) :: (boxG lv r (lnk (addN n (nodeK 6 lv)) ⟨(n.ns.length : Nat),1⟩ x.2)).2) := rfl
    rw [e]
    simp only [List.length_cons] at hr
    have hcap := h.cap
    have h1 := room_add h (nodeK_Ok (k := 6) (by omega) hlv) (by show (6 : Int) ≠ 0; decide) (by omega)
    have h2 := room_lnk (p := ⟨(n.ns.length : Nat),1⟩) (q := x.2) h1 (wf_small n.ns.length 1 (by omega) (by omega)) (hE x (by simp)).wf
    have hl := lnk_len (addN n (nodeK 6 lv)) ⟨(n.ns.length : Nat),1⟩ x.2
    rw [addN_len,addN_cap] at hl
    obtain ⟨i1,i2⟩ := box_fit hlv r _ h2 (fun y hy => hE y (by simp [hy])) (by rw [hl.1,hl.2]; omega)
    refine ⟨i1,fun y hy => ?_⟩
    rcases List.mem_cons.1 hy with rfl | hy
    · exact ⟨(hE x (by simp)).1,⟨by show (0 : Int) ≤ ((n.ns.length : Nat) : Int); omega,by show ((n.ns.length : Nat) : Int) ≤ _; omega⟩,⟨by show (0 : Int) ≤ 0; decide,by show (0 : Int) ≤ _; decide⟩⟩
    · exact i2 y hy
def GoesT (t : T) (a : Bool) (lv : Int) : Prop := if a then ∃ n s b,t = .mk 6 n s [b] ∧ 0 ≤ n ∧ n ≤ 8 ∧ Goes 83 (argsL b n.toNat lv) (partG t lv) else Goes 60 (argsP t lv) (partG t lv)
theorem sub_ok {t x : T} {i : Nat} {lv : Int} {n : Nt} (hx : t.l[i]? = some x) (hl : t.l.length ≤ 1000) (hlv : 0 ≤ lv ∧ lv ≤ 60) (hn : Room n) (hr : ((subG t.k lv i x n).n.ns.length : Int) ≤ n.cap)
    (hM : ∀ lv,∃ B,Mono (partG x lv) B) (hb : boxed t.k i → Goes 60 (argsP x (lv + 1)) (partG x (lv + 1))) (hg : ¬ boxed t.k i → GoesT x (decide (t.k = 5 ∧ 0 < i)) lv) :
    Fit (subG t.k lv i x n) ∧ eP S 119 [.g (encT n),.g (enc t),.a (.i .i64 (i : Nat)),.a (.i .i64 lv)] = some (.g (encWp (subG t.k lv i x n))) := by
  have et := enc_eq t
  have ex := enc_eq x
  have hil := (List.getElem?_eq_some_iff.1 hx).1
  have hx' : (t.l.map enc)[i]? = some (enc x) := by simp [hx]
  have hlt : ((i : Nat) : Int) < (t.l.length : Int) := by omega
  have hge : (0 : Int) ≤ ((i : Nat) : Int) := by omega
  have hal : ((t.l.map enc).all fun r => decide (r.length = 4)) = true := enc_all t.l
  have hw1 : IntKind.i64.wrap (lv + 1) = lv + 1 := wrap_in _ (by omega)
  obtain ⟨σ1,hσ1⟩ : ∃ s,((((St.empty.add 4 (.var [.p (.l (n.ns.map encN)),.p (.i .i64 n.cap)])).add 5 (.var [.p (.i .i64 t.k),.p (.i .i64 t.n),.p (.s t.s),.p (.l (t.l.map enc))])).add 8 (.var [.nil,.p (.i .i64 0),.p (.i .i64 0),.p (.i .i64 0),.nil,.p (.i .i64 0)])).add 9 (.var [.p (.i .i64 0),.p (.i .i64 0),.p (.s []),.nil])).put (9,3) (.var [.p (.i .i64 x.k),.p (.i .i64 x.n),.p (.s x.s),.p (.l (x.l.map enc))]) = s := ⟨_,rfl⟩
  have hcl : σ1.clk = 4 := by rw [← hσ1]; rfl
  by_cases hbx : boxed t.k i
  · have hg := hb hbx
    unfold subG at hr ⊢
    simp only [if_pos hbx] at hr ⊢
    obtain ⟨B,hM⟩ := hM (lv + 1)
    have hmc := hM.cap n
    have bl := boxG_len lv (partG x (lv + 1) n).l (partG x (lv + 1) n).n
    have hr' : ((boxG lv (partG x (lv + 1) n).l (partG x (lv + 1) n).n).1.ns.length : Int) ≤ n.cap := hr
    obtain ⟨g1,g2,g3,g4⟩ := hg n hn (by omega)
    obtain ⟨y,hy⟩ : ∃ y,partG x (lv + 1) n = y := ⟨_,rfl⟩
    rw [hy] at hmc bl hr' g1 g2 g3 g4 ⊢
    obtain ⟨f1,f2⟩ := box_fit hlv y.l y.n g1 g2 (by omega)
    refine ⟨⟨f1,f2,g3⟩,?_⟩
    obtain ⟨v,σ2,k1,X,rfl,k2,k3⟩ := g4 σ1
    have hclk := k3.clk
    obtain ⟨v,σ3,m1,X',rfl,m2,m3⟩ := box_ok (n := y.n) (out := y.out) (l := y.l) (lv := lv) g1 hlv (by omega) g2 (c := σ1.clk) (σ := σ2) (X := X) hclk k2
    rw [hcl] at k2 k3 m2 m3
    simp only [argsP,ex,encT,encW,List.map_cons,List.map_nil] at k1 m1
    refine x_fn (orcS (by decide)) (fc := F119) rfl rfl ?_
    unfold encWp boxW
    have b8 : σ3.bs (8,2) = some (.var [.nil,.p (.i .i64 0),.p (.i .i64 0),.p (.i .i64 0),.nil,.p (.i .i64 0)]) := by
      rw [m3.bs (8,2) (by decide),k3.bs (8,2) (by decide),← hσ1]; rfl
    have htk : List.take (boxG lv y.l y.n).2.length ((boxG lv y.l y.n).2.map encE) = (boxG lv y.l y.n).2.map encE := List.take_of_length_le (by simp)
    have key : ∀ (h4 : Bool),h4 = decide (t.k = 4) → wp S false F119.body (Env.init [.g ((encT n).map .p),.g ((enc t).map .p),.a (.p (.i .i64 (i : Nat))),.a (.p (.i .i64 lv))]) St.empty (RetP F119.res (.g [.l ((boxG lv y.l y.n).1.ns.map encN),.i .i64 (boxG lv y.l y.n).1.cap,.i .i64 y.out.n,.i .i64 y.out.s,.l ((boxG lv y.l y.n).2.map encE),.i .i64 0])) := by
      intro h4 hh
      by_cases k4 : t.k = 4
      · simp only [F119,et,ex,encT,hx',hlt,hge,hal,hw1,Int.toNat_natCast,List.length_map,List.map_cons,List.map_nil,List.length_cons,List.length_nil,fxa,fxc,fxE,fxL,fxI,nxE,evO,evR,cellsT,ldCells,mkT,lenA,binPV,Env.init,resV,resT,frT,klT,ownT,intT,O.adds,ownA,rowsA,over,wrOk,keysT,keysA,ne_eq,if_true,if_false,ite_self,Nat.reduceLT,Nat.reduceSub,Nat.reduceBEq,Nat.reduceEqDiff,Nat.reduceAdd,Nat.reduceLeDiff,reduceCtorEq,Nat.reduceMul,k4,Int.reduceEq]
        rw [k4] at hσ1
        rw [hσ1]
        rcases m2 with ⟨rfl,hnil⟩ | ⟨d,q,rfl,hXb,hX0,hX1⟩
        · rw [hnil]
          simp only [k1,m1,b8,List.map_nil,fxa,fxc,fxE,fxL,fxI,nxE,evO,evR,cellsT,ldCells,mkT,lenA,binPV,Env.init,resV,resT,frT,klT,ownT,intT,O.adds,ownA,rowsA,over,wrOk,keysT,keysA,ne_eq,if_true,if_false,ite_self,Nat.reduceLT,Nat.reduceSub,Nat.reduceBEq,Nat.reduceEqDiff,Nat.reduceAdd,Nat.reduceLeDiff,reduceCtorEq,Nat.reduceMul]
        · have n8 : ¬ ((d,q) : Key) = (8,2) := by rintro e; rw [e,b8] at hXb; cases hXb
          simp only [k1,m1,b8,hXb,n8,htk,List.length_map,Nat.le_refl,Nat.zero_add,fxa,fxc,fxE,fxL,fxI,nxE,evO,evR,cellsT,ldCells,mkT,lenA,binPV,Env.init,resV,resT,frT,klT,ownT,intT,O.adds,ownA,rowsA,over,wrOk,keysT,keysA,ne_eq,if_true,if_false,ite_self,Nat.reduceLT,Nat.reduceSub,Nat.reduceBEq,Nat.reduceEqDiff,Nat.reduceAdd,Nat.reduceLeDiff,reduceCtorEq,Nat.reduceMul]
      · have k3' : t.k = 3 ∧ ((i : Nat) : Int) = 1 := by unfold boxed at hbx; omega
        obtain ⟨k30,k31⟩ := k3'
        have hi1 : i = 1 := by omega
        subst hi1
        have c1 : ((1 : Nat) : Int) = 1 := rfl
        have hlt1 : (1 : Int) < (t.l.length : Int) := hlt
        have t1 : Int.toNat 1 = 1 := rfl
        simp only [F119,et,ex,encT,hx',hlt,hge,hal,hw1,Int.toNat_natCast,List.length_map,List.map_cons,List.map_nil,List.length_cons,List.length_nil,fxa,fxc,fxE,fxL,fxI,nxE,evO,evR,cellsT,ldCells,mkT,lenA,binPV,Env.init,resV,resT,frT,klT,ownT,intT,O.adds,ownA,rowsA,over,wrOk,keysT,keysA,ne_eq,if_true,if_false,ite_self,Nat.reduceLT,Nat.reduceSub,Nat.reduceBEq,Nat.reduceEqDiff,Nat.reduceAdd,Nat.reduceLeDiff,reduceCtorEq,Nat.reduceMul,k30,c1,t1,hlt1,Int.reduceEq,Int.reduceLE]
        rw [k30] at hσ1
        rw [hσ1]
        rcases m2 with ⟨rfl,hnil⟩ | ⟨d,q,rfl,hXb,hX0,hX1⟩
        · rw [hnil]
          simp only [k1,m1,b8,List.map_nil,fxa,fxc,fxE,fxL,fxI,nxE,evO,evR,cellsT,ldCells,mkT,lenA,binPV,Env.init,resV,resT,frT,klT,ownT,intT,O.adds,ownA,rowsA,over,wrOk,keysT,keysA,ne_eq,if_true,if_false,ite_self,Nat.reduceLT,Nat.reduceSub,Nat.reduceBEq,Nat.reduceEqDiff,Nat.reduceAdd,Nat.reduceLeDiff,reduceCtorEq,Nat.reduceMul]
        · have n8 : ¬ ((d,q) : Key) = (8,2) := by rintro e; rw [e,b8] at hXb; cases hXb
          simp only [k1,m1,b8,hXb,n8,htk,List.length_map,Nat.le_refl,Nat.zero_add,fxa,fxc,fxE,fxL,fxI,nxE,evO,evR,cellsT,ldCells,mkT,lenA,binPV,Env.init,resV,resT,frT,klT,ownT,intT,O.adds,ownA,rowsA,over,wrOk,keysT,keysA,ne_eq,if_true,if_false,ite_self,Nat.reduceLT,Nat.reduceSub,Nat.reduceBEq,Nat.reduceEqDiff,Nat.reduceAdd,Nat.reduceLeDiff,reduceCtorEq,Nat.reduceMul]
    exact key _ rfl
  · have hg := hg hbx
    unfold subG at hr ⊢
    simp only [if_neg hbx] at hr ⊢
    unfold boxed at hbx
    have G : ∀ (P : Prop),(∀ (gg : FuncId) (aa : Nt → List TV),Goes gg aa (partG x lv) → ((t.k = 5 ∧ 0 < i ∧ gg = 83 ∧ ∃ n' s' b,x = .mk 6 n' s' [b] ∧ 0 ≤ n' ∧ n' ≤ 8 ∧ aa = argsL b n'.toNat lv) ∨ (¬ (t.k = 5 ∧ 0 < i) ∧ gg = 60 ∧ aa = argsP x lv)) → P) → P := by
      intro P hP
      unfold GoesT at hg
      by_cases h5 : t.k = 5 ∧ 0 < i
      · rw [decide_eq_true h5,if_pos rfl] at hg
        obtain ⟨n',s',b,e1,e2,e3,e4⟩ := hg
        exact hP _ _ e4 (.inl ⟨h5.1,h5.2,rfl,n',s',b,e1,e2,e3,rfl⟩)
      · rw [decide_eq_false h5] at hg
        exact hP _ _ hg (.inr ⟨h5,rfl,rfl⟩)
    refine G _ fun gg aa hgo hcase => ?_
    obtain ⟨g1,g2,g3,g4⟩ := hgo n hn hr
    obtain ⟨y,hy⟩ : ∃ y,partG x lv n = y := ⟨_,rfl⟩
    rw [hy] at hr g1 g2 g3 g4 ⊢
    refine ⟨⟨g1,g2,g3⟩,?_⟩
    obtain ⟨v,σ2,k1,X,rfl,k2,k3⟩ := g4 σ1
    rw [hcl] at k2 k3
    refine x_fn (orcS (by decide)) (fc := F119) rfl rfl ?_
    unfold encWp
    have b8 : σ2.bs (8,2) = some (.var [.nil,.p (.i .i64 0),.p (.i .i64 0),.p (.i .i64 0),.nil,.p (.i .i64 0)]) := by
      rw [k3.bs (8,2) (by decide),← hσ1]; rfl
    have htk : List.take y.l.length (y.l.map encE) = y.l.map encE := List.take_of_length_le (by simp)
    have k4 : ¬ t.k = 4 := by omega
    have hk31 : ¬ (t.k = 3 ∧ ((i : Nat) : Int) = 1) := by omega
    rcases hcase with ⟨h5,hi0,rfl,n',s',b,rfl,hn0,hn8,rfl⟩ | ⟨h5,rfl,rfl⟩
    · have eb := enc_eq b
      have hi0' : ((i : Nat) : Int) > 0 := by omega
      have hn' : ((n'.toNat : Nat) : Int) = n' := by omega
      simp only [argsL,hn',eb,encT,encW,List.map_cons,List.map_nil] at k1
      have ex' : enc (.mk 6 n' s' [b]) = [.i .i64 6,.i .i64 n',.s s',.l [[.i .i64 b.k,.i .i64 b.n,.s b.s,.l (b.l.map enc)]]] := by rw [← eb]; rfl
      rw [ex'] at hx'
      have hσ2 : ((((St.empty.add 4 (.var [.p (.l (n.ns.map encN)),.p (.i .i64 n.cap)])).add 5 (.var [.p (.i .i64 5),.p (.i .i64 t.n),.p (.s t.s),.p (.l (t.l.map enc))])).add 8 (.var [.nil,.p (.i .i64 0),.p (.i .i64 0),.p (.i .i64 0),.nil,.p (.i .i64 0)])).add 9 (.var [.p (.i .i64 0),.p (.i .i64 0),.p (.s []),.nil])).put (9,3) (.var [.p (.i .i64 6),.p (.i .i64 n'),.p (.s s'),.p (.l [[.i .i64 b.k,.i .i64 b.n,.s b.s,.l (b.l.map enc)]])]) = σ1 := by
        rw [← hσ1,h5,← eb]; rfl
      simp only [F119,et,encT,hx',hlt,hge,hal,hw1,Int.toNat_natCast,List.length_map,List.map_cons,List.map_nil,List.length_cons,List.length_nil,fxa,fxc,fxE,fxL,fxI,nxE,evO,evR,cellsT,ldCells,mkT,lenA,binPV,Env.init,resV,resT,frT,klT,ownT,intT,O.adds,ownA,rowsA,over,wrOk,keysT,keysA,ne_eq,if_true,if_false,ite_self,Nat.reduceLT,Nat.reduceSub,Nat.reduceBEq,Nat.reduceEqDiff,Nat.reduceAdd,Nat.reduceLeDiff,reduceCtorEq,Nat.reduceMul,h5,hi0',Int.reduceEq]
      rw [hσ2]
      have z1 : (0 : Int) < ((1 : Nat) : Int) := by decide
      have t0 : Int.toNat 0 = 0 := rfl
      have b9 : σ1.bs (9,3) = some (.var [.p (.i .i64 6),.p (.i .i64 n'),.p (.s s'),.p (.l [[.i .i64 b.k,.i .i64 b.n,.s b.s,.l (b.l.map enc)]])]) := by rw [← hσ2]; rfl
      rcases k2 with ⟨rfl,hnil⟩ | ⟨d,q,rfl,hXb,hX0,hX1⟩
      · rw [hnil]
        simp only [Int.le_refl,z1,t0,b9,List.getElem?_cons_zero,k1,b8,List.map_nil,fxa,fxc,fxE,fxL,fxI,nxE,evO,evR,cellsT,ldCells,mkT,lenA,binPV,Env.init,resV,resT,frT,klT,ownT,intT,O.adds,ownA,rowsA,over,wrOk,keysT,keysA,ne_eq,if_true,if_false,ite_self,Nat.reduceLT,Nat.reduceSub,Nat.reduceBEq,Nat.reduceEqDiff,Nat.reduceAdd,Nat.reduceLeDiff,reduceCtorEq,Nat.reduceMul]
      · have n8 : ¬ ((d,q) : Key) = (8,2) := by rintro e; rw [e,b8] at hXb; cases hXb
        simp only [Int.le_refl,z1,t0,b9,List.getElem?_cons_zero,k1,b8,hXb,n8,htk,List.length_map,Nat.le_refl,Nat.zero_add,fxa,fxc,fxE,fxL,fxI,nxE,evO,evR,cellsT,ldCells,mkT,lenA,binPV,Env.init,resV,resT,frT,klT,ownT,intT,O.adds,ownA,rowsA,over,wrOk,keysT,keysA,ne_eq,if_true,if_false,ite_self,Nat.reduceLT,Nat.reduceSub,Nat.reduceBEq,Nat.reduceEqDiff,Nat.reduceAdd,Nat.reduceLeDiff,reduceCtorEq,Nat.reduceMul]
    · simp only [argsP,ex,encT,encW,List.map_cons,List.map_nil] at k1
      by_cases k3e : t.k = 3
      · have hi1 : ¬ ((i : Nat) : Int) = 1 := fun h => hk31 ⟨k3e,h⟩
        simp only [F119,et,encT,hx',hlt,hge,hal,hw1,Int.toNat_natCast,List.length_map,List.map_cons,List.map_nil,List.length_cons,List.length_nil,fxa,fxc,fxE,fxL,fxI,nxE,evO,evR,cellsT,ldCells,mkT,lenA,binPV,Env.init,resV,resT,frT,klT,ownT,intT,O.adds,ownA,rowsA,over,wrOk,keysT,keysA,ne_eq,if_true,if_false,ite_self,Nat.reduceLT,Nat.reduceSub,Nat.reduceBEq,Nat.reduceEqDiff,Nat.reduceAdd,Nat.reduceLeDiff,reduceCtorEq,Nat.reduceMul,ex,k3e,hi1,Int.reduceEq]
        rw [k3e] at hσ1
        rw [hσ1]
        rcases k2 with ⟨rfl,hnil⟩ | ⟨d,q,rfl,hXb,hX0,hX1⟩
        · rw [hnil]
          simp only [k1,b8,List.map_nil,fxa,fxc,fxE,fxL,fxI,nxE,evO,evR,cellsT,ldCells,mkT,lenA,binPV,Env.init,resV,resT,frT,klT,ownT,intT,O.adds,ownA,rowsA,over,wrOk,keysT,keysA,ne_eq,if_true,if_false,ite_self,Nat.reduceLT,Nat.reduceSub,Nat.reduceBEq,Nat.reduceEqDiff,Nat.reduceAdd,Nat.reduceLeDiff,reduceCtorEq,Nat.reduceMul]
        · have n8 : ¬ ((d,q) : Key) = (8,2) := by rintro e; rw [e,b8] at hXb; cases hXb
          simp only [k1,b8,hXb,n8,htk,List.length_map,Nat.le_refl,Nat.zero_add,fxa,fxc,fxE,fxL,fxI,nxE,evO,evR,cellsT,ldCells,mkT,lenA,binPV,Env.init,resV,resT,frT,klT,ownT,intT,O.adds,ownA,rowsA,over,wrOk,keysT,keysA,ne_eq,if_true,if_false,ite_self,Nat.reduceLT,Nat.reduceSub,Nat.reduceBEq,Nat.reduceEqDiff,Nat.reduceAdd,Nat.reduceLeDiff,reduceCtorEq,Nat.reduceMul]
      · by_cases k5 : t.k = 5
        · have hi0 : ¬ ((i : Nat) : Int) > 0 := by omega
          simp only [F119,et,encT,hx',hlt,hge,hal,hw1,Int.toNat_natCast,List.length_map,List.map_cons,List.map_nil,List.length_cons,List.length_nil,fxa,fxc,fxE,fxL,fxI,nxE,evO,evR,cellsT,ldCells,mkT,lenA,binPV,Env.init,resV,resT,frT,klT,ownT,intT,O.adds,ownA,rowsA,over,wrOk,keysT,keysA,ne_eq,if_true,if_false,ite_self,Nat.reduceLT,Nat.reduceSub,Nat.reduceBEq,Nat.reduceEqDiff,Nat.reduceAdd,Nat.reduceLeDiff,reduceCtorEq,Nat.reduceMul,ex,k5,hi0,Int.reduceEq]
          rw [k5] at hσ1
          rw [hσ1]
          rcases k2 with ⟨rfl,hnil⟩ | ⟨d,q,rfl,hXb,hX0,hX1⟩
          · rw [hnil]
            simp only [k1,b8,List.map_nil,fxa,fxc,fxE,fxL,fxI,nxE,evO,evR,cellsT,ldCells,mkT,lenA,binPV,Env.init,resV,resT,frT,klT,ownT,intT,O.adds,ownA,rowsA,over,wrOk,keysT,keysA,ne_eq,if_true,if_false,ite_self,Nat.reduceLT,Nat.reduceSub,Nat.reduceBEq,Nat.reduceEqDiff,Nat.reduceAdd,Nat.reduceLeDiff,reduceCtorEq,Nat.reduceMul]
          · have n8 : ¬ ((d,q) : Key) = (8,2) := by rintro e; rw [e,b8] at hXb; cases hXb
            simp only [k1,b8,hXb,n8,htk,List.length_map,Nat.le_refl,Nat.zero_add,fxa,fxc,fxE,fxL,fxI,nxE,evO,evR,cellsT,ldCells,mkT,lenA,binPV,Env.init,resV,resT,frT,klT,ownT,intT,O.adds,ownA,rowsA,over,wrOk,keysT,keysA,ne_eq,if_true,if_false,ite_self,Nat.reduceLT,Nat.reduceSub,Nat.reduceBEq,Nat.reduceEqDiff,Nat.reduceAdd,Nat.reduceLeDiff,reduceCtorEq,Nat.reduceMul]
        · simp only [F119,et,encT,hx',hlt,hge,hal,hw1,Int.toNat_natCast,List.length_map,List.map_cons,List.map_nil,List.length_cons,List.length_nil,fxa,fxc,fxE,fxL,fxI,nxE,evO,evR,cellsT,ldCells,mkT,lenA,binPV,Env.init,resV,resT,frT,klT,ownT,intT,O.adds,ownA,rowsA,over,wrOk,keysT,keysA,ne_eq,if_true,if_false,ite_self,Nat.reduceLT,Nat.reduceSub,Nat.reduceBEq,Nat.reduceEqDiff,Nat.reduceAdd,Nat.reduceLeDiff,reduceCtorEq,Nat.reduceMul,ex,k3e,k4,k5]
          rw [hσ1]
          rcases k2 with ⟨rfl,hnil⟩ | ⟨d,q,rfl,hXb,hX0,hX1⟩
          · rw [hnil]
            simp only [k1,b8,List.map_nil,fxa,fxc,fxE,fxL,fxI,nxE,evO,evR,cellsT,ldCells,mkT,lenA,binPV,Env.init,resV,resT,frT,klT,ownT,intT,O.adds,ownA,rowsA,over,wrOk,keysT,keysA,ne_eq,if_true,if_false,ite_self,Nat.reduceLT,Nat.reduceSub,Nat.reduceBEq,Nat.reduceEqDiff,Nat.reduceAdd,Nat.reduceLeDiff,reduceCtorEq,Nat.reduceMul]
          · have n8 : ¬ ((d,q) : Key) = (8,2) := by rintro e; rw [e,b8] at hXb; cases hXb
            simp only [k1,b8,hXb,n8,htk,List.length_map,Nat.le_refl,Nat.zero_add,fxa,fxc,fxE,fxL,fxI,nxE,evO,evR,cellsT,ldCells,mkT,lenA,binPV,Env.init,resV,resT,frT,klT,ownT,intT,O.adds,ownA,rowsA,over,wrOk,keysT,keysA,ne_eq,if_true,if_false,ite_self,Nat.reduceLT,Nat.reduceSub,Nat.reduceBEq,Nat.reduceEqDiff,Nat.reduceAdd,Nat.reduceLeDiff,reduceCtorEq,Nat.reduceMul]
end Go.Proofs.Ytkpfjolcmkikeaa.Tm
end
section
set_option linter.unusedSimpArgs false
set_option linter.unusedVariables false
set_option maxHeartbeats 8000000
set_option maxRecDepth 10000
namespace Go.Proofs.Ytkpfjolcmkikeaa.Tm
open Go.Fx
structure SubS (t : T) (lv : Int) (i : Nat) (x : T) : Prop where
  ok : ∀ n : Nt,Room n → ((subG t.k lv i x n).n.ns.length : Int) ≤ n.cap → Fit (subG t.k lv i x n) ∧ eP S 119 [.g (encT n),.g (enc t),.a (.i .i64 (i : Nat)),.a (.i .i64 lv)] = some (.g (encWp (subG t.k lv i x n)))
  len : ∀ n : Nt,n.ns.length ≤ (subG t.k lv i x n).n.ns.length ∧ (subG t.k lv i x n).n.cap = n.cap ∧ (subG t.k lv i x n).l.length ≤ 1000
theorem kidsS_len {t : T} {lv : Int} {a : Nat} : ∀ (l : List T) (i : Nat) (x : Nt × List En),(∀ (j : Nat) (u : T),l[j]? = some u → SubS t lv (i + j) u) → x.1.ns.length ≤ (kidsG l t.k lv a i x).1.ns.length ∧ (kidsG l t.k lv a i x).1.cap = x.1.cap
  | [],i,x,_ => ⟨Nat.le_refl _,rfl⟩
  | u :: r,i,x,h => by
    rw [kidsG_cons]
    have h1 := kidsS_len (a := a) r (i + 1) (kidG t.k lv a i (subG t.k lv i u x.1) x.2) fun j v hj => by
      have := h (j + 1) v hj
      rwa [show i + (j + 1) = i + 1 + j by omega] at this
    have h2 := kid_sum t.k lv a i (subG t.k lv i u x.1) x.2
    have h3 := (h 0 u rfl).len x.1
    rw [Nat.add_zero] at h3
    exact ⟨by omega,h1.2.trans (h2.2.2.1.trans h3.2.1)⟩
theorem partsLoop {t : T} {lv : Int} {a : Nat} (hl : t.l.length ≤ 1000) (hlv : 0 ≤ lv ∧ lv ≤ 60) (ha : a ≤ 4000) (hS : ∀ (i : Nat) (x : T),t.l[i]? = some x → SubS t lv i x)
    {N0 : Nt} (hN0 : Room N0) {R : Nt × List En} (hR : kidsG t.l t.k lv a 0 (N0,[]) = R) (hfit : (R.1.ns.length : Int) ≤ N0.cap)
    {c0 : Nat} {σ0 : St} (hc0 : c0 + 5 ≤ σ0.clk) {xk xn : Int} {xs : List UInt8} {A Z : AV}
    (b4 : σ0.bs (4,c0 + 1) = some (.var [.p (.i .i64 t.k),.p (.i .i64 t.n),.p (.s t.s),.p (.l (t.l.map enc))]))
    (b5 : σ0.bs (5,c0 + 2) = some (.var [.p (.i .i64 xk),.p (.i .i64 lv),.p (.i .i64 xn),.p (.s xs),A,Z]))
    (b9 : σ0.bs (9,c0 + 4) = some (.var [.p (.l (N0.ns.map encN)),.p (.i .i64 N0.cap),.p (.i .i64 0),.p (.i .i64 0),.nil,.p (.i .i64 0)]))
    (e : Env) (e4 : e 4 = .a (.ptr (4,c0 + 1) 0 0)) (e5 : e 5 = .a (.ptr (5,c0 + 2) 0 0)) (e7 : e 7 = .a (.p (.i .i64 (a : Nat)))) (e9 : e 9 = .a (.ptr (9,c0 + 4) 0 0)) (e10 : e 10 = .a (.p (.i .i64 0))) :
    wp S false (.loop F84b0) e σ0 (fun z e' σ' => z = .exit 0 ∧ e' 4 = .a (.ptr (4,c0 + 1) 0 0) ∧ e' 6 = e 6 ∧ e' 7 = .a (.p (.i .i64 (a : Nat))) ∧ e' 9 = .a (.ptr (9,c0 + 4) 0 0) ∧
      (∃ out X,σ'.bs (9,c0 + 4) = some (.var (encW R.1 out X)) ∧ OwnL c0 σ' X R.2) ∧ Keep (c0 + 4) σ0 σ' ∧ Room R.1 ∧ ∀ x ∈ R.2,OkE x) := by
  obtain ⟨u6,hu6⟩ : ∃ z,e 6 = z := ⟨_,rfl⟩
  rw [hu6]
  have hcap0 := hN0.cap
  refine loop_nat t.l.length (fun i e τ => e 4 = .a (.ptr (4,c0 + 1) 0 0) ∧ e 5 = .a (.ptr (5,c0 + 2) 0 0) ∧ e 6 = u6 ∧ e 7 = .a (.p (.i .i64 (a : Nat))) ∧ e 9 = .a (.ptr (9,c0 + 4) 0 0) ∧ e 10 = .a (.p (.i .i64 (i : Nat))) ∧
    ∃ (N : Nt) (E : List En) (out : Pt) (X : AV),τ.bs (9,c0 + 4) = some (.var (encW N out X)) ∧ OwnL c0 τ X E ∧ Room N ∧ N.cap = N0.cap ∧ (∀ x ∈ E,OkE x) ∧ E.length ≤ 1000 * i ∧ kidsG (t.l.drop i) t.k lv a i (N,E) = R ∧ Keep (c0 + 4) σ0 τ) (i0 := 0) (Nat.zero_le _)
    ⟨e4,e5,hu6,e7,e9,e10,N0,[],⟨0,0⟩,.nil,b9,.inl ⟨rfl,rfl⟩,hN0,rfl,by simp,by simp,hR,Keep.refl _ _⟩ ?_ ?_
  · rintro i e τ hi ⟨e4,e5,e6,e7,e9,e10,N,E,out,X,t9,hX,hN,hNc,hE,hEl,hK,hKe⟩
    obtain ⟨x,hx⟩ : ∃ x,t.l[i]? = some x := ⟨_,List.getElem?_eq_getElem hi⟩
    have hSx := hS i x hx
    have t4 := (hKe.bs (4,c0 + 1) (by show c0 + 1 < c0 + 4; omega)).trans b4
    have t5 := (hKe.bs (5,c0 + 2) (by show c0 + 2 < c0 + 4; omega)).trans b5
    have hdr : t.l.drop i = x :: t.l.drop (i + 1) := drop_consT hx
    rw [hdr,kidsG_cons] at hK
    have hkl := kidsS_len (t := t) (lv := lv) (a := a) (t.l.drop (i + 1)) (i + 1) (kidG t.k lv a i (subG t.k lv i x N) E) fun j u hj => by
      rw [List.getElem?_drop] at hj; exact hS _ _ hj
    rw [hK] at hkl
    have hks := kid_sum t.k lv a i (subG t.k lv i x N) E
    have hsl := hSx.len N
    obtain ⟨s1,s2⟩ := hSx.ok N hN (by omega)
    obtain ⟨y,hy⟩ : ∃ y,subG t.k lv i x N = y := ⟨_,rfl⟩
    rw [hy] at hK hkl hks hsl s1 s2
    obtain ⟨sl,hsle⟩ : ∃ sl : Nat,slotF t.k i = sl := ⟨_,rfl⟩
    have hslb : sl ≤ 1001 := by rw [← hsle]; unfold slotF; split <;> omega
    have wo : wf y.out.n ∧ wf y.out.s := by have := s1.out; exact ⟨⟨by omega,by omega⟩,⟨by omega,by omega⟩⟩
    have ws : wf ((a : Nat) : Int) ∧ wf ((sl : Nat) : Int) := ⟨⟨by omega,by omega⟩,⟨by omega,by omega⟩⟩
    have c1 := at_ok (a : Nat) (sl : Nat)
    have c2 := link_ok (p := y.out) (q := ⟨(a : Nat),(sl : Nat)⟩) s1.room.ok wo ws
    have r1 := room_lnk (p := y.out) (q := ⟨(a : Nat),(sl : Nat)⟩) s1.room wo ws
    have l1 := lnk_len y.n y.out ⟨(a : Nat),(sl : Nat)⟩
    have ek : kidG t.k lv a i y E = mergeG lv y.l E (lnk y.n y.out ⟨(a : Nat),(sl : Nat)⟩) := by unfold kidG; rw [hsle]
    rw [ek] at hK hkl hks
    obtain ⟨n1,hn1⟩ : ∃ n1,lnk y.n y.out ⟨(a : Nat),(sl : Nat)⟩ = n1 := ⟨_,rfl⟩
    rw [hn1] at c2 r1 l1 hK hkl hks
    obtain ⟨κ,hκ⟩ : ∃ κ,τ.clk = κ := ⟨_,rfl⟩
    have hkc := hKe.clk
    obtain ⟨τ1,hτ1⟩ : ∃ s,((τ.add 11 (.var [.nil,.p (.i .i64 0),.p (.i .i64 0),.p (.i .i64 0),.nil,.p (.i .i64 0)])).put (11,κ) (.var [.p (.l (y.n.ns.map encN)),.p (.i .i64 y.n.cap),.p (.i .i64 y.out.n),.p (.i .i64 y.out.s),.p (.l (y.l.map encE)),.p (.i .i64 0)])).put (11,κ) (.var [.p (.l (n1.ns.map encN)),.p (.i .i64 n1.cap),.p (.i .i64 y.out.n),.p (.i .i64 y.out.s),.p (.l (y.l.map encE)),.p (.i .i64 0)]) = s := ⟨_,rfl⟩
    have hτ1c : τ1.clk = κ + 1 := by rw [← hτ1]; simp only [put_clk,add_clk,hκ]
    have hτ1k : Keep κ τ τ1 := by rw [← hτ1]; exact (((Keep.refl κ τ).add (by omega) _ _).put (k := (11,κ)) (Nat.le_refl κ) _).put (k := (11,κ)) (Nat.le_refl κ) _
    have hX1 : OwnL c0 τ1 X E := hX.keep (by rw [hκ]; exact hτ1k)
    obtain ⟨v,τ2,m1,X',rfl,m2,m3,m4,m5⟩ := merged_ok (n := n1) (out := y.out) (yl := y.l) (l := E) (lv := lv) r1 hlv (by rw [l1.2]; omega) s1.ends hE (by omega) (c := c0) (σ := τ1) (X := X) (by omega) hX1
    rw [hτ1c] at m3
    have t9' : τ2.bs (9,c0 + 4) = some (.var (encW N out X)) := by
      rw [m3.bs (9,c0 + 4) (by show c0 + 4 < κ + 1; omega),hτ1k.bs (9,c0 + 4) (by show c0 + 4 < κ; omega)]; exact t9
    have t5' : τ2.bs (5,c0 + 2) = some (.var [.p (.i .i64 xk),.p (.i .i64 lv),.p (.i .i64 xn),.p (.s xs),A,Z]) := by
      rw [m3.bs (5,c0 + 2) (by show c0 + 2 < κ + 1; omega),hτ1k.bs (5,c0 + 2) (by show c0 + 2 < κ; omega)]; exact t5
    have hlt : ((i : Nat) : Int) < (t.l.length : Int) := by omega
    have hge : (0 : Int) ≤ ((i : Nat) : Int) := by omega
    have hw := wrap_succ i (by omega)
    have n9 : ¬ ((9,c0 + 4) : Key) = (11,κ) := by intro e; injection e with e _; omega
    have n4 : ¬ ((4,c0 + 1) : Key) = (11,κ) := by intro e; injection e with e _; omega
    have n5 : ¬ ((5,c0 + 2) : Key) = (11,κ) := by intro e; injection e with e _; omega
    have k9 : ¬ c0 + 4 = κ ∧ ¬ c0 + 2 = κ ∧ ¬ c0 + 1 = κ := by omega
    have et := enc_eq t
    unfold encWp at s2
    simp only [encT,encP] at c2
    simp only [et,encT] at s2
    simp only [encW] at t9 t9' m1
    obtain ⟨Pm,hPm⟩ : ∃ P,mergeG lv y.l E n1 = P := ⟨_,rfl⟩
    rw [hPm] at m1 m2 m4 m5 hK hkl hks
    have fin : ∃ (N : Nt) (E : List En) (out : Pt) (X : AV),some (Blk.var (encW Pm.1 y.out X')) = some (Blk.var (encW N out X)) ∧ OwnL c0 (τ2.put (9,c0 + 4) (.var (encW Pm.1 y.out X'))) X E ∧ Room N ∧ N.cap = N0.cap ∧ (∀ x ∈ E,OkE x) ∧ E.length ≤ 1000 * (i + 1) ∧ kidsG (t.l.drop (i + 1)) t.k lv a (i + 1) (N,E) = R ∧ Keep (c0 + 4) σ0 (τ2.put (9,c0 + 4) (.var (encW Pm.1 y.out X'))) := by
      refine ⟨Pm.1,Pm.2,y.out,X',rfl,m2.putv t9' _,m5,by omega,m4,by omega,hK,?_⟩
      exact ((hKe.trans ((hτ1k.mono (by omega)).trans (m3.mono (by omega)))).put (k := (9,c0 + 4)) (Nat.le_refl _) _)
    simp only [encW] at fin
    have hgo : (((i : Nat) : Int) = 0 ∧ t.k ≠ 4 ∧ sl = 0) ∨ (((i : Nat) : Int) = 0 ∧ t.k = 4 ∧ sl = i + 1) ∨ (¬ ((i : Nat) : Int) = 0 ∧ sl = i + 1) := by
      rw [← hsle]; unfold slotF; split <;> omega
    rcases hgo with ⟨h1,h2,rfl⟩ | ⟨h1,h2,rfl⟩ | ⟨h1,rfl⟩
    · have h1t := eq_true h1
      have z0 : ((0 : Nat) : Int) = 0 := rfl
      rw [z0] at c1 c2
      simp only [F84b0,e4,e5,e6,e7,e9,e10,t4,t5,t9,hlt,hw,s2,h1t,h2,c1,c2,hκ,n9,n4,n5,k9,List.length_map,List.length_cons,List.length_nil,List.cons_append,List.nil_append,fxa,fxc,fxE,fxL,fxI,nxE,evO,evR,cellsT,ldCells,mkT,lenA,binPV,Env.init,resV,resT,frT,klT,ownT,intT,O.adds,ownA,rowsA,over,wrOk,keysT,keysA,ne_eq,if_true,if_false,ite_self,Nat.reduceLT,Nat.reduceSub,Nat.reduceBEq,Nat.reduceEqDiff,Nat.reduceAdd,Nat.reduceLeDiff,reduceCtorEq,Nat.reduceMul]
      rw [hτ1]
      simp only [m1,t9',e4,e5,e6,e7,e9,e10,hw,n9,n4,n5,k9,List.length_cons,List.length_nil,encW,fxa,fxc,fxE,fxL,fxI,nxE,evO,evR,cellsT,ldCells,mkT,lenA,binPV,Env.init,resV,resT,frT,klT,ownT,intT,O.adds,ownA,rowsA,over,wrOk,keysT,keysA,ne_eq,if_true,if_false,ite_self,Nat.reduceLT,Nat.reduceSub,Nat.reduceBEq,Nat.reduceEqDiff,Nat.reduceAdd,Nat.reduceLeDiff,reduceCtorEq,Nat.reduceMul]
      exact fin
    · have h1t := eq_true h1
      have h2t := eq_true h2
      simp only [F84b0,e4,e5,e6,e7,e9,e10,t4,t5,t9,hlt,hw,s2,h1t,h2t,not_true,c1,c2,hκ,n9,n4,n5,k9,List.length_map,List.length_cons,List.length_nil,List.cons_append,List.nil_append,fxa,fxc,fxE,fxL,fxI,nxE,evO,evR,cellsT,ldCells,mkT,lenA,binPV,Env.init,resV,resT,frT,klT,ownT,intT,O.adds,ownA,rowsA,over,wrOk,keysT,keysA,ne_eq,if_true,if_false,ite_self,Nat.reduceLT,Nat.reduceSub,Nat.reduceBEq,Nat.reduceEqDiff,Nat.reduceAdd,Nat.reduceLeDiff,reduceCtorEq,Nat.reduceMul]
      rw [hτ1]
      simp only [m1,t9',e4,e5,e6,e7,e9,e10,hw,n9,n4,n5,k9,List.length_cons,List.length_nil,encW,fxa,fxc,fxE,fxL,fxI,nxE,evO,evR,cellsT,ldCells,mkT,lenA,binPV,Env.init,resV,resT,frT,klT,ownT,intT,O.adds,ownA,rowsA,over,wrOk,keysT,keysA,ne_eq,if_true,if_false,ite_self,Nat.reduceLT,Nat.reduceSub,Nat.reduceBEq,Nat.reduceEqDiff,Nat.reduceAdd,Nat.reduceLeDiff,reduceCtorEq,Nat.reduceMul]
      exact fin
    · simp only [F84b0,e4,e5,e6,e7,e9,e10,t4,t5,t9,hlt,hw,s2,h1,c1,c2,hκ,n9,n4,n5,k9,List.length_map,List.length_cons,List.length_nil,List.cons_append,List.nil_append,fxa,fxc,fxE,fxL,fxI,nxE,evO,evR,cellsT,ldCells,mkT,lenA,binPV,Env.init,resV,resT,frT,klT,ownT,intT,O.adds,ownA,rowsA,over,wrOk,keysT,keysA,ne_eq,if_true,if_false,ite_self,Nat.reduceLT,Nat.reduceSub,Nat.reduceBEq,Nat.reduceEqDiff,Nat.reduceAdd,Nat.reduceLeDiff,reduceCtorEq,Nat.reduceMul]
      rw [hτ1]
      simp only [m1,t9',e4,e5,e6,e7,e9,e10,hw,n9,n4,n5,k9,List.length_cons,List.length_nil,encW,fxa,fxc,fxE,fxL,fxI,nxE,evO,evR,cellsT,ldCells,mkT,lenA,binPV,Env.init,resV,resT,frT,klT,ownT,intT,O.adds,ownA,rowsA,over,wrOk,keysT,keysA,ne_eq,if_true,if_false,ite_self,Nat.reduceLT,Nat.reduceSub,Nat.reduceBEq,Nat.reduceEqDiff,Nat.reduceAdd,Nat.reduceLeDiff,reduceCtorEq,Nat.reduceMul]
      exact fin
  · rintro e τ ⟨e4,e5,e6,e7,e9,e10,N,E,out,X,t9,hX,hN,hNc,hE,hEl,hK,hKe⟩
    have t4 := (hKe.bs (4,c0 + 1) (by show c0 + 1 < c0 + 4; omega)).trans b4
    have hlt : ¬ ((t.l.length : Nat) : Int) < (t.l.length : Int) := by omega
    rw [List.drop_length,kidsG_nil] at hK
    subst hK
    simp only [F84b0,e4,e5,e6,e7,e9,e10,t4,hlt,List.length_map,fxa,fxc,fxE,fxL,fxI,nxE,evO,evR,cellsT,ldCells,mkT,lenA,binPV,Env.init,resV,resT,frT,klT,ownT,intT,O.adds,ownA,rowsA,over,wrOk,keysT,keysA,ne_eq,if_true,if_false,ite_self,Nat.reduceLT,Nat.reduceSub,Nat.reduceBEq,Nat.reduceEqDiff,Nat.reduceAdd,Nat.reduceLeDiff,reduceCtorEq,Nat.reduceMul]
    exact ⟨⟨out,X,t9,hX⟩,hKe,hN,hE⟩
theorem Keep.adds4 {c : Nat} {σ : St} (hc : c ≤ σ.clk) (d1 d2 d3 d4 : Nat) (x1 x2 x3 x4 : Blk) : Keep c σ ((((σ.add d1 x1).add d2 x2).add d3 x3).add d4 x4) :=
  (Keep.adds hc d1 d2 d3 x1 x2 x3).add (by simp only [add_clk]; omega) _ _
theorem parts_ok {t : T} {lv : Int} {m : Nt} {x : Nd} (hl : t.l.length ≤ 1000) (hlv : 0 ≤ lv ∧ lv ≤ 60) (hm : Room m) (hx : x.Ok) (hmay : x.may) (hk : ¬ x.k < 2) (hxl : x.lv = lv) (hS : ∀ (i : Nat) (u : T),t.l[i]? = some u → SubS t lv i u)
    (hfit : ((kidsG t.l t.k lv m.ns.length 0 (addN m x,[])).1.ns.length : Int) ≤ m.cap) {c : Nat} {σ : St} (hc : c ≤ σ.clk) {A Z : AV}
    (hA : (A = .nil ∧ x.al = [] ∧ Z = .nil ∧ x.to = []) ∨ (A = .nil ∧ x.al = [] ∧ Z = .p (.l (x.to.map encP))) ∨ (∃ d q,A = .own (d,q) 0 x.al.length ∧ σ.bs (d,q) = some (.row 2 79 (x.al.map encA)) ∧ c ≤ q ∧ q < σ.clk ∧ Z = .nil ∧ x.to = [])) :
    ∃ v σ',eS S (.f 84) [.g ((encT m).map .p),.g ((enc t).map .p),.g [.p (.i .i64 x.k),.p (.i .i64 x.lv),.p (.i .i64 x.n),.p (.s x.s),A,Z]] σ = some (v,σ') ∧
      ∃ X,v = .g (encW (kidsG t.l t.k lv m.ns.length 0 (addN m x,[])).1 ⟨(m.ns.length : Nat),(outF t.k : Nat)⟩ X) ∧ OwnL c σ' X (kidsG t.l t.k lv m.ns.length 0 (addN m x,[])).2 ∧ Keep c σ σ' ∧
        Room (kidsG t.l t.k lv m.ns.length 0 (addN m x,[])).1 ∧ ∀ z ∈ (kidsG t.l t.k lv m.ns.length 0 (addN m x,[])).2,OkE z := by
  refine x_fnS (fc := F84) rfl rfl ?_
  obtain ⟨c0,hc0⟩ : ∃ c0,σ.clk = c0 := ⟨_,rfl⟩
  rw [hc0] at hc
  obtain ⟨R,hR⟩ : ∃ R,kidsG t.l t.k lv m.ns.length 0 (addN m x,[]) = R := ⟨_,rfl⟩
  have hcap := hm.cap
  have kl := kidsS_len (t := t) (lv := lv) (a := m.ns.length) t.l 0 (addN m x,[]) fun j u hj => by rw [Nat.zero_add]; exact hS j u hj
  rw [addN_len,addN_cap] at kl
  rw [hR] at hfit kl ⊢
  have hrm : ((m.ns.length + 1 : Nat) : Int) ≤ m.cap := by omega
  have hm1 := room_add hm hx (by omega) hrm
  have c1 := made_ok (x := x) hm hx hk hmay (by omega) hrm
  have a1 := at_ok (m.ns.length : Nat) 1
  have a0 := at_ok (m.ns.length : Nat) 0
  obtain ⟨a,ha⟩ : ∃ a,m.ns.length = a := ⟨_,rfl⟩
  rw [ha] at c1 a1 a0 hR kl ⊢
  have ha4 : a ≤ 4000 := by omega
  have et := enc_eq t
  have n36 : ¬ c0 = c0 + 3 ∧ ¬ c0 + 1 = c0 ∧ ¬ c0 + 2 = c0 ∧ ¬ c0 + 3 = c0 ∧ ¬ c0 + 4 = c0 ∧ ¬ c0 = c0 + 4 := by omega
  have loop : ∀ (σ0 : St) (e : Env),Keep c σ σ0 → c0 + 5 ≤ σ0.clk → σ0.bs (4,c0 + 1) = some (.var [.p (.i .i64 t.k),.p (.i .i64 t.n),.p (.s t.s),.p (.l (t.l.map enc))]) →
      σ0.bs (5,c0 + 2) = some (.var [.p (.i .i64 x.k),.p (.i .i64 lv),.p (.i .i64 x.n),.p (.s x.s),A,Z]) → σ0.bs (6,c0 + 3) = some (.var [.nil,.p (.i .i64 0),.p (.i .i64 0),.p (.i .i64 0),.nil,.p (.i .i64 0)]) →
      σ0.bs (9,c0 + 4) = some (.var [.p (.l ((addN m x).ns.map encN)),.p (.i .i64 (addN m x).cap),.p (.i .i64 0),.p (.i .i64 0),.nil,.p (.i .i64 0)]) →
      e 4 = .a (.ptr (4,c0 + 1) 0 0) → e 5 = .a (.ptr (5,c0 + 2) 0 0) → e 6 = .a (.ptr (6,c0 + 3) 0 0) → e 7 = .a (.p (.i .i64 (a : Nat))) → e 9 = .a (.ptr (9,c0 + 4) 0 0) → e 10 = .a (.p (.i .i64 0)) →
      ∀ Q : Ex → Env → St → Prop,(∀ (e' : Env) (τ : St) (out : Pt) (X : AV),e' 4 = .a (.ptr (4,c0 + 1) 0 0) → e' 6 = .a (.ptr (6,c0 + 3) 0 0) → e' 7 = .a (.p (.i .i64 (a : Nat))) → e' 9 = .a (.ptr (9,c0 + 4) 0 0) → τ.bs (9,c0 + 4) = some (.var (encW R.1 out X)) → OwnL c τ X R.2 → Keep c σ τ →
        τ.bs (4,c0 + 1) = some (.var [.p (.i .i64 t.k),.p (.i .i64 t.n),.p (.s t.s),.p (.l (t.l.map enc))]) → τ.bs (6,c0 + 3) = some (.var [.nil,.p (.i .i64 0),.p (.i .i64 0),.p (.i .i64 0),.nil,.p (.i .i64 0)]) → (Room R.1 ∧ ∀ x ∈ R.2,OkE x) → Q (.exit 0) e' τ) →
      wp S false (.loop F84b0) e σ0 Q := by
    intro σ0 e hK hcl b4 b5 b6 b9 e4 e5 e6 e7 e9 e10 Q hQ
    refine Go.Fx.wp_mono (partsLoop (a := a) hl hlv ha4 hS hm1 hR (by rw [addN_cap]; exact hfit) hcl b4 b5 b9 e e4 e5 e7 e9 e10) ?_
    rintro z e' τ ⟨rfl,f4,f6,f7,f9,⟨out,X,g9,gX⟩,gK,gR,gE⟩
    exact hQ e' τ out X f4 (f6.trans e6) f7 f9 g9 (gX.mono hc) (hK.trans (gK.mono (by omega))) ((gK.bs (4,c0 + 1) (by show c0 + 1 < c0 + 4; omega)).trans b4) ((gK.bs (6,c0 + 3) (by show c0 + 3 < c0 + 4; omega)).trans b6) ⟨gR,gE⟩
  rcases hA with ⟨rfl,hal,rfl,hto⟩ | ⟨rfl,hal,rfl⟩ | ⟨d,q,rfl,hAb,hq0,hq1,rfl,hto⟩
  · simp only [encT,encN,hal,hto,hxl,List.map_nil] at c1
    simp only [F84,hc0,et,encT,c1,n36,hxl,List.map_cons,List.map_nil,Nat.add_assoc,Nat.reduceAdd,List.length_cons,List.length_nil,List.cons_append,List.nil_append,fxa,fxc,fxE,fxL,fxI,nxE,evO,evR,cellsT,ldCells,mkT,lenA,binPV,Env.init,resV,resT,frT,klT,ownT,intT,O.adds,ownA,rowsA,over,wrOk,keysT,keysA,ne_eq,if_true,if_false,ite_self,Nat.reduceLT,Nat.reduceSub,Nat.reduceBEq,Nat.reduceEqDiff,Nat.reduceAdd,Nat.reduceLeDiff,reduceCtorEq,Nat.reduceMul]
    refine loop _ _ ?_ ?_ ?_ ?_ ?_ ?_ ?_ ?_ ?_ ?_ ?_ ?_ _ fun e' τ out X f4 f6 f7 f9 g9 gX gK g4 g6 gR => ?_
    · exact (((Keep.adds4 (by omega) 3 4 5 6 _ _ _ _).put (k := (3,c0)) (by show c ≤ c0; omega) _).add (by show c ≤ σ.clk + 1 + 1 + 1 + 1; omega) 9 _).put (k := (9,c0 + 4)) (by show c ≤ c0 + 4; omega) _
    · show c0 + 5 ≤ σ.clk + 1 + 1 + 1 + 1 + 1; omega
    · simp only [put_bs,add_bs,kill_bs,put_clk,add_clk,kill_clk,hc0,Prod.mk.injEq,Nat.add_assoc,Nat.reduceAdd,Nat.reduceEqDiff,false_and,and_false,if_false,and_self,if_true,n36]
    · simp only [put_bs,add_bs,kill_bs,put_clk,add_clk,kill_clk,hc0,Prod.mk.injEq,Nat.add_assoc,Nat.reduceAdd,Nat.reduceEqDiff,false_and,and_false,if_false,and_self,if_true,n36]
    · simp only [put_bs,add_bs,kill_bs,put_clk,add_clk,kill_clk,hc0,Prod.mk.injEq,Nat.add_assoc,Nat.reduceAdd,Nat.reduceEqDiff,false_and,and_false,if_false,and_self,if_true,n36]
    · simp only [put_bs,add_bs,kill_bs,put_clk,add_clk,kill_clk,hc0,Prod.mk.injEq,Nat.add_assoc,Nat.reduceAdd,Nat.reduceEqDiff,false_and,and_false,if_false,and_self,if_true,n36]
    · simp only [fxa,fxc,fxE,fxL,fxI,nxE,evO,evR,cellsT,ldCells,mkT,lenA,binPV,Env.init,resV,resT,frT,klT,ownT,intT,O.adds,ownA,rowsA,over,wrOk,keysT,keysA,ne_eq,if_true,if_false,ite_self,Nat.reduceLT,Nat.reduceSub,Nat.reduceBEq,Nat.reduceEqDiff,Nat.reduceAdd,Nat.reduceLeDiff,reduceCtorEq,Nat.reduceMul]
    · simp only [fxa,fxc,fxE,fxL,fxI,nxE,evO,evR,cellsT,ldCells,mkT,lenA,binPV,Env.init,resV,resT,frT,klT,ownT,intT,O.adds,ownA,rowsA,over,wrOk,keysT,keysA,ne_eq,if_true,if_false,ite_self,Nat.reduceLT,Nat.reduceSub,Nat.reduceBEq,Nat.reduceEqDiff,Nat.reduceAdd,Nat.reduceLeDiff,reduceCtorEq,Nat.reduceMul]
    · simp only [fxa,fxc,fxE,fxL,fxI,nxE,evO,evR,cellsT,ldCells,mkT,lenA,binPV,Env.init,resV,resT,frT,klT,ownT,intT,O.adds,ownA,rowsA,over,wrOk,keysT,keysA,ne_eq,if_true,if_false,ite_self,Nat.reduceLT,Nat.reduceSub,Nat.reduceBEq,Nat.reduceEqDiff,Nat.reduceAdd,Nat.reduceLeDiff,reduceCtorEq,Nat.reduceMul]
    · simp only [fxa,fxc,fxE,fxL,fxI,nxE,evO,evR,cellsT,ldCells,mkT,lenA,binPV,Env.init,resV,resT,frT,klT,ownT,intT,O.adds,ownA,rowsA,over,wrOk,keysT,keysA,ne_eq,if_true,if_false,ite_self,Nat.reduceLT,Nat.reduceSub,Nat.reduceBEq,Nat.reduceEqDiff,Nat.reduceAdd,Nat.reduceLeDiff,reduceCtorEq,Nat.reduceMul]
    · simp only [fxa,fxc,fxE,fxL,fxI,nxE,evO,evR,cellsT,ldCells,mkT,lenA,binPV,Env.init,resV,resT,frT,klT,ownT,intT,O.adds,ownA,rowsA,over,wrOk,keysT,keysA,ne_eq,if_true,if_false,ite_self,Nat.reduceLT,Nat.reduceSub,Nat.reduceBEq,Nat.reduceEqDiff,Nat.reduceAdd,Nat.reduceLeDiff,reduceCtorEq,Nat.reduceMul]
    · simp only [fxa,fxc,fxE,fxL,fxI,nxE,evO,evR,cellsT,ldCells,mkT,lenA,binPV,Env.init,resV,resT,frT,klT,ownT,intT,O.adds,ownA,rowsA,over,wrOk,keysT,keysA,ne_eq,if_true,if_false,ite_self,Nat.reduceLT,Nat.reduceSub,Nat.reduceBEq,Nat.reduceEqDiff,Nat.reduceAdd,Nat.reduceLeDiff,reduceCtorEq,Nat.reduceMul]
    simp only [encW] at g9
    have g6' : ∀ b,(τ.put (9,c0 + 4) b).bs (6,c0 + 3) = some (.var [.nil,.p (.i .i64 0),.p (.i .i64 0),.p (.i .i64 0),.nil,.p (.i .i64 0)]) := fun b => by
      have : ¬ ((6,c0 + 3) : Key) = (9,c0 + 4) := by intro e; injection e with e _; omega
      simp only [put_bs,this,if_false]; exact g6
    by_cases k4 : t.k = 4
    · have o4 : ((outF t.k : Nat) : Int) = 0 := by unfold outF; rw [if_pos k4]; rfl
      have k4t := eq_true k4
      have g9' : ∀ w,(τ.put (9,c0 + 4) (.var w)).bs (9,c0 + 4) = some (.var w) := fun w => by simp only [put_bs,if_true]
      have g6'' : ∀ b b',((τ.put (9,c0 + 4) b).put (9,c0 + 4) b').bs (6,c0 + 3) = some (.var [.nil,.p (.i .i64 0),.p (.i .i64 0),.p (.i .i64 0),.nil,.p (.i .i64 0)]) := fun b b' => by
        have : ¬ ((6,c0 + 3) : Key) = (9,c0 + 4) := by intro e; injection e with e _; omega
        simp only [put_bs,this,if_false]; exact g6
      simp only [f4,f6,f7,f9,g4,g6,g9,a1,a0,k4t,o4,encW,Nat.reduceEqDiff,fxa,fxc,fxE,fxL,fxI,nxE,evO,evR,cellsT,ldCells,mkT,lenA,binPV,Env.init,resV,resT,frT,klT,ownT,intT,O.adds,ownA,rowsA,over,wrOk,keysT,keysA,ne_eq,if_true,if_false,ite_self,Nat.reduceLT,Nat.reduceSub,Nat.reduceBEq,Nat.reduceEqDiff,Nat.reduceAdd,Nat.reduceLeDiff,reduceCtorEq,Nat.reduceMul]
      exact ⟨X,rfl,((gX.putv g9 _).putv (g9' _) _).putv (g6'' _ _) _,((gK.put (k := (9,c0 + 4)) (by show c ≤ c0 + 4; omega) _).put (k := (9,c0 + 4)) (by show c ≤ c0 + 4; omega) _).put (k := (6,c0 + 3)) (by show c ≤ c0 + 3; omega) _,gR⟩
    · have o4 : ((outF t.k : Nat) : Int) = 1 := by unfold outF; rw [if_neg k4]; rfl
      simp only [f4,f6,f7,f9,g4,g6,g9,a1,a0,k4,o4,encW,Nat.reduceEqDiff,fxa,fxc,fxE,fxL,fxI,nxE,evO,evR,cellsT,ldCells,mkT,lenA,binPV,Env.init,resV,resT,frT,klT,ownT,intT,O.adds,ownA,rowsA,over,wrOk,keysT,keysA,ne_eq,if_true,if_false,ite_self,Nat.reduceLT,Nat.reduceSub,Nat.reduceBEq,Nat.reduceEqDiff,Nat.reduceAdd,Nat.reduceLeDiff,reduceCtorEq,Nat.reduceMul]
      exact ⟨X,rfl,(gX.putv g9 _).putv (g6' _) _,(gK.put (k := (9,c0 + 4)) (by show c ≤ c0 + 4; omega) _).put (k := (6,c0 + 3)) (by show c ≤ c0 + 3; omega) _,gR⟩
  · simp only [encT,encN,hal,hxl,List.map_nil] at c1
    simp only [F84,hc0,et,encT,c1,n36,hxl,List.map_cons,List.map_nil,Nat.add_assoc,Nat.reduceAdd,List.length_cons,List.length_nil,List.cons_append,List.nil_append,fxa,fxc,fxE,fxL,fxI,nxE,evO,evR,cellsT,ldCells,mkT,lenA,binPV,Env.init,resV,resT,frT,klT,ownT,intT,O.adds,ownA,rowsA,over,wrOk,keysT,keysA,ne_eq,if_true,if_false,ite_self,Nat.reduceLT,Nat.reduceSub,Nat.reduceBEq,Nat.reduceEqDiff,Nat.reduceAdd,Nat.reduceLeDiff,reduceCtorEq,Nat.reduceMul]
    refine loop _ _ ?_ ?_ ?_ ?_ ?_ ?_ ?_ ?_ ?_ ?_ ?_ ?_ _ fun e' τ out X f4 f6 f7 f9 g9 gX gK g4 g6 gR => ?_
    · exact (((Keep.adds4 (by omega) 3 4 5 6 _ _ _ _).put (k := (3,c0)) (by show c ≤ c0; omega) _).add (by show c ≤ σ.clk + 1 + 1 + 1 + 1; omega) 9 _).put (k := (9,c0 + 4)) (by show c ≤ c0 + 4; omega) _
    · show c0 + 5 ≤ σ.clk + 1 + 1 + 1 + 1 + 1; omega
    · simp only [put_bs,add_bs,kill_bs,put_clk,add_clk,kill_clk,hc0,Prod.mk.injEq,Nat.add_assoc,Nat.reduceAdd,Nat.reduceEqDiff,false_and,and_false,if_false,and_self,if_true,n36]
    · simp only [put_bs,add_bs,kill_bs,put_clk,add_clk,kill_clk,hc0,Prod.mk.injEq,Nat.add_assoc,Nat.reduceAdd,Nat.reduceEqDiff,false_and,and_false,if_false,and_self,if_true,n36]
    · simp only [put_bs,add_bs,kill_bs,put_clk,add_clk,kill_clk,hc0,Prod.mk.injEq,Nat.add_assoc,Nat.reduceAdd,Nat.reduceEqDiff,false_and,and_false,if_false,and_self,if_true,n36]
    · simp only [put_bs,add_bs,kill_bs,put_clk,add_clk,kill_clk,hc0,Prod.mk.injEq,Nat.add_assoc,Nat.reduceAdd,Nat.reduceEqDiff,false_and,and_false,if_false,and_self,if_true,n36]
    · simp only [fxa,fxc,fxE,fxL,fxI,nxE,evO,evR,cellsT,ldCells,mkT,lenA,binPV,Env.init,resV,resT,frT,klT,ownT,intT,O.adds,ownA,rowsA,over,wrOk,keysT,keysA,ne_eq,if_true,if_false,ite_self,Nat.reduceLT,Nat.reduceSub,Nat.reduceBEq,Nat.reduceEqDiff,Nat.reduceAdd,Nat.reduceLeDiff,reduceCtorEq,Nat.reduceMul]
    · simp only [fxa,fxc,fxE,fxL,fxI,nxE,evO,evR,cellsT,ldCells,mkT,lenA,binPV,Env.init,resV,resT,frT,klT,ownT,intT,O.adds,ownA,rowsA,over,wrOk,keysT,keysA,ne_eq,if_true,if_false,ite_self,Nat.reduceLT,Nat.reduceSub,Nat.reduceBEq,Nat.reduceEqDiff,Nat.reduceAdd,Nat.reduceLeDiff,reduceCtorEq,Nat.reduceMul]
    · simp only [fxa,fxc,fxE,fxL,fxI,nxE,evO,evR,cellsT,ldCells,mkT,lenA,binPV,Env.init,resV,resT,frT,klT,ownT,intT,O.adds,ownA,rowsA,over,wrOk,keysT,keysA,ne_eq,if_true,if_false,ite_self,Nat.reduceLT,Nat.reduceSub,Nat.reduceBEq,Nat.reduceEqDiff,Nat.reduceAdd,Nat.reduceLeDiff,reduceCtorEq,Nat.reduceMul]
    · simp only [fxa,fxc,fxE,fxL,fxI,nxE,evO,evR,cellsT,ldCells,mkT,lenA,binPV,Env.init,resV,resT,frT,klT,ownT,intT,O.adds,ownA,rowsA,over,wrOk,keysT,keysA,ne_eq,if_true,if_false,ite_self,Nat.reduceLT,Nat.reduceSub,Nat.reduceBEq,Nat.reduceEqDiff,Nat.reduceAdd,Nat.reduceLeDiff,reduceCtorEq,Nat.reduceMul]
    · simp only [fxa,fxc,fxE,fxL,fxI,nxE,evO,evR,cellsT,ldCells,mkT,lenA,binPV,Env.init,resV,resT,frT,klT,ownT,intT,O.adds,ownA,rowsA,over,wrOk,keysT,keysA,ne_eq,if_true,if_false,ite_self,Nat.reduceLT,Nat.reduceSub,Nat.reduceBEq,Nat.reduceEqDiff,Nat.reduceAdd,Nat.reduceLeDiff,reduceCtorEq,Nat.reduceMul]
    · simp only [fxa,fxc,fxE,fxL,fxI,nxE,evO,evR,cellsT,ldCells,mkT,lenA,binPV,Env.init,resV,resT,frT,klT,ownT,intT,O.adds,ownA,rowsA,over,wrOk,keysT,keysA,ne_eq,if_true,if_false,ite_self,Nat.reduceLT,Nat.reduceSub,Nat.reduceBEq,Nat.reduceEqDiff,Nat.reduceAdd,Nat.reduceLeDiff,reduceCtorEq,Nat.reduceMul]
    simp only [encW] at g9
    have g6' : ∀ b,(τ.put (9,c0 + 4) b).bs (6,c0 + 3) = some (.var [.nil,.p (.i .i64 0),.p (.i .i64 0),.p (.i .i64 0),.nil,.p (.i .i64 0)]) := fun b => by
      have : ¬ ((6,c0 + 3) : Key) = (9,c0 + 4) := by intro e; injection e with e _; omega
      simp only [put_bs,this,if_false]; exact g6
    by_cases k4 : t.k = 4
    · have o4 : ((outF t.k : Nat) : Int) = 0 := by unfold outF; rw [if_pos k4]; rfl
      have k4t := eq_true k4
      have g9' : ∀ w,(τ.put (9,c0 + 4) (.var w)).bs (9,c0 + 4) = some (.var w) := fun w => by simp only [put_bs,if_true]
      have g6'' : ∀ b b',((τ.put (9,c0 + 4) b).put (9,c0 + 4) b').bs (6,c0 + 3) = some (.var [.nil,.p (.i .i64 0),.p (.i .i64 0),.p (.i .i64 0),.nil,.p (.i .i64 0)]) := fun b b' => by
        have : ¬ ((6,c0 + 3) : Key) = (9,c0 + 4) := by intro e; injection e with e _; omega
        simp only [put_bs,this,if_false]; exact g6
      simp only [f4,f6,f7,f9,g4,g6,g9,a1,a0,k4t,o4,encW,Nat.reduceEqDiff,fxa,fxc,fxE,fxL,fxI,nxE,evO,evR,cellsT,ldCells,mkT,lenA,binPV,Env.init,resV,resT,frT,klT,ownT,intT,O.adds,ownA,rowsA,over,wrOk,keysT,keysA,ne_eq,if_true,if_false,ite_self,Nat.reduceLT,Nat.reduceSub,Nat.reduceBEq,Nat.reduceEqDiff,Nat.reduceAdd,Nat.reduceLeDiff,reduceCtorEq,Nat.reduceMul]
      exact ⟨X,rfl,((gX.putv g9 _).putv (g9' _) _).putv (g6'' _ _) _,((gK.put (k := (9,c0 + 4)) (by show c ≤ c0 + 4; omega) _).put (k := (9,c0 + 4)) (by show c ≤ c0 + 4; omega) _).put (k := (6,c0 + 3)) (by show c ≤ c0 + 3; omega) _,gR⟩
    · have o4 : ((outF t.k : Nat) : Int) = 1 := by unfold outF; rw [if_neg k4]; rfl
      simp only [f4,f6,f7,f9,g4,g6,g9,a1,a0,k4,o4,encW,Nat.reduceEqDiff,fxa,fxc,fxE,fxL,fxI,nxE,evO,evR,cellsT,ldCells,mkT,lenA,binPV,Env.init,resV,resT,frT,klT,ownT,intT,O.adds,ownA,rowsA,over,wrOk,keysT,keysA,ne_eq,if_true,if_false,ite_self,Nat.reduceLT,Nat.reduceSub,Nat.reduceBEq,Nat.reduceEqDiff,Nat.reduceAdd,Nat.reduceLeDiff,reduceCtorEq,Nat.reduceMul]
      exact ⟨X,rfl,(gX.putv g9 _).putv (g6' _) _,(gK.put (k := (9,c0 + 4)) (by show c ≤ c0 + 4; omega) _).put (k := (6,c0 + 3)) (by show c ≤ c0 + 3; omega) _,gR⟩
  · simp only [encT,encN,hto,hxl,List.map_nil] at c1
    have qn : ¬ c0 = q ∧ ¬ c0 + 1 = q ∧ ¬ c0 + 2 = q ∧ ¬ c0 + 3 = q ∧ ¬ c0 + 4 = q ∧ ¬ q = c0 ∧ ¬ q = c0 + 1 ∧ ¬ q = c0 + 2 ∧ ¬ q = c0 + 3 := by omega
    have hfl : ∀ u v w z,(PT.t [(true,[PV.l u,PV.i .i64 v]),(false,[PV.i .i64 w]),(false,[PV.i .i64 z])]).flat = false := fun _ _ _ _ => rfl
    have htk : List.take x.al.length (x.al.map encA) = x.al.map encA := List.take_of_length_le (by simp)
    simp only [F84,hc0,et,encT,c1,n36,hxl,hAb,qn,htk,hfl,Bool.false_eq_true,List.length_map,Nat.le_refl,Nat.zero_add,List.map_cons,List.map_nil,Nat.add_assoc,Nat.reduceAdd,List.length_cons,List.length_nil,List.cons_append,List.nil_append,fxa,fxc,fxE,fxL,fxI,nxE,evO,evR,cellsT,ldCells,mkT,lenA,binPV,Env.init,resV,resT,frT,klT,ownT,intT,O.adds,ownA,rowsA,over,wrOk,keysT,keysA,ne_eq,if_true,if_false,ite_self,Nat.reduceLT,Nat.reduceSub,Nat.reduceBEq,Nat.reduceEqDiff,Nat.reduceAdd,Nat.reduceLeDiff,reduceCtorEq,Nat.reduceMul]
    refine loop _ _ ?_ ?_ ?_ ?_ ?_ ?_ ?_ ?_ ?_ ?_ ?_ ?_ _ fun e' τ out X f4 f6 f7 f9 g9 gX gK g4 g6 gR => ?_
    · exact ((((Keep.adds4 (by omega) 3 4 5 6 _ _ _ _).kill (k := (d,q)) hq0).put (k := (3,c0)) (by show c ≤ c0; omega) _).add (by show c ≤ σ.clk + 1 + 1 + 1 + 1; omega) 9 _).put (k := (9,c0 + 4)) (by show c ≤ c0 + 4; omega) _
    · show c0 + 5 ≤ σ.clk + 1 + 1 + 1 + 1 + 1; omega
    · simp only [put_bs,add_bs,kill_bs,put_clk,add_clk,kill_clk,hc0,Prod.mk.injEq,Nat.add_assoc,Nat.reduceAdd,Nat.reduceEqDiff,false_and,and_false,if_false,and_self,if_true,n36,qn]
    · simp only [put_bs,add_bs,kill_bs,put_clk,add_clk,kill_clk,hc0,Prod.mk.injEq,Nat.add_assoc,Nat.reduceAdd,Nat.reduceEqDiff,false_and,and_false,if_false,and_self,if_true,n36,qn]
    · simp only [put_bs,add_bs,kill_bs,put_clk,add_clk,kill_clk,hc0,Prod.mk.injEq,Nat.add_assoc,Nat.reduceAdd,Nat.reduceEqDiff,false_and,and_false,if_false,and_self,if_true,n36,qn]
    · simp only [put_bs,add_bs,kill_bs,put_clk,add_clk,kill_clk,hc0,Prod.mk.injEq,Nat.add_assoc,Nat.reduceAdd,Nat.reduceEqDiff,false_and,and_false,if_false,and_self,if_true,n36,qn]
    · simp only [fxa,fxc,fxE,fxL,fxI,nxE,evO,evR,cellsT,ldCells,mkT,lenA,binPV,Env.init,resV,resT,frT,klT,ownT,intT,O.adds,ownA,rowsA,over,wrOk,keysT,keysA,ne_eq,if_true,if_false,ite_self,Nat.reduceLT,Nat.reduceSub,Nat.reduceBEq,Nat.reduceEqDiff,Nat.reduceAdd,Nat.reduceLeDiff,reduceCtorEq,Nat.reduceMul]
    · simp only [fxa,fxc,fxE,fxL,fxI,nxE,evO,evR,cellsT,ldCells,mkT,lenA,binPV,Env.init,resV,resT,frT,klT,ownT,intT,O.adds,ownA,rowsA,over,wrOk,keysT,keysA,ne_eq,if_true,if_false,ite_self,Nat.reduceLT,Nat.reduceSub,Nat.reduceBEq,Nat.reduceEqDiff,Nat.reduceAdd,Nat.reduceLeDiff,reduceCtorEq,Nat.reduceMul]
    · simp only [fxa,fxc,fxE,fxL,fxI,nxE,evO,evR,cellsT,ldCells,mkT,lenA,binPV,Env.init,resV,resT,frT,klT,ownT,intT,O.adds,ownA,rowsA,over,wrOk,keysT,keysA,ne_eq,if_true,if_false,ite_self,Nat.reduceLT,Nat.reduceSub,Nat.reduceBEq,Nat.reduceEqDiff,Nat.reduceAdd,Nat.reduceLeDiff,reduceCtorEq,Nat.reduceMul]
    · simp only [fxa,fxc,fxE,fxL,fxI,nxE,evO,evR,cellsT,ldCells,mkT,lenA,binPV,Env.init,resV,resT,frT,klT,ownT,intT,O.adds,ownA,rowsA,over,wrOk,keysT,keysA,ne_eq,if_true,if_false,ite_self,Nat.reduceLT,Nat.reduceSub,Nat.reduceBEq,Nat.reduceEqDiff,Nat.reduceAdd,Nat.reduceLeDiff,reduceCtorEq,Nat.reduceMul]
    · simp only [fxa,fxc,fxE,fxL,fxI,nxE,evO,evR,cellsT,ldCells,mkT,lenA,binPV,Env.init,resV,resT,frT,klT,ownT,intT,O.adds,ownA,rowsA,over,wrOk,keysT,keysA,ne_eq,if_true,if_false,ite_self,Nat.reduceLT,Nat.reduceSub,Nat.reduceBEq,Nat.reduceEqDiff,Nat.reduceAdd,Nat.reduceLeDiff,reduceCtorEq,Nat.reduceMul]
    · simp only [fxa,fxc,fxE,fxL,fxI,nxE,evO,evR,cellsT,ldCells,mkT,lenA,binPV,Env.init,resV,resT,frT,klT,ownT,intT,O.adds,ownA,rowsA,over,wrOk,keysT,keysA,ne_eq,if_true,if_false,ite_self,Nat.reduceLT,Nat.reduceSub,Nat.reduceBEq,Nat.reduceEqDiff,Nat.reduceAdd,Nat.reduceLeDiff,reduceCtorEq,Nat.reduceMul]
    simp only [encW] at g9
    have g6' : ∀ b,(τ.put (9,c0 + 4) b).bs (6,c0 + 3) = some (.var [.nil,.p (.i .i64 0),.p (.i .i64 0),.p (.i .i64 0),.nil,.p (.i .i64 0)]) := fun b => by
      have : ¬ ((6,c0 + 3) : Key) = (9,c0 + 4) := by intro e; injection e with e _; omega
      simp only [put_bs,this,if_false]; exact g6
    by_cases k4 : t.k = 4
    · have o4 : ((outF t.k : Nat) : Int) = 0 := by unfold outF; rw [if_pos k4]; rfl
      have k4t := eq_true k4
      have g9' : ∀ w,(τ.put (9,c0 + 4) (.var w)).bs (9,c0 + 4) = some (.var w) := fun w => by simp only [put_bs,if_true]
      have g6'' : ∀ b b',((τ.put (9,c0 + 4) b).put (9,c0 + 4) b').bs (6,c0 + 3) = some (.var [.nil,.p (.i .i64 0),.p (.i .i64 0),.p (.i .i64 0),.nil,.p (.i .i64 0)]) := fun b b' => by
        have : ¬ ((6,c0 + 3) : Key) = (9,c0 + 4) := by intro e; injection e with e _; omega
        simp only [put_bs,this,if_false]; exact g6
      simp only [f4,f6,f7,f9,g4,g6,g9,a1,a0,k4t,o4,encW,Nat.reduceEqDiff,fxa,fxc,fxE,fxL,fxI,nxE,evO,evR,cellsT,ldCells,mkT,lenA,binPV,Env.init,resV,resT,frT,klT,ownT,intT,O.adds,ownA,rowsA,over,wrOk,keysT,keysA,ne_eq,if_true,if_false,ite_self,Nat.reduceLT,Nat.reduceSub,Nat.reduceBEq,Nat.reduceEqDiff,Nat.reduceAdd,Nat.reduceLeDiff,reduceCtorEq,Nat.reduceMul]
      exact ⟨X,rfl,((gX.putv g9 _).putv (g9' _) _).putv (g6'' _ _) _,((gK.put (k := (9,c0 + 4)) (by show c ≤ c0 + 4; omega) _).put (k := (9,c0 + 4)) (by show c ≤ c0 + 4; omega) _).put (k := (6,c0 + 3)) (by show c ≤ c0 + 3; omega) _,gR⟩
    · have o4 : ((outF t.k : Nat) : Int) = 1 := by unfold outF; rw [if_neg k4]; rfl
      simp only [f4,f6,f7,f9,g4,g6,g9,a1,a0,k4,o4,encW,Nat.reduceEqDiff,fxa,fxc,fxE,fxL,fxI,nxE,evO,evR,cellsT,ldCells,mkT,lenA,binPV,Env.init,resV,resT,frT,klT,ownT,intT,O.adds,ownA,rowsA,over,wrOk,keysT,keysA,ne_eq,if_true,if_false,ite_self,Nat.reduceLT,Nat.reduceSub,Nat.reduceBEq,Nat.reduceEqDiff,Nat.reduceAdd,Nat.reduceLeDiff,reduceCtorEq,Nat.reduceMul]
      exact ⟨X,rfl,(gX.putv g9 _).putv (g6' _) _,(gK.put (k := (9,c0 + 4)) (by show c ≤ c0 + 4; omega) _).put (k := (6,c0 + 3)) (by show c ≤ c0 + 3; omega) _,gR⟩
end Go.Proofs.Ytkpfjolcmkikeaa.Tm
end
section
set_option linter.unusedSimpArgs false
set_option linter.unusedVariables false
set_option maxHeartbeats 4000000
namespace Go.Proofs.Ytkpfjolcmkikeaa.Tm
open Go.Fx
def toldT (k : Int) : Bool := decide (k = 2) || decide (k = 4) || decide (k = 7) || decide (k = 9)
def headTold : List T → Bool
  | [] => false
  | t :: _ => toldT t.k
mutual
def reds : T → Nat
  | .mk k _ _ l => (if (decide (k = 3) || decide (k = 5) || decide (k = 8)) && headTold l then 1 else 0) + redsL l
def redsL : List T → Nat
  | [] => 0
  | t :: r => reds t + redsL r
end
structure PartOk (t : T) (f : Int) (a : Bool) (lv : Int) (n : Nt) (R : List Pt) (y : W) : Prop where
  wo : Wo f n R y (reds t)
  told : a = false → toldT t.k = true → y.out.s = 0 ∧ toldN (y.n.nd y.out.n).k ∧ (y.n.nd y.out.n).lv = lv
  asks : a = false → toldT t.k = false → y.out.s = 1
  spine : a = false → f = 0 → Spine y.n (y.out :: (pts y.l ++ R)) y.out
theorem sub_inv {t : T} {f : Int} {a : Bool} {k lv : Int} {i : Nat} {n : Nt} {R : List Pt} (hlv : 0 ≤ lv ∧ lv ≤ 60) (h : Inv n R) (hr : ((subG k lv i t n).n.ns.length : Int) ≤ n.cap)
    (hM : ∀ lv,Much (partG t lv) (nv t) (mostT t)) (hb : boxed k i → ((partG t (lv + 1) n).n.ns.length : Int) ≤ n.cap → PartOk t f a (lv + 1) n R (partG t (lv + 1) n)) (hn : ¬ boxed k i → ((partG t lv n).n.ns.length : Int) ≤ n.cap → PartOk t f a lv n R (partG t lv n)) :
    Wo f n R (subG k lv i t n) (reds t) ∧ (¬ boxed k i → PartOk t f a lv n R (subG k lv i t n)) := by
  unfold subG at hr ⊢
  by_cases e : boxed k i
  · simp only [if_pos e] at hr ⊢
    obtain ⟨y,hy⟩ : ∃ y,partG t (lv + 1) n = y := ⟨_,rfl⟩
    have hb := hb e
    rw [hy] at hb hr ⊢
    have bl := boxG_len lv y.l y.n
    have hr' : ((boxG lv y.l y.n).1.ns.length : Int) ≤ n.cap := hr
    have hw := (hb (by omega)).wo
    have hcap := hw.gr.cap
    have pm : (y.out :: (pts y.l ++ R)).Perm (pts y.l ++ (y.out :: R)) := List.perm_middle.symm
    obtain ⟨b1,b2,b3,b4,b5⟩ := box_inv hlv y.l y.n (y.out :: R) (hw.inv.perm pm) (by omega)
    have pm2 : (pts (boxG lv y.l y.n).2 ++ (y.out :: R)).Perm (y.out :: (pts (boxG lv y.l y.n).2 ++ R)) := List.perm_middle
    refine ⟨⟨b1.perm pm2,hw.gr.trans (b2.perm pm.symm pm2),?_,?_,hw.out,b4.trans hw.ct⟩,fun k => absurd e k⟩
    · have hk := hw.key
      refine ⟨fun z hz => ?_,by show ((boxG lv y.l y.n).2.map (·.1)).Nodup; rw [b3]; exact hk.2⟩
      have : z.1 ∈ (boxG lv y.l y.n).2.map (·.1) := List.mem_map_of_mem hz
      rw [b3] at this
      obtain ⟨u,hu,hue⟩ := List.mem_map.1 this
      rw [← hue]; exact hk.1 u hu
    · have := b5 y.out.n n.ns.length (hw.con.mono (Gr.perm (Gr.refl _ _) (.refl _) pm) fun i h1 h2 => by omega) hw.new
      exact this.mono (Gr.perm (Gr.refl _ _) (.refl _) pm2) fun i h1 h2 => by omega
  · simp only [if_neg e] at hr ⊢
    have := hn e hr
    exact ⟨this.wo,fun _ => this⟩
structure KidOk (m : Nat) (sl : Nat) (f : Int) (N : Nt) (E : List En) (Q : List Pt) (z : Nt × List En) (c : Nat) : Prop where
  inv : Inv z.1 (pts z.2 ++ Q)
  gr : Gr N (⟨(m : Nat),(sl : Nat)⟩ :: (pts E ++ Q)) z.1 (pts z.2 ++ Q)
  key : KeyOk f z.2
  con : Reach z.1 (pts z.2 ++ Q) (m : Nat) m
  ends : ∀ e ∈ z.2,(m : Int) ≤ e.2.n
  ct : Ct z.1 = Ct N + c
theorem kid_inv {k lv f : Int} {m i : Nat} {N : Nt} {E : List En} {Q : List Pt} {y : W} {c : Nat} (hlv : 0 ≤ lv ∧ lv ≤ 60) (hm0 : m ≠ 0)
    (hI : Inv N (⟨(m : Nat),(slotF k i : Nat)⟩ :: (pts E ++ Q))) (hE : KeyOk f E) (hC : Reach N (⟨(m : Nat),(slotF k i : Nat)⟩ :: (pts E ++ Q)) (m : Nat) m) (hEm : ∀ e ∈ E,(m : Int) ≤ e.2.n)
    (hy : Wo f N (⟨(m : Nat),(slotF k i : Nat)⟩ :: (pts E ++ Q)) y c) (hr : ((kidG k lv m i y E).1.ns.length : Int) ≤ N.cap) (tk : Bool)
    (ht : tk = true → slotF k i = 0 ∧ y.out.s = 0 ∧ asksN (N.nd (m : Nat)).k ∧ toldN (y.n.nd y.out.n).k ∧ (N.nd (m : Nat)).lv = (y.n.nd y.out.n).lv) (hf : tk = false → slotF k i ≠ 0 ∨ y.out.s ≠ 0) :
    KidOk m (slotF k i) f N E Q (kidG k lv m i y E) (c + if tk then 1 else 0) ∧ (kidG k lv m i y E).1.lk ⟨(m : Nat),(slotF k i : Nat)⟩ = y.out ∧ Gr y.n (y.out :: (pts y.l ++ (⟨(m : Nat),(slotF k i : Nat)⟩ :: (pts E ++ Q)))) (kidG k lv m i y E).1 (pts (kidG k lv m i y E).2 ++ Q) := by
  obtain ⟨sl,hsl⟩ : ∃ sl,slotF k i = sl := ⟨_,rfl⟩
  have ek : kidG k lv m i y E = mergeG lv y.l E (lnk y.n y.out ⟨(m : Nat),(sl : Nat)⟩) := by unfold kidG; rw [hsl]
  rw [hsl] at hI hC hy ht hf ⊢
  rw [ek] at hr ⊢
  have hout := hy.out
  have hmh := hI.semi.xs ⟨(m : Nat),(sl : Nat)⟩ (by simp)
  have hmN : m < N.ns.length := by have := (has_iff.1 hmh).2.1; simp only at this; omega
  have pm1 : (y.out :: (pts y.l ++ (⟨(m : Nat),(sl : Nat)⟩ :: (pts E ++ Q)))).Perm (y.out :: ⟨(m : Nat),(sl : Nat)⟩ :: (pts y.l ++ (pts E ++ Q))) := List.Perm.cons _ List.perm_middle
  have b1 := hy.inv.perm pm1
  obtain ⟨n1,hn1⟩ : ∃ n1,lnk y.n y.out ⟨(m : Nat),(sl : Nat)⟩ = n1 := ⟨_,rfl⟩
  have hl1 := lnk_len y.n y.out ⟨(m : Nat),(sl : Nat)⟩
  have L : Inv n1 (pts y.l ++ (pts E ++ Q)) ∧ Gr y.n (y.out :: ⟨(m : Nat),(sl : Nat)⟩ :: (pts y.l ++ (pts E ++ Q))) n1 (pts y.l ++ (pts E ++ Q)) ∧ n1.lk ⟨(m : Nat),(sl : Nat)⟩ = y.out ∧ Ct n1 = Ct y.n + if tk then 1 else 0 := by
    cases tk with
    | true =>
      obtain ⟨t1,t2,t3,t4⟩ := ht rfl
      have ep : y.out = ⟨(N.ns.length : Nat),0⟩ := by
        obtain ⟨u,hu⟩ : ∃ u,y.out = u := ⟨_,rfl⟩
        rw [hu] at t2 hout ⊢
        obtain ⟨u1,u2⟩ := u
        simp only at t2 hout
        rw [t2,hout]
      have eq : (⟨(m : Nat),(sl : Nat)⟩ : Pt) = ⟨(m : Nat),0⟩ := by rw [t1]; rfl
      rw [ep] at t4
      rw [ep,eq] at b1 hn1 ⊢
      have q1 := hy.gr.nd (m : Nat) (by omega) (by omega)
      have hk3 : asksN (y.n.nd (m : Nat)).k := by rw [q1.1]; exact t3
      obtain ⟨c1,c2,c3,c4,c5⟩ := b1.linkP (m := m) (c := N.ns.length) hmN hm0 ⟨hk3,t4.1,by rw [q1.2.1]; exact t4.2⟩
      rw [hn1] at c1 c2 c4 c5
      exact ⟨c1,c2,c4,c5⟩
    | false =>
      obtain ⟨c1,c2,c3,c4,c5⟩ := b1.link (by
        rcases hf rfl with h | h
        · right; show ((sl : Nat) : Int) ≠ 0; omega
        · exact .inl h)
      rw [hn1] at c1 c2 c4 c5
      exact ⟨c1,c2,c4,c5⟩
  obtain ⟨c1,c2,c4,c5⟩ := L
  rw [hn1] at hl1 hr ⊢
  have g1 : Gr N (⟨(m : Nat),(sl : Nat)⟩ :: (pts E ++ Q)) n1 (pts y.l ++ (pts E ++ Q)) := (hy.gr.perm (.refl _) pm1).trans c2
  obtain ⟨d1,d2,d3,d4,d5,d6⟩ := merge_inv hlv y.l E n1 Q c1 (by rw [g1.cap]; exact hr) hE.2
  have hmn : (⟨(m : Nat),(sl : Nat)⟩ : Pt) ∉ (pts y.l ++ (pts E ++ Q) : List Pt) := by
    have := b1.nd
    simp only [List.nodup_cons] at this
    exact this.2.1
  have r1 : Reach n1 (pts y.l ++ (pts E ++ Q)) (m : Nat) m := hC.mono g1 fun i h1 h2 => by
    have k1 : Cn n1 (pts y.l ++ (pts E ++ Q)) (m : Nat) y.out.n := Cn.lnk g1 hmh hmn c4 .refl
    refine k1.trans ?_
    have := hy.con i h1 (by rw [← hl1.1]; exact h2)
    exact this.mono (((Gr.refl _ _).perm (.refl _) pm1).trans c2)
  have hnew := hy.new
  have hr2 := d6 (m : Nat) m r1 (fun e he => by have := hnew e he; omega) hEm
  have hyh := y.n
  have lkm : (mergeG lv y.l E n1).1.lk ⟨(m : Nat),(sl : Nat)⟩ = y.out := by
    rw [(d2.cl _ (g1.has hmh) hmn).2,c4]
  refine ⟨⟨d1,g1.trans d2,⟨fun e he => ?_,d3⟩,hr2,fun e he => ?_,by rw [d5,c5,hy.ct]; omega⟩,lkm,((Gr.refl _ _).perm (.refl _) pm1).trans (c2.trans d2)⟩
  · rcases d4 e he with h | h
    · obtain ⟨u,hu,hue⟩ := List.mem_map.1 h
      rw [← hue]; exact hy.key.1 u hu
    · obtain ⟨u,hu,hue⟩ := List.mem_map.1 h
      rw [← hue]; exact hE.1 u hu
  · have hm : e.2 ∈ pts (mergeG lv y.l E n1).2 ++ Q := List.mem_append_left _ (List.mem_map_of_mem he)
    rcases d2.op e.2 hm with h | h
    · rw [List.mem_append,List.mem_append] at h
      rcases h with h | h | h
      · obtain ⟨u,hu,hue⟩ := List.mem_map.1 h
        rw [← hue]; have := hnew u hu; omega
      · obtain ⟨u,hu,hue⟩ := List.mem_map.1 h
        rw [← hue]; exact hEm u hu
      · exfalso
        have := d1.nd
        rw [List.nodup_append] at this
        exact this.2.2 _ (List.mem_map_of_mem he) _ h rfl
    · have h1 := (g1.len); omega
def slots (k : Int) (m : Nat) : Nat → Nat → List Pt
  | _,0 => []
  | i,c + 1 => ⟨(m : Nat),(slotF k i : Nat)⟩ :: slots k m (i + 1) c
theorem kids_inv {k lv f : Int} {m : Nat} (hlv : 0 ≤ lv ∧ lv ≤ 60) (hm0 : m ≠ 0) : ∀ (l : List T) (i : Nat) (N : Nt) (E : List En) (R : List Pt),(k = 4 ∨ 0 < i) →
    (∀ (j : Nat) (t : T),l[j]? = some t → (∀ lv,Much (partG t lv) (nv t) (mostT t)) ∧ ∃ a,∀ (n : Nt) (R : List Pt) (lv' : Int),(lv' = lv ∧ ¬ boxed k (i + j) ∨ lv' = lv + 1 ∧ boxed k (i + j)) → Inv n R → ((partG t lv' n).n.ns.length : Int) ≤ n.cap → PartOk t f a lv' n R (partG t lv' n)) →
    Inv N (pts E ++ (slots k m i l.length ++ R)) → KeyOk f E → Reach N (pts E ++ (slots k m i l.length ++ R)) (m : Nat) m → (∀ e ∈ E,(m : Int) ≤ e.2.n) →
    ((kidsG l k lv m i (N,E)).1.ns.length : Int) ≤ N.cap →
    Inv (kidsG l k lv m i (N,E)).1 (pts (kidsG l k lv m i (N,E)).2 ++ R) ∧ Gr N (pts E ++ (slots k m i l.length ++ R)) (kidsG l k lv m i (N,E)).1 (pts (kidsG l k lv m i (N,E)).2 ++ R) ∧ KeyOk f (kidsG l k lv m i (N,E)).2 ∧
      Reach (kidsG l k lv m i (N,E)).1 (pts (kidsG l k lv m i (N,E)).2 ++ R) (m : Nat) m ∧ Ct (kidsG l k lv m i (N,E)).1 = Ct N + redsL l
  | [],i,N,E,R,hi,hl,h,hE,hC,hEm,hr => ⟨h,Gr.refl _ _,hE,hC,rfl⟩
  | t :: r,i,N,E,R,hi,hl,h,hE,hC,hEm,hr => by
    rw [kidsG_cons] at hr ⊢
    have hsl : slotF k i ≠ 0 := by unfold slotF; rw [if_neg (by omega)]; omega
    have pm : (pts E ++ (slots k m i (t :: r).length ++ R)).Perm (⟨(m : Nat),(slotF k i : Nat)⟩ :: (pts E ++ (slots k m (i + 1) r.length ++ R))) := List.perm_middle
    have hI := h.perm pm
    obtain ⟨hM,a,hp⟩ := hl 0 t rfl
    simp only [Nat.add_zero] at hp
    have kl := kids_len (k := k) (lv := lv) (a := m) r (i + 1) (kidG k lv m i (subG k lv i t N) E) fun t ht lv => by
      obtain ⟨j,hj⟩ := List.getElem?_of_mem ht
      exact ⟨_,_,(hl (j + 1) t hj).1 lv⟩
    have ks := kid_sum k lv m i (subG k lv i t N) E
    have hr2 : ((kidsG r k lv m (i + 1) (kidG k lv m i (subG k lv i t N) E)).1.ns.length : Int) ≤ N.cap := hr
    have hs := sub_inv (t := t) (f := f) (a := a) (k := k) (lv := lv) (i := i) hlv hI (by omega) hM (fun e hr => hp _ _ _ (.inr ⟨rfl,e⟩) hI hr) (fun e hr => hp _ _ _ (.inl ⟨rfl,e⟩) hI hr)
    have hC' : Reach N (⟨(m : Nat),(slotF k i : Nat)⟩ :: (pts E ++ (slots k m (i + 1) r.length ++ R))) (m : Nat) m := hC.mono (Gr.perm (Gr.refl _ _) (.refl _) pm) fun i h1 h2 => by omega
    obtain ⟨K,_,_⟩ := kid_inv hlv hm0 hI hE hC' hEm hs.1 (by omega) false (fun h => by cases h) (fun _ => .inl hsl)
    obtain ⟨z,hz⟩ : ∃ z,kidG k lv m i (subG k lv i t N) E = z := ⟨_,rfl⟩
    rw [hz] at K hr kl ks ⊢
    obtain ⟨z1,z2⟩ := z
    obtain ⟨d1,d2,d3,d4,d5⟩ := kids_inv hlv hm0 r (i + 1) z1 z2 R (.inr (by omega)) (fun j t' hj => by
      obtain ⟨q1,q2⟩ := hl (j + 1) t' hj
      rw [show i + (j + 1) = i + 1 + j by omega] at q2
      exact ⟨q1,q2⟩) K.inv K.key K.con K.ends (by have := K.gr.cap; simp only at this; omega)
    refine ⟨d1,(K.gr.perm pm.symm (.refl _)).trans d2,d3,d4,?_⟩
    rw [d5,K.ct]
    simp only [redsL,Bool.false_eq_true,if_false]
    omega
theorem nodeT_ok {f k lv : Int} {s : List UInt8} {l : List T} (hlv : 0 ≤ lv ∧ lv ≤ 60) (hs : s.length ≤ 140737488355328) (hl : ∀ t ∈ l,t.s.length ≤ 140737488355328 ∧ wf t.n)
    (hk : (k = 3 ∧ s = [] ∧ l.length = 2) ∨ (k = 4 ∧ s ≠ [] ∧ l.length ≤ 8) ∨ (k = 8 ∧ s ≠ [] ∧ l.length = 2) ∨ (k = 5 ∧ s = [] ∧ 2 ≤ l.length ∧ l.length ≤ 9 ∧ ((l.drop 1).map T.s).Nodup)) (hc : ∀ (j : Nat) (t : T),l[j]? = some t → Cl f (decide (k = 5 ∧ 0 < j)) t) :
    (nodeT k s l lv).Ok ∧ (nodeT k s l lv).may ∧ ¬ (nodeT k s l lv).k < 2 ∧ (nodeT k s l lv).ports = l.length + 1 ∧ (k ≠ 4 → asksN (nodeT k s l lv).k) ∧ (k = 4 → toldN (nodeT k s l lv).k) ∧ (nodeT k s l lv).lv = lv := by
  rcases hk with ⟨rfl,h2,h3⟩ | ⟨rfl,h2,h3⟩ | ⟨rfl,h2,h3⟩ | ⟨rfl,h2,h3,h4,h5⟩
  · have e : nodeT 3 s l lv = nodeK 3 lv := rfl
    rw [e,h3]
    exact ⟨nodeK_Ok (by omega) hlv,may6 hlv (by omega),by show ¬ (3 : Int) < 2; decide,rfl,fun _ => .inl rfl,fun h => (by cases h),rfl⟩
  · have e : nodeT 4 s l lv = ⟨8,lv,0,s,[],List.replicate (l.length + 1) zP⟩ := rfl
    rw [e]
    refine ⟨⟨⟨by show (-9223372036854775808 : Int) ≤ 8; decide,by show (8 : Int) ≤ _; decide⟩,⟨by show _ ≤ lv; omega,by show lv ≤ _; omega⟩,⟨by show _ ≤ (0 : Int); decide,by show (0 : Int) ≤ _; decide⟩,hs,by simp,?_,by simp,?_⟩,?_,by show ¬ (8 : Int) < 2; decide,?_,fun h => absurd rfl h,fun _ => .inr (.inl rfl),rfl⟩
    · show (List.replicate (l.length + 1) zP).length * 16 ≤ _
      rw [List.length_replicate]; omega
    · intro p hp
      have : p = zP := List.eq_of_mem_replicate hp
      rw [this]; exact ⟨⟨by decide,by decide⟩,⟨by decide,by decide⟩⟩
    · rw [Go.Proofs.Ytkpfjolcmkikeaa.may_iff]
      unfold altsP
      simp [h2,List.length_replicate]
      omega
    · unfold Nd.ports; simp [List.length_replicate]
  · have e : nodeT 8 s l lv = ⟨11,lv,0,s,[],[]⟩ := rfl
    rw [e,h3]
    refine ⟨⟨⟨by show (-9223372036854775808 : Int) ≤ 11; decide,by show (11 : Int) ≤ _; decide⟩,⟨by show _ ≤ lv; omega,by show lv ≤ _; omega⟩,⟨by show _ ≤ (0 : Int); decide,by show (0 : Int) ≤ _; decide⟩,hs,by simp,by simp,by simp,by simp⟩,?_,by show ¬ (11 : Int) < 2; decide,rfl,fun _ => .inr (.inr rfl),fun h => (by cases h),rfl⟩
    rw [Go.Proofs.Ytkpfjolcmkikeaa.may_iff]
    unfold altsP
    simp [h2]
    omega
  · have e : nodeT 5 s l lv = ⟨9,lv,0,[],(l.drop 1).map arT,[]⟩ := rfl
    have hal : ((l.drop 1).map arT).length = l.length - 1 := by simp
    have hmem : ∀ a ∈ (l.drop 1).map arT,∃ t ∈ l,a = arT t := fun a ha => by
      obtain ⟨t,ht,rfl⟩ := List.mem_map.1 ha
      exact ⟨t,List.mem_of_mem_drop ht,rfl⟩
    rw [e]
    refine ⟨⟨⟨by show (-9223372036854775808 : Int) ≤ 9; decide,by show (9 : Int) ≤ _; decide⟩,⟨by show _ ≤ lv; omega,by show lv ≤ _; omega⟩,⟨by show _ ≤ (0 : Int); decide,by show (0 : Int) ≤ _; decide⟩,by simp,?_,by simp,?_,by simp⟩,?_,by show ¬ (9 : Int) < 2; decide,?_,fun _ => .inr (.inl rfl),fun h => (by cases h),rfl⟩
    · show ((l.drop 1).map arT).length * _ ≤ _
      rw [hal]; omega
    · intro a ha
      obtain ⟨t,ht,rfl⟩ := hmem a ha
      exact (hl t ht).2
    · rw [Go.Proofs.Ytkpfjolcmkikeaa.may_iff]
      unfold altsP
      have ha : altOk ((l.drop 1).map arT) := by
        intro i a hi
        have hi' := hi
        rw [List.getElem?_map,List.getElem?_drop] at hi
        obtain ⟨t,ht,rfl⟩ := Option.map_eq_some_iff.1 hi
        have hcl := hc (1 + i) t ht
        rw [decide_eq_true (by omega)] at hcl
        have hal : arT t = ⟨t.s,t.n⟩ := rfl
        have h6 : t.s ≠ [] ∧ 0 ≤ t.n ∧ t.n ≤ 8 := by cases hcl; exact ⟨by assumption,by assumption,by assumption⟩
        refine ⟨h6.1,h6.2.1,h6.2.2,fun j b hj hb hs => ?_⟩
        rw [List.getElem?_map] at hi' hb
        have n1 : ((l.drop 1).map T.s)[i]? = some t.s := by
          obtain ⟨u,hu,hue⟩ := Option.map_eq_some_iff.1 hi'
          rw [List.getElem?_map,hu]
          have : u.s = t.s := by have := congrArg Ar.s hue; exact this
          simp [this]
        have n2 : ((l.drop 1).map T.s)[j]? = some t.s := by
          obtain ⟨u,hu,hue⟩ := Option.map_eq_some_iff.1 hb
          rw [List.getElem?_map,hu]
          have : u.s = t.s := by have := congrArg Ar.s hue; exact this.trans hs
          simp [this]
        have hj1 := (List.getElem?_eq_some_iff.1 n1)
        have hj2 := (List.getElem?_eq_some_iff.1 n2)
        obtain ⟨q1,q2⟩ := hj1
        obtain ⟨q3,q4⟩ := hj2
        exact (List.pairwise_iff_getElem.1 h5) j i q3 q1 hj (q4.trans q2.symm)
      refine ⟨⟨⟨by show (0 : Int) ≤ 9; decide,by show (9 : Int) ≤ 13; decide⟩,fun h => absurd rfl h,fun _ => ⟨ha,?_,?_⟩⟩,⟨by show (0 : Int) ≤ lv; omega,by show lv ≤ (if (9 : Int) = 0 ∨ (9 : Int) = 1 then 0 else 60); simp; omega⟩,?_,.inl rfl,.inl (by show (9 : Int) ≠ 8; decide)⟩
      · show 1 ≤ ((((l.drop 1).map arT).length : Nat) : Int); rw [hal]; omega
      · show ((((l.drop 1).map arT).length : Nat) : Int) ≤ 8; rw [hal]; omega
      · show ([] : List UInt8) ≠ [] ↔ _; simp
    · unfold Nd.ports
      simp
      omega
theorem slots_pts (k : Int) (m : Nat) : ∀ (c i : Nat),(k = 4 ∨ 0 < i) → slots k m i c = (List.range' (i + 1) c).map fun s => ⟨(m : Nat),(s : Nat)⟩
  | 0,i,_ => rfl
  | c + 1,i,h => by
    rw [slots,slots_pts k m c (i + 1) (.inr (by omega)),List.range'_succ,List.map_cons]
    unfold slotF
    rw [if_neg (by omega)]
theorem slots_perm (k : Int) (m : Nat) (c : Nat) (h : k = 4 ∨ 0 < c) : (ptsN m (c + 1)).Perm (⟨(m : Nat),(outF k : Nat)⟩ :: slots k m 0 c) := by
  unfold ptsN
  rw [List.range_eq_range',List.range'_succ,List.map_cons]
  by_cases hk : k = 4
  · rw [slots_pts k m c 0 (.inl hk)]
    unfold outF
    rw [if_pos hk]
  · obtain ⟨c,rfl⟩ : ∃ d,c = d + 1 := ⟨c - 1,by omega⟩
    rw [List.range'_succ,List.map_cons,slots,slots_pts k m c 1 (.inr (by omega))]
    unfold outF slotF
    rw [if_neg hk,if_pos ⟨rfl,hk⟩]
    exact List.Perm.swap _ _ _
theorem root_pos {n : Nt} {R : List Pt} (h : Inv n R) : n.ns.length ≠ 0 := by have := h.semi.ln1; omega
theorem leaf_inv {f k n lv : Int} {m : Nt} {R : List Pt} (hlv : 0 ≤ lv ∧ lv ≤ 60) (hn : wf n) (hk : (k = 1 ∧ 0 ≤ n ∧ n < f) ∨ k = 7 ∨ k = 9) (h : Inv m R) (hr : ((leafG k n lv m).n.ns.length : Int) ≤ m.cap) : PartOk (.mk k n [] []) f false lv m R (leafG k n lv m) := by
  have hm0 := root_pos h
  have er : reds (.mk k n [] []) = 0 := by
    show (if (_ && headTold []) = true then 1 else 0) + redsL [] = 0
    simp [headTold,redsL]
  have key0 : KeyOk f [] := ⟨by simp,List.nodup_nil⟩
  rcases hk with ⟨rfl,hk0,hk1⟩ | rfl | rfl
  · have e : leafG 1 n lv m = ⟨addN m (nodeK 5 lv),⟨(m.ns.length : Nat),1⟩,[(n,⟨(m.ns.length : Nat),0⟩)]⟩ := rfl
    rw [e] at hr ⊢
    have hr' : ((m.ns.length + 1 : Nat) : Int) ≤ m.cap := by rw [← addN_len m (nodeK 5 lv)]; exact hr
    obtain ⟨a1,a2,a3⟩ := h.add (nodeK_Ok (k := 5) (by omega) hlv) (may6 hlv (by omega)) (by show ¬ (5 : Int) < 2; decide) hr'
    have hp : ptsN m.ns.length (nodeK 5 lv).ports.toNat = [⟨(m.ns.length : Nat),0⟩,⟨(m.ns.length : Nat),1⟩] := rfl
    rw [hp] at a1 a2
    have pm : List.Perm (α := Pt) ([⟨(m.ns.length : Nat),0⟩,⟨(m.ns.length : Nat),1⟩] ++ R) (⟨(m.ns.length : Nat),1⟩ :: (pts [(n,(⟨(m.ns.length : Nat),0⟩ : Pt))] ++ R)) := List.Perm.swap _ _ _
    refine ⟨⟨a1.perm pm,a2.perm (.refl _) pm,⟨by simp; omega,by simp⟩,fun i h1 h2 => ?_,rfl,by rw [er]; exact a3⟩,fun _ h => by simp [toldT,T.k] at h,fun _ _ => rfl,fun _ h => by omega⟩
    have : i = m.ns.length := by simp only [addN_len] at h2; omega
    subst this; exact .refl
  · have e : leafG 7 n lv m = ⟨addN m ⟨10,lv,n,[],[],[]⟩,⟨(m.ns.length : Nat),0⟩,[]⟩ := rfl
    rw [e] at hr ⊢
    have hr' : ((m.ns.length + 1 : Nat) : Int) ≤ m.cap := by rw [← addN_len m ⟨10,lv,n,[],[],[]⟩]; exact hr
    have hx : (⟨10,lv,n,[],[],[]⟩ : Nd).Ok := ⟨⟨by show (-9223372036854775808 : Int) ≤ 10; decide,by show (10 : Int) ≤ _; decide⟩,⟨by show _ ≤ lv; omega,by show lv ≤ _; omega⟩,hn,by simp,by simp,by simp,by simp,by simp⟩
    have hy : (⟨10,lv,n,[],[],[]⟩ : Nd).may := by
      rw [Go.Proofs.Ytkpfjolcmkikeaa.may_iff]
      unfold altsP
      simp; omega
    obtain ⟨a1,a2,a3⟩ := h.add hx hy (by show ¬ (10 : Int) < 2; decide) hr'
    have hp : ptsN m.ns.length (⟨10,lv,n,[],[],[]⟩ : Nd).ports.toNat = [⟨(m.ns.length : Nat),0⟩] := rfl
    rw [hp] at a1 a2
    have hkn : ((addN m ⟨10,lv,n,[],[],[]⟩).nd (m.ns.length : Nat)).k = 10 ∧ ((addN m ⟨10,lv,n,[],[],[]⟩).nd (m.ns.length : Nat)).lv = lv := by rw [addN_now]; exact ⟨rfl,rfl⟩
    refine ⟨⟨a1,a2,key0,fun i h1 h2 => ?_,rfl,by rw [er]; exact a3⟩,fun _ _ => ⟨rfl,.inr (.inr (.inl hkn.1)),hkn.2⟩,fun _ h => by simp [toldT,T.k] at h,fun _ _ => .there rfl (by show (0 : Int) < ((m.ns.length : Nat) : Int); omega) (by simp only [addN_len]; omega)⟩
    have : i = m.ns.length := by simp only [addN_len] at h2; omega
    subst this; exact .refl
  · have e : leafG 9 n lv m = ⟨addN m (nodeK 13 lv),⟨(m.ns.length : Nat),0⟩,[]⟩ := rfl
    rw [e] at hr ⊢
    have hr' : ((m.ns.length + 1 : Nat) : Int) ≤ m.cap := by rw [← addN_len m (nodeK 13 lv)]; exact hr
    obtain ⟨a1,a2,a3⟩ := h.add (nodeK_Ok (k := 13) (by omega) hlv) (may6 hlv (by omega)) (by show ¬ (13 : Int) < 2; decide) hr'
    have hp : ptsN m.ns.length (nodeK 13 lv).ports.toNat = [⟨(m.ns.length : Nat),0⟩] := rfl
    rw [hp] at a1 a2
    have hkn : ((addN m (nodeK 13 lv)).nd (m.ns.length : Nat)).k = 13 ∧ ((addN m (nodeK 13 lv)).nd (m.ns.length : Nat)).lv = lv := by rw [addN_now]; exact ⟨rfl,rfl⟩
    refine ⟨⟨a1,a2,key0,fun i h1 h2 => ?_,rfl,by rw [er]; exact a3⟩,fun _ _ => ⟨rfl,.inr (.inr (.inr hkn.1)),hkn.2⟩,fun _ h => by simp [toldT,T.k] at h,fun _ _ => .there rfl (by show (0 : Int) < ((m.ns.length : Nat) : Int); omega) (by simp only [addN_len]; omega)⟩
    have : i = m.ns.length := by simp only [addN_len] at h2; omega
    subst this; exact .refl
end Go.Proofs.Ytkpfjolcmkikeaa.Tm
end
section
set_option linter.unusedSimpArgs false
set_option linter.unusedVariables false
set_option maxHeartbeats 4000000
namespace Go.Proofs.Ytkpfjolcmkikeaa.Tm
open Go.Fx
theorem wf_intT {i : Int} (h : (Lit.int .i64 i).wf = true) : wf i := by
  simp only [Lit.wf,IntKind.min,IntKind.max,IntKind.bits,IntKind.signed,Bool.and_eq_true,decide_eq_true_eq] at h
  rw [if_pos trivial,if_pos trivial] at h
  unfold wf; omega
theorem T.Ok.kids {k n : Int} {s : List UInt8} {l : List T} (h : T.Ok (.mk k n s l)) : wf k ∧ wf n ∧ s.length ≤ 140737488355328 ∧ l.length * 56 ≤ reachBytes ∧ ∀ t ∈ l,T.Ok t := by
  cases h with
  | mk _ _ _ _ h1 h2 h3 h4 h5 => exact ⟨wf_intT h1,wf_intT h2,by simp only [reachBytes] at h3; omega,h4,h5⟩
theorem T.Ok.own {t : T} (h : T.Ok t) : t.s.length ≤ 140737488355328 ∧ wf t.n := by
  obtain ⟨k,n,s,l⟩ := t
  exact ⟨h.kids.2.2.1,h.kids.2.1⟩
theorem part_inv {f : Int} {a : Bool} {t : T} (h : Cl f a t) : T.Ok t → ∀ (lv : Int),0 ≤ lv → lv + dep t ≤ 60 → ∀ (n : Nt) (R : List Pt),Inv n R → ((partG t lv n).n.ns.length : Int) ≤ n.cap → PartOk t f a lv n R (partG t lv n) := by
  induction h with
  | @leaf f k n h =>
    intro ht lv h0 h1 m R hI hr
    have hd : dep (.mk k n [] []) = 1 := rfl
    have e : partG (.mk k n [] []) lv m = leafG k n lv m := by rw [partG_mk,if_pos (by omega)]
    rw [e] at hr ⊢
    exact leaf_inv (by omega) ht.kids.2.1 h hI hr
  | @lam f b h ih =>
    intro ht lv h0 h1 m R hI hr
    have hd : dep (.mk 2 0 [] [b]) = dep b + 1 := by show max (dep b) 0 + 1 = _; rw [Nat.max_eq_left (Nat.zero_le _)]
    have hm0 := root_pos hI
    have e : partG (.mk 2 0 [] [b]) lv m = lamsG lv (partG b lv) 1 m := by rw [partG_mk]; rfl
    rw [e] at hr ⊢
    have er : reds (.mk 2 0 [] [b]) = reds b := by show (if _ then 1 else 0) + (reds b + 0) = _; simp
    have hb := ih (ht.kids.2.2.2.2 b (by simp)) lv h0 (by omega)
    obtain ⟨w1,w2⟩ := lams_inv (lv := lv) (by omega) (part_much h lv).mono 1 f (fun n R h hr => (hb n R h hr).wo) m R hI hr
    obtain ⟨k1,k3,k2⟩ := w2 (by decide)
    have ho := w1.out
    have hlt := w1.lt
    exact ⟨by rw [er]; exact w1,fun _ _ => ⟨k2,by rw [ho]; exact .inl k1,by rw [ho]; exact k3⟩,fun _ h => by simp [toldT,T.k] at h,fun _ _ => .there k2 (by omega) (by omega)⟩
  | @alt f n s b hn0 hn8 hs h ih =>
    intro ht lv h0 h1 m R hI hr
    have hd : dep (.mk 6 n s [b]) = dep b + 1 := by show max (dep b) 0 + 1 = _; rw [Nat.max_eq_left (Nat.zero_le _)]
    have e : partG (.mk 6 n s [b]) lv m = lamsG lv (partG b lv) n.toNat m := by rw [partG_mk]; rfl
    rw [e] at hr ⊢
    have er : reds (.mk 6 n s [b]) = reds b := by show (if _ then 1 else 0) + (reds b + 0) = _; simp
    have hb := ih (ht.kids.2.2.2.2 b (by simp)) lv h0 (by omega)
    obtain ⟨w1,w2⟩ := lams_inv (lv := lv) (by omega) (part_much h lv).mono n.toNat f (fun n' R h hr => by rw [show f + ((n.toNat : Nat) : Int) = f + n by omega]; exact (hb n' R h hr).wo) m R hI hr
    exact ⟨by rw [er]; exact w1,fun h => (by cases h),fun h => (by cases h),fun h => (by cases h)⟩
  | @node f k s l hk hl ih =>
    intro ht lv h0 h1 m R hI hr
    have hkn : ¬ (k = 1 ∨ k = 7 ∨ k = 9) ∧ k ≠ 2 ∧ k ≠ 6 := by omega
    have hd : dep (.mk k 0 s l) = depL l + 1 := rfl
    have hm0 := root_pos hI
    have hlv : 0 ≤ lv ∧ lv ≤ 60 := by omega
    have e : partG (.mk k 0 s l) lv m = ⟨(kidsG l k lv m.ns.length 0 (addN m (nodeT k s l lv),[])).1,⟨(m.ns.length : Nat),(outF k : Nat)⟩,(kidsG l k lv m.ns.length 0 (addN m (nodeT k s l lv),[])).2⟩ := by rw [partG_mk,if_neg hkn.1,if_neg hkn.2.1,if_neg hkn.2.2]
    obtain ⟨x,hx⟩ : ∃ x,nodeT k s l lv = x := ⟨_,rfl⟩
    obtain ⟨x1,x2,x3,x4,x5,x6,x7⟩ := nodeT_ok (f := f) (lv := lv) hlv ht.kids.2.2.1 (fun t h => (ht.kids.2.2.2.2 t h).own) hk hl
    rw [hx] at e x1 x2 x3 x4 x5 x6 x7
    have km := kids_len (k := k) (lv := lv) (a := m.ns.length) l 0 (addN m x,[]) fun t ht lv => by
      obtain ⟨j,hj⟩ := List.getElem?_of_mem ht
      exact ⟨_,_,part_much (hl j t hj) lv⟩
    rw [addN_len] at km
    rw [e] at hr ⊢
    have hr' : ((kidsG l k lv m.ns.length 0 (addN m x,[])).1.ns.length : Int) ≤ m.cap := hr
    obtain ⟨a1,a2,a3⟩ := hI.add x1 x2 x3 (by omega)
    obtain ⟨a,ha⟩ : ∃ a,m.ns.length = a := ⟨_,rfl⟩
    have hpn : x.ports.toNat = l.length + 1 := by omega
    rw [ha] at a1 a2 hr' km hm0 ⊢
    rw [hpn] at a1 a2
    have hkd : ((addN m x).nd (a : Nat)).k = x.k := by rw [← ha,addN_now]; rfl
    have hkl : ((addN m x).nd (a : Nat)).lv = lv := by rw [← ha,addN_now]; exact x7
    have hpk : k = 4 ∨ 0 < l.length := by omega
    have pm : (ptsN a (l.length + 1) ++ R).Perm (pts [] ++ (slots k a 0 l.length ++ (⟨(a : Nat),(outF k : Nat)⟩ :: R))) := by
      refine ((slots_perm k a l.length hpk).append_right R).trans ?_
      exact List.perm_middle.symm
    have b1 := a1.perm pm
    have b2 := a2.perm (.refl _) pm
    have key0 : KeyOk f [] := ⟨by simp,List.nodup_nil⟩
    have r0 : Reach (addN m x) (pts [] ++ (slots k a 0 l.length ++ (⟨(a : Nat),(outF k : Nat)⟩ :: R))) (a : Nat) a := fun i h1 h2 => by
      rw [addN_len] at h2
      have : i = a := by omega
      subst this; exact .refl
    have hcap : (addN m x).cap = m.cap := rfl
    have hP : ∀ (j : Nat) (t : T),l[j]? = some t → ∀ (n : Nt) (R : List Pt) (lv' : Int),(lv' = lv ∧ ¬ boxed k j ∨ lv' = lv + 1 ∧ boxed k j) → Inv n R → ((partG t lv' n).n.ns.length : Int) ≤ n.cap → PartOk t f (decide (k = 5 ∧ 0 < j)) lv' n R (partG t lv' n) := fun j t hj n R lv' hv h hr => by
      have hmem := List.mem_of_getElem? hj
      have := depL_mem hmem
      exact ih j t hj (ht.kids.2.2.2.2 t hmem) lv' (by omega) (by omega) n R h hr
    have fin : ∀ (G : Inv (kidsG l k lv a 0 (addN m x,[])).1 (pts (kidsG l k lv a 0 (addN m x,[])).2 ++ (⟨(a : Nat),(outF k : Nat)⟩ :: R)) ∧ Gr (addN m x) (pts [] ++ (slots k a 0 l.length ++ (⟨(a : Nat),(outF k : Nat)⟩ :: R))) (kidsG l k lv a 0 (addN m x,[])).1 (pts (kidsG l k lv a 0 (addN m x,[])).2 ++ (⟨(a : Nat),(outF k : Nat)⟩ :: R)) ∧ KeyOk f (kidsG l k lv a 0 (addN m x,[])).2 ∧
        Reach (kidsG l k lv a 0 (addN m x,[])).1 (pts (kidsG l k lv a 0 (addN m x,[])).2 ++ (⟨(a : Nat),(outF k : Nat)⟩ :: R)) (a : Nat) a ∧ Ct (kidsG l k lv a 0 (addN m x,[])).1 = Ct (addN m x) + reds (.mk k 0 s l)),
        Wo f m R ⟨(kidsG l k lv a 0 (addN m x,[])).1,⟨(a : Nat),(outF k : Nat)⟩,(kidsG l k lv a 0 (addN m x,[])).2⟩ (reds (.mk k 0 s l)) := by
      rintro ⟨g1,g2,g3,g4,g5⟩
      have pm3 : (pts (kidsG l k lv a 0 (addN m x,[])).2 ++ (⟨(a : Nat),(outF k : Nat)⟩ :: R)).Perm (⟨(a : Nat),(outF k : Nat)⟩ :: (pts (kidsG l k lv a 0 (addN m x,[])).2 ++ R)) := List.perm_middle
      exact ⟨g1.perm pm3,(b2.trans g2).perm (.refl _) pm3,g3,by rw [ha]; exact g4.mono (Gr.perm (Gr.refl _ _) (.refl _) pm3) fun i h1 h2 => by omega,by rw [ha],by rw [g5,a3]⟩
    by_cases k4 : k = 4
    · subst k4
      have er : reds (.mk 4 0 s l) = redsL l := by show (if _ then 1 else 0) + redsL l = _; simp
      have G := kids_inv (k := 4) (lv := lv) (f := f) hlv hm0 l 0 (addN m x) [] (⟨(a : Nat),(outF 4 : Nat)⟩ :: R) (.inl rfl) (fun j t hj => ⟨part_much (hl j t hj),_,fun n R lv' hv h hr => by
        rw [Nat.zero_add] at hv
        exact hP j t hj n R lv' hv h hr⟩) b1 key0 r0 (by simp) (by rw [hcap]; exact hr')
      have w := fin ⟨G.1,G.2.1,G.2.2.1,G.2.2.2.1,by rw [G.2.2.2.2,er]⟩
      have hnk : toldN ((kidsG l 4 lv a 0 (addN m x,[])).1.nd (a : Nat)).k ∧ ((kidsG l 4 lv a 0 (addN m x,[])).1.nd (a : Nat)).lv = lv := by
        have q1 := G.2.1.nd (a : Nat) (by omega) (by rw [addN_len]; omega)
        rw [q1.1,q1.2.1,hkd,hkl]; exact ⟨x6 rfl,rfl⟩
      have hlt := w.lt
      exact ⟨w,fun _ _ => ⟨rfl,hnk.1,hnk.2⟩,fun _ h => by simp [toldT,T.k] at h,fun _ _ => .there rfl (by show (0 : Int) < ((a : Nat) : Int); omega) (by show ((a : Nat) : Int) < _; simp only at hlt ⊢; omega)⟩
    · cases l with
      | nil => simp at hk; omega
      | cons t r =>
        have hnb : ¬ boxed k 0 := by unfold boxed; omega
        have hs0 : slotF k 0 = 0 := by unfold slotF; rw [if_pos ⟨rfl,k4⟩]
        have ho1 : outF k = 1 := by unfold outF; rw [if_neg k4]
        have hk5 : k = 3 ∨ k = 5 ∨ k = 8 := by omega
        have hnt : toldT k = false := by rcases hk5 with rfl | rfl | rfl <;> rfl
        have hasks := x5 k4
        have hda : decide (k = 5 ∧ 0 < 0) = false := by simp
        have hp0 := hP 0 t rfl
        rw [hda] at hp0
        have hcl0 := hl 0 t rfl
        rw [hda] at hcl0
        rw [kidsG_cons] at hr' km
        have ks := kid_sum k lv a 0 (subG k lv 0 t (addN m x)) []
        have kl := kids_len (k := k) (lv := lv) (a := a) r 1 (kidG k lv a 0 (subG k lv 0 t (addN m x)) []) fun t ht lv => by
          obtain ⟨j,hj⟩ := List.getElem?_of_mem ht
          exact ⟨_,_,part_much (hl (j + 1) t hj) lv⟩
        simp only [Nat.zero_add] at hr'
        have pm4 : (pts [] ++ (slots k a 0 (t :: r).length ++ (⟨(a : Nat),(outF k : Nat)⟩ :: R))).Perm (⟨(a : Nat),(slotF k 0 : Nat)⟩ :: (pts [] ++ (slots k a 1 r.length ++ (⟨(a : Nat),(outF k : Nat)⟩ :: R)))) := .refl _
        have hI1 := b1.perm pm4
        have hs := sub_inv (t := t) (f := f) (a := false) (k := k) (lv := lv) (i := 0) hlv hI1 (by rw [hcap]; omega) (part_much hcl0) (fun e => absurd e hnb) (fun e hr => hp0 _ _ _ (.inl ⟨rfl,e⟩) hI1 hr)
        obtain ⟨y,hy⟩ : ∃ y,subG k lv 0 t (addN m x) = y := ⟨_,rfl⟩
        rw [hy] at hs ks kl hr'
        have hpo := hs.2 hnb
        have hw := hs.1
        have hout := hw.out
        rw [addN_len,ha] at hout
        have ktold : toldT t.k = true → slotF k 0 = 0 ∧ y.out.s = 0 ∧ asksN ((addN m x).nd (a : Nat)).k ∧ toldN (y.n.nd y.out.n).k ∧ ((addN m x).nd (a : Nat)).lv = (y.n.nd y.out.n).lv := fun h => by
          obtain ⟨q1,q2,q3⟩ := hpo.told rfl h
          exact ⟨hs0,q1,by rw [hkd]; exact hasks,q2,by rw [hkl,q3]⟩
        have kasks : toldT t.k = false → slotF k 0 ≠ 0 ∨ y.out.s ≠ 0 := fun h => .inr (by rw [hpo.asks rfl h]; decide)
        obtain ⟨K,klk,kgr⟩ := kid_inv (k := k) (lv := lv) (i := 0) hlv hm0 hI1 key0 (r0.mono (Gr.perm (Gr.refl _ _) (.refl _) pm4) fun i h1 h2 => by omega) (by simp) hw (by rw [hcap]; omega) (toldT t.k) ktold kasks
        obtain ⟨z,hz⟩ : ∃ z,kidG k lv a 0 y [] = z := ⟨_,rfl⟩
        have ez : kidsG (t :: r) k lv a 0 (addN m x,[]) = kidsG r k lv a 1 z := by rw [kidsG_cons,hy,hz]
        rw [hz] at K klk kgr ks kl hr'
        obtain ⟨z1,z2⟩ := z
        have zcap : z1.cap = m.cap := K.gr.cap
        obtain ⟨d1,d2,d3,d4,d5⟩ := kids_inv (k := k) (lv := lv) (f := f) hlv hm0 r 1 z1 z2 (⟨(a : Nat),(outF k : Nat)⟩ :: R) (.inr (by omega)) (fun j t' hj => ⟨part_much (hl (j + 1) t' hj),_,fun n R lv' hv h hr => by
          rw [show 1 + j = j + 1 by omega] at hv
          exact hP (j + 1) t' hj n R lv' hv h hr⟩) K.inv K.key K.con K.ends (by rw [zcap]; exact hr')
        rw [← ez] at d1 d2 d3 d4 d5
        have er : reds (.mk k 0 s (t :: r)) = (if toldT t.k then 1 else 0) + (reds t + redsL r) := by
          show (if ((decide (k = 3) || decide (k = 5) || decide (k = 8)) && toldT t.k) = true then 1 else 0) + (reds t + redsL r) = _
          have : (decide (k = 3) || decide (k = 5) || decide (k = 8)) = true := by simp; omega
          rw [this,Bool.true_and]
        have G2 : Gr (addN m x) (pts [] ++ (slots k a 0 (t :: r).length ++ (⟨(a : Nat),(outF k : Nat)⟩ :: R))) (kidsG (t :: r) k lv a 0 (addN m x,[])).1 (pts (kidsG (t :: r) k lv a 0 (addN m x,[])).2 ++ (⟨(a : Nat),(outF k : Nat)⟩ :: R)) := (K.gr.perm pm4.symm (.refl _)).trans d2
        have w := fin ⟨d1,G2,d3,d4,by rw [d5,K.ct,er]; omega⟩
        obtain ⟨Z,hZ⟩ : ∃ Z,kidsG (t :: r) k lv a 0 (addN m x,[]) = Z := ⟨_,rfl⟩
        rw [hZ] at w d1 d2 d3 d4 d5 G2 ⊢
        have pm3 : (pts Z.2 ++ (⟨(a : Nat),(outF k : Nat)⟩ :: R)).Perm (⟨(a : Nat),(outF k : Nat)⟩ :: (pts Z.2 ++ R)) := List.perm_middle
        have d2' := d2.perm (.refl _) pm3
        have hlt := w.lt
        rw [ha] at hlt
        refine ⟨w,fun _ h => (by rw [show (T.mk k 0 s (t :: r)).k = k from rfl,hnt] at h; cases h),fun _ _ => (by show ((outF k : Nat) : Int) = 1; rw [ho1]; rfl),fun _ hf0 => ?_⟩
        have hsp := hpo.spine rfl hf0
        have h0n : (addN m x).has ⟨(a : Nat),(slotF k 0 : Nat)⟩ = true := hI1.semi.xs _ (by simp)
        have hz1 : z1.has ⟨(a : Nat),(slotF k 0 : Nat)⟩ = true := K.gr.has h0n
        have hnm : (⟨(a : Nat),(slotF k 0 : Nat)⟩ : Pt) ∉ (pts z2 ++ (slots k a 1 r.length ++ (⟨(a : Nat),(outF k : Nat)⟩ :: R)) : List Pt) := by
          intro hm
          have hzz := K.inv.z _ hm
          simp only at klk
          rw [klk] at hzz
          rw [hzz] at hout
          have : zP.n = 0 := rfl
          omega
        obtain ⟨q1,q2⟩ := d2'.cl _ hz1 hnm
        simp only at klk
        rw [klk] at q2
        have es0 : (⟨(a : Nat),(slotF k 0 : Nat)⟩ : Pt) = ⟨((⟨(a : Nat),(outF k : Nat)⟩ : Pt)).n,0⟩ := by rw [hs0]; rfl
        rw [es0] at q1 q2
        refine .next (by show ((outF k : Nat) : Int) = 1; rw [ho1]; rfl) (by show (0 : Int) < ((a : Nat) : Int); omega) (by have hlt' : a < Z.1.ns.length := hlt; show ((a : Nat) : Int) < ((Z.1.ns.length : Nat) : Int); omega) ?_ ?_ q1 ?_ ?_
        · show asksN (Z.1.nd (a : Nat)).k
          rw [(G2.nd _ (by omega) (by rw [addN_len]; omega)).1,hkd]; exact hasks
        · have := d2'.has hz1
          rw [es0] at this; exact this
        · show _ < (Z.1.lk ⟨((⟨(a : Nat),(outF k : Nat)⟩ : Pt)).n,0⟩).n
          rw [q2,hout]; show ((a : Nat) : Int) < _; omega
        · rw [q2]
          exact (hsp.mono kgr).mono d2'
end Go.Proofs.Ytkpfjolcmkikeaa.Tm
end
section
set_option linter.unusedSimpArgs false
set_option linter.unusedVariables false
set_option maxHeartbeats 8000000
set_option maxRecDepth 10000
namespace Go.Proofs.Ytkpfjolcmkikeaa.Tm
open Go.Fx
def RestOk (t : T) (lv : Int) (f : Nt → W) : Prop := ∀ m : Nt,Room m → ((f m).n.ns.length : Int) ≤ m.cap →
  Room (f m).n ∧ (∀ x ∈ (f m).l,OkE x) ∧ ((0 ≤ (f m).out.n ∧ (f m).out.n ≤ 5000) ∧ (0 ≤ (f m).out.s ∧ (f m).out.s ≤ 100)) ∧
  ∀ (e : Env) (σ : St) (c0 : Nat),e 2 = .a (.p (.i .i64 lv)) → e 3 = .a (.ptr (3,c0) 0 0) → e 4 = .a (.ptr (4,c0 + 1) 0 0) → e 6 = .a (.ptr (6,c0 + 2) 0 0) → σ.clk = c0 + 3 →
    σ.bs (3,c0) = some (.var [.p (.l (m.ns.map encN)),.p (.i .i64 m.cap)]) → σ.bs (4,c0 + 1) = some (.var [.p (.i .i64 t.k),.p (.i .i64 t.n),.p (.s t.s),.p (.l (t.l.map enc))]) → σ.bs (6,c0 + 2) = some (.var [.nil,.p (.i .i64 0),.p (.i .i64 0),.p (.i .i64 0),.nil,.p (.i .i64 0)]) →
    wp S false F60r0 e σ (RetS [.cell 6 6 true] fun v σ' => ∃ X,v = .g (encW (f m).n (f m).out X) ∧ OwnL c0 σ' X (f m).l ∧ Keep c0 σ σ')
theorem fz1_plain {σ : St} {s : Key} {a b : PV} (h : σ.bs s = some (.var [.p a,.p b])) : fz1 σ (.a (.ptr s 0 0)) = some (σ.put s (.var [.p a,.p b])) := by
  simp only [fz1,h]
  rfl
theorem fz1_own {σ : St} {s : Key} {d q k tt : Nat} {rows : List (List PV)} {b : PV} (h : σ.bs s = some (.var [.own (d,q) 0 rows.length,.p b])) (hr : σ.bs (d,q) = some (.row k tt rows)) (hne : (d,q) ≠ s) : fz1 σ (.a (.ptr s 0 0)) = some ((σ.kill (d,q)).put s (.var [.p (.l rows),.p b])) := by
  simp [fz1,h,hr,hne,frL,frA,klL,klA]
theorem RetS.mono {res : List Rs} {K K' : TV → St → Prop} (h : ∀ v σ,K v σ → K' v σ) {x : Ex} {e : Env} {σ : St} (q : RetS res K x e σ) : RetS res K' x e σ := by
  cases x with
  | exit id => exact q
  | norm => obtain ⟨v,h1,h2⟩ := q; exact ⟨v,h1,h v σ h2⟩
  | ret => obtain ⟨v,h1,h2⟩ := q; exact ⟨v,h1,h v σ h2⟩
theorem rest_goes {t : T} {lv : Int} {f : Nt → W} (h : RestOk t lv f) : Goes 60 (argsP t lv) f := by
  intro m hm hfit
  obtain ⟨h1,h2,h3,h4⟩ := h m hm hfit
  refine ⟨h1,h2,h3,fun σ => ?_⟩
  refine x_fnS (fc := F60) rfl rfl ?_
  obtain ⟨c0,hc0⟩ : ∃ c0,σ.clk = c0 := ⟨_,rfl⟩
  rw [hc0]
  have et := enc_eq t
  have n36 : ¬ c0 = c0 + 1 ∧ ¬ c0 = c0 + 2 ∧ ¬ c0 + 1 = c0 ∧ ¬ c0 + 2 = c0 ∧ ¬ c0 + 1 = c0 + 2 ∧ ¬ c0 + 2 = c0 + 1 := by omega
  simp only [argsP,F60,hc0,et,encT,List.map_cons,List.map_nil,Nat.add_assoc,Nat.reduceAdd,List.length_cons,List.length_nil,x_fz,fzS,fxa,fxc,fxE,fxL,fxI,nxE,evO,evR,cellsT,ldCells,mkT,lenA,binPV,Env.init,resV,resT,frT,klT,ownT,intT,O.adds,ownA,rowsA,over,wrOk,keysT,keysA,ne_eq,if_true,if_false,ite_self,Nat.reduceLT,Nat.reduceSub,Nat.reduceBEq,Nat.reduceEqDiff,Nat.reduceAdd,Nat.reduceLeDiff,reduceCtorEq,Nat.reduceMul]
  rw [fz1_plain (a := .l (m.ns.map encN)) (b := .i .i64 m.cap) (by simp only [add_bs,add_clk,hc0,Nat.add_assoc,Nat.reduceAdd,Prod.mk.injEq,Nat.reduceEqDiff,false_and,if_false,and_self,if_true])]
  refine ⟨_,rfl,?_⟩
  refine Go.Fx.wp_mono (h4 _ _ c0 ?_ ?_ ?_ ?_ ?_ ?_ ?_ ?_) (fun x e' τ q => RetS.mono ?_ q)
  · simp only [fxa,fxc,fxE,fxL,fxI,nxE,evO,evR,cellsT,ldCells,mkT,lenA,binPV,Env.init,resV,resT,frT,klT,ownT,intT,O.adds,ownA,rowsA,over,wrOk,keysT,keysA,ne_eq,if_true,if_false,ite_self,Nat.reduceLT,Nat.reduceSub,Nat.reduceBEq,Nat.reduceEqDiff,Nat.reduceAdd,Nat.reduceLeDiff,reduceCtorEq,Nat.reduceMul]
  · simp only [fxa,fxc,fxE,fxL,fxI,nxE,evO,evR,cellsT,ldCells,mkT,lenA,binPV,Env.init,resV,resT,frT,klT,ownT,intT,O.adds,ownA,rowsA,over,wrOk,keysT,keysA,ne_eq,if_true,if_false,ite_self,Nat.reduceLT,Nat.reduceSub,Nat.reduceBEq,Nat.reduceEqDiff,Nat.reduceAdd,Nat.reduceLeDiff,reduceCtorEq,Nat.reduceMul]
  · simp only [fxa,fxc,fxE,fxL,fxI,nxE,evO,evR,cellsT,ldCells,mkT,lenA,binPV,Env.init,resV,resT,frT,klT,ownT,intT,O.adds,ownA,rowsA,over,wrOk,keysT,keysA,ne_eq,if_true,if_false,ite_self,Nat.reduceLT,Nat.reduceSub,Nat.reduceBEq,Nat.reduceEqDiff,Nat.reduceAdd,Nat.reduceLeDiff,reduceCtorEq,Nat.reduceMul]
  · simp only [fxa,fxc,fxE,fxL,fxI,nxE,evO,evR,cellsT,ldCells,mkT,lenA,binPV,Env.init,resV,resT,frT,klT,ownT,intT,O.adds,ownA,rowsA,over,wrOk,keysT,keysA,ne_eq,if_true,if_false,ite_self,Nat.reduceLT,Nat.reduceSub,Nat.reduceBEq,Nat.reduceEqDiff,Nat.reduceAdd,Nat.reduceLeDiff,reduceCtorEq,Nat.reduceMul]
  · simp only [put_clk,add_clk,hc0,Nat.add_assoc,Nat.reduceAdd]
  · simp only [put_bs,if_true]
  · simp only [put_bs,add_bs,add_clk,hc0,Nat.add_assoc,Nat.reduceAdd,Prod.mk.injEq,Nat.reduceEqDiff,false_and,if_false,and_self,if_true]
  · simp only [put_bs,add_bs,add_clk,hc0,Nat.add_assoc,Nat.reduceAdd,Prod.mk.injEq,Nat.reduceEqDiff,false_and,if_false,and_self,if_true]
  · rintro v τ ⟨X,rfl,k2,k3⟩
    exact ⟨X,rfl,k2,((Keep.adds (by omega) 3 4 6 _ _ _).put (k := (3,c0)) (Nat.le_refl c0) _).trans k3⟩
theorem rest_own {t : T} {lv : Int} {f : Nt → W} (h : RestOk t lv f) {m : Nt} (hm : Room m) (hfit : ((f m).n.ns.length : Int) ≤ m.cap) {σ : St} {d q tt : Nat} (hr : σ.bs (d,q) = some (.row 6 tt (m.ns.map encN))) (hq : q < σ.clk) :
    ∃ v σ',eS S (.f 60) [.g [.own (d,q) 0 m.ns.length,.p (.i .i64 m.cap)],.g ((enc t).map .p),.a (.p (.i .i64 lv))] σ = some (v,σ') ∧ ∃ X,v = .g (encW (f m).n (f m).out X) ∧ OwnL σ.clk σ' X (f m).l ∧ ∀ s : Key,s.2 < σ.clk → s ≠ (d,q) → σ'.bs s = σ.bs s := by
  obtain ⟨h1,h2,h3,h4⟩ := h m hm hfit
  refine x_fnS (fc := F60) rfl rfl ?_
  obtain ⟨c0,hc0⟩ : ∃ c0,σ.clk = c0 := ⟨_,rfl⟩
  rw [hc0] at hq ⊢
  have et := enc_eq t
  have hml : (m.ns.map encN).length = m.ns.length := List.length_map ..
  have nq : ¬ q = c0 ∧ ¬ q = c0 + 1 ∧ ¬ q = c0 + 2 ∧ ¬ c0 = q ∧ ¬ c0 + 1 = q ∧ ¬ c0 + 2 = q := by omega
  simp only [F60,hc0,et,List.map_cons,List.map_nil,Nat.add_assoc,Nat.reduceAdd,List.length_cons,List.length_nil,x_fz,fzS,fxa,fxc,fxE,fxL,fxI,nxE,evO,evR,cellsT,ldCells,mkT,lenA,binPV,Env.init,resV,resT,frT,klT,ownT,intT,O.adds,ownA,rowsA,over,wrOk,keysT,keysA,ne_eq,if_true,if_false,ite_self,Nat.reduceLT,Nat.reduceSub,Nat.reduceBEq,Nat.reduceEqDiff,Nat.reduceAdd,Nat.reduceLeDiff,reduceCtorEq,Nat.reduceMul]
  rw [fz1_own (d := d) (q := q) (k := 6) (tt := tt) (rows := m.ns.map encN) (b := .i .i64 m.cap) (by rw [hml]; simp only [add_bs,add_clk,hc0,Nat.add_assoc,Nat.reduceAdd,Prod.mk.injEq,Nat.reduceEqDiff,false_and,if_false,and_self,if_true]) (by simp only [add_bs,add_clk,hc0,Nat.add_assoc,Nat.reduceAdd,Prod.mk.injEq,nq,and_false,if_false]; exact hr) (by intro e; injection e with _ e; omega)]
  refine ⟨_,rfl,?_⟩
  refine Go.Fx.wp_mono (h4 _ _ c0 ?_ ?_ ?_ ?_ ?_ ?_ ?_ ?_) (fun x e' τ q => RetS.mono ?_ q)
  · simp only [fxa,fxc,fxE,fxL,fxI,nxE,evO,evR,cellsT,ldCells,mkT,lenA,binPV,Env.init,resV,resT,frT,klT,ownT,intT,O.adds,ownA,rowsA,over,wrOk,keysT,keysA,ne_eq,if_true,if_false,ite_self,Nat.reduceLT,Nat.reduceSub,Nat.reduceBEq,Nat.reduceEqDiff,Nat.reduceAdd,Nat.reduceLeDiff,reduceCtorEq,Nat.reduceMul]
  · simp only [fxa,fxc,fxE,fxL,fxI,nxE,evO,evR,cellsT,ldCells,mkT,lenA,binPV,Env.init,resV,resT,frT,klT,ownT,intT,O.adds,ownA,rowsA,over,wrOk,keysT,keysA,ne_eq,if_true,if_false,ite_self,Nat.reduceLT,Nat.reduceSub,Nat.reduceBEq,Nat.reduceEqDiff,Nat.reduceAdd,Nat.reduceLeDiff,reduceCtorEq,Nat.reduceMul]
  · simp only [fxa,fxc,fxE,fxL,fxI,nxE,evO,evR,cellsT,ldCells,mkT,lenA,binPV,Env.init,resV,resT,frT,klT,ownT,intT,O.adds,ownA,rowsA,over,wrOk,keysT,keysA,ne_eq,if_true,if_false,ite_self,Nat.reduceLT,Nat.reduceSub,Nat.reduceBEq,Nat.reduceEqDiff,Nat.reduceAdd,Nat.reduceLeDiff,reduceCtorEq,Nat.reduceMul]
  · simp only [fxa,fxc,fxE,fxL,fxI,nxE,evO,evR,cellsT,ldCells,mkT,lenA,binPV,Env.init,resV,resT,frT,klT,ownT,intT,O.adds,ownA,rowsA,over,wrOk,keysT,keysA,ne_eq,if_true,if_false,ite_self,Nat.reduceLT,Nat.reduceSub,Nat.reduceBEq,Nat.reduceEqDiff,Nat.reduceAdd,Nat.reduceLeDiff,reduceCtorEq,Nat.reduceMul]
  · simp only [put_clk,add_clk,kill_clk,hc0,Nat.add_assoc,Nat.reduceAdd]
  · simp only [put_bs,if_true]
  · simp only [put_bs,add_bs,kill_bs,add_clk,hc0,Nat.add_assoc,Nat.reduceAdd,Prod.mk.injEq,Nat.reduceEqDiff,nq,false_and,and_false,if_false,and_self,if_true]
  · simp only [put_bs,add_bs,kill_bs,add_clk,hc0,Nat.add_assoc,Nat.reduceAdd,Prod.mk.injEq,Nat.reduceEqDiff,nq,false_and,and_false,if_false,and_self,if_true]
  · rintro v τ ⟨X,rfl,k2,k3⟩
    refine ⟨X,rfl,k2,fun s hs hne => ?_⟩
    rw [k3.bs s hs]
    have n1 : ∀ d' j,¬ s = (d',c0 + j) := by rintro d' j rfl; simp at hs; omega
    have n0 : ∀ d',¬ s = (d',c0) := by rintro d' rfl; simp at hs
    simp only [put_bs,add_bs,kill_bs,add_clk,hc0,Nat.add_assoc,Nat.reduceAdd,n0,n1,hne,if_false]
theorem leaf_rest {f k n lv : Int} (hlv : 0 ≤ lv ∧ lv ≤ 60) (hn : wf n) (hk : (k = 1 ∧ 0 ≤ n ∧ n < f) ∨ k = 7 ∨ k = 9) (hf : f ≤ 1099511627776) : RestOk (.mk k n [] []) lv (leafG k n lv) := by
  intro m hm hfit
  have hcap := hm.cap
  have hll := leaf_len k n lv m
  have hrm : ((m.ns.length + 1 : Nat) : Int) ≤ m.cap := by omega
  have et : enc (.mk k n [] []) = [.i .i64 k,.i .i64 n,.s [],.l []] := rfl
  have a1 := at_ok (m.ns.length : Nat) 1
  have a0 := at_ok (m.ns.length : Nat) 0
  have ho : (0 : Int) ≤ ((m.ns.length : Nat) : Int) ∧ ((m.ns.length : Nat) : Int) ≤ 5000 := by omega
  rcases hk with ⟨rfl,hn0,hn1⟩ | rfl | rfl
  · have e : leafG 1 n lv m = ⟨addN m (nodeK 5 lv),⟨(m.ns.length : Nat),1⟩,[(n,⟨(m.ns.length : Nat),0⟩)]⟩ := rfl
    have h5 := nodeK_Ok (k := 5) (by omega) hlv
    have c1 := made_ok (x := nodeK 5 lv) hm h5 (by show ¬ (5 : Int) < 2; decide) (may6 hlv (by omega)) (by show lv ≤ 60; omega) hrm
    rw [e]
    refine ⟨room_add hm h5 (by show (5 : Int) ≠ 0; decide) hrm,fun x hx => ?_,⟨ho,by show (0 : Int) ≤ 1; decide,by show (1 : Int) ≤ 100; decide⟩,fun e σ c0 e2 e3 e4 e6 hc0 b3 b4 b6 => ?_⟩
    · have : x = (n,⟨(m.ns.length : Nat),0⟩) := by simpa using hx
      subst this
      exact ⟨⟨hn0,by show n ≤ _; omega⟩,⟨ho.1,by show ((m.ns.length : Nat) : Int) ≤ _; omega⟩,⟨by show (0 : Int) ≤ 0; decide,by show (0 : Int) ≤ _; decide⟩⟩
    have b4' : σ.bs (4,c0 + 1) = some (.var [.p (.i .i64 1),.p (.i .i64 n),.p (.s []),.p (.l [])]) := b4
    obtain ⟨a,ha⟩ : ∃ a,m.ns.length = a := ⟨_,rfl⟩
    rw [ha] at c1 a1 a0 ⊢
    simp only [nodeK,encT,encN,List.map_nil] at c1
    have n36 : ¬ c0 = c0 + 3 ∧ ¬ c0 + 1 = c0 ∧ ¬ c0 + 2 = c0 ∧ ¬ c0 + 3 = c0 ∧ ¬ c0 + 4 = c0 ∧ ¬ c0 = c0 + 4 ∧ ¬ c0 + 3 = c0 + 4 := by omega
    simp only [F60r0,e2,e3,e4,e6,b3,b4',b6,hc0,encT,encN,c1,a1,a0,n36,Int.reduceEq,List.map_cons,List.map_nil,Nat.add_assoc,Nat.reduceAdd,List.length_cons,List.length_nil,List.cons_append,List.nil_append,fxa,fxc,fxE,fxL,fxI,nxE,evO,evR,cellsT,ldCells,mkT,lenA,binPV,Env.init,resV,resT,frT,klT,ownT,intT,O.adds,ownA,rowsA,over,wrOk,keysT,keysA,ne_eq,if_true,if_false,ite_self,Nat.reduceLT,Nat.reduceSub,Nat.reduceBEq,Nat.reduceEqDiff,Nat.reduceAdd,Nat.reduceLeDiff,reduceCtorEq,Nat.reduceMul]
    refine ⟨.own (50,c0 + 5) 0 1,rfl,.inr ⟨50,c0 + 5,rfl,?_,by omega,?_⟩,?_⟩
    · simp only [put_bs,add_bs,put_clk,add_clk,hc0,Nat.add_assoc,Nat.reduceAdd,Prod.mk.injEq,Nat.reduceEqDiff,false_and,if_false,and_self,if_true]; rfl
    · simp only [put_clk,add_clk,hc0]; omega
    · repeat (first | exact Keep.refl _ _ | refine Keep.put ?_ (by first | omega | (dsimp only <;> omega)) _ | refine Keep.add ?_ (by simp only [put_clk,add_clk,hc0] <;> omega) _ _)
  · have e : leafG 7 n lv m = ⟨addN m ⟨10,lv,n,[],[],[]⟩,⟨(m.ns.length : Nat),0⟩,[]⟩ := rfl
    have h5 : (⟨10,lv,n,[],[],[]⟩ : Nd).Ok := ⟨⟨by show (-9223372036854775808 : Int) ≤ 10; decide,by show (10 : Int) ≤ _; decide⟩,⟨by show _ ≤ lv; omega,by show lv ≤ _; omega⟩,hn,by simp,by simp,by simp,by simp,by simp⟩
    have hmy : (⟨10,lv,n,[],[],[]⟩ : Nd).may := by
      rw [Go.Proofs.Ytkpfjolcmkikeaa.may_iff]
      unfold altsP
      simp; omega
    have c1 := made_ok (x := ⟨10,lv,n,[],[],[]⟩) hm h5 (by show ¬ (10 : Int) < 2; decide) hmy (by show lv ≤ 60; omega) hrm
    rw [e]
    refine ⟨room_add hm h5 (by show (10 : Int) ≠ 0; decide) hrm,by simp,⟨ho,by show (0 : Int) ≤ 0; decide,by show (0 : Int) ≤ 100; decide⟩,fun e σ c0 e2 e3 e4 e6 hc0 b3 b4 b6 => ?_⟩
    have b4' : σ.bs (4,c0 + 1) = some (.var [.p (.i .i64 7),.p (.i .i64 n),.p (.s []),.p (.l [])]) := b4
    obtain ⟨a,ha⟩ : ∃ a,m.ns.length = a := ⟨_,rfl⟩
    rw [ha] at c1 a1 a0 ⊢
    simp only [nodeK,encT,encN,List.map_nil] at c1
    have n36 : ¬ c0 = c0 + 3 ∧ ¬ c0 + 1 = c0 ∧ ¬ c0 + 2 = c0 ∧ ¬ c0 + 3 = c0 ∧ ¬ c0 + 4 = c0 ∧ ¬ c0 = c0 + 4 ∧ ¬ c0 + 3 = c0 + 4 := by omega
    simp only [F60r0,e2,e3,e4,e6,b3,b4',b6,hc0,encT,encN,c1,a1,a0,n36,Int.reduceEq,List.map_cons,List.map_nil,Nat.add_assoc,Nat.reduceAdd,List.length_cons,List.length_nil,List.cons_append,List.nil_append,fxa,fxc,fxE,fxL,fxI,nxE,evO,evR,cellsT,ldCells,mkT,lenA,binPV,Env.init,resV,resT,frT,klT,ownT,intT,O.adds,ownA,rowsA,over,wrOk,keysT,keysA,ne_eq,if_true,if_false,ite_self,Nat.reduceLT,Nat.reduceSub,Nat.reduceBEq,Nat.reduceEqDiff,Nat.reduceAdd,Nat.reduceLeDiff,reduceCtorEq,Nat.reduceMul]
    refine ⟨.nil,rfl,.inl ⟨rfl,rfl⟩,?_⟩
    repeat (first | exact Keep.refl _ _ | refine Keep.put ?_ (by first | omega | (dsimp only <;> omega)) _ | refine Keep.add ?_ (by simp only [put_clk,add_clk,hc0] <;> omega) _ _)
  · have e : leafG 9 n lv m = ⟨addN m (nodeK 13 lv),⟨(m.ns.length : Nat),0⟩,[]⟩ := rfl
    have h5 : ((nodeK 13 lv) : Nd).Ok := nodeK_Ok (k := 13) (by omega) hlv
    have hmy : ((nodeK 13 lv) : Nd).may := may6 hlv (by omega)
    have c1 := made_ok (x := (nodeK 13 lv)) hm h5 (by show ¬ (13 : Int) < 2; decide) hmy (by show lv ≤ 60; omega) hrm
    rw [e]
    refine ⟨room_add hm h5 (by show (13 : Int) ≠ 0; decide) hrm,by simp,⟨ho,by show (0 : Int) ≤ 0; decide,by show (0 : Int) ≤ 100; decide⟩,fun e σ c0 e2 e3 e4 e6 hc0 b3 b4 b6 => ?_⟩
    have b4' : σ.bs (4,c0 + 1) = some (.var [.p (.i .i64 9),.p (.i .i64 n),.p (.s []),.p (.l [])]) := b4
    obtain ⟨a,ha⟩ : ∃ a,m.ns.length = a := ⟨_,rfl⟩
    rw [ha] at c1 a1 a0 ⊢
    simp only [nodeK,encT,encN,List.map_nil] at c1
    have n36 : ¬ c0 = c0 + 3 ∧ ¬ c0 + 1 = c0 ∧ ¬ c0 + 2 = c0 ∧ ¬ c0 + 3 = c0 ∧ ¬ c0 + 4 = c0 ∧ ¬ c0 = c0 + 4 ∧ ¬ c0 + 3 = c0 + 4 := by omega
    simp only [F60r0,e2,e3,e4,e6,b3,b4',b6,hc0,encT,encN,c1,a1,a0,n36,Int.reduceEq,List.map_cons,List.map_nil,Nat.add_assoc,Nat.reduceAdd,List.length_cons,List.length_nil,List.cons_append,List.nil_append,fxa,fxc,fxE,fxL,fxI,nxE,evO,evR,cellsT,ldCells,mkT,lenA,binPV,Env.init,resV,resT,frT,klT,ownT,intT,O.adds,ownA,rowsA,over,wrOk,keysT,keysA,ne_eq,if_true,if_false,ite_self,Nat.reduceLT,Nat.reduceSub,Nat.reduceBEq,Nat.reduceEqDiff,Nat.reduceAdd,Nat.reduceLeDiff,reduceCtorEq,Nat.reduceMul]
    refine ⟨.nil,rfl,.inl ⟨rfl,rfl⟩,?_⟩
    repeat (first | exact Keep.refl _ _ | refine Keep.put ?_ (by first | omega | (dsimp only <;> omega)) _ | refine Keep.add ?_ (by simp only [put_clk,add_clk,hc0] <;> omega) _ _)
theorem lam_rest {b : T} {lv : Int} (hlv : 0 ≤ lv ∧ lv ≤ 60) {g : Nt → W} (hg : Goes 83 (argsL b 1 lv) g) : RestOk (.mk 2 0 [] [b]) lv g := by
  intro m hm hfit
  obtain ⟨g1,g2,g3,g4⟩ := hg m hm hfit
  refine ⟨g1,g2,g3,fun e σ c0 e2 e3 e4 e6 hc0 b3 b4 b6 => ?_⟩
  have eb := enc_eq b
  have et : enc (.mk 2 0 [] [b]) = [.i .i64 2,.i .i64 0,.s [],.l [[.i .i64 b.k,.i .i64 b.n,.s b.s,.l (b.l.map enc)]]] := by rw [← eb]; rfl
  have b4' : σ.bs (4,c0 + 1) = some (.var [.p (.i .i64 2),.p (.i .i64 0),.p (.s []),.p (.l [[.i .i64 b.k,.i .i64 b.n,.s b.s,.l (b.l.map enc)]])]) := by rw [← eb]; exact b4
  have n36 : ¬ c0 = c0 + 3 ∧ ¬ c0 + 1 = c0 ∧ ¬ c0 + 2 = c0 ∧ ¬ c0 + 3 = c0 ∧ ¬ c0 + 4 = c0 ∧ ¬ c0 = c0 + 4 ∧ ¬ c0 + 3 = c0 + 4 := by omega
  obtain ⟨σ1,hσ1⟩ : ∃ s,(σ.add 7 (.var [.p (.i .i64 0),.p (.i .i64 0),.p (.i .i64 0),.p (.s []),.nil,.nil])).put (7,c0 + 3) (.var [.p (.i .i64 0),.p (.i .i64 lv),.p (.i .i64 0),.p (.s []),.nil,.nil]) = s := ⟨_,rfl⟩
  have hK1 : Keep c0 σ σ1 := by
    rw [← hσ1]
    repeat (first | exact Keep.refl _ _ | refine Keep.put ?_ (by first | omega | (dsimp only <;> omega)) _ | refine Keep.add ?_ (by simp only [put_clk,add_clk,hc0] <;> omega) _ _)
  have hcl : σ1.clk = c0 + 4 := by rw [← hσ1]; simp only [put_clk,add_clk,hc0,Nat.add_assoc,Nat.reduceAdd]
  have b6 : σ1.bs (6,c0 + 2) = some (.var [.nil,.p (.i .i64 0),.p (.i .i64 0),.p (.i .i64 0),.nil,.p (.i .i64 0)]) := by
    rw [← hσ1]
    simp only [put_bs,add_bs,put_clk,add_clk,hc0,Nat.add_assoc,Nat.reduceAdd,Prod.mk.injEq,Nat.reduceEqDiff,false_and,if_false,and_self,if_true]; exact b6
  obtain ⟨v,σ2,k1,X,rfl,k2,k3⟩ := g4 σ1
  rw [hcl] at k2 k3
  have b6' := (k3.bs (6,c0 + 2) (by show c0 + 2 < c0 + 4; omega)).trans b6
  have c1 : ((1 : Nat) : Int) = 1 := rfl
  have z1 : (0 : Int) < ((1 : Nat) : Int) := by decide
  have t0 : Int.toNat 0 = 0 := rfl
  simp only [argsL,c1,eb,encT,encW,List.map_cons,List.map_nil] at k1
  simp only [F60r0,e2,e3,e4,e6,b3,b4',b6,hc0,encT,n36,z1,t0,Int.le_refl,Int.reduceLT,Int.reduceEq,List.map_cons,List.map_nil,Nat.add_assoc,Nat.reduceAdd,List.length_cons,List.length_nil,List.cons_append,List.nil_append,List.getElem?_cons_zero,fxa,fxc,fxE,fxL,fxI,nxE,evO,evR,cellsT,ldCells,mkT,lenA,binPV,Env.init,resV,resT,frT,klT,ownT,intT,O.adds,ownA,rowsA,over,wrOk,keysT,keysA,ne_eq,if_true,if_false,ite_self,Nat.reduceLT,Nat.reduceSub,Nat.reduceBEq,Nat.reduceEqDiff,Nat.reduceAdd,Nat.reduceLeDiff,reduceCtorEq,Nat.reduceMul]
  rw [hσ1]
  simp only [k1,b6',e2,e3,e4,e6,encW,fxa,fxc,fxE,fxL,fxI,nxE,evO,evR,cellsT,ldCells,mkT,lenA,binPV,Env.init,resV,resT,frT,klT,ownT,intT,O.adds,ownA,rowsA,over,wrOk,keysT,keysA,ne_eq,if_true,if_false,ite_self,Nat.reduceLT,Nat.reduceSub,Nat.reduceBEq,Nat.reduceEqDiff,Nat.reduceAdd,Nat.reduceLeDiff,reduceCtorEq,Nat.reduceMul]
  exact ⟨X,rfl,(k2.putv b6' _).mono (by omega),(hK1.trans (k3.mono (by omega))).put (k := (6,c0 + 2)) (by show c0 ≤ c0 + 2; omega) _⟩
theorem altsLoop {t : T} {lv : Int} (hl2 : 2 ≤ t.l.length) (hl9 : t.l.length ≤ 9) {c0 : Nat} {σ0 : St} (hc0 : c0 + 4 ≤ σ0.clk)
    (b4 : σ0.bs (4,c0 + 1) = some (.var [.p (.i .i64 t.k),.p (.i .i64 t.n),.p (.s t.s),.p (.l (t.l.map enc))]))
    (b7 : σ0.bs (7,c0 + 3) = some (.var [.p (.i .i64 9),.p (.i .i64 lv),.p (.i .i64 0),.p (.s []),.nil,.nil]))
    (e : Env) (e4 : e 4 = .a (.ptr (4,c0 + 1) 0 0)) (e7 : e 7 = .a (.ptr (7,c0 + 3) 0 0)) (e11 : e 11 = .a (.p (.i .i64 1))) :
    wp S false (.loop F60b0) e σ0 (fun z e' σ' => z = .exit 1 ∧ e' 3 = e 3 ∧ e' 4 = .a (.ptr (4,c0 + 1) 0 0) ∧ e' 6 = e 6 ∧ e' 7 = .a (.ptr (7,c0 + 3) 0 0) ∧
      (∃ d q,σ'.bs (7,c0 + 3) = some (.var [.p (.i .i64 9),.p (.i .i64 lv),.p (.i .i64 0),.p (.s []),.own (d,q) 0 (t.l.length - 1),.nil]) ∧ σ'.bs (d,q) = some (.row 2 79 (((t.l.drop 1).map arT).map encA)) ∧ c0 + 4 ≤ q ∧ q < σ'.clk) ∧ Keep (c0 + 3) σ0 σ') := by
  obtain ⟨u3,hu3⟩ : ∃ z,e 3 = z := ⟨_,rfl⟩
  obtain ⟨u6,hu6⟩ : ∃ z,e 6 = z := ⟨_,rfl⟩
  rw [hu3,hu6]
  have halen : ∀ j,((((t.l.drop 1).take j).map arT).map encA).length = ((t.l.drop 1).take j).length := fun j => by simp
  refine loop_nat (t.l.length - 1) (fun j e τ => e 3 = u3 ∧ e 4 = .a (.ptr (4,c0 + 1) 0 0) ∧ e 6 = u6 ∧ e 7 = .a (.ptr (7,c0 + 3) 0 0) ∧ e 11 = .a (.p (.i .i64 ((j + 1 : Nat) : Int))) ∧ Keep (c0 + 3) σ0 τ ∧
    ((j = 0 ∧ τ.bs (7,c0 + 3) = some (.var [.p (.i .i64 9),.p (.i .i64 lv),.p (.i .i64 0),.p (.s []),.nil,.nil])) ∨ ∃ d q,0 < j ∧ τ.bs (7,c0 + 3) = some (.var [.p (.i .i64 9),.p (.i .i64 lv),.p (.i .i64 0),.p (.s []),.own (d,q) 0 j,.nil]) ∧ τ.bs (d,q) = some (.row 2 79 ((((t.l.drop 1).take j).map arT).map encA)) ∧ c0 + 4 ≤ q ∧ q < τ.clk)) (i0 := 0) (Nat.zero_le _)
    ⟨hu3,e4,hu6,e7,e11,Keep.refl _ _,.inl ⟨rfl,b7⟩⟩ ?_ ?_
  · rintro j e τ hj ⟨e3,e4,e6,e7,e11,hK,hA⟩
    obtain ⟨x,hx⟩ : ∃ x,t.l[j + 1]? = some x := ⟨_,List.getElem?_eq_getElem (by omega)⟩
    have ex := enc_eq x
    have hx' : (t.l.map enc)[j + 1]? = some [.i .i64 x.k,.i .i64 x.n,.s x.s,.l (x.l.map enc)] := by rw [List.getElem?_map,hx]; simp [ex]
    have t4 := (hK.bs (4,c0 + 1) (by show c0 + 1 < c0 + 3; omega)).trans b4
    have hcl := hK.clk
    have hlt : ((j + 1 : Nat) : Int) < (t.l.length : Int) := by omega
    have hge : (0 : Int) ≤ ((j + 1 : Nat) : Int) := by omega
    have hw := wrap_succ (j + 1) (by omega)
    have hal : ((t.l.map enc).all fun r => decide (r.length = 4)) = true := enc_all t.l
    have htk : (t.l.drop 1).take (j + 1) = (t.l.drop 1).take j ++ [x] := by
      rw [List.take_add_one,List.getElem?_drop,show 1 + j = j + 1 by omega,hx]; rfl
    obtain ⟨κ,hκ⟩ : ∃ κ,τ.clk = κ := ⟨_,rfl⟩
    have n7 : ¬ c0 + 3 = κ ∧ ¬ c0 + 3 = κ + 1 ∧ ¬ κ = c0 + 3 ∧ ¬ κ + 1 = c0 + 3 := by omega
    rcases hA with ⟨rfl,t7⟩ | ⟨d,q,hj0,t7,hrow,hq0,hq1⟩
    · simp only [F60b0,e3,e4,e6,e7,e11,t4,t7,hlt,hge,hw,hx',hal,hκ,n7,Int.toNat_natCast,Nat.zero_add,Nat.one_mul,Nat.reduceLeDiff,Nat.zero_lt_one,List.length_map,List.length_cons,List.length_nil,fxa,fxc,fxE,fxL,fxI,nxE,evO,evR,cellsT,ldCells,mkT,lenA,binPV,Env.init,resV,resT,frT,klT,ownT,intT,O.adds,ownA,rowsA,over,wrOk,keysT,keysA,ne_eq,if_true,if_false,ite_self,Nat.reduceLT,Nat.reduceSub,Nat.reduceBEq,Nat.reduceEqDiff,Nat.reduceAdd,Nat.reduceLeDiff,reduceCtorEq,Nat.reduceMul]
      have htk1 : List.take 1 (List.drop 1 t.l) = [x] := by simpa using htk
      refine ⟨((hK.add (by omega) _ _).add (by simp only [add_clk]; omega) _ _).put (k := (7,c0 + 3)) (Nat.le_refl _) _,.inr ⟨108,κ + 1,rfl,?_,by omega,by omega⟩⟩
      rw [if_neg (by omega),if_pos ⟨rfl,rfl⟩,htk1]; rfl
    · have hjl : (((t.l.drop 1).take j).map arT).length = j := by simp; omega
      have htk2 : List.take j ((((t.l.drop 1).take j).map arT).map encA) = (((t.l.drop 1).take j).map arT).map encA := List.take_of_length_le (by rw [List.length_map,hjl]; exact Nat.le_refl _)
      have hbb : (j + 1) * 24 ≤ 140737488355328 := by omega
      have qn : ¬ q = κ ∧ ¬ q = κ + 1 ∧ ¬ c0 + 3 = q ∧ ¬ q = c0 + 3 := by omega
      simp only [F60b0,e3,e4,e6,e7,e11,t4,t7,hrow,htk2,hbb,qn,hjl,hlt,hge,hw,hx',hal,hκ,n7,Int.toNat_natCast,Nat.zero_add,Nat.one_mul,Nat.reduceLeDiff,Nat.le_refl,Nat.zero_lt_one,List.length_map,List.length_cons,List.length_nil,fxa,fxc,fxE,fxL,fxI,nxE,evO,evR,cellsT,ldCells,mkT,lenA,binPV,Env.init,resV,resT,frT,klT,ownT,intT,O.adds,ownA,rowsA,over,wrOk,keysT,keysA,ne_eq,if_true,if_false,ite_self,Nat.reduceLT,Nat.reduceSub,Nat.reduceBEq,Nat.reduceEqDiff,Nat.reduceAdd,Nat.reduceLeDiff,reduceCtorEq,Nat.reduceMul]
      refine ⟨(Keep.ap hK (by omega) (k := (d,q)) (by show c0 + 3 ≤ q; omega) _ _ _ _).put (k := (7,c0 + 3)) (Nat.le_refl _) _,.inr ⟨108,κ + 1,by omega,rfl,?_,by omega,by omega⟩⟩
      rw [if_neg (by omega),if_pos ⟨rfl,rfl⟩,htk]; simp [arT,encA]
  · rintro e τ ⟨e3,e4,e6,e7,e11,hK,hA⟩
    have t4 := (hK.bs (4,c0 + 1) (by show c0 + 1 < c0 + 3; omega)).trans b4
    have hlt : ¬ ((t.l.length - 1 + 1 : Nat) : Int) < (t.l.length : Int) := by omega
    simp only [F60b0,e3,e4,e6,e7,e11,t4,hlt,List.length_map,fxa,fxc,fxE,fxL,fxI,nxE,evO,evR,cellsT,ldCells,mkT,lenA,binPV,Env.init,resV,resT,frT,klT,ownT,intT,O.adds,ownA,rowsA,over,wrOk,keysT,keysA,ne_eq,if_true,if_false,ite_self,Nat.reduceLT,Nat.reduceSub,Nat.reduceBEq,Nat.reduceEqDiff,Nat.reduceAdd,Nat.reduceLeDiff,reduceCtorEq,Nat.reduceMul]
    rcases hA with ⟨h0,_⟩ | ⟨d,q,hj0,t7,hrow,hq0,hq1⟩
    · omega
    · rw [List.take_of_length_le (by simp)] at hrow
      exact ⟨⟨d,q,t7,hrow,hq0,hq1⟩,hK⟩
end Go.Proofs.Ytkpfjolcmkikeaa.Tm
end
section
set_option linter.unusedSimpArgs false
set_option linter.unusedVariables false
set_option maxHeartbeats 8000000
set_option maxRecDepth 10000
namespace Go.Proofs.Ytkpfjolcmkikeaa.Tm
open Go.Fx
theorem node_rest {f k lv : Int} {s : List UInt8} {l : List T} (hlv : 0 ≤ lv ∧ lv ≤ 60) (ht : T.Ok (.mk k 0 s l)) (hl9 : l.length ≤ 9)
    (hk : (k = 3 ∧ s = [] ∧ l.length = 2) ∨ (k = 4 ∧ s ≠ [] ∧ l.length ≤ 8) ∨ (k = 8 ∧ s ≠ [] ∧ l.length = 2) ∨ (k = 5 ∧ s = [] ∧ 2 ≤ l.length ∧ l.length ≤ 9 ∧ ((l.drop 1).map T.s).Nodup))
    (hc : ∀ (j : Nat) (t : T),l[j]? = some t → Cl f (decide (k = 5 ∧ 0 < j)) t) (hS : ∀ (i : Nat) (x : T),l[i]? = some x → SubS (.mk k 0 s l) lv i x) : RestOk (.mk k 0 s l) lv (partG (.mk k 0 s l) lv) := by
  intro m hm hfit
  have hcap := hm.cap
  obtain ⟨x1,x2,x3,x4,x5,x6,x7⟩ := nodeT_ok (f := f) (lv := lv) hlv ht.kids.2.2.1 (fun t h => (ht.kids.2.2.2.2 t h).own) hk hc
  have hkn : ¬ (k = 1 ∨ k = 7 ∨ k = 9) ∧ k ≠ 2 ∧ k ≠ 6 := by omega
  have e : partG (.mk k 0 s l) lv m = ⟨(kidsG l k lv m.ns.length 0 (addN m (nodeT k s l lv),[])).1,⟨(m.ns.length : Nat),(outF k : Nat)⟩,(kidsG l k lv m.ns.length 0 (addN m (nodeT k s l lv),[])).2⟩ := by rw [partG_mk,if_neg hkn.1,if_neg hkn.2.1,if_neg hkn.2.2]
  rw [e] at hfit ⊢
  have kl := kidsS_len (t := .mk k 0 s l) (lv := lv) (a := m.ns.length) l 0 (addN m (nodeT k s l lv),[]) fun j u hj => by rw [Nat.zero_add]; exact hS j u hj
  rw [addN_len,addN_cap] at kl
  have hfit' : ((kidsG l k lv m.ns.length 0 (addN m (nodeT k s l lv),[])).1.ns.length : Int) ≤ m.cap := hfit
  have kl1 : m.ns.length + 1 ≤ (kidsG l k lv m.ns.length 0 (addN m (nodeT k s l lv),[])).1.ns.length := kl.1
  have ho : outF k ≤ 1 := by unfold outF; split <;> omega
  have P := fun (c : Nat) (σ : St) (A Z : AV) (hc : c ≤ σ.clk) hA => parts_ok (t := .mk k 0 s l) (lv := lv) (m := m) (x := nodeT k s l lv) (by show l.length ≤ 1000; omega) hlv hm x1 x2 x3 x7 hS hfit' (c := c) (σ := σ) hc (A := A) (Z := Z) hA
  have RE : Room (kidsG l k lv m.ns.length 0 (addN m (nodeT k s l lv),[])).1 ∧ ∀ z ∈ (kidsG l k lv m.ns.length 0 (addN m (nodeT k s l lv),[])).2,OkE z := by
    rcases hk with ⟨rfl,rfl,hk1⟩ | ⟨rfl,hk1,hk2⟩ | ⟨rfl,hk1,hk2⟩ | ⟨rfl,rfl,hk1,hk2,hk3⟩
    · obtain ⟨v,σ',_,X,_,_,_,q1,q2⟩ := P 0 St.empty .nil .nil (Nat.zero_le _) (.inl ⟨rfl,rfl,rfl,rfl⟩)
      exact ⟨q1,q2⟩
    · obtain ⟨v,σ',_,X,_,_,_,q1,q2⟩ := P 0 St.empty .nil _ (Nat.zero_le _) (.inr (.inl ⟨rfl,rfl,rfl⟩))
      exact ⟨q1,q2⟩
    · obtain ⟨v,σ',_,X,_,_,_,q1,q2⟩ := P 0 St.empty .nil .nil (Nat.zero_le _) (.inl ⟨rfl,rfl,rfl,rfl⟩)
      exact ⟨q1,q2⟩
    · obtain ⟨v,σ',_,X,_,_,_,q1,q2⟩ := P 0 (St.empty.add 5 (.row 2 79 (((l.drop 1).map arT).map encA))) (.own (5,0) 0 (nodeT 5 [] l lv).al.length) .nil (Nat.zero_le _) (.inr (.inr ⟨5,0,rfl,rfl,Nat.zero_le _,by show 0 < 1; decide,rfl,rfl⟩))
      exact ⟨q1,q2⟩
  refine ⟨RE.1,RE.2,⟨⟨by show (0 : Int) ≤ ((m.ns.length : Nat) : Int); omega,by show ((m.ns.length : Nat) : Int) ≤ 5000; omega⟩,⟨by show (0 : Int) ≤ ((outF k : Nat) : Int); omega,by show ((outF k : Nat) : Int) ≤ 100; omega⟩⟩,fun e σ c0 e2 e3 e4 e6 hc0 b3 b4 b6 => ?_⟩
  · simp only [T.k,T.n,T.s,T.l] at b4
    have n36 : ¬ c0 = c0 + 3 ∧ ¬ c0 + 1 = c0 ∧ ¬ c0 + 2 = c0 ∧ ¬ c0 + 3 = c0 ∧ ¬ c0 + 4 = c0 ∧ ¬ c0 = c0 + 4 ∧ ¬ c0 + 3 = c0 + 4 := by omega
    have nt3 : nodeT 3 [] l lv = ⟨3,lv,0,[],[],[]⟩ := rfl
    have nt8 : nodeT 8 s l lv = ⟨11,lv,0,s,[],[]⟩ := rfl
    have nt4 : nodeT 4 s l lv = ⟨8,lv,0,s,[],List.replicate (l.length + 1) zP⟩ := rfl
    have nt5 : nodeT 5 [] l lv = ⟨9,lv,0,[],(l.drop 1).map arT,[]⟩ := rfl
    obtain ⟨K,hK⟩ : ∃ K,kidsG l k lv m.ns.length 0 (addN m (nodeT k s l lv),[]) = K := ⟨_,rfl⟩
    simp only [T.k,T.l,hK] at P
    show wp S false F60r0 e σ (RetS [.cell 6 6 true] fun v σ' => ∃ X,v = .g (encW (kidsG l k lv m.ns.length 0 (addN m (nodeT k s l lv),[])).1 ⟨(m.ns.length : Nat),(outF k : Nat)⟩ X) ∧ OwnL c0 σ' X (kidsG l k lv m.ns.length 0 (addN m (nodeT k s l lv),[])).2 ∧ Keep c0 σ σ')
    rw [hK]
    rcases hk with ⟨rfl,rfl,hk1⟩ | ⟨rfl,hk1,hk2⟩ | ⟨rfl,hk1,hk2⟩ | ⟨rfl,rfl,hk1,hk2,hk3⟩
    · have et : enc (.mk 3 0 [] l) = [.i .i64 3,.i .i64 0,.s [],.l (l.map enc)] := by rw [enc,encL_map]
      obtain ⟨σ1,hσ1⟩ : ∃ s',(((σ.add 7 (.var [.p (.i .i64 0),.p (.i .i64 0),.p (.i .i64 0),.p (.s []),.nil,.nil])).put (7,c0 + 3) (.var [.p (.i .i64 0),.p (.i .i64 lv),.p (.i .i64 0),.p (.s []),.nil,.nil])).put (7,c0 + 3) (.var [.p (.i .i64 3),.p (.i .i64 lv),.p (.i .i64 0),.p (.s []),.nil,.nil])) = s' := ⟨_,rfl⟩
      have hK1 : Keep c0 σ σ1 := by
        rw [← hσ1]
        repeat (first | exact Keep.refl _ _ | refine Keep.put ?_ (by first | omega | (dsimp only <;> omega)) _ | refine Keep.add ?_ (by simp only [put_clk,add_clk,hc0] <;> omega) _ _)
      have hcl : σ1.clk = c0 + 4 := by rw [← hσ1]; simp only [put_clk,add_clk,hc0,Nat.add_assoc,Nat.reduceAdd]
      have s6 : σ1.bs (6,c0 + 2) = some (.var [.nil,.p (.i .i64 0),.p (.i .i64 0),.p (.i .i64 0),.nil,.p (.i .i64 0)]) := by
        rw [← hσ1]
        simp only [put_bs,add_bs,put_clk,add_clk,hc0,Nat.add_assoc,Nat.reduceAdd,Prod.mk.injEq,Nat.reduceEqDiff,false_and,if_false,and_self,if_true]; exact b6
      obtain ⟨v,σ2,k1,X,rfl,k2,k3,k4,k5⟩ := P (c0 + 4) σ1 .nil .nil (by omega) (.inl ⟨rfl,rfl,rfl,rfl⟩)
      have b6' := (k3.bs (6,c0 + 2) (by show c0 + 2 < c0 + 4; omega)).trans s6
      simp only [nt3,et,encT,encW,List.map_cons,List.map_nil] at k1
      simp only [F60r0,e2,e3,e4,e6,b3,b4,b6,hc0,encT,n36,Int.reduceLT,Int.reduceEq,List.map_cons,List.map_nil,Nat.add_assoc,Nat.reduceAdd,List.length_cons,List.length_nil,List.length_map,List.cons_append,List.nil_append,fxa,fxc,fxE,fxL,fxI,nxE,evO,evR,cellsT,ldCells,mkT,lenA,binPV,Env.init,resV,resT,frT,klT,ownT,intT,O.adds,ownA,rowsA,over,wrOk,keysT,keysA,ne_eq,if_true,if_false,ite_self,Nat.reduceLT,Nat.reduceSub,Nat.reduceBEq,Nat.reduceEqDiff,Nat.reduceAdd,Nat.reduceLeDiff,reduceCtorEq,Nat.reduceMul]
      rw [hσ1]
      simp only [k1,b6',e2,e3,e4,e6,encW,fxa,fxc,fxE,fxL,fxI,nxE,evO,evR,cellsT,ldCells,mkT,lenA,binPV,Env.init,resV,resT,frT,klT,ownT,intT,O.adds,ownA,rowsA,over,wrOk,keysT,keysA,ne_eq,if_true,if_false,ite_self,Nat.reduceLT,Nat.reduceSub,Nat.reduceBEq,Nat.reduceEqDiff,Nat.reduceAdd,Nat.reduceLeDiff,reduceCtorEq,Nat.reduceMul]
      exact ⟨X,rfl,(k2.putv b6' _).mono (by omega),(hK1.trans (k3.mono (by omega))).put (k := (6,c0 + 2)) (by show c0 ≤ c0 + 2; omega) _⟩
    · have et : enc (.mk 4 0 s l) = [.i .i64 4,.i .i64 0,.s s,.l (l.map enc)] := by rw [enc,encL_map]
      have hrep : ∀ j : Nat,(List.replicate j zP).map encP = List.replicate j [.i .i64 0,.i .i64 0] := fun j => by rw [List.map_replicate]; rfl
      have hZ : (.p (.l ([.i .i64 0,.i .i64 0] :: List.replicate l.length [.i .i64 0,.i .i64 0]))) = AV.p (.l ((nodeT 4 s l lv).to.map encP)) := by rw [nt4]; show _ = AV.p (.l ((List.replicate (l.length + 1) zP).map encP)); rw [hrep,List.replicate_succ]
      have hm1 : (0 : Int) ≤ ((l.length + 1 : Nat) : Int) := by omega
      have hm2 : ((l.length + 1 : Nat) : Int) * ((16 : Nat) : Int) ≤ 140737488355328 := by omega
      obtain ⟨σ1,hσ1⟩ : ∃ s',((((((σ.add 7 (.var [.p (.i .i64 0),.p (.i .i64 0),.p (.i .i64 0),.p (.s []),.nil,.nil])).put (7,c0 + 3) (.var [.p (.i .i64 0),.p (.i .i64 lv),.p (.i .i64 0),.p (.s []),.nil,.nil])).put (7,c0 + 3) (.var [.p (.i .i64 8),.p (.i .i64 lv),.p (.i .i64 0),.p (.s []),.nil,.nil])).put (7,c0 + 3) (.var [.p (.i .i64 8),.p (.i .i64 lv),.p (.i .i64 0),.p (.s s),.nil,.nil])).add 80 (.row 2 43 ([.i .i64 0,.i .i64 0] :: List.replicate l.length [.i .i64 0,.i .i64 0]))).kill (80,c0 + 4)).put (7,c0 + 3) (.var [.p (.i .i64 8),.p (.i .i64 lv),.p (.i .i64 0),.p (.s s),.nil,(.p (.l ([.i .i64 0,.i .i64 0] :: List.replicate l.length [.i .i64 0,.i .i64 0])))]) = s' := ⟨_,rfl⟩
      have hK1 : Keep c0 σ σ1 := by
        rw [← hσ1]
        repeat (first | exact Keep.refl _ _ | refine Keep.kill ?_ (by first | omega | (dsimp only <;> omega)) | refine Keep.put ?_ (by first | omega | (dsimp only <;> omega)) _ | refine Keep.add ?_ (by simp only [put_clk,add_clk,kill_clk,hc0] <;> omega) _ _)
      have hcl : σ1.clk = c0 + 5 := by rw [← hσ1]; simp only [put_clk,add_clk,kill_clk,hc0,Nat.add_assoc,Nat.reduceAdd]
      have s6 : σ1.bs (6,c0 + 2) = some (.var [.nil,.p (.i .i64 0),.p (.i .i64 0),.p (.i .i64 0),.nil,.p (.i .i64 0)]) := by
        rw [← hσ1]
        simp only [put_bs,add_bs,kill_bs,put_clk,add_clk,kill_clk,hc0,Nat.add_assoc,Nat.reduceAdd,Prod.mk.injEq,Nat.reduceEqDiff,false_and,if_false,and_self,if_true]; exact b6
      obtain ⟨v,σ2,k1,X,rfl,k2,k3,k4,k5⟩ := P (c0 + 4) σ1 .nil (.p (.l ([.i .i64 0,.i .i64 0] :: List.replicate l.length [.i .i64 0,.i .i64 0]))) (by omega) (.inr (.inl ⟨rfl,rfl,hZ⟩))
      have b6' := (k3.bs (6,c0 + 2) (by show c0 + 2 < c0 + 4; omega)).trans s6
      have hlen : IntKind.i64.wrap ((l.length : Int) + 1) = ((l.length + 1 : Nat) : Int) := wrap_succ _ (by omega)
      simp only [nt4,et,encT,encW,List.map_cons,List.map_nil] at k1
      simp only [F60r0,e2,e3,e4,e6,b3,b4,b6,hc0,encT,n36,hlen,hm1,hm2,Int.le_refl,and_self,Int.reduceLT,Int.reduceEq,List.map_cons,List.map_nil,Nat.add_assoc,Nat.reduceAdd,List.length_cons,List.length_nil,List.length_map,List.cons_append,List.nil_append,fxa,fxc,fxE,fxL,fxI,nxE,evO,evR,cellsT,ldCells,mkT,lenA,binPV,Env.init,resV,resT,frT,klT,ownT,intT,O.adds,ownA,rowsA,over,wrOk,keysT,keysA,ne_eq,if_true,if_false,ite_self,Nat.reduceLT,Nat.reduceSub,Nat.reduceBEq,Nat.reduceEqDiff,Nat.reduceAdd,Nat.reduceLeDiff,reduceCtorEq,Nat.reduceMul]
      rw [hσ1]
      simp only [k1,b6',e2,e3,e4,e6,encW,fxa,fxc,fxE,fxL,fxI,nxE,evO,evR,cellsT,ldCells,mkT,lenA,binPV,Env.init,resV,resT,frT,klT,ownT,intT,O.adds,ownA,rowsA,over,wrOk,keysT,keysA,ne_eq,if_true,if_false,ite_self,Nat.reduceLT,Nat.reduceSub,Nat.reduceBEq,Nat.reduceEqDiff,Nat.reduceAdd,Nat.reduceLeDiff,reduceCtorEq,Nat.reduceMul]
      exact ⟨X,rfl,(k2.putv b6' _).mono (by omega),(hK1.trans (k3.mono (by omega))).put (k := (6,c0 + 2)) (by show c0 ≤ c0 + 2; omega) _⟩
    · have et : enc (.mk 8 0 s l) = [.i .i64 8,.i .i64 0,.s s,.l (l.map enc)] := by rw [enc,encL_map]
      obtain ⟨σ1,hσ1⟩ : ∃ s',((((σ.add 7 (.var [.p (.i .i64 0),.p (.i .i64 0),.p (.i .i64 0),.p (.s []),.nil,.nil])).put (7,c0 + 3) (.var [.p (.i .i64 0),.p (.i .i64 lv),.p (.i .i64 0),.p (.s []),.nil,.nil])).put (7,c0 + 3) (.var [.p (.i .i64 11),.p (.i .i64 lv),.p (.i .i64 0),.p (.s []),.nil,.nil])).put (7,c0 + 3) (.var [.p (.i .i64 11),.p (.i .i64 lv),.p (.i .i64 0),.p (.s s),.nil,.nil])) = s' := ⟨_,rfl⟩
      have hK1 : Keep c0 σ σ1 := by
        rw [← hσ1]
        repeat (first | exact Keep.refl _ _ | refine Keep.put ?_ (by first | omega | (dsimp only <;> omega)) _ | refine Keep.add ?_ (by simp only [put_clk,add_clk,hc0] <;> omega) _ _)
      have hcl : σ1.clk = c0 + 4 := by rw [← hσ1]; simp only [put_clk,add_clk,hc0,Nat.add_assoc,Nat.reduceAdd]
      have s6 : σ1.bs (6,c0 + 2) = some (.var [.nil,.p (.i .i64 0),.p (.i .i64 0),.p (.i .i64 0),.nil,.p (.i .i64 0)]) := by
        rw [← hσ1]
        simp only [put_bs,add_bs,put_clk,add_clk,hc0,Nat.add_assoc,Nat.reduceAdd,Prod.mk.injEq,Nat.reduceEqDiff,false_and,if_false,and_self,if_true]; exact b6
      obtain ⟨v,σ2,k1,X,rfl,k2,k3,k4,k5⟩ := P (c0 + 4) σ1 .nil .nil (by omega) (.inl ⟨rfl,rfl,rfl,rfl⟩)
      have b6' := (k3.bs (6,c0 + 2) (by show c0 + 2 < c0 + 4; omega)).trans s6
      simp only [nt8,et,encT,encW,List.map_cons,List.map_nil] at k1
      simp only [F60r0,e2,e3,e4,e6,b3,b4,b6,hc0,encT,n36,Int.reduceLT,Int.reduceEq,List.map_cons,List.map_nil,Nat.add_assoc,Nat.reduceAdd,List.length_cons,List.length_nil,List.length_map,List.cons_append,List.nil_append,fxa,fxc,fxE,fxL,fxI,nxE,evO,evR,cellsT,ldCells,mkT,lenA,binPV,Env.init,resV,resT,frT,klT,ownT,intT,O.adds,ownA,rowsA,over,wrOk,keysT,keysA,ne_eq,if_true,if_false,ite_self,Nat.reduceLT,Nat.reduceSub,Nat.reduceBEq,Nat.reduceEqDiff,Nat.reduceAdd,Nat.reduceLeDiff,reduceCtorEq,Nat.reduceMul]
      rw [hσ1]
      simp only [k1,b6',e2,e3,e4,e6,encW,fxa,fxc,fxE,fxL,fxI,nxE,evO,evR,cellsT,ldCells,mkT,lenA,binPV,Env.init,resV,resT,frT,klT,ownT,intT,O.adds,ownA,rowsA,over,wrOk,keysT,keysA,ne_eq,if_true,if_false,ite_self,Nat.reduceLT,Nat.reduceSub,Nat.reduceBEq,Nat.reduceEqDiff,Nat.reduceAdd,Nat.reduceLeDiff,reduceCtorEq,Nat.reduceMul]
      exact ⟨X,rfl,(k2.putv b6' _).mono (by omega),(hK1.trans (k3.mono (by omega))).put (k := (6,c0 + 2)) (by show c0 ≤ c0 + 2; omega) _⟩
    · have et : enc (.mk 5 0 [] l) = [.i .i64 5,.i .i64 0,.s [],.l (l.map enc)] := by rw [enc,encL_map]
      obtain ⟨σ1,hσ1⟩ : ∃ s',(((σ.add 7 (.var [.p (.i .i64 0),.p (.i .i64 0),.p (.i .i64 0),.p (.s []),.nil,.nil])).put (7,c0 + 3) (.var [.p (.i .i64 0),.p (.i .i64 lv),.p (.i .i64 0),.p (.s []),.nil,.nil])).put (7,c0 + 3) (.var [.p (.i .i64 9),.p (.i .i64 lv),.p (.i .i64 0),.p (.s []),.nil,.nil])) = s' := ⟨_,rfl⟩
      have hK1 : Keep c0 σ σ1 := by
        rw [← hσ1]
        repeat (first | exact Keep.refl _ _ | refine Keep.put ?_ (by first | omega | (dsimp only <;> omega)) _ | refine Keep.add ?_ (by simp only [put_clk,add_clk,hc0] <;> omega) _ _)
      have hcl : σ1.clk = c0 + 4 := by rw [← hσ1]; simp only [put_clk,add_clk,hc0,Nat.add_assoc,Nat.reduceAdd]
      have s3 : σ1.bs (3,c0) = some (.var [.p (.l (m.ns.map encN)),.p (.i .i64 m.cap)]) := by
        rw [← hσ1]
        simp only [put_bs,add_bs,put_clk,add_clk,hc0,Nat.add_assoc,Nat.reduceAdd,Prod.mk.injEq,Nat.reduceEqDiff,false_and,if_false,and_self,if_true]; exact b3
      have s4 : σ1.bs (4,c0 + 1) = some (.var [.p (.i .i64 5),.p (.i .i64 0),.p (.s []),.p (.l (l.map enc))]) := by
        rw [← hσ1]
        simp only [put_bs,add_bs,put_clk,add_clk,hc0,Nat.add_assoc,Nat.reduceAdd,Prod.mk.injEq,Nat.reduceEqDiff,false_and,if_false,and_self,if_true]; exact b4
      have s6 : σ1.bs (6,c0 + 2) = some (.var [.nil,.p (.i .i64 0),.p (.i .i64 0),.p (.i .i64 0),.nil,.p (.i .i64 0)]) := by
        rw [← hσ1]
        simp only [put_bs,add_bs,put_clk,add_clk,hc0,Nat.add_assoc,Nat.reduceAdd,Prod.mk.injEq,Nat.reduceEqDiff,false_and,if_false,and_self,if_true]; exact b6
      have s7 : σ1.bs (7,c0 + 3) = some (.var [.p (.i .i64 9),.p (.i .i64 lv),.p (.i .i64 0),.p (.s []),.nil,.nil]) := by
        rw [← hσ1]
        simp only [put_bs,add_bs,put_clk,add_clk,hc0,Nat.add_assoc,Nat.reduceAdd,Prod.mk.injEq,Nat.reduceEqDiff,false_and,if_false,and_self,if_true]
      simp only [F60r0,e2,e3,e4,e6,b3,b4,b6,hc0,encT,n36,Int.reduceLT,Int.reduceEq,List.map_cons,List.map_nil,Nat.add_assoc,Nat.reduceAdd,List.length_cons,List.length_nil,List.length_map,List.cons_append,List.nil_append,fxa,fxc,fxE,fxL,fxI,nxE,evO,evR,cellsT,ldCells,mkT,lenA,binPV,Env.init,resV,resT,frT,klT,ownT,intT,O.adds,ownA,rowsA,over,wrOk,keysT,keysA,ne_eq,if_true,if_false,ite_self,Nat.reduceLT,Nat.reduceSub,Nat.reduceBEq,Nat.reduceEqDiff,Nat.reduceAdd,Nat.reduceLeDiff,reduceCtorEq,Nat.reduceMul]
      rw [hσ1]
      refine Go.Fx.wp_mono (altsLoop (t := .mk 5 0 [] l) (lv := lv) (c0 := c0) hk1 hk2 (by omega) s4 s7 _ ?_ ?_ ?_) ?_
      · simp only [e2,e3,e4,e6,fxa,fxc,fxE,fxL,fxI,nxE,evO,evR,cellsT,ldCells,mkT,lenA,binPV,Env.init,resV,resT,frT,klT,ownT,intT,O.adds,ownA,rowsA,over,wrOk,keysT,keysA,ne_eq,if_true,if_false,ite_self,Nat.reduceLT,Nat.reduceSub,Nat.reduceBEq,Nat.reduceEqDiff,Nat.reduceAdd,Nat.reduceLeDiff,reduceCtorEq,Nat.reduceMul]
      · simp only [e2,e3,e4,e6,fxa,fxc,fxE,fxL,fxI,nxE,evO,evR,cellsT,ldCells,mkT,lenA,binPV,Env.init,resV,resT,frT,klT,ownT,intT,O.adds,ownA,rowsA,over,wrOk,keysT,keysA,ne_eq,if_true,if_false,ite_self,Nat.reduceLT,Nat.reduceSub,Nat.reduceBEq,Nat.reduceEqDiff,Nat.reduceAdd,Nat.reduceLeDiff,reduceCtorEq,Nat.reduceMul]
      · simp only [e2,e3,e4,e6,fxa,fxc,fxE,fxL,fxI,nxE,evO,evR,cellsT,ldCells,mkT,lenA,binPV,Env.init,resV,resT,frT,klT,ownT,intT,O.adds,ownA,rowsA,over,wrOk,keysT,keysA,ne_eq,if_true,if_false,ite_self,Nat.reduceLT,Nat.reduceSub,Nat.reduceBEq,Nat.reduceEqDiff,Nat.reduceAdd,Nat.reduceLeDiff,reduceCtorEq,Nat.reduceMul]
      rintro z e' τ ⟨rfl,f3,f4,f6,f7,⟨d,q,t7,hrow,hq0,hq1⟩,hK2⟩
      simp only [e3,e6,fxa,fxc,fxE,fxL,fxI,nxE,evO,evR,cellsT,ldCells,mkT,lenA,binPV,Env.init,resV,resT,frT,klT,ownT,intT,O.adds,ownA,rowsA,over,wrOk,keysT,keysA,ne_eq,if_true,if_false,ite_self,Nat.reduceLT,Nat.reduceSub,Nat.reduceBEq,Nat.reduceEqDiff,Nat.reduceAdd,Nat.reduceLeDiff,reduceCtorEq,Nat.reduceMul] at f3 f6
      have t3 := (hK2.bs (3,c0) (by show c0 < c0 + 3; omega)).trans s3
      have t4 := (hK2.bs (4,c0 + 1) (by show c0 + 1 < c0 + 3; omega)).trans s4
      have t6 := (hK2.bs (6,c0 + 2) (by show c0 + 2 < c0 + 3; omega)).trans s6
      have hc2 := hK2.clk
      have hall : ((l.drop 1).map arT).length = l.length - 1 := by simp
      obtain ⟨v,σ2,k1,X,rfl,k2,k3,k4,k5⟩ := P (c0 + 4) τ (.own (d,q) 0 (l.length - 1)) .nil (by omega) (.inr (.inr ⟨d,q,by rw [nt5]; show _ = AV.own (d,q) 0 ((l.drop 1).map arT).length; rw [hall],hrow,hq0,hq1,rfl,rfl⟩))
      have b6' := (k3.bs (6,c0 + 2) (by show c0 + 2 < c0 + 4; omega)).trans t6
      simp only [nt5,et,encT,encW,List.map_cons,List.map_nil] at k1
      have t7' : τ.bs (7,c0 + 3) = some (.var [.p (.i .i64 9),.p (.i .i64 lv),.p (.i .i64 0),.p (.s []),.own (d,q) 0 (l.length - 1),.nil]) := t7
      simp only [f3,f4,f6,f7,t3,t4,t7',k1,b6',encW,fxa,fxc,fxE,fxL,fxI,nxE,evO,evR,cellsT,ldCells,mkT,lenA,binPV,Env.init,resV,resT,frT,klT,ownT,intT,O.adds,ownA,rowsA,over,wrOk,keysT,keysA,ne_eq,if_true,if_false,ite_self,Nat.reduceLT,Nat.reduceSub,Nat.reduceBEq,Nat.reduceEqDiff,Nat.reduceAdd,Nat.reduceLeDiff,reduceCtorEq,Nat.reduceMul]
      exact ⟨X,rfl,(k2.putv b6' _).mono (by omega),((hK1.trans (hK2.mono (by omega))).trans (k3.mono (by omega))).put (k := (6,c0 + 2)) (by show c0 ≤ c0 + 2; omega) _⟩
end Go.Proofs.Ytkpfjolcmkikeaa.Tm
end
section
set_option linter.unusedSimpArgs false
set_option linter.unusedVariables false
set_option maxHeartbeats 4000000
set_option maxRecDepth 10000
namespace Go.Proofs.Ytkpfjolcmkikeaa
open Go.Fx
theorem set_true {l : List Bool} {i j : Nat} (h : l[j]? = some true) : (l.set i true)[j]? = some true := by
  rw [List.getElem?_set]
  have hj := (List.getElem?_eq_some_iff.1 h).1
  split
  · rename_i e; subst e; rw [if_pos hj]
  · exact h
theorem of_set_true {l : List Bool} {i j : Nat} (h : (l.set i true)[j]? = some true) : i = j ∨ l[j]? = some true := by
  rw [List.getElem?_set] at h
  split at h
  · rename_i e; exact .inl e
  · exact .inr h
structure RJ (n : Nt) (seen : List Bool) (W : List Int) (a : Option (Nat × Nat)) : Prop where
  len : seen.length = n.ns.length
  rch : ∀ i,seen[i]? = some true → Rch n i
  root : seen[0]? = some true
  wt : ∀ w,w ∈ W → ∃ i : Nat,w = (i : Int) ∧ seen[i]? = some true
  cl : ∀ i : Nat,seen[i]? = some true → (i : Int) ∉ W → (∀ p,a ≠ some (i,p)) → ∀ j,n.step i j → seen[j]? = some true
  at1 : ∀ i p,a = some (i,p) → seen[i]? = some true ∧ ∀ x m q,n.ns[i]? = some x → m < p → x.to[m]? = some q → ∀ j : Nat,q.n = (j : Int) → seen[j]? = some true
theorem RJ.done {n : Nt} {seen : List Bool} (h : RJ n seen [] none) : seen = (List.range n.ns.length).map fun i => bool (Rch n i) := by
  have hall : ∀ i,Rch n i → seen[i]? = some true := by
    intro i hi
    induction hi with
    | root => exact h.root
    | step _ hs ih => exact h.cl _ ih (by simp) (by simp) _ hs
  refine list_ext (by simp [h.len]) fun j hj => ?_
  have hj2 := h.len
  obtain ⟨b,hb⟩ : ∃ b,seen[j]? = some b := ⟨_,List.getElem?_eq_getElem hj⟩
  rw [hb,List.getElem?_map,List.getElem?_range (by omega)]
  simp only [Option.map_some,Option.some.injEq]
  cases b with
  | true => exact (bool_t (h.rch j hb)).symm
  | false => exact (bool_f fun hr => by rw [hall j hr] at hb; cases hb).symm
def mu (seen : List Bool) (W : List Int) : Nat := 2 * cntF seen + W.length
end Go.Proofs.Ytkpfjolcmkikeaa
end
section
set_option linter.unusedSimpArgs false
set_option linter.unusedVariables false
set_option maxHeartbeats 4000000
set_option maxRecDepth 10000
namespace Go.Proofs.Ytkpfjolcmkikeaa
open Go.Fx
structure RK (n : Nt) (seen : List Bool) : Prop where
  len : seen.length = n.ns.length
  rch : ∀ i,seen[i]? = some true → Rch n i
  root : seen[0]? = some true
def clAt (n : Nt) (seen : List Bool) (i : Nat) : Prop := seen[i]? = some true → ∀ j,n.step i j → seen[j]? = some true
theorem RK.done {n : Nt} {seen : List Bool} (h : RK n seen) (hc : ∀ i,i < n.ns.length → clAt n seen i) : seen = (List.range n.ns.length).map fun i => bool (Rch n i) :=
  RJ.done ⟨h.len,h.rch,h.root,fun w hw => by simp at hw,fun i hi _ _ => hc i (by have := (List.getElem?_eq_some_iff.1 hi).1; have := h.len; omega) hi,fun i p e => by cases e⟩
theorem RK.set {n : Nt} {seen : List Bool} {i j : Nat} (h : RK n seen) (hi : seen[i]? = some true) (hs : n.step i j) : RK n (seen.set j true) :=
  ⟨by simpa using h.len,fun k hk => by
    rcases of_set_true hk with rfl | hk
    · exact .step (h.rch i hi) hs
    · exact h.rch k hk,set_true h.root⟩
end Go.Proofs.Ytkpfjolcmkikeaa
end
