/- Part 4 of what is proved for the law PairsOrder: it returns true,whatever the input. No condition. -/
import Derived.Test.YtkpfjolcmkikeaaPPairsOrderc
section
set_option linter.unusedSimpArgs false
set_option linter.unusedVariables false
set_option maxHeartbeats 4000000
set_option maxRecDepth 10000
namespace Go.Proofs.Ytkpfjolcmkikeaa
open Go.Fx
theorem may_iff (x : Nd) : x.may ↔ ((0 ≤ x.k ∧ x.k ≤ 13) ∧ altsP x) ∧ (0 ≤ x.lv ∧ x.lv ≤ (if x.k = 0 ∨ x.k = 1 then 0 else 60)) ∧ (x.s ≠ [] ↔ (x.k = 8 ∨ x.k = 11 ∨ x.k = 12)) ∧ (x.n = 0 ∨ (x.k = 10 ∨ x.k = 12)) ∧ (x.k ≠ 8 ∨ (1 ≤ (x.to.length : Int) ∧ (x.to.length : Int) ≤ 9)) := by
  constructor
  · intro h
    refine ⟨⟨⟨h.k0,h.k1⟩,fun h9 => by have := h.aln h9; omega,fun h9 => ⟨h.alt,h.al9 h9,h.al8⟩⟩,⟨h.lv0,?_⟩,h.nm,?_,?_⟩
    · have := h.lv2; have := h.lv1; split <;> omega
    · have := h.nn; omega
    · have := h.to8; omega
  · rintro ⟨⟨⟨h1,h2⟩,h3,h4⟩,⟨h5,h6⟩,h7,h8,h9⟩
    refine ⟨h1,h2,h5,by split at h6 <;> omega,fun h => by rw [if_pos (by omega)] at h6; exact h6,h7,fun h => by omega,fun h => by omega,fun h => (h4 h).2.1,fun h => by have := h3 h; omega,?_,?_⟩
    · by_cases h : x.k = 9
      · exact (h4 h).2.2
      · have := h3 h; omega
    · by_cases h : x.k = 9
      · exact (h4 h).1
      · have := h3 h
        have : x.al = [] := List.eq_nil_of_length_eq_zero this
        rw [this]; intro i a hi; simp at hi
theorem sNode_ok {x : Nd} (hx : x.Ok) : eP S 75 [.g (encN x)] = some (.a (.b (bool x.may))) := by
  rw [bool_congr (may_iff x)]
  refine x_fnB (orcS (by decide)) (fc := F75) rfl rfl ?_
  have hal := hx.al
  have c0 := alts_ok hx
  simp only [encN] at c0
  unfold F75
  simp only [encN,List.map_cons,List.map_nil,ofPT_g]
  refine x_cutR (NdM x) ?_ fun e σ hM => ?_
  · simp only [fxa,fxc,fxE,fxL,fxI,nxE,evO,evR,cellsT,ldCells,mkT,lenA,binPV,Env.init,resV,resT,frT,klT,ownT,intT,O.adds,ownA,rowsA,over,wrOk,keysT,keysA,ne_eq,if_true,if_false,ite_self,Nat.reduceLT,Nat.reduceSub,Nat.reduceBEq,Nat.reduceEqDiff,Nat.reduceAdd,Nat.reduceLeDiff,reduceCtorEq,Nat.reduceMul]
    exact ⟨by simp only [fxa,fxc,fxE,fxL,fxI,nxE,evO,evR,cellsT,ldCells,mkT,lenA,binPV,Env.init,resV,resT,frT,klT,ownT,intT,O.adds,ownA,rowsA,over,wrOk,keysT,keysA,ne_eq,if_true,if_false,ite_self,Nat.reduceLT,Nat.reduceSub,Nat.reduceBEq,Nat.reduceEqDiff,Nat.reduceAdd,Nat.reduceLeDiff,reduceCtorEq,Nat.reduceMul],by simp only [fxa,fxc,fxE,fxL,fxI,nxE,evO,evR,cellsT,ldCells,mkT,lenA,binPV,Env.init,resV,resT,frT,klT,ownT,intT,O.adds,ownA,rowsA,over,wrOk,keysT,keysA,ne_eq,if_true,if_false,ite_self,Nat.reduceLT,Nat.reduceSub,Nat.reduceBEq,Nat.reduceEqDiff,Nat.reduceAdd,Nat.reduceLeDiff,reduceCtorEq,Nat.reduceMul]⟩
  obtain ⟨e1,s1⟩ := hM
  by_cases hk : 0 ≤ x.k ∧ x.k ≤ 13
  case neg =>
    have c1 := in_no (a := x.k) (b := 0) (c := 13) hk
    simp only [e1,s1,c1,fxa,fxc,fxE,fxL,fxI,nxE,evO,evR,cellsT,ldCells,mkT,lenA,binPV,Env.init,resV,resT,frT,klT,ownT,intT,O.adds,ownA,rowsA,over,wrOk,keysT,keysA,ne_eq,if_true,if_false,ite_self,Nat.reduceLT,Nat.reduceSub,Nat.reduceBEq,Nat.reduceEqDiff,Nat.reduceAdd,Nat.reduceLeDiff,reduceCtorEq,Nat.reduceMul]
    exact fun h => hk h.1.1
  have c1 := in_is (a := x.k) (b := 0) (c := 13) hk
  by_cases ha : altsP x
  case neg =>
    rw [bool_f ha] at c0
    simp only [e1,s1,c1,c0,fxa,fxc,fxE,fxL,fxI,nxE,evO,evR,cellsT,ldCells,mkT,lenA,binPV,Env.init,resV,resT,frT,klT,ownT,intT,O.adds,ownA,rowsA,over,wrOk,keysT,keysA,ne_eq,if_true,if_false,ite_self,Nat.reduceLT,Nat.reduceSub,Nat.reduceBEq,Nat.reduceEqDiff,Nat.reduceAdd,Nat.reduceLeDiff,reduceCtorEq,Nat.reduceMul]
    exact fun h => ha h.1.2
  rw [bool_t ha] at c0
  refine x_cutR (NdM x) ?_ fun e' σ' hM => ?_
  · simp only [e1,s1,c1,c0,fxa,fxc,fxE,fxL,fxI,nxE,evO,evR,cellsT,ldCells,mkT,lenA,binPV,Env.init,resV,resT,frT,klT,ownT,intT,O.adds,ownA,rowsA,over,wrOk,keysT,keysA,ne_eq,if_true,if_false,ite_self,Nat.reduceLT,Nat.reduceSub,Nat.reduceBEq,Nat.reduceEqDiff,Nat.reduceAdd,Nat.reduceLeDiff,reduceCtorEq,Nat.reduceMul]
    exact ⟨by simp only [e1,fxa,fxc,fxE,fxL,fxI,nxE,evO,evR,cellsT,ldCells,mkT,lenA,binPV,Env.init,resV,resT,frT,klT,ownT,intT,O.adds,ownA,rowsA,over,wrOk,keysT,keysA,ne_eq,if_true,if_false,ite_self,Nat.reduceLT,Nat.reduceSub,Nat.reduceBEq,Nat.reduceEqDiff,Nat.reduceAdd,Nat.reduceLeDiff,reduceCtorEq,Nat.reduceMul],by simp only [s1,fxa,fxc,fxE,fxL,fxI,nxE,evO,evR,cellsT,ldCells,mkT,lenA,binPV,Env.init,resV,resT,frT,klT,ownT,intT,O.adds,ownA,rowsA,over,wrOk,keysT,keysA,ne_eq,if_true,if_false,ite_self,Nat.reduceLT,Nat.reduceSub,Nat.reduceBEq,Nat.reduceEqDiff,Nat.reduceAdd,Nat.reduceLeDiff,reduceCtorEq,Nat.reduceMul]⟩
  clear e1 s1
  obtain ⟨e1,s1⟩ := hM
  refine x_cutR (fun e σ => NdM x e σ ∧ e 3 = .a (.p (.b (decide (x.k = 8 ∨ x.k = 11 ∨ x.k = 12))))) ?_ fun e' σ' hM => ?_
  · by_cases k8 : x.k = 8
    · simp only [e1,s1,k8,fxa,fxc,fxE,fxL,fxI,nxE,evO,evR,cellsT,ldCells,mkT,lenA,binPV,Env.init,resV,resT,frT,klT,ownT,intT,O.adds,ownA,rowsA,over,wrOk,keysT,keysA,ne_eq,if_true,if_false,ite_self,Nat.reduceLT,Nat.reduceSub,Nat.reduceBEq,Nat.reduceEqDiff,Nat.reduceAdd,Nat.reduceLeDiff,reduceCtorEq,Nat.reduceMul]
      exact ⟨⟨by simp only [e1,fxa,fxc,fxE,fxL,fxI,nxE,evO,evR,cellsT,ldCells,mkT,lenA,binPV,Env.init,resV,resT,frT,klT,ownT,intT,O.adds,ownA,rowsA,over,wrOk,keysT,keysA,ne_eq,if_true,if_false,ite_self,Nat.reduceLT,Nat.reduceSub,Nat.reduceBEq,Nat.reduceEqDiff,Nat.reduceAdd,Nat.reduceLeDiff,reduceCtorEq,Nat.reduceMul],by simp only [s1,k8,fxa,fxc,fxE,fxL,fxI,nxE,evO,evR,cellsT,ldCells,mkT,lenA,binPV,Env.init,resV,resT,frT,klT,ownT,intT,O.adds,ownA,rowsA,over,wrOk,keysT,keysA,ne_eq,if_true,if_false,ite_self,Nat.reduceLT,Nat.reduceSub,Nat.reduceBEq,Nat.reduceEqDiff,Nat.reduceAdd,Nat.reduceLeDiff,reduceCtorEq,Nat.reduceMul]⟩,by simp [k8]⟩
    by_cases k11 : x.k = 11
    · simp only [e1,s1,k8,k11,Int.reduceEq,fxa,fxc,fxE,fxL,fxI,nxE,evO,evR,cellsT,ldCells,mkT,lenA,binPV,Env.init,resV,resT,frT,klT,ownT,intT,O.adds,ownA,rowsA,over,wrOk,keysT,keysA,ne_eq,if_true,if_false,ite_self,Nat.reduceLT,Nat.reduceSub,Nat.reduceBEq,Nat.reduceEqDiff,Nat.reduceAdd,Nat.reduceLeDiff,reduceCtorEq,Nat.reduceMul]
      exact ⟨⟨by simp only [e1,fxa,fxc,fxE,fxL,fxI,nxE,evO,evR,cellsT,ldCells,mkT,lenA,binPV,Env.init,resV,resT,frT,klT,ownT,intT,O.adds,ownA,rowsA,over,wrOk,keysT,keysA,ne_eq,if_true,if_false,ite_self,Nat.reduceLT,Nat.reduceSub,Nat.reduceBEq,Nat.reduceEqDiff,Nat.reduceAdd,Nat.reduceLeDiff,reduceCtorEq,Nat.reduceMul],by simp only [s1,k11,fxa,fxc,fxE,fxL,fxI,nxE,evO,evR,cellsT,ldCells,mkT,lenA,binPV,Env.init,resV,resT,frT,klT,ownT,intT,O.adds,ownA,rowsA,over,wrOk,keysT,keysA,ne_eq,if_true,if_false,ite_self,Nat.reduceLT,Nat.reduceSub,Nat.reduceBEq,Nat.reduceEqDiff,Nat.reduceAdd,Nat.reduceLeDiff,reduceCtorEq,Nat.reduceMul]⟩,by simp [k11]⟩
    simp only [e1,s1,k8,k11,fxa,fxc,fxE,fxL,fxI,nxE,evO,evR,cellsT,ldCells,mkT,lenA,binPV,Env.init,resV,resT,frT,klT,ownT,intT,O.adds,ownA,rowsA,over,wrOk,keysT,keysA,ne_eq,if_true,if_false,ite_self,Nat.reduceLT,Nat.reduceSub,Nat.reduceBEq,Nat.reduceEqDiff,Nat.reduceAdd,Nat.reduceLeDiff,reduceCtorEq,Nat.reduceMul]
    refine ⟨⟨by simp only [e1,fxa,fxc,fxE,fxL,fxI,nxE,evO,evR,cellsT,ldCells,mkT,lenA,binPV,Env.init,resV,resT,frT,klT,ownT,intT,O.adds,ownA,rowsA,over,wrOk,keysT,keysA,ne_eq,if_true,if_false,ite_self,Nat.reduceLT,Nat.reduceSub,Nat.reduceBEq,Nat.reduceEqDiff,Nat.reduceAdd,Nat.reduceLeDiff,reduceCtorEq,Nat.reduceMul],by simp only [s1,fxa,fxc,fxE,fxL,fxI,nxE,evO,evR,cellsT,ldCells,mkT,lenA,binPV,Env.init,resV,resT,frT,klT,ownT,intT,O.adds,ownA,rowsA,over,wrOk,keysT,keysA,ne_eq,if_true,if_false,ite_self,Nat.reduceLT,Nat.reduceSub,Nat.reduceBEq,Nat.reduceEqDiff,Nat.reduceAdd,Nat.reduceLeDiff,reduceCtorEq,Nat.reduceMul]⟩,?_⟩
    simp [k8,k11]
  clear e1 s1
  obtain ⟨⟨e1,s1⟩,e3⟩ := hM
  refine x_cutR (fun e σ => NdM x e σ ∧ e 3 = .a (.p (.b (decide (x.k = 8 ∨ x.k = 11 ∨ x.k = 12)))) ∧ e 4 = .a (.p (.b (decide (x.k = 10 ∨ x.k = 12))))) ?_ fun e' σ' hM => ?_
  · by_cases k10 : x.k = 10
    · simp only [e1,s1,e3,k10,fxa,fxc,fxE,fxL,fxI,nxE,evO,evR,cellsT,ldCells,mkT,lenA,binPV,Env.init,resV,resT,frT,klT,ownT,intT,O.adds,ownA,rowsA,over,wrOk,keysT,keysA,ne_eq,if_true,if_false,ite_self,Nat.reduceLT,Nat.reduceSub,Nat.reduceBEq,Nat.reduceEqDiff,Nat.reduceAdd,Nat.reduceLeDiff,reduceCtorEq,Nat.reduceMul]
      unfold NdM
      repeat' apply And.intro
      all_goals first | (simp only [e1,s1,e3,k10,fxa,fxc,fxE,fxL,fxI,nxE,evO,evR,cellsT,ldCells,mkT,lenA,binPV,Env.init,resV,resT,frT,klT,ownT,intT,O.adds,ownA,rowsA,over,wrOk,keysT,keysA,ne_eq,if_true,if_false,ite_self,Nat.reduceLT,Nat.reduceSub,Nat.reduceBEq,Nat.reduceEqDiff,Nat.reduceAdd,Nat.reduceLeDiff,reduceCtorEq,Nat.reduceMul]; done) | (simp [put_at,e1,s1,e3,k10]; done)
    simp only [e1,s1,e3,k10,fxa,fxc,fxE,fxL,fxI,nxE,evO,evR,cellsT,ldCells,mkT,lenA,binPV,Env.init,resV,resT,frT,klT,ownT,intT,O.adds,ownA,rowsA,over,wrOk,keysT,keysA,ne_eq,if_true,if_false,ite_self,Nat.reduceLT,Nat.reduceSub,Nat.reduceBEq,Nat.reduceEqDiff,Nat.reduceAdd,Nat.reduceLeDiff,reduceCtorEq,Nat.reduceMul]
    unfold NdM
    repeat' apply And.intro
    all_goals first | (simp only [e1,s1,e3,k10,fxa,fxc,fxE,fxL,fxI,nxE,evO,evR,cellsT,ldCells,mkT,lenA,binPV,Env.init,resV,resT,frT,klT,ownT,intT,O.adds,ownA,rowsA,over,wrOk,keysT,keysA,ne_eq,if_true,if_false,ite_self,Nat.reduceLT,Nat.reduceSub,Nat.reduceBEq,Nat.reduceEqDiff,Nat.reduceAdd,Nat.reduceLeDiff,reduceCtorEq,Nat.reduceMul]; done) | (simp [put_at,e1,s1,e3,k10]; done)
  clear e1 s1 e3
  obtain ⟨⟨e1,s1⟩,e3,e4⟩ := hM
  refine x_cutR (fun e σ => NdM x e σ ∧ e 3 = .a (.p (.b (decide (x.k = 8 ∨ x.k = 11 ∨ x.k = 12)))) ∧ e 4 = .a (.p (.b (decide (x.k = 10 ∨ x.k = 12)))) ∧ e 5 = .a (.p (.i .i64 60))) ?_ fun e' σ' hM => ?_
  · simp only [e1,s1,e3,e4,fxa,fxc,fxE,fxL,fxI,nxE,evO,evR,cellsT,ldCells,mkT,lenA,binPV,Env.init,resV,resT,frT,klT,ownT,intT,O.adds,ownA,rowsA,over,wrOk,keysT,keysA,ne_eq,if_true,if_false,ite_self,Nat.reduceLT,Nat.reduceSub,Nat.reduceBEq,Nat.reduceEqDiff,Nat.reduceAdd,Nat.reduceLeDiff,reduceCtorEq,Nat.reduceMul]
    unfold NdM
    repeat' apply And.intro
    all_goals first | (simp only [e1,s1,e3,e4,fxa,fxc,fxE,fxL,fxI,nxE,evO,evR,cellsT,ldCells,mkT,lenA,binPV,Env.init,resV,resT,frT,klT,ownT,intT,O.adds,ownA,rowsA,over,wrOk,keysT,keysA,ne_eq,if_true,if_false,ite_self,Nat.reduceLT,Nat.reduceSub,Nat.reduceBEq,Nat.reduceEqDiff,Nat.reduceAdd,Nat.reduceLeDiff,reduceCtorEq,Nat.reduceMul]; done) | (simp [put_at,e1,s1,e3,e4]; done)
  clear e1 s1 e3 e4
  obtain ⟨⟨e1,s1⟩,e3,e4,e5⟩ := hM
  refine x_cutR (fun e σ => NdM x e σ ∧ e 3 = .a (.p (.b (decide (x.k = 8 ∨ x.k = 11 ∨ x.k = 12)))) ∧ e 4 = .a (.p (.b (decide (x.k = 10 ∨ x.k = 12)))) ∧ e 5 = .a (.p (.i .i64 (if x.k = 0 ∨ x.k = 1 then 0 else 60)))) ?_ fun e' σ' hM => ?_
  · by_cases k0 : x.k = 0
    · simp only [e1,s1,e3,e4,e5,k0,fxa,fxc,fxE,fxL,fxI,nxE,evO,evR,cellsT,ldCells,mkT,lenA,binPV,Env.init,resV,resT,frT,klT,ownT,intT,O.adds,ownA,rowsA,over,wrOk,keysT,keysA,ne_eq,if_true,if_false,ite_self,Nat.reduceLT,Nat.reduceSub,Nat.reduceBEq,Nat.reduceEqDiff,Nat.reduceAdd,Nat.reduceLeDiff,reduceCtorEq,Nat.reduceMul]
      unfold NdM
      repeat' apply And.intro
      all_goals first | (simp only [e1,s1,e3,e4,e5,k0,fxa,fxc,fxE,fxL,fxI,nxE,evO,evR,cellsT,ldCells,mkT,lenA,binPV,Env.init,resV,resT,frT,klT,ownT,intT,O.adds,ownA,rowsA,over,wrOk,keysT,keysA,ne_eq,if_true,if_false,ite_self,Nat.reduceLT,Nat.reduceSub,Nat.reduceBEq,Nat.reduceEqDiff,Nat.reduceAdd,Nat.reduceLeDiff,reduceCtorEq,Nat.reduceMul]; done) | (simp [put_at,e1,s1,e3,e4,e5,k0]; done)
    by_cases k1 : x.k = 1
    · simp only [e1,s1,e3,e4,e5,k0,k1,Int.reduceEq,fxa,fxc,fxE,fxL,fxI,nxE,evO,evR,cellsT,ldCells,mkT,lenA,binPV,Env.init,resV,resT,frT,klT,ownT,intT,O.adds,ownA,rowsA,over,wrOk,keysT,keysA,ne_eq,if_true,if_false,ite_self,Nat.reduceLT,Nat.reduceSub,Nat.reduceBEq,Nat.reduceEqDiff,Nat.reduceAdd,Nat.reduceLeDiff,reduceCtorEq,Nat.reduceMul]
      unfold NdM
      repeat' apply And.intro
      all_goals first | (simp only [e1,s1,e3,e4,e5,k0,k1,fxa,fxc,fxE,fxL,fxI,nxE,evO,evR,cellsT,ldCells,mkT,lenA,binPV,Env.init,resV,resT,frT,klT,ownT,intT,O.adds,ownA,rowsA,over,wrOk,keysT,keysA,ne_eq,if_true,if_false,ite_self,Nat.reduceLT,Nat.reduceSub,Nat.reduceBEq,Nat.reduceEqDiff,Nat.reduceAdd,Nat.reduceLeDiff,reduceCtorEq,Nat.reduceMul]; done) | (simp [put_at,e1,s1,e3,e4,e5,k0,k1]; done)
    simp only [e1,s1,e3,e4,e5,k0,k1,fxa,fxc,fxE,fxL,fxI,nxE,evO,evR,cellsT,ldCells,mkT,lenA,binPV,Env.init,resV,resT,frT,klT,ownT,intT,O.adds,ownA,rowsA,over,wrOk,keysT,keysA,ne_eq,if_true,if_false,ite_self,Nat.reduceLT,Nat.reduceSub,Nat.reduceBEq,Nat.reduceEqDiff,Nat.reduceAdd,Nat.reduceLeDiff,reduceCtorEq,Nat.reduceMul]
    unfold NdM
    repeat' apply And.intro
    all_goals first | (simp only [e1,s1,e3,e4,e5,k0,k1,fxa,fxc,fxE,fxL,fxI,nxE,evO,evR,cellsT,ldCells,mkT,lenA,binPV,Env.init,resV,resT,frT,klT,ownT,intT,O.adds,ownA,rowsA,over,wrOk,keysT,keysA,ne_eq,if_true,if_false,ite_self,Nat.reduceLT,Nat.reduceSub,Nat.reduceBEq,Nat.reduceEqDiff,Nat.reduceAdd,Nat.reduceLeDiff,reduceCtorEq,Nat.reduceMul]; done) | (simp [put_at,e1,s1,e3,e4,e5,k0,k1]; done)
  clear e1 s1 e3 e4 e5
  obtain ⟨⟨e1,s1⟩,e3,e4,e5⟩ := hM
  obtain ⟨most,hmost⟩ : ∃ z : Int,(if x.k = 0 ∨ x.k = 1 then 0 else 60) = z := ⟨_,rfl⟩
  rw [hmost] at e5 ⊢
  obtain ⟨b3,hb3⟩ : ∃ b : Bool,decide (x.k = 8 ∨ x.k = 11 ∨ x.k = 12) = b := ⟨_,rfl⟩
  obtain ⟨b4,hb4⟩ : ∃ b : Bool,decide (x.k = 10 ∨ x.k = 12) = b := ⟨_,rfl⟩
  rw [hb3] at e3
  rw [hb4] at e4
  obtain ⟨p,hp⟩ : ∃ p : Prop,(((0 ≤ x.k ∧ x.k ≤ 13) ∧ altsP x) ∧ (0 ≤ x.lv ∧ x.lv ≤ most) ∧ (x.s ≠ [] ↔ (x.k = 8 ∨ x.k = 11 ∨ x.k = 12)) ∧ (x.n = 0 ∨ (x.k = 10 ∨ x.k = 12)) ∧ (x.k ≠ 8 ∨ (1 ≤ (x.to.length : Int) ∧ (x.to.length : Int) ≤ 9))) = p := ⟨_,rfl⟩
  have hp1 := hp
  rw [hp]
  by_cases hA : 0 ≤ x.lv ∧ x.lv ≤ most
  case neg =>
    have c2 := in_no hA
    simp only [e1,s1,e3,e4,e5,c2,fxa,fxc,fxE,fxL,fxI,nxE,evO,evR,cellsT,ldCells,mkT,lenA,binPV,Env.init,resV,resT,frT,klT,ownT,intT,O.adds,ownA,rowsA,over,wrOk,keysT,keysA,ne_eq,if_true,if_false,ite_self,Nat.reduceLT,Nat.reduceSub,Nat.reduceBEq,Nat.reduceEqDiff,Nat.reduceAdd,Nat.reduceLeDiff,reduceCtorEq,Nat.reduceMul]
    rw [← hp1]
    exact fun h => hA h.2.1
  have c2 := in_is hA
  by_cases hB : x.s ≠ [] ↔ (x.k = 8 ∨ x.k = 11 ∨ x.k = 12)
  case neg =>
    have hd : ((!decide (x.s = [])) = b3) = False := by
      rw [← hb3]
      refine propext ⟨fun h => hB ?_,fun h => h.elim⟩
      rw [Bool.eq_iff_iff] at h; simpa using h
    simp only [e1,s1,e3,e4,e5,c2,hd,fxa,fxc,fxE,fxL,fxI,nxE,evO,evR,cellsT,ldCells,mkT,lenA,binPV,Env.init,resV,resT,frT,klT,ownT,intT,O.adds,ownA,rowsA,over,wrOk,keysT,keysA,ne_eq,if_true,if_false,ite_self,Nat.reduceLT,Nat.reduceSub,Nat.reduceBEq,Nat.reduceEqDiff,Nat.reduceAdd,Nat.reduceLeDiff,reduceCtorEq,Nat.reduceMul]
    rw [← hp1]
    exact fun h => hB h.2.2.1
  have hd : ((!decide (x.s = [])) = b3) = True := by
    rw [← hb3]
    refine propext ⟨fun _ => trivial,fun _ => ?_⟩
    rw [Bool.eq_iff_iff]; simpa using hB
  by_cases hn : x.n = 0
  · by_cases h8 : x.k = 8
    · have c3 := in_ok (x.to.length : Int) 1 9
      simp only [e1,s1,e3,e4,e5,c2,hd,hn,h8,c3,fxa,fxc,fxE,fxL,fxI,nxE,evO,evR,cellsT,ldCells,mkT,lenA,binPV,Env.init,resV,resT,frT,klT,ownT,intT,O.adds,ownA,rowsA,over,wrOk,keysT,keysA,ne_eq,if_true,if_false,ite_self,Nat.reduceLT,Nat.reduceSub,Nat.reduceBEq,Nat.reduceEqDiff,Nat.reduceAdd,Nat.reduceLeDiff,reduceCtorEq,Nat.reduceMul]
      rw [← hp1,Bool.and_eq_true,decide_eq_true_eq,decide_eq_true_eq]
      exact ⟨fun h => ⟨⟨hk,ha⟩,hA,hB,.inl hn,.inr h⟩,fun h => by have := h.2.2.2.2; omega⟩
    · simp only [e1,s1,e3,e4,e5,c2,hd,hn,h8,fxa,fxc,fxE,fxL,fxI,nxE,evO,evR,cellsT,ldCells,mkT,lenA,binPV,Env.init,resV,resT,frT,klT,ownT,intT,O.adds,ownA,rowsA,over,wrOk,keysT,keysA,ne_eq,if_true,if_false,ite_self,Nat.reduceLT,Nat.reduceSub,Nat.reduceBEq,Nat.reduceEqDiff,Nat.reduceAdd,Nat.reduceLeDiff,reduceCtorEq,Nat.reduceMul]
      rw [← hp1]
      exact ⟨⟨hk,ha⟩,hA,hB,.inl hn,.inl h8⟩
  · by_cases hN : x.k = 10 ∨ x.k = 12
    · have h8 : ¬ x.k = 8 := by omega
      rw [decide_eq_true hN] at hb4; subst hb4
      simp only [e1,s1,e3,e4,e5,c2,hd,hn,h8,fxa,fxc,fxE,fxL,fxI,nxE,evO,evR,cellsT,ldCells,mkT,lenA,binPV,Env.init,resV,resT,frT,klT,ownT,intT,O.adds,ownA,rowsA,over,wrOk,keysT,keysA,ne_eq,if_true,if_false,ite_self,Nat.reduceLT,Nat.reduceSub,Nat.reduceBEq,Nat.reduceEqDiff,Nat.reduceAdd,Nat.reduceLeDiff,reduceCtorEq,Nat.reduceMul]
      rw [← hp1]
      exact ⟨⟨hk,ha⟩,hA,hB,.inr hN,.inl h8⟩
    · rw [decide_eq_false hN] at hb4; subst hb4
      simp only [e1,s1,e3,e4,e5,c2,hd,hn,fxa,fxc,fxE,fxL,fxI,nxE,evO,evR,cellsT,ldCells,mkT,lenA,binPV,Env.init,resV,resT,frT,klT,ownT,intT,O.adds,ownA,rowsA,over,wrOk,keysT,keysA,ne_eq,if_true,if_false,ite_self,Nat.reduceLT,Nat.reduceSub,Nat.reduceBEq,Nat.reduceEqDiff,Nat.reduceAdd,Nat.reduceLeDiff,reduceCtorEq,Nat.reduceMul]
      rw [← hp1]
      rintro ⟨_,_,_,h,_⟩
      rcases h with h | h
      · exact hn h
      · exact hN h
theorem copied_ok {n : Nt} (hn : n.ns.length * 88 + 88 ≤ 140737488355328) (σ : St) :
    ∃ σ',eS S (.f 80) [.g ((encT n).map .p)] σ = some (.g [.own (10,σ.clk + 3) 0 n.ns.length,.p (.i .i64 n.cap)],σ') ∧
      (σ'.bs (10,σ.clk + 3) = some (.row 6 41 (n.ns.map encN)) ∧ σ'.clk = σ.clk + 4 ∧ σ'.ls = σ.ls ∧ ∀ s : Key,s.2 < σ.clk → σ'.bs s = σ.bs s) := by
  refine x_fnR (fc := F80) rfl rfl ?_
  have hw : IntKind.i64.wrap ((n.ns.length : Int) + 1) = n.ns.length + 1 := wrap_in _ (by omega)
  have hb : (n.ns.length + 1 : Int) * 88 ≤ 140737488355328 := by omega
  have hb2 : n.ns.length * 88 ≤ 140737488355328 := by omega
  have h0 : (0 : Int) ≤ n.ns.length + 1 := by omega
  simp only [F80,hw,hb,hb2,h0,Int.cast_ofNat_Int,Int.le_refl,Int.toNat_zero,Nat.not_lt_zero,Nat.add_assoc,Nat.reduceAdd,fxa,fxc,fxE,fxL,fxI,nxE,evO,evR,cellsT,ldCells,mkT,lenA,binPV,Env.init,resV,resT,frT,klT,ownT,intT,O.adds,ownA,rowsA,over,wrOk,keysT,keysA,ne_eq,if_true,if_false,ite_self,Nat.reduceLT,Nat.reduceSub,Nat.reduceBEq,Nat.reduceEqDiff,Nat.reduceAdd,Nat.reduceLeDiff,reduceCtorEq,Nat.reduceMul]
  intro s hs
  have hne : ∀ d k : Nat,¬ s = (d,σ.clk + k) := by rintro d k rfl; simp at hs; omega
  have hne0 : ∀ d : Nat,¬ s = (d,σ.clk) := by rintro d rfl; simp at hs
  simp only [hne,hne0,if_false]
theorem cloneA_ok (l : List Ar) (hl : l.length * 24 ≤ 140737488355328) : eP S 155 [.a (.l (l.map encA))] = some (.a (.l (l.map encA))) := by
  cases l with
  | nil => exact (eP_some S).2 ⟨1,rfl⟩
  | cons a r =>
    have key : ∀ σ : St,eS S (.f 155) [.a (.p (.l ((a :: r).map encA)))] σ = some (.a (.own (7,σ.clk + 1) 0 (r.length + 1)),((σ.add 5 (.row 2 79 [])).kill (5,σ.clk)).add 7 (.row 2 79 ((a :: r).map encA))) := by
      intro σ
      refine x_fnX (fc := F155) rfl rfl ?_
      have hl' : (r.length + 1) * 24 ≤ 140737488355328 := hl
      have h2 := allA (a :: r)
      simp only [List.map_cons,List.all_cons,encA] at h2
      simp only [F155,nilA,hl',h2,fxa,fxc,fxE,fxL,fxI,nxE,evO,evR,cellsT,ldCells,mkT,lenA,binPV,Env.init,resV,resT,frT,klT,ownT,intT,O.adds,ownA,rowsA,over,wrOk,keysT,keysA,ne_eq,if_true,if_false,ite_self,Nat.reduceLT,Nat.reduceSub,Nat.reduceBEq,Nat.reduceEqDiff,Nat.reduceAdd,Nat.reduceLeDiff,reduceCtorEq,Nat.reduceMul]
    obtain ⟨k,hk⟩ := (eS_some S).1 (key .empty)
    refine (eP_some S).2 ⟨k + 1,?_⟩
    have ho : S.orc 155 [.a (.l ((a :: r).map encA))] = none := rfl
    have hk' : evS S k (.f 155) ([PT.a (.l ((a :: r).map encA))].map ofPT) .empty = _ := hk
    simp only [evP,ho,hk',Option.bind_some]
    simp [frT,frA,St.add,St.put,St.kill,St.empty]
    exact List.take_of_length_le (by simp)
theorem indexN_ok (l : List Nd) (hl : l.length * 88 ≤ 140737488355328) (k : Key) (σ : St) (hk : σ.bs k = some (.row 6 41 (l.map encN))) :
    eS S (.f 156) [.a (.own k 0 l.length),.a (.fn 79 [])] σ = some (.a (.p (.i .i64 (idx (fun x : Nd => decide (x.k = 0)) l))),σ) := by
  refine x_fnX (fc := F156) rfl rfl ?_
  simp only [F156,fxa,fxc,fxE,fxL,fxI,nxE,evO,evR,cellsT,ldCells,mkT,lenA,binPV,Env.init,resV,resT,frT,klT,ownT,intT,O.adds,ownA,rowsA,over,wrOk,keysT,keysA,ne_eq,if_true,if_false,ite_self,Nat.reduceLT,Nat.reduceSub,Nat.reduceBEq,Nat.reduceEqDiff,Nat.reduceAdd,Nat.reduceLeDiff,reduceCtorEq,Nat.reduceMul]
  refine loop_nat l.length (fun i e σ' => σ' = σ ∧ e 0 = .a (.own k 0 l.length) ∧ e 1 = .a (.fn 79 []) ∧ e 7 = .a (.p (.i .i64 l.length)) ∧ e 8 = .a (.p (.i .i64 (i : Nat))) ∧ ∀ j x,j < i → l[j]? = some x → decide (x.k = 0) = false) (i0 := 0) (Nat.zero_le _) ?_ ?_ ?_
  · refine ⟨rfl,?_,?_,?_,?_,fun j x hj => by omega⟩ <;> simp only [fxa,fxc,fxE,fxL,fxI,nxE,evO,evR,cellsT,ldCells,mkT,lenA,binPV,Env.init,resV,resT,frT,klT,ownT,intT,O.adds,ownA,rowsA,over,wrOk,keysT,keysA,ne_eq,if_true,if_false,ite_self,Nat.reduceLT,Nat.reduceSub,Nat.reduceBEq,Nat.reduceEqDiff,Nat.reduceAdd,Nat.reduceLeDiff,reduceCtorEq,Nat.reduceMul]
    rfl
  · rintro i e σ' hi ⟨rfl,e0,e1,e7,e8,hall⟩
    have hlt : ((i : Nat) : Int) < (l.length : Int) := by omega
    have hge : (0 : Int) ≤ ((i : Nat) : Int) := by omega
    obtain ⟨x,hx⟩ : ∃ x,l[i]? = some x := ⟨_,List.getElem?_eq_getElem hi⟩
    have hx' := mapGet encN hx
    have c1 := sfree_ok x
    simp only [encN] at c1
    by_cases hf : x.k = 0
    · rw [hf] at c1
      simp only [F156b0,e0,e1,e7,e8,hk,hlt,hge,hx',c1,hf,rowK,fxa,fxc,fxE,fxL,fxI,nxE,evO,evR,cellsT,ldCells,mkT,lenA,binPV,Env.init,resV,resT,frT,klT,ownT,intT,O.adds,ownA,rowsA,over,wrOk,keysT,keysA,ne_eq,if_true,if_false,ite_self,Nat.reduceLT,Nat.reduceSub,Nat.reduceBEq,Nat.reduceEqDiff,Nat.reduceAdd,Nat.reduceLeDiff,reduceCtorEq,Nat.reduceMul]
      have : l.findIdx? (fun x : Nd => decide (x.k = 0)) = some i := by
        rw [List.findIdx?_eq_some_iff_getElem]
        refine ⟨hi,?_,fun j hj => ?_⟩
        · rw [List.getElem?_eq_getElem hi] at hx; rw [Option.some.inj hx]; simpa using hf
        · rw [hall j _ hj (List.getElem?_eq_getElem (by omega))]; simp
      simp only [idx,this]
    · simp only [F156b0,e0,e1,e7,e8,hk,hlt,hge,hx',c1,hf,rowK,fxa,fxc,fxE,fxL,fxI,nxE,evO,evR,cellsT,ldCells,mkT,lenA,binPV,Env.init,resV,resT,frT,klT,ownT,intT,O.adds,ownA,rowsA,over,wrOk,keysT,keysA,ne_eq,if_true,if_false,ite_self,Nat.reduceLT,Nat.reduceSub,Nat.reduceBEq,Nat.reduceEqDiff,Nat.reduceAdd,Nat.reduceLeDiff,reduceCtorEq,Nat.reduceMul]
      refine ⟨by rw [wrap_succ i (by omega)],fun j y hj hy => ?_⟩
      by_cases e : j = i
      · subst e; rw [hx] at hy; rw [← Option.some.inj hy]; simpa using hf
      · exact hall j y (by omega) hy
  · rintro e σ' ⟨rfl,e0,e1,e7,e8,hall⟩
    have hlt : ¬ ((l.length : Nat) : Int) < (l.length : Int) := by omega
    simp only [F156b0,e0,e1,e7,e8,hlt,fxa,fxc,fxE,fxL,fxI,nxE,evO,evR,cellsT,ldCells,mkT,lenA,binPV,Env.init,resV,resT,frT,klT,ownT,intT,O.adds,ownA,rowsA,over,wrOk,keysT,keysA,ne_eq,if_true,if_false,ite_self,Nat.reduceLT,Nat.reduceSub,Nat.reduceBEq,Nat.reduceEqDiff,Nat.reduceAdd,Nat.reduceLeDiff,reduceCtorEq,Nat.reduceMul]
    have : l.findIdx? (fun x : Nd => decide (x.k = 0)) = none := by
      rw [List.findIdx?_eq_none_iff]
      intro x hx
      obtain ⟨j,hj⟩ := List.getElem?_of_mem hx
      exact hall j x (List.getElem?_eq_some_iff.1 hj).1 hj
    simp only [idx,this]
end Go.Proofs.Ytkpfjolcmkikeaa
end
section
set_option linter.unusedSimpArgs false
set_option linter.unusedVariables false
set_option maxHeartbeats 4000000
set_option maxRecDepth 10000
namespace Go.Proofs.Ytkpfjolcmkikeaa
open Go.Fx
def isFree (x : Nd) : Bool := decide (x.k = 0)
def Nt.at (n : Nt) : Nat := match n.ns.findIdx? isFree with | some i => i | none => n.ns.length
def Nd.fresh (x : Nd) : Nd := { x with to := List.replicate x.ports.toNat zP }
def Nt.make (n : Nt) (x : Nd) : Nt := { n with ns := match n.ns.findIdx? isFree with | some i => n.ns.set i x.fresh | none => n.ns ++ [x.fresh] }
noncomputable def makeR (n : Nt) (x : Nd) : Nt × Int × Int :=
  if (x.k = 0 ∨ x.k = 1) ∨ bool x.may = false then (n,0,122) else if n.used ≥ n.cap then (n,0,121) else (n.make x,n.at,0)
def encTIE (x : Nt × Int × Int) : PT := .t [(true,encT x.1),(false,[.i .i64 x.2.1]),(false,[.i .i64 x.2.2])]
theorem ports_b {x : Nd} (hx : x.Ok) : 0 ≤ x.ports ∧ x.ports * 16 ≤ 140737488355328 := by
  have h1 := hx.to
  have h2 := hx.al
  unfold Nd.ports
  repeat' split
  all_goals omega
theorem sMake_ok {n : Nt} {x : Nd} (hn : n.Ok) (hbig : n.ns.length * 88 + 88 ≤ 140737488355328) (hx : x.Ok) : eP S 139 [.g (encT n),.g (encN x)] = some (encTIE (makeR n x)) := by
  have c1 := sNode_ok hx
  have c2 := sUsed_ok hn
  have c3 := sPorts_ok hx
  have c4 := cloneA_ok x.al hx.al
  have hp := ports_b hx
  refine x_fn (orcS (by decide)) (fc := F139) rfl rfl ?_
  unfold makeR
  by_cases k0 : x.k = 0
  · simp only [F139,k0,encTIE,true_or,fxa,fxc,fxE,fxL,fxI,nxE,evO,evR,cellsT,ldCells,mkT,lenA,binPV,Env.init,resV,resT,frT,klT,ownT,intT,O.adds,ownA,rowsA,over,wrOk,keysT,keysA,ne_eq,if_true,if_false,ite_self,Nat.reduceLT,Nat.reduceSub,Nat.reduceBEq,Nat.reduceEqDiff,Nat.reduceAdd,Nat.reduceLeDiff,reduceCtorEq,Nat.reduceMul]
  by_cases k1 : x.k = 1
  · simp only [F139,k0,k1,Int.reduceEq,encTIE,true_or,or_true,fxa,fxc,fxE,fxL,fxI,nxE,evO,evR,cellsT,ldCells,mkT,lenA,binPV,Env.init,resV,resT,frT,klT,ownT,intT,O.adds,ownA,rowsA,over,wrOk,keysT,keysA,ne_eq,if_true,if_false,ite_self,Nat.reduceLT,Nat.reduceSub,Nat.reduceBEq,Nat.reduceEqDiff,Nat.reduceAdd,Nat.reduceLeDiff,reduceCtorEq,Nat.reduceMul]
  by_cases hm : x.may
  case neg =>
    rw [bool_f hm] at c1 ⊢
    simp only [encN] at c1
    simp only [F139,k0,k1,c1,encTIE,or_true,fxa,fxc,fxE,fxL,fxI,nxE,evO,evR,cellsT,ldCells,mkT,lenA,binPV,Env.init,resV,resT,frT,klT,ownT,intT,O.adds,ownA,rowsA,over,wrOk,keysT,keysA,ne_eq,if_true,if_false,ite_self,Nat.reduceLT,Nat.reduceSub,Nat.reduceBEq,Nat.reduceEqDiff,Nat.reduceAdd,Nat.reduceLeDiff,reduceCtorEq,Nat.reduceMul]
  rw [bool_t hm] at c1 ⊢
  by_cases hu : n.used ≥ n.cap
  · simp only [encN,encT] at c1 c2
    simp only [F139,k0,k1,c1,c2,hu,encTIE,or_self,Bool.true_eq_false,fxa,fxc,fxE,fxL,fxI,nxE,evO,evR,cellsT,ldCells,mkT,lenA,binPV,Env.init,resV,resT,frT,klT,ownT,intT,O.adds,ownA,rowsA,over,wrOk,keysT,keysA,ne_eq,if_true,if_false,ite_self,Nat.reduceLT,Nat.reduceSub,Nat.reduceBEq,Nat.reduceEqDiff,Nat.reduceAdd,Nat.reduceLeDiff,reduceCtorEq,Nat.reduceMul]
  obtain ⟨σ1,hcall,s10,hclk,hls,hold⟩ := copied_ok hbig (((St.empty.add 2 (.var ((encT n).map .p))).add 3 (.var ((encN x).map .p))).add 4 (.var [.nil,.p (.i .i64 0)]))
  have h2 := hold (2,0) (by simp [add_clk,empty_clk])
  have h3 := hold (3,1) (by simp [add_clk,empty_clk])
  have h4 := hold (4,2) (by simp [add_clk,empty_clk])
  simp only [encT,encN,List.map_cons,List.map_nil,add_clk,empty_clk,add_bs,empty_bs,Nat.zero_add,Nat.reduceAdd,if_true,if_false,Prod.mk.injEq,Nat.reduceEqDiff,false_and,and_false,and_self,Nat.succ_ne_self] at hcall s10 hclk h2 h3 h4
  simp only [encN,encT] at c1 c2 c3
  have hidx := indexN_ok n.ns hn.ns
  cases hf : n.ns.findIdx? isFree with
  | some i =>
    have hi : idx (fun x : Nd => decide (x.k = 0)) n.ns = (i : Int) := by
      have : n.ns.findIdx? (fun x : Nd => decide (x.k = 0)) = some i := hf
      simp only [idx,this]
    rw [hi] at hidx
    have hil : i < n.ns.length := by
      have := List.findIdx?_eq_some_iff_getElem.1 hf
      exact this.1
    obtain ⟨y,hy⟩ : ∃ y,n.ns[i]? = some y := ⟨_,List.getElem?_eq_getElem hil⟩
    have hy' := mapGet encN hy
    have hlt : ((i : Nat) : Int) < (n.ns.length : Int) := by omega
    have hneg : ¬ ((i : Nat) : Int) < 0 := by omega
    have hge : (0 : Int) ≤ ((i : Nat) : Int) := by omega
    simp only [F139,k0,k1,c1,c2,c3,c4,hu,hcall,s10,hclk,h2,h3,h4,hp.1,hp.2,hidx,hlt,hneg,hge,hy',rowK,Int.cast_ofNat_Int,encTIE,or_self,Bool.true_eq_false,Int.le_refl,fxa,fxc,fxE,fxL,fxI,nxE,evO,evR,cellsT,ldCells,mkT,lenA,binPV,Env.init,resV,resT,frT,klT,ownT,intT,O.adds,ownA,rowsA,over,wrOk,keysT,keysA,ne_eq,if_true,if_false,ite_self,Nat.reduceLT,Nat.reduceSub,Nat.reduceBEq,Nat.reduceEqDiff,Nat.reduceAdd,Nat.reduceLeDiff,reduceCtorEq,Nat.reduceMul]
    have hset : (n.ns.map encN).set i [.i .i64 x.k,.i .i64 x.lv,.i .i64 x.n,.s x.s,.l (x.al.map encA),.l (List.replicate x.ports.toNat [.i .i64 0,.i .i64 0])] = (n.ns.set i x.fresh).map encN := by
      rw [List.map_set]; simp [encN,Nd.fresh,zP,encP]
    rw [hset]
    have hlen : n.ns.length ≤ (n.ns.set i x.fresh).length := by simp
    have htk : List.take n.ns.length ((n.ns.set i x.fresh).map encN) = (n.ns.set i x.fresh).map encN := List.take_of_length_le (by simp)
    simp only [hlen,htk,Nt.make,Nt.at,hf,fxa,fxc,fxE,fxL,fxI,nxE,evO,evR,cellsT,ldCells,mkT,lenA,binPV,Env.init,resV,resT,frT,klT,ownT,intT,O.adds,ownA,rowsA,over,wrOk,keysT,keysA,ne_eq,if_true,if_false,ite_self,Nat.reduceLT,Nat.reduceSub,Nat.reduceBEq,Nat.reduceEqDiff,Nat.reduceAdd,Nat.reduceLeDiff,reduceCtorEq,Nat.reduceMul]
  | none =>
    have hi : idx (fun x : Nd => decide (x.k = 0)) n.ns = -1 := by
      have : n.ns.findIdx? (fun x : Nd => decide (x.k = 0)) = none := hf
      simp only [idx,this]
    rw [hi] at hidx
    have htk0 : List.take n.ns.length (n.ns.map encN) = n.ns.map encN := List.take_of_length_le (by simp)
    have hat : ∀ r : List PV,(n.ns.map encN ++ [r])[n.ns.length]? = some r := by intro r; rw [List.getElem?_append_right (by simp)]; simp
    have hset : ∀ r r' : List PV,(n.ns.map encN ++ [r]).set n.ns.length r' = n.ns.map encN ++ [r'] := by intro r r'; rw [List.set_append_right _ _ (by simp)]; simp
    have hb1 : (n.ns.length + 1) * 88 ≤ 140737488355328 := by omega
    have hlt : ((n.ns.length : Nat) : Int) < ((n.ns.length + 1 : Nat) : Int) := by omega
    have hge : (0 : Int) ≤ ((n.ns.length : Nat) : Int) := by omega
    simp only [F139,k0,k1,c1,c2,c3,c4,hu,hcall,s10,hclk,h2,h3,h4,hp.1,hp.2,hidx,Int.reduceNeg,Int.reduceLT,hb1,hlt,hge,htk0,hat,hset,rowK,encTIE,or_self,Bool.true_eq_false,Int.le_refl,Int.cast_ofNat_Int,fxa,fxc,fxE,fxL,fxI,nxE,evO,evR,cellsT,ldCells,mkT,lenA,binPV,Env.init,resV,resT,frT,klT,ownT,intT,O.adds,ownA,rowsA,over,wrOk,keysT,keysA,ne_eq,if_true,if_false,ite_self,Nat.reduceLT,Nat.reduceSub,Nat.reduceBEq,Nat.reduceEqDiff,Nat.reduceAdd,Nat.reduceLeDiff,reduceCtorEq,Nat.reduceMul]
    have hmk : n.ns.map encN ++ [[.i .i64 x.k,.i .i64 x.lv,.i .i64 x.n,.s x.s,.l (x.al.map encA),.l (List.replicate x.ports.toNat [.i .i64 0,.i .i64 0])]] = (n.ns ++ [x.fresh]).map encN := by
      simp [encN,Nd.fresh,zP,encP]
    rw [hmk]
    have hlen : n.ns.length + 1 ≤ (n.ns ++ [x.fresh]).length := by simp
    have htk : List.take (n.ns.length + 1) ((n.ns ++ [x.fresh]).map encN) = (n.ns ++ [x.fresh]).map encN := List.take_of_length_le (by simp)
    have hmake : (n.make x).ns = n.ns ++ [x.fresh] ∧ (n.make x).cap = n.cap ∧ n.at = n.ns.length := by simp only [Nt.make,Nt.at,hf,and_self]
    rw [hmake.1,hmake.2.1,hmake.2.2]
    simp only [List.length_map,hlen,htk,fxa,fxc,fxE,fxL,fxI,nxE,evO,evR,cellsT,ldCells,mkT,lenA,binPV,Env.init,resV,resT,frT,klT,ownT,intT,O.adds,ownA,rowsA,over,wrOk,keysT,keysA,ne_eq,if_true,if_false,ite_self,Nat.reduceLT,Nat.reduceSub,Nat.reduceBEq,Nat.reduceEqDiff,Nat.reduceAdd,Nat.reduceLeDiff,reduceCtorEq,Nat.reduceMul]
end Go.Proofs.Ytkpfjolcmkikeaa
end
section
set_option linter.unusedSimpArgs false
set_option linter.unusedVariables false
set_option maxHeartbeats 4000000
set_option maxRecDepth 10000
namespace Go.Proofs.Ytkpfjolcmkikeaa
open Go.Fx
def tl (l : List Nd) : Nat → Nat
  | 0 => 0
  | k + 1 => if isFree (l.getD k zN) then tl l k else k + 1
def trim (l : List Nd) : List Nd := l.take (tl l l.length)
def Nt.free (n : Nt) (i : Int) : Nt := { n with ns := trim (n.ns.set i.toNat zN) }
def freeR (n : Nt) (i : Int) : Nt × Int := if 0 ≤ i ∧ i ≤ (n.ns.length : Int) - 1 ∧ (n.nd i).k ≠ 0 then (n.free i,0) else (n,122)
theorem sFree_ok {n : Nt} (hn : n.Ok) (hbig : n.ns.length * 88 + 88 ≤ 140737488355328) (i : Int) : eP S 55 [.g (encT n),.a (.i .i64 i)] = some (encTE (freeR n i)) := by
  have hw0 : IntKind.i64.wrap ((n.ns.length : Int) - 1) = (n.ns.length : Int) - 1 := wrap_in _ (by omega)
  refine x_fn (orcS (by decide)) (fc := F55) rfl rfl ?_
  unfold freeR
  by_cases hin : 0 ≤ i ∧ i ≤ (n.ns.length : Int) - 1
  case neg =>
    have c1 := in_no hin
    rw [if_neg (fun h => hin ⟨h.1,h.2.1⟩)]
    simp only [F55,hw0,c1,encTE,fxa,fxc,fxE,fxL,fxI,nxE,evO,evR,cellsT,ldCells,mkT,lenA,binPV,Env.init,resV,resT,frT,klT,ownT,intT,O.adds,ownA,rowsA,over,wrOk,keysT,keysA,ne_eq,if_true,if_false,ite_self,Nat.reduceLT,Nat.reduceSub,Nat.reduceBEq,Nat.reduceEqDiff,Nat.reduceAdd,Nat.reduceLeDiff,reduceCtorEq,Nat.reduceMul]
  have c1 := in_is hin
  have hx := getN (l := n.ns) (i := i) hin.1 (by omega)
  have hlt : i < (n.ns.length : Int) := by omega
  have hge := hin.1
  obtain ⟨y,hy⟩ : ∃ y,n.ns.getD i.toNat zN = y := ⟨_,rfl⟩
  have hy2 : n.nd i = y := hy
  rw [hy] at hx
  have c2 := sfree_ok y
  simp only [encN] at c2
  rw [hy2]
  by_cases hk : y.k = 0
  · rw [if_neg (fun h => h.2.2 hk)]
    rw [hk] at c2
    simp only [encN,hk] at hx
    simp only [F55,hw0,c1,hlt,hge,hx,c2,encTE,fxa,fxc,fxE,fxL,fxI,nxE,evO,evR,cellsT,ldCells,mkT,lenA,binPV,Env.init,resV,resT,frT,klT,ownT,intT,O.adds,ownA,rowsA,over,wrOk,keysT,keysA,ne_eq,if_true,if_false,ite_self,Nat.reduceLT,Nat.reduceSub,Nat.reduceBEq,Nat.reduceEqDiff,Nat.reduceAdd,Nat.reduceLeDiff,reduceCtorEq,Nat.reduceMul]
  rw [if_pos ⟨hin.1,hin.2,hk⟩]
  obtain ⟨σ1,hcall,s10,hclk,hls,hold⟩ := copied_ok hbig ((St.empty.add 2 (.var ((encT n).map .p))).add 4 (.var [.nil,.p (.i .i64 0)]))
  have h2 := hold (2,0) (by simp [add_clk,empty_clk])
  have h4 := hold (4,1) (by simp [add_clk,empty_clk])
  simp only [encT,encN,List.map_cons,List.map_nil,add_clk,empty_clk,add_bs,empty_bs,Nat.zero_add,Nat.reduceAdd,if_true,if_false,Prod.mk.injEq,Nat.reduceEqDiff,false_and,and_false,and_self,Nat.succ_ne_self] at hcall s10 hclk h2 h4
  simp only [encN] at hx
  have hlt2 : i.toNat < n.ns.length := by omega
  have hset : ∀ r : List PV,r = encN zN → (n.ns.map encN).set i.toNat r = (n.ns.set i.toNat zN).map encN := by rintro r rfl; rw [List.map_set]
  have hz : encN zN = [.i .i64 0,.i .i64 0,.i .i64 0,.s [],.l [],.l []] := rfl
  have hset' := hset _ hz.symm
  obtain ⟨M,hM⟩ : ∃ M,M = n.ns.set i.toNat zN := ⟨_,rfl⟩
  have hMl : M.length = n.ns.length := by rw [hM]; simp
  rw [← hM] at hset'
  have hfr : n.free i = ⟨M.take (tl M M.length),n.cap⟩ := by rw [hM]; rfl
  rw [hfr]
  simp only [F55,hw0,c1,hlt,hge,hx,c2,hk,hcall,s10,hclk,h2,h4,hset',rowK,encTE,fxa,fxc,fxE,fxL,fxI,nxE,evO,evR,cellsT,ldCells,mkT,lenA,binPV,Env.init,resV,resT,frT,klT,ownT,intT,O.adds,ownA,rowsA,over,wrOk,keysT,keysA,ne_eq,if_true,if_false,ite_self,Nat.reduceLT,Nat.reduceSub,Nat.reduceBEq,Nat.reduceEqDiff,Nat.reduceAdd,Nat.reduceLeDiff,reduceCtorEq,Nat.reduceMul]
  refine loop_nat M.length (fun q e σ => e 2 = .a (.ptr (2,0) 0 0) ∧ e 4 = .a (.ptr (4,1) 0 0) ∧ σ.bs (2,0) = some (.var [.own (10,5) 0 (M.length - q),.p (.i .i64 n.cap)]) ∧ σ.bs (4,1) = some (.var [.nil,.p (.i .i64 0)]) ∧
    σ.bs (10,5) = some (.row 6 41 (M.map encN)) ∧ tl M M.length = tl M (M.length - q)) (i0 := 0) (Nat.zero_le _) ?_ ?_ ?_
  · refine ⟨?_,?_,?_,?_,?_,?_⟩ <;> simp only [hMl,Nat.sub_zero,h2,h4,fxa,fxc,fxE,fxL,fxI,nxE,evO,evR,cellsT,ldCells,mkT,lenA,binPV,Env.init,resV,resT,frT,klT,ownT,intT,O.adds,ownA,rowsA,over,wrOk,keysT,keysA,ne_eq,if_true,if_false,ite_self,Nat.reduceLT,Nat.reduceSub,Nat.reduceBEq,Nat.reduceEqDiff,Nat.reduceAdd,Nat.reduceLeDiff,reduceCtorEq,Nat.reduceMul]
  · rintro q e σ hq ⟨e2,e4,s2,s4,s10,ht⟩
    obtain ⟨k,hk⟩ : ∃ k,M.length - q = k + 1 := ⟨M.length - q - 1,by omega⟩
    have hk2 : M.length - (q + 1) = k := by omega
    obtain ⟨L,hL⟩ : ∃ L,L = M.length - q := ⟨_,rfl⟩
    rw [← hL] at s2 ht
    rw [hk2]
    have hLk : L = k + 1 := by omega
    have hw : IntKind.i64.wrap ((L : Int) - 1) = (k : Int) := by rw [wrap_in _ (by omega)]; omega
    have hgt : (L : Int) > 0 := by omega
    have hlt : (k : Int) < (L : Int) := by omega
    have hle : (k : Int) ≤ (L : Int) := by omega
    have hge : (0 : Int) ≤ (k : Int) := by omega
    obtain ⟨x,hx⟩ : ∃ x,M[k]? = some x := ⟨_,List.getElem?_eq_getElem (by omega)⟩
    have hx' := mapGet encN hx
    have c1 := sfree_ok x
    have hgd : M.getD k zN = x := by rw [List.getD_eq_getElem?_getD,hx]; rfl
    have htk : tl M (k + 1) = if x.k = 0 then tl M k else k + 1 := by simp only [tl,hgd,isFree,decide_eq_true_eq]
    simp only [encN] at c1
    by_cases hf : x.k = 0
    · rw [hf] at c1
      rw [hLk,htk,if_pos hf] at ht
      simp only [F55b0,e2,e4,s2,s4,s10,hw,hgt,hlt,hle,hge,hx',c1,hf,rowK,optInt,Int.toNat_zero,Nat.sub_zero,Int.le_refl,fxa,fxc,fxE,fxL,fxI,nxE,evO,evR,cellsT,ldCells,mkT,lenA,binPV,Env.init,resV,resT,frT,klT,ownT,intT,O.adds,ownA,rowsA,over,wrOk,keysT,keysA,ne_eq,if_true,if_false,ite_self,Nat.reduceLT,Nat.reduceSub,Nat.reduceBEq,Nat.reduceEqDiff,Nat.reduceAdd,Nat.reduceLeDiff,reduceCtorEq,Nat.reduceMul]
      exact ht
    · rw [hLk,htk,if_neg hf,← hLk] at ht
      rw [ht]
      have hlen : L ≤ M.length := by omega
      have htake : List.take L (M.map encN) = (M.take L).map encN := List.map_take.symm
      simp only [F55b0,e2,e4,s2,s4,s10,hw,hgt,hlt,hle,hge,hx',c1,hf,rowK,hlen,htake,List.length_map,fxa,fxc,fxE,fxL,fxI,nxE,evO,evR,cellsT,ldCells,mkT,lenA,binPV,Env.init,resV,resT,frT,klT,ownT,intT,O.adds,ownA,rowsA,over,wrOk,keysT,keysA,ne_eq,if_true,if_false,ite_self,Nat.reduceLT,Nat.reduceSub,Nat.reduceBEq,Nat.reduceEqDiff,Nat.reduceAdd,Nat.reduceLeDiff,reduceCtorEq,Nat.reduceMul]
  · rintro e σ ⟨e2,e4,s2,s4,s10,ht⟩
    rw [Nat.sub_self] at s2 ht
    have : tl M 0 = 0 := rfl
    rw [ht,this]
    have hgt : ¬ ((0 : Nat) : Int) > 0 := by simp
    simp only [F55b0,e2,e4,s2,s4,s10,hgt,List.take_zero,List.map_nil,Nat.zero_le,fxa,fxc,fxE,fxL,fxI,nxE,evO,evR,cellsT,ldCells,mkT,lenA,binPV,Env.init,resV,resT,frT,klT,ownT,intT,O.adds,ownA,rowsA,over,wrOk,keysT,keysA,ne_eq,if_true,if_false,ite_self,Nat.reduceLT,Nat.reduceSub,Nat.reduceBEq,Nat.reduceEqDiff,Nat.reduceAdd,Nat.reduceLeDiff,reduceCtorEq,Nat.reduceMul]
end Go.Proofs.Ytkpfjolcmkikeaa
end
section
set_option linter.unusedSimpArgs false
set_option linter.unusedVariables false
set_option maxHeartbeats 4000000
set_option maxRecDepth 10000
namespace Go.Proofs.Ytkpfjolcmkikeaa
open Go.Fx
theorem linked_ok {n : Nt} (hn : n.Ok) {i j : Nat} {x : Nd} (hx : n.ns[i]? = some x) {q : Pt} (hq : x.to[j]? = some q) :
    eP S 77 [.g (encT n),.g [.i .i64 (i : Nat),.i .i64 (j : Nat)]] = some (.a (.b (bool (q ≠ ⟨i,j⟩ ∧ n.has q = true ∧ n.lk q = ⟨i,j⟩)))) := by
  obtain ⟨p,hp⟩ : ∃ p : Prop,(q ≠ ⟨i,j⟩ ∧ n.has q = true ∧ n.lk q = ⟨i,j⟩) = p := ⟨_,rfl⟩
  rw [hp]
  refine x_fnB (orcS (by decide)) (fc := F77) rfl rfl ?_
  have hns := hn.ns
  have hx' := mapGet encN hx
  have hq' := mapGet encP hq
  have hi := (List.getElem?_eq_some_iff.1 hx).1
  have hj := (List.getElem?_eq_some_iff.1 hq).1
  have hlt1 : ((i : Nat) : Int) < (n.ns.length : Int) := by omega
  have hge1 : (0 : Int) ≤ ((i : Nat) : Int) := by omega
  have hlt2 : ((j : Nat) : Int) < (x.to.length : Int) := by omega
  have hge2 : (0 : Int) ≤ ((j : Nat) : Int) := by omega
  have hw0 : IntKind.i64.wrap ((n.ns.length : Int) - 1) = (n.ns.length : Int) - 1 := wrap_in _ (by omega)
  by_cases m1 : q = ⟨i,j⟩
  · have hd : (decide (q.n = (i : Int)) && decide (q.s = (j : Int))) = true := by rw [m1]; simp
    simp only [F77,hlt1,hge1,hx',hlt2,hge2,hq',hd,fxa,fxc,fxE,fxL,fxI,nxE,evO,evR,cellsT,ldCells,mkT,lenA,binPV,Env.init,resV,resT,frT,klT,ownT,intT,O.adds,ownA,rowsA,over,wrOk,keysT,keysA,ne_eq,if_true,if_false,ite_self,Nat.reduceLT,Nat.reduceSub,Nat.reduceBEq,Nat.reduceEqDiff,Nat.reduceAdd,Nat.reduceLeDiff,reduceCtorEq,Nat.reduceMul]
    rw [← hp]; exact fun h => h.1 m1
  have hd : (decide (q.n = (i : Int)) && decide (q.s = (j : Int))) = false := by
    have := ptEq q ⟨i,j⟩; rw [this]; simpa using m1
  by_cases m2 : 0 ≤ q.n ∧ q.n ≤ (n.ns.length : Int) - 1
  case neg =>
    have c1 := in_no m2
    simp only [F77,hlt1,hge1,hx',hlt2,hge2,hq',hd,hw0,c1,fxa,fxc,fxE,fxL,fxI,nxE,evO,evR,cellsT,ldCells,mkT,lenA,binPV,Env.init,resV,resT,frT,klT,ownT,intT,O.adds,ownA,rowsA,over,wrOk,keysT,keysA,ne_eq,if_true,if_false,ite_self,Nat.reduceLT,Nat.reduceSub,Nat.reduceBEq,Nat.reduceEqDiff,Nat.reduceAdd,Nat.reduceLeDiff,reduceCtorEq,Nat.reduceMul]
    rw [← hp]; intro h; have := has_iff.1 h.2.1; omega
  have c1 := in_is m2
  have g1 := getN (l := n.ns) m2.1 (by omega)
  have hlt3 : q.n < (n.ns.length : Int) := by omega
  have hge3 := m2.1
  have hzo := hn.nd _ (nd_mem m2.1 hlt3)
  obtain ⟨z,hz⟩ : ∃ z,n.nd q.n = z := ⟨_,rfl⟩
  rw [hz] at hzo
  have hz2 : n.ns.getD q.n.toNat zN = z := hz
  rw [hz2] at g1
  have hzt := hzo.to
  have hw1 : IntKind.i64.wrap ((z.to.length : Int) - 1) = (z.to.length : Int) - 1 := wrap_in _ (by omega)
  by_cases m3 : 0 ≤ q.s ∧ q.s ≤ (z.to.length : Int) - 1
  case neg =>
    have c2 := in_no m3
    simp only [F77,hlt1,hge1,hx',hlt2,hge2,hq',hd,hw0,c1,hlt3,hge3,g1,hw1,c2,fxa,fxc,fxE,fxL,fxI,nxE,evO,evR,cellsT,ldCells,mkT,lenA,binPV,Env.init,resV,resT,frT,klT,ownT,intT,O.adds,ownA,rowsA,over,wrOk,keysT,keysA,ne_eq,if_true,if_false,ite_self,Nat.reduceLT,Nat.reduceSub,Nat.reduceBEq,Nat.reduceEqDiff,Nat.reduceAdd,Nat.reduceLeDiff,reduceCtorEq,Nat.reduceMul]
    rw [← hp]; intro h; have := has_iff.1 h.2.1; rw [hz] at this; omega
  have c2 := in_is m3
  have g2 := getP (l := z.to) m3.1 (by omega)
  have hlt4 : q.s < (z.to.length : Int) := by omega
  have hge4 := m3.1
  obtain ⟨y,hy⟩ : ∃ y,z.to.getD q.s.toNat zP = y := ⟨_,rfl⟩
  rw [hy] at g2
  have hlk : n.lk q = y := by unfold Nt.lk Nd.tt; rw [hz]; exact hy
  have hhas : n.has q = true := has_iff.2 ⟨hge3,hlt3,hge4,by rw [hz]; exact hlt4⟩
  have hP : (decide (y.n = (i : Int)) && decide (y.s = (j : Int))) = true ↔ p := by
    have := ptEq y ⟨i,j⟩
    rw [this,decide_eq_true_eq,← hp,hlk]
    simp only [hhas,m1,ne_eq,not_false_eq_true,true_and]
  simp only [F77,hlt1,hge1,hx',hlt2,hge2,hq',hd,hw0,c1,hlt3,hge3,g1,hw1,c2,hlt4,hge4,g2,fxa,fxc,fxE,fxL,fxI,nxE,evO,evR,cellsT,ldCells,mkT,lenA,binPV,Env.init,resV,resT,frT,klT,ownT,intT,O.adds,ownA,rowsA,over,wrOk,keysT,keysA,ne_eq,if_true,if_false,ite_self,Nat.reduceLT,Nat.reduceSub,Nat.reduceBEq,Nat.reduceEqDiff,Nat.reduceAdd,Nat.reduceLeDiff,reduceCtorEq,Nat.reduceMul]
  exact hP
theorem sCheck_ok {n : Nt} (hn : n.Ok) : eP S 52 [.g (encT n)] = some (.a (.i .i64 (if bool n.Good = true then 0 else 120))) := by
  obtain ⟨r,h1,h2⟩ := x_fnE (S := S) (g := 52) (orcS (by decide)) (fc := F52) rfl (ps := [.g (encT n)]) rfl (K := RE n.Good) (by
    have hns := hn.ns
    have hw : IntKind.i64.wrap ((n.ns.length : Int) - 1) = n.ns.length - 1 := wrap_in _ (by omega)
    have hw1 : IntKind.i64.wrap ((n.ns.length : Int) - 1 + 1) = n.ns.length := by rw [wrap_in _ (by omega)]; omega
    by_cases h1 : 1 ≤ n.cap ∧ n.cap ≤ 4000
    case neg =>
      have c1 := in_no h1
      simp only [F52,hw,hw1,c1,RE_120,fxa,fxc,fxE,fxL,fxI,nxE,evO,evR,cellsT,ldCells,mkT,lenA,binPV,Env.init,resV,resT,frT,klT,ownT,intT,O.adds,ownA,rowsA,over,wrOk,keysT,keysA,ne_eq,if_true,if_false,ite_self,Nat.reduceLT,Nat.reduceSub,Nat.reduceBEq,Nat.reduceEqDiff,Nat.reduceAdd,Nat.reduceLeDiff,reduceCtorEq,Nat.reduceMul]; intro hG; exact h1 ⟨hG.cap1,hG.cap2⟩
    have c1 := in_is h1
    by_cases h3 : 1 ≤ (n.ns.length : Int) ∧ (n.ns.length : Int) ≤ n.cap
    case neg =>
      have c2 := in_no h3
      simp only [F52,hw,hw1,c1,c2,RE_120,fxa,fxc,fxE,fxL,fxI,nxE,evO,evR,cellsT,ldCells,mkT,lenA,binPV,Env.init,resV,resT,frT,klT,ownT,intT,O.adds,ownA,rowsA,over,wrOk,keysT,keysA,ne_eq,if_true,if_false,ite_self,Nat.reduceLT,Nat.reduceSub,Nat.reduceBEq,Nat.reduceEqDiff,Nat.reduceAdd,Nat.reduceLeDiff,reduceCtorEq,Nat.reduceMul]; intro hG; exact h3 ⟨hG.ln1,hG.ln2⟩
    have c2 := in_is h3
    have g := getN (l := n.ns) (i := (n.ns.length : Int) - 1) (by omega) (by omega)
    have hge0 : 0 ≤ (n.ns.length : Int) - 1 := by omega
    have hlt0 : (n.ns.length : Int) - 1 < n.ns.length := by omega
    by_cases h5 : (n.nd (n.ns.length - 1)).k = 0
    · unfold Nt.nd at h5
      simp only [F52,hw,hw1,c1,c2,h5,g,hge0,hlt0,RE_120,fxa,fxc,fxE,fxL,fxI,nxE,evO,evR,cellsT,ldCells,mkT,lenA,binPV,Env.init,resV,resT,frT,klT,ownT,intT,O.adds,ownA,rowsA,over,wrOk,keysT,keysA,ne_eq,if_true,if_false,ite_self,Nat.reduceLT,Nat.reduceSub,Nat.reduceBEq,Nat.reduceEqDiff,Nat.reduceAdd,Nat.reduceLeDiff,reduceCtorEq,Nat.reduceMul]; intro hG; exact hG.last h5
    have h5' := h5
    unfold Nt.nd at h5'
    simp only [F52,hw,hw1,c1,c2,h5',g,hge0,hlt0,fxa,fxc,fxE,fxL,fxI,nxE,evO,evR,cellsT,ldCells,mkT,lenA,binPV,Env.init,resV,resT,frT,klT,ownT,intT,O.adds,ownA,rowsA,over,wrOk,keysT,keysA,ne_eq,if_true,if_false,ite_self,Nat.reduceLT,Nat.reduceSub,Nat.reduceBEq,Nat.reduceEqDiff,Nat.reduceAdd,Nat.reduceLeDiff,reduceCtorEq,Nat.reduceMul]
    refine loop_nat n.ns.length (fun i e σ => e 1 = .a (.ptr (1,0) 0 0) ∧ e 33 = .a (.p (.l (n.ns.map encN))) ∧ e 34 = .a (.p (.i .i64 n.ns.length)) ∧ e 35 = .a (.p (.i .i64 (i : Nat))) ∧ σ.bs (1,0) = some (.var ((encT n).map .p)) ∧ 0 < σ.clk ∧
      ∀ (m : Nat) (x : Nd),m < i → n.ns[m]? = some x → x.may ∧ (x.to.length : Int) = x.ports ∧ ((m : Int) = 0 ↔ x.k = 1) ∧ ∀ (j : Nat) (q : Pt),x.to[j]? = some q → q ≠ ⟨m,j⟩ ∧ n.has q = true ∧ n.lk q = ⟨m,j⟩) (i0 := 0) (Nat.zero_le _) ?_ ?_ ?_
    · refine ⟨?_,?_,?_,?_,?_,?_,fun m x hm => by omega⟩ <;> simp only [fxa,fxc,fxE,fxL,fxI,nxE,evO,evR,cellsT,ldCells,mkT,lenA,binPV,Env.init,resV,resT,frT,klT,ownT,intT,O.adds,ownA,rowsA,over,wrOk,keysT,keysA,ne_eq,if_true,if_false,ite_self,Nat.reduceLT,Nat.reduceSub,Nat.reduceBEq,Nat.reduceEqDiff,Nat.reduceAdd,Nat.reduceLeDiff,reduceCtorEq,Nat.reduceMul]
      all_goals first | rfl | omega
    · rintro i e σ hi ⟨e1,e33,e34,e35,s1,hc,hall⟩
      obtain ⟨x,hx⟩ : ∃ x,n.ns[i]? = some x := ⟨_,List.getElem?_eq_getElem hi⟩
      have hx' := mapGet encN hx
      have hlt : ((i : Nat) : Int) < (n.ns.length : Int) := by omega
      have hge : (0 : Int) ≤ ((i : Nat) : Int) := by omega
      have hxo := hn.nd x (List.mem_of_getElem? hx)
      have hto := hxo.to
      have c1 := sNode_ok hxo
      have c2 := sPorts_ok hxo
      have hne : ¬ ((1,0) : Key) = (5,σ.clk) := by simp
      simp only [encN] at c1 c2
      simp only [encT,List.map_cons,List.map_nil] at s1
      by_cases k1 : x.may
      case neg =>
        rw [bool_f k1] at c1
        simp only [F52b0,e1,e33,e34,e35,s1,hlt,hge,hx',c1,RE_120,fxa,fxc,fxE,fxL,fxI,nxE,evO,evR,cellsT,ldCells,mkT,lenA,binPV,Env.init,resV,resT,frT,klT,ownT,intT,O.adds,ownA,rowsA,over,wrOk,keysT,keysA,ne_eq,if_true,if_false,ite_self,Nat.reduceLT,Nat.reduceSub,Nat.reduceBEq,Nat.reduceEqDiff,Nat.reduceAdd,Nat.reduceLeDiff,reduceCtorEq,Nat.reduceMul]
        intro hG; exact k1 (hG.nds i x hx).1
      rw [bool_t k1] at c1
      by_cases k2 : (x.to.length : Int) = x.ports
      case neg =>
        simp only [F52b0,e1,e33,e34,e35,s1,hlt,hge,hx',c1,c2,k2,RE_120,fxa,fxc,fxE,fxL,fxI,nxE,evO,evR,cellsT,ldCells,mkT,lenA,binPV,Env.init,resV,resT,frT,klT,ownT,intT,O.adds,ownA,rowsA,over,wrOk,keysT,keysA,ne_eq,if_true,if_false,ite_self,Nat.reduceLT,Nat.reduceSub,Nat.reduceBEq,Nat.reduceEqDiff,Nat.reduceAdd,Nat.reduceLeDiff,reduceCtorEq,Nat.reduceMul]
        intro hG; exact k2 (hG.nds i x hx).2.1
      by_cases k3 : (((i : Nat) : Int) = 0 ↔ x.k = 1)
      case neg =>
        have hd : (decide (x.k = 1) = decide (((i : Nat) : Int) = 0)) = False := by simp only [decide_eq_decide,eq_iff_iff,iff_false]; exact fun h => k3 h.symm
        simp only [F52b0,e1,e33,e34,e35,s1,hlt,hge,hx',c1,c2,k2,hd,RE_120,fxa,fxc,fxE,fxL,fxI,nxE,evO,evR,cellsT,ldCells,mkT,lenA,binPV,Env.init,resV,resT,frT,klT,ownT,intT,O.adds,ownA,rowsA,over,wrOk,keysT,keysA,ne_eq,if_true,if_false,ite_self,Nat.reduceLT,Nat.reduceSub,Nat.reduceBEq,Nat.reduceEqDiff,Nat.reduceAdd,Nat.reduceLeDiff,reduceCtorEq,Nat.reduceMul]
        intro hG; exact k3 (hG.nds i x hx).2.2.1
      have hd : (decide (x.k = 1) = decide (((i : Nat) : Int) = 0)) = True := by simp only [decide_eq_decide,eq_iff_iff,iff_true]; exact k3.symm
      simp only [F52b0,e1,e33,e34,e35,s1,hlt,hge,hx',c1,c2,k2,hd,fxa,fxc,fxE,fxL,fxI,nxE,evO,evR,cellsT,ldCells,mkT,lenA,binPV,Env.init,resV,resT,frT,klT,ownT,intT,O.adds,ownA,rowsA,over,wrOk,keysT,keysA,ne_eq,if_true,if_false,ite_self,Nat.reduceLT,Nat.reduceSub,Nat.reduceBEq,Nat.reduceEqDiff,Nat.reduceAdd,Nat.reduceLeDiff,reduceCtorEq,Nat.reduceMul]
      refine loop_nat x.to.length (fun j e σ' => e 1 = .a (.ptr (1,0) 0 0) ∧ e 33 = .a (.p (.l (n.ns.map encN))) ∧ e 34 = .a (.p (.i .i64 n.ns.length)) ∧ e 35 = .a (.p (.i .i64 (i : Nat))) ∧ e 4 = .a (.p (.i .i64 (i : Nat))) ∧ e 61 = .a (.p (.i .i64 x.to.length)) ∧ e 62 = .a (.p (.i .i64 (j : Nat))) ∧ σ'.bs (1,0) = some (.var ((encT n).map .p)) ∧ 0 < σ'.clk ∧
        ∀ (m : Nat) (q : Pt),m < j → x.to[m]? = some q → q ≠ ⟨i,m⟩ ∧ n.has q = true ∧ n.lk q = ⟨i,m⟩) (i0 := 0) (Nat.zero_le _) ?_ ?_ ?_
      · refine ⟨?_,?_,?_,?_,?_,?_,?_,?_,?_,fun m x hm => by omega⟩ <;> simp only [e1,e33,e34,e35,s1,k2,fxa,fxc,fxE,fxL,fxI,nxE,evO,evR,cellsT,ldCells,mkT,lenA,binPV,Env.init,resV,resT,frT,klT,ownT,intT,O.adds,ownA,rowsA,over,wrOk,keysT,keysA,ne_eq,if_true,if_false,ite_self,Nat.reduceLT,Nat.reduceSub,Nat.reduceBEq,Nat.reduceEqDiff,Nat.reduceAdd,Nat.reduceLeDiff,reduceCtorEq,Nat.reduceMul]
        all_goals first | rfl | omega
      · rintro j e σ' hj ⟨e1,e33,e34,e35,e4,e61,e62,s1,hc,hall2⟩
        obtain ⟨q,hq⟩ : ∃ q,x.to[j]? = some q := ⟨_,List.getElem?_eq_getElem hj⟩
        have hlt2 : ((j : Nat) : Int) < (x.to.length : Int) := by omega
        have hge2 : (0 : Int) ≤ ((j : Nat) : Int) := by omega
        have c3 := linked_ok hn hx hq
        simp only [encT,encN,encP,List.map_cons,List.map_nil] at s1 c3
        by_cases m1 : q ≠ ⟨i,j⟩ ∧ n.has q = true ∧ n.lk q = ⟨i,j⟩
        case neg =>
          rw [bool_f m1] at c3
          simp only [F52b1,e1,e33,e34,e35,e4,e61,e62,s1,hlt2,hge2,c3,RE_120,fxa,fxc,fxE,fxL,fxI,nxE,evO,evR,cellsT,ldCells,mkT,lenA,binPV,Env.init,resV,resT,frT,klT,ownT,intT,O.adds,ownA,rowsA,over,wrOk,keysT,keysA,ne_eq,if_true,if_false,ite_self,Nat.reduceLT,Nat.reduceSub,Nat.reduceBEq,Nat.reduceEqDiff,Nat.reduceAdd,Nat.reduceLeDiff,reduceCtorEq,Nat.reduceMul]
          intro hG; exact m1 ((hG.nds i x hx).2.2.2 j q hq)
        rw [bool_t m1] at c3
        simp only [F52b1,e1,e33,e34,e35,e4,e61,e62,s1,hlt2,hge2,c3,fxa,fxc,fxE,fxL,fxI,nxE,evO,evR,cellsT,ldCells,mkT,lenA,binPV,Env.init,resV,resT,frT,klT,ownT,intT,O.adds,ownA,rowsA,over,wrOk,keysT,keysA,ne_eq,if_true,if_false,ite_self,Nat.reduceLT,Nat.reduceSub,Nat.reduceBEq,Nat.reduceEqDiff,Nat.reduceAdd,Nat.reduceLeDiff,reduceCtorEq,Nat.reduceMul]
        refine ⟨by rw [wrap_succ j (by omega)],hc,fun m c hm hc => ?_⟩
        by_cases e : m = j
        · subst e; rw [hq] at hc; rw [← Option.some.inj hc]; exact m1
        · exact hall2 m c (by omega) hc
      · rintro e σ' ⟨e1,e33,e34,e35,e4,e61,e62,s1,hc,hall2⟩
        have hlt2 : ¬ ((x.to.length : Nat) : Int) < (x.to.length : Int) := by omega
        simp only [encT,encN,encP,List.map_cons,List.map_nil] at s1
        simp only [F52b1,e1,e33,e34,e35,e4,e61,e62,s1,hlt2,fxa,fxc,fxE,fxL,fxI,nxE,evO,evR,cellsT,ldCells,mkT,lenA,binPV,Env.init,resV,resT,frT,klT,ownT,intT,O.adds,ownA,rowsA,over,wrOk,keysT,keysA,ne_eq,if_true,if_false,ite_self,Nat.reduceLT,Nat.reduceSub,Nat.reduceBEq,Nat.reduceEqDiff,Nat.reduceAdd,Nat.reduceLeDiff,reduceCtorEq,Nat.reduceMul]
        refine ⟨by rw [wrap_succ i (by omega)],hc,fun m y hm hy => ?_⟩
        by_cases e : m = i
        · subst e; rw [hx] at hy; rw [← Option.some.inj hy]
          exact ⟨k1,k2,k3,fun j q hq => hall2 j q (List.getElem?_eq_some_iff.1 hq).1 hq⟩
        · exact hall m y (by omega) hy
    · rintro e σ ⟨e1,e33,e34,e35,s1,hc,hall⟩
      have hlt : ¬ ((n.ns.length : Nat) : Int) < (n.ns.length : Int) := by omega
      simp only [encT,List.map_cons,List.map_nil] at s1
      simp only [F52b0,e1,e33,e34,e35,s1,hlt,RE_0,fxa,fxc,fxE,fxL,fxI,nxE,evO,evR,cellsT,ldCells,mkT,lenA,binPV,Env.init,resV,resT,frT,klT,ownT,intT,O.adds,ownA,rowsA,over,wrOk,keysT,keysA,ne_eq,if_true,if_false,ite_self,Nat.reduceLT,Nat.reduceSub,Nat.reduceBEq,Nat.reduceEqDiff,Nat.reduceAdd,Nat.reduceLeDiff,reduceCtorEq,Nat.reduceMul]
      exact ⟨h1.1,h1.2,h3.1,h3.2,h5,fun i x hi => hall i x (List.getElem?_eq_some_iff.1 hi).1 hi⟩)
  rw [h1,h2]
end Go.Proofs.Ytkpfjolcmkikeaa
end
section
set_option linter.unusedSimpArgs false
set_option linter.unusedVariables false
set_option maxHeartbeats 4000000
set_option maxRecDepth 10000
namespace Go.Proofs.Ytkpfjolcmkikeaa
open Go.Fx
theorem usedL_nil : usedL [] = 0 := rfl
theorem usedL_cons (x : Nd) (l : List Nd) : usedL (x :: l) = (if x.k = 0 then 0 else 1) + usedL l := by
  unfold usedL
  rw [List.countP_cons]
  by_cases hk : x.k = 0
  · simp [hk]
  · simp [hk]; omega
theorem usedL_app (l m : List Nd) : usedL (l ++ m) = usedL l + usedL m := by
  unfold usedL; rw [List.countP_append]; omega
theorem usedL_set : ∀ {l : List Nd} {i : Nat} {x : Nd} (y : Nd),l[i]? = some x → usedL (l.set i y) = usedL l - (if x.k = 0 then 0 else 1) + (if y.k = 0 then 0 else 1)
  | [],i,x,y,h => by simp at h
  | z :: l,0,x,y,h => by
    simp only [List.getElem?_cons_zero,Option.some.injEq] at h; subst h
    rw [List.set_cons_zero,usedL_cons,usedL_cons]; omega
  | z :: l,i + 1,x,y,h => by
    simp only [List.getElem?_cons_succ] at h
    rw [List.set_cons_succ,usedL_cons,usedL_cons,usedL_set y h]; omega
theorem getD_of {l : List Nd} {i : Nat} {x : Nd} (h : l[i]? = some x) : l.getD i zN = x := by
  rw [List.getD_eq_getElem?_getD,h]; rfl
theorem tl_le (l : List Nd) : ∀ k,tl l k ≤ k
  | 0 => Nat.le_refl _
  | k + 1 => by
    simp only [tl]
    split
    · have := tl_le l k; omega
    · omega
theorem tl_free (l : List Nd) : ∀ k i,tl l k ≤ i → i < k → (l.getD i zN).k = 0
  | 0,i,h1,h2 => by omega
  | k + 1,i,h1,h2 => by
    simp only [tl] at h1
    split at h1
    · rename_i hf
      by_cases e : i = k
      · subst e; simpa [isFree] using hf
      · exact tl_free l k i h1 (by omega)
    · omega
theorem tl_last (l : List Nd) : ∀ k,0 < tl l k → (l.getD (tl l k - 1) zN).k ≠ 0
  | 0,h => by simp [tl] at h
  | k + 1,h => by
    simp only [tl] at h ⊢
    split
    · rename_i hf; rw [if_pos hf] at h; exact tl_last l k h
    · rename_i hf; simpa [isFree] using hf
theorem trim_len (l : List Nd) : (trim l).length = tl l l.length := by
  unfold trim; rw [List.length_take]; have := tl_le l l.length; omega
theorem trim_get {l : List Nd} {i : Nat} (h : i < (trim l).length) : (trim l)[i]? = l[i]? := by
  rw [trim_len] at h
  unfold trim; rw [List.getElem?_take_of_lt h]
theorem usedL_take_free {l : List Nd} : ∀ (j : Nat),j ≤ l.length → ∀ k,k ≤ j → (∀ i,k ≤ i → i < j → (l.getD i zN).k = 0) → usedL (l.take j) = usedL (l.take k)
  | 0,_,k,hk,_ => by rw [show k = 0 by omega]
  | j + 1,hj,k,hk,h => by
    by_cases e : k = j + 1
    · rw [e]
    · obtain ⟨x,hx⟩ : ∃ x,l[j]? = some x := ⟨_,List.getElem?_eq_getElem (by omega)⟩
      rw [usedL_take hx,if_pos (by rw [← getD_of hx]; exact h j (by omega) (by omega)),Int.add_zero]
      exact usedL_take_free j (by omega) k (by omega) fun i h1 h2 => h i h1 (by omega)
theorem usedL_trim (l : List Nd) : usedL (trim l) = usedL l := by
  have := usedL_take_free (l := l) l.length (Nat.le_refl _) (tl l l.length) (tl_le _ _) (fun i h1 h2 => tl_free l _ i h1 h2)
  rw [List.take_length] at this
  exact this.symm
theorem free_zN {x : Nd} (hm : x.may) (ht : (x.to.length : Int) = x.ports) (hk : x.k = 0) : x = zN := by
  obtain ⟨k,lv,n,s,al,to⟩ := x
  simp only at hk
  subst hk
  have h1 := hm.lv0
  have h2 := hm.lv2 (by simp)
  have h3 := hm.nm
  have h4 := hm.nn
  have h5 := hm.aln (by simp)
  have hp : (Nd.mk 0 lv n s al to).ports = 0 := by unfold Nd.ports; simp
  rw [hp] at ht
  simp only at ht h1 h2 h3 h4 h5
  have e1 : lv = 0 := by omega
  have e2 : n = 0 := by
    by_cases h : n = 0
    · exact h
    · have := h4 h; omega
  have e3 : s = [] := by
    by_cases h : s = []
    · exact h
    · have := h3.1 h; omega
  have e4 : al = [] := List.eq_nil_of_length_eq_zero (by omega)
  have e5 : to = [] := List.eq_nil_of_length_eq_zero (by omega)
  rw [e1,e2,e3,e4,e5]; rfl
end Go.Proofs.Ytkpfjolcmkikeaa
end
section
set_option linter.unusedSimpArgs false
set_option linter.unusedVariables false
set_option maxHeartbeats 4000000
set_option maxRecDepth 10000
namespace Go.Proofs.Ytkpfjolcmkikeaa
open Go.Fx
instance (i : Int) : Decidable (wf i) := by unfold wf; infer_instance
theorem fresh_ok {x : Nd} (hx : x.Ok) : x.fresh.Ok := by
  have hp := ports_b hx
  refine ⟨hx.k,hx.lv,hx.n,hx.s,hx.al,?_,hx.ap,fun p h => ?_⟩
  · simp only [Nd.fresh,List.length_replicate]; omega
  · have := List.eq_of_mem_replicate h; rw [this]; decide
theorem fresh_ports {x : Nd} (hx : x.Ok) : x.fresh.ports = x.ports := by
  have hp := ports_b hx
  by_cases h8 : x.k = 8
  · have e2 : x.fresh.ports = x.fresh.to.length := by
      have h8' : x.fresh.k = 8 := h8
      unfold Nd.ports; rw [h8']; simp
    rw [e2]; simp only [Nd.fresh,List.length_replicate]; omega
  · unfold Nd.ports Nd.fresh; simp only [h8,if_false]
end Go.Proofs.Ytkpfjolcmkikeaa
end
section
set_option linter.unusedSimpArgs false
set_option linter.unusedVariables false
namespace Go.Proofs.Ytkpfjolcmkikeaa
open Go.Fx
def Shp (n m : Nt) : Prop := n.ns.length = m.ns.length ∧ n.cap = m.cap ∧ ∀ i : Int,0 ≤ i → (m.nd i).k = (n.nd i).k ∧ (m.nd i).lv = (n.nd i).lv ∧ (m.nd i).n = (n.nd i).n ∧ (m.nd i).s = (n.nd i).s ∧ (m.nd i).al = (n.nd i).al ∧ (m.nd i).to.length = (n.nd i).to.length
theorem Shp.refl (n : Nt) : Shp n n := ⟨rfl,rfl,fun _ _ => ⟨rfl,rfl,rfl,rfl,rfl,rfl⟩⟩
theorem Shp.trans {a b c : Nt} (h : Shp a b) (k : Shp b c) : Shp a c :=
  ⟨h.1.trans k.1,h.2.1.trans k.2.1,fun i hi => by
    obtain ⟨a1,a2,a3,a4,a5,a6⟩ := h.2.2 i hi
    obtain ⟨b1,b2,b3,b4,b5,b6⟩ := k.2.2 i hi
    exact ⟨b1.trans a1,b2.trans a2,b3.trans a3,b4.trans a4,b5.trans a5,b6.trans a6⟩⟩
theorem Shp.has {n m : Nt} (h : Shp n m) (p : Pt) : m.has p = n.has p := by
  rw [Bool.eq_iff_iff,has_iff,has_iff,← h.1]
  constructor
  · rintro ⟨h1,h2,h3,h4⟩; rw [(h.2.2 p.n h1).2.2.2.2.2] at h4; exact ⟨h1,h2,h3,h4⟩
  · rintro ⟨h1,h2,h3,h4⟩; rw [← (h.2.2 p.n h1).2.2.2.2.2] at h4; exact ⟨h1,h2,h3,h4⟩
theorem Shp.set {n : Nt} {p : Pt} (q : Pt) (hp : n.has p = true) : Shp n (n.set p q) := by
  refine ⟨(len_set n p q).symm,rfl,fun i hi => ?_⟩
  rw [nd_set n p q hp i hi]
  split
  · rename_i e; subst e; exact ⟨rfl,rfl,rfl,rfl,rfl,by simp⟩
  · exact ⟨rfl,rfl,rfl,rfl,rfl,rfl⟩
theorem nd_get {n : Nt} {i : Nat} {x : Nd} (h : n.ns[i]? = some x) : n.nd (i : Int) = x := by
  unfold Nt.nd; rw [Int.toNat_natCast,List.getD_eq_getElem?_getD,h]; rfl
theorem get_nd {n : Nt} {i : Int} (h0 : 0 ≤ i) (h1 : i < n.ns.length) : n.ns[i.toNat]? = some (n.nd i) := by
  unfold Nt.nd; rw [List.getD_eq_getElem?_getD,List.getElem?_eq_getElem (by omega)]; rfl
theorem tt_get {x : Nd} {j : Nat} {q : Pt} (h : x.to[j]? = some q) : x.tt (j : Int) = q := by
  unfold Nd.tt; rw [Int.toNat_natCast,List.getD_eq_getElem?_getD,h]; rfl
theorem get_tt {x : Nd} {j : Int} (h0 : 0 ≤ j) (h1 : j < x.to.length) : x.to[j.toNat]? = some (x.tt j) := by
  unfold Nd.tt; rw [List.getD_eq_getElem?_getD,List.getElem?_eq_getElem (by omega)]; rfl
theorem has_get {n : Nt} {i j : Nat} {x : Nd} (h : n.ns[i]? = some x) (hj : j < x.to.length) : n.has ⟨i,j⟩ = true := by
  rw [has_iff]
  have hi := (List.getElem?_eq_some_iff.1 h).1
  refine ⟨by simp,by simp; omega,by simp,?_⟩
  simp only
  rw [nd_get h]; omega
theorem lk_get {n : Nt} {i j : Nat} {x : Nd} {q : Pt} (h : n.ns[i]? = some x) (hq : x.to[j]? = some q) : n.lk ⟨i,j⟩ = q := by
  unfold Nt.lk; simp only; rw [nd_get h,tt_get hq]
theorem good_link {n : Nt} (hg : n.Good) {p : Pt} (hp : n.has p = true) : n.lk p ≠ p ∧ n.has (n.lk p) = true ∧ n.lk (n.lk p) = p := by
  have h := has_iff.1 hp
  have hx := get_nd (n := n) h.1 h.2.1
  have hq := get_tt (x := n.nd p.n) h.2.2.1 h.2.2.2
  obtain ⟨_,_,_,h4⟩ := hg.nds _ _ hx
  have h5 := h4 _ _ hq
  have e : (⟨(p.n.toNat : Int),(p.s.toNat : Int)⟩ : Pt) = p := by
    obtain ⟨a,b⟩ := p
    simp only at h
    simp only [Pt.mk.injEq]; omega
  rw [e] at h5
  exact h5
def Nt.ln (n : Nt) (p q : Pt) : Nt := (n.set p q).set q p
theorem ln_shp {n : Nt} {p q : Pt} (hp : n.has p = true) (hq : n.has q = true) : Shp n (n.ln p q) := (Shp.set q hp).trans (Shp.set p (by rw [has_set q q hp]; exact hq))
theorem ln_lk {n : Nt} {p q r : Pt} (hp : n.has p = true) (hq : n.has q = true) (hr : n.has r = true) : (n.ln p q).lk r = if r = q then p else if r = p then q else n.lk r := by
  unfold Nt.ln
  rw [lk_set p r (by rw [has_set q q hp]; exact hq) (by rw [has_set q r hp]; exact hr),lk_set q r hp hr]
theorem linkR_ok {n : Nt} {p q : Pt} (hp : n.has p = true) (hq : n.has q = true) (h : p ≠ q) : linkR n p q = (n.ln p q,0) := by
  unfold linkR Nt.ln; simp [hp,hq,h]
end Go.Proofs.Ytkpfjolcmkikeaa
end
section
set_option linter.unusedSimpArgs false
set_option linter.unusedVariables false
set_option maxHeartbeats 4000000
set_option maxRecDepth 10000
namespace Go.Proofs.Ytkpfjolcmkikeaa
open Go.Fx
theorem good_big {n : Nt} (hG : n.Good) : n.ns.length ≤ 4000 := by
  have := hG.ln2; have := hG.cap2; omega
theorem zN_ok : zN.Ok := ⟨by decide,by decide,by decide,by decide,by decide,by decide,by decide,by decide⟩
theorem mem_trim {l : List Nd} {x : Nd} (h : x ∈ trim l) : x ∈ l := List.mem_of_mem_take h
theorem trim_le (l : List Nd) : (trim l).length ≤ l.length := by rw [trim_len]; exact tl_le _ _
theorem free_Ok {n : Nt} (hn : n.Ok) (i : Int) : (n.free i).Ok := by
  have h1 := trim_le (n.ns.set i.toNat zN)
  rw [List.length_set] at h1
  have h2 := hn.ns
  refine ⟨?_,hn.cap,fun x hx => ?_⟩
  · show (trim (n.ns.set i.toNat zN)).length * 88 ≤ _; omega
  · rcases List.mem_or_eq_of_mem_set (mem_trim hx) with h | rfl
    · exact hn.nd x h
    · exact zN_ok
theorem make_Ok {n : Nt} {x : Nd} (hn : n.Ok) (hx : x.Ok) (hb : n.ns.length * 88 + 88 ≤ 140737488355328) : (n.make x).Ok := by
  unfold Nt.make
  cases hf : n.ns.findIdx? isFree with
  | some i =>
    refine ⟨by simp; omega,hn.cap,fun y h => ?_⟩
    rcases List.mem_or_eq_of_mem_set h with h | rfl
    · exact hn.nd y h
    · exact fresh_ok hx
  | none =>
    refine ⟨by simp; omega,hn.cap,fun y h => ?_⟩
    rcases List.mem_append.1 h with h | h
    · exact hn.nd y h
    · simp only [List.mem_cons,List.not_mem_nil,or_false] at h; rw [h]; exact fresh_ok hx
theorem make_used {n : Nt} {x : Nd} (hk : x.k ≠ 0) : (n.make x).used = n.used + 1 := by
  have hfk : x.fresh.k = x.k := rfl
  unfold Nt.make
  cases hf : n.ns.findIdx? isFree with
  | some i =>
    obtain ⟨hi,hfi,hbef⟩ := List.findIdx?_eq_some_iff_getElem.1 hf
    have hy : n.ns[i]? = some n.ns[i] := List.getElem?_eq_getElem hi
    have hyk : (n.ns[i]).k = 0 := by simpa [isFree] using hfi
    show usedL (n.ns.set i x.fresh) = usedL n.ns + 1
    rw [usedL_set _ hy,if_pos hyk,hfk,if_neg hk]; omega
  | none =>
    show usedL (n.ns ++ [x.fresh]) = usedL n.ns + 1
    rw [usedL_app,usedL_cons,usedL_nil,hfk,if_neg hk]; omega
theorem free_used {n : Nt} {t : Nat} {y : Nd} (hy : n.ns[t]? = some y) (hk : y.k ≠ 0) : (n.free (t : Int)).used = n.used - 1 := by
  show usedL (trim (n.ns.set (t : Int).toNat zN)) = usedL n.ns - 1
  rw [usedL_trim,Int.toNat_natCast,usedL_set zN hy,if_neg hk]
  show usedL n.ns - 1 + (if zN.k = 0 then 0 else 1) = usedL n.ns - 1
  rw [if_pos (show zN.k = 0 from rfl)]; omega
theorem free_len (n : Nt) (t : Int) : (n.free t).ns.length ≤ n.ns.length := by
  have := trim_le (n.ns.set t.toNat zN)
  rw [List.length_set] at this; exact this
theorem good_used {n : Nt} (hG : n.Good) : n.used ≤ n.cap := by
  have := usedL_le n.ns
  have := hG.ln2
  unfold Nt.used; omega
theorem free_get {n : Nt} {i m : Nat} {x : Nd} (hx : n.ns[m]? = some x) (hm : m ≠ i) (hk : x.k ≠ 0) : (n.free (i : Int)).ns[m]? = some x := by
  have hset : (n.ns.set (i : Int).toNat zN)[m]? = some x := by rw [Int.toNat_natCast,List.getElem?_set_ne (Ne.symm hm)]; exact hx
  have hlt : m < (trim (n.ns.set (i : Int).toNat zN)).length := by
    rw [trim_len]
    by_cases h : m < tl (n.ns.set (i : Int).toNat zN) (n.ns.set (i : Int).toNat zN).length
    · exact h
    · exfalso
      apply hk
      have := tl_free (n.ns.set (i : Int).toNat zN) _ m (by omega) ((List.getElem?_eq_some_iff.1 hset).1)
      rw [getD_of hset] at this; exact this
  show (trim (n.ns.set (i : Int).toNat zN))[m]? = some x
  rw [trim_get hlt]; exact hset
theorem free_get_inv {n : Nt} {i m : Nat} {x : Nd} (hx : (n.free (i : Int)).ns[m]? = some x) : (m = i ∧ x = zN) ∨ (m ≠ i ∧ n.ns[m]? = some x) := by
  have h1 := (List.getElem?_eq_some_iff.1 hx).1
  have h2 : (trim (n.ns.set (i : Int).toNat zN))[m]? = some x := hx
  rw [trim_get h1,Int.toNat_natCast] at h2
  by_cases h : m = i
  · subst h
    rw [List.getElem?_set] at h2
    rw [if_pos rfl] at h2
    split at h2
    · exact .inl ⟨rfl,(Option.some.inj h2).symm⟩
    · cases h2
  · rw [List.getElem?_set_ne (Ne.symm h)] at h2; exact .inr ⟨h,h2⟩
end Go.Proofs.Ytkpfjolcmkikeaa
end
section
set_option linter.unusedSimpArgs false
set_option linter.unusedVariables false
set_option maxHeartbeats 4000000
set_option maxRecDepth 10000
namespace Go.Proofs.Ytkpfjolcmkikeaa
open Go.Fx
structure Pl where
  k : Int
  sw : Bool
  lv : Int
  alt : Int
  nd : Nd
  deriving DecidableEq
def encL (p : Pl) : List PV := [.i .i64 p.k,.b p.sw,.i .i64 p.lv,.i .i64 p.alt,.i .i64 p.nd.k,.i .i64 p.nd.lv,.i .i64 p.nd.n,.s p.nd.s,.l (p.nd.al.map encA),.l (p.nd.to.map encP)]
def encLE (x : Pl × Int) : PT := .t [(true,encL x.1),(false,[.i .i64 x.2])]
def p0 : Pl := ⟨0,false,0,0,zN⟩
def plainR (k : Int) : Pl × Int := (⟨k,false,0,0,zN⟩,0)
def noR (e : Int) : Pl × Int := (p0,e)
def swapR (x : Pl × Int) : Pl × Int := if x.2 = 0 then (⟨x.1.k,true,x.1.lv,x.1.alt,x.1.nd⟩,0) else x
def cls (k : Int) : Int := if k = 3 ∨ k = 9 ∨ k = 11 ∨ k = 12 then 1 else if k = 2 ∨ k = 8 ∨ k = 10 ∨ k = 13 then 2 else if k = 4 ∨ k = 5 ∨ k = 6 then 3 else if k = 7 then 4 else 0
def wr (i : Int) : Int := IntKind.i64.wrap i
def passLv (x y : Nd) : Int := if x.k = 5 then wr (y.lv - 1) else if x.k = 6 then wr (y.lv + 1) else y.lv
def passR (x y : Nd) : Pl × Int := if x.lv ≥ y.lv then noR 140 else if passLv x y > 60 then noR 141 else (⟨7,false,passLv x y,0,zN⟩,0)
def pickIx (x y : Nd) : Int := idx (fun a => decide (a.s = y.s) && decide (a.n = wr (y.to.length - 1))) x.al
def pickR (x y : Nd) : Pl × Int := if x.lv ≠ y.lv then noR 140 else if pickIx x y < 0 then plainR 5 else (⟨2,false,0,pickIx x y,zN⟩,0)
def truthN (b : Bool) : Nd := ⟨8,0,0,if b then [84,114,117,101] else [70,97,108,115,101],[],[zP]⟩
def outN (x y : Nd) : Nd :=
  if x.s = [43] then ⟨10,0,wr (x.n + y.n),[],[],[]⟩ else if x.s = [45] then ⟨10,0,wr (x.n - y.n),[],[],[]⟩ else if x.s = [42] then ⟨10,0,wr (x.n * y.n),[],[],[]⟩
  else if x.s = [47] then ⟨10,0,wr (x.n.tdiv y.n),[],[],[]⟩ else if x.s = [60] then truthN (decide (x.n < y.n)) else if x.s = [61,61] then truthN (decide (x.n = y.n)) else ⟨10,0,0,[],[],[]⟩
def outR (x y : Nd) : Pl × Int := if x.s = [47] ∧ y.n = 0 then plainR 5 else (⟨4,false,0,0,{ outN x y with lv := x.lv }⟩,0)
def askR (x y : Nd) : Pl × Int :=
  if x.k = 3 ∧ y.k = 2 then (if x.lv ≠ y.lv then noR 140 else plainR 1) else if x.k = 9 ∧ y.k = 8 then pickR x y else if x.k = 11 ∧ y.k = 10 then plainR 3 else if x.k = 12 ∧ y.k = 10 then outR x y else plainR 5
def ofR (a b : Nd) : Pl × Int :=
  if cls a.k = 0 ∨ cls b.k = 0 then noR 140 else if cls a.k = 4 then plainR 8 else if cls b.k = 4 then swapR (plainR 8)
  else if cls a.k = 3 ∧ cls b.k = 3 ∧ a.lv = b.lv ∧ a.k = b.k then plainR 6
  else if cls a.k = 3 ∧ (cls b.k ≠ 3 ∨ a.lv ≤ b.lv) then passR a b
  else if cls b.k = 3 then swapR (passR b a) else if cls a.k = 1 ∧ cls b.k = 2 then askR a b else if cls a.k = 2 ∧ cls b.k = 1 then swapR (askR b a) else noR 140
theorem class_ok (k : Int) : eP S 97 [.a (.i .i64 k)] = some (.a (.i .i64 (cls k))) := by
  refine x_fn (orcS (by decide)) (fc := F97) rfl rfl ?_
  unfold cls
  by_cases h1 : k = 3
  · simp only [F97,h1,Int.reduceEq,or_true,true_or,or_false,false_or,fxa,fxc,fxE,fxL,fxI,nxE,evO,evR,cellsT,ldCells,mkT,lenA,binPV,Env.init,resV,resT,frT,klT,ownT,intT,O.adds,ownA,rowsA,over,wrOk,keysT,keysA,ne_eq,if_true,if_false,ite_self,Nat.reduceLT,Nat.reduceSub,Nat.reduceBEq,Nat.reduceEqDiff,Nat.reduceAdd,Nat.reduceLeDiff,reduceCtorEq,Nat.reduceMul]
  by_cases h2 : k = 9
  · simp only [F97,h2,Int.reduceEq,or_true,true_or,or_false,false_or,fxa,fxc,fxE,fxL,fxI,nxE,evO,evR,cellsT,ldCells,mkT,lenA,binPV,Env.init,resV,resT,frT,klT,ownT,intT,O.adds,ownA,rowsA,over,wrOk,keysT,keysA,ne_eq,if_true,if_false,ite_self,Nat.reduceLT,Nat.reduceSub,Nat.reduceBEq,Nat.reduceEqDiff,Nat.reduceAdd,Nat.reduceLeDiff,reduceCtorEq,Nat.reduceMul]
  by_cases h3 : k = 11
  · simp only [F97,h3,Int.reduceEq,or_true,true_or,or_false,false_or,fxa,fxc,fxE,fxL,fxI,nxE,evO,evR,cellsT,ldCells,mkT,lenA,binPV,Env.init,resV,resT,frT,klT,ownT,intT,O.adds,ownA,rowsA,over,wrOk,keysT,keysA,ne_eq,if_true,if_false,ite_self,Nat.reduceLT,Nat.reduceSub,Nat.reduceBEq,Nat.reduceEqDiff,Nat.reduceAdd,Nat.reduceLeDiff,reduceCtorEq,Nat.reduceMul]
  by_cases h4 : k = 12
  · simp only [F97,h4,Int.reduceEq,or_true,true_or,or_false,false_or,fxa,fxc,fxE,fxL,fxI,nxE,evO,evR,cellsT,ldCells,mkT,lenA,binPV,Env.init,resV,resT,frT,klT,ownT,intT,O.adds,ownA,rowsA,over,wrOk,keysT,keysA,ne_eq,if_true,if_false,ite_self,Nat.reduceLT,Nat.reduceSub,Nat.reduceBEq,Nat.reduceEqDiff,Nat.reduceAdd,Nat.reduceLeDiff,reduceCtorEq,Nat.reduceMul]
  by_cases h5 : k = 2
  · simp only [F97,h5,Int.reduceEq,or_true,true_or,or_false,false_or,or_self,fxa,fxc,fxE,fxL,fxI,nxE,evO,evR,cellsT,ldCells,mkT,lenA,binPV,Env.init,resV,resT,frT,klT,ownT,intT,O.adds,ownA,rowsA,over,wrOk,keysT,keysA,ne_eq,if_true,if_false,ite_self,Nat.reduceLT,Nat.reduceSub,Nat.reduceBEq,Nat.reduceEqDiff,Nat.reduceAdd,Nat.reduceLeDiff,reduceCtorEq,Nat.reduceMul]
  by_cases h6 : k = 8
  · simp only [F97,h6,Int.reduceEq,or_true,true_or,or_false,false_or,or_self,fxa,fxc,fxE,fxL,fxI,nxE,evO,evR,cellsT,ldCells,mkT,lenA,binPV,Env.init,resV,resT,frT,klT,ownT,intT,O.adds,ownA,rowsA,over,wrOk,keysT,keysA,ne_eq,if_true,if_false,ite_self,Nat.reduceLT,Nat.reduceSub,Nat.reduceBEq,Nat.reduceEqDiff,Nat.reduceAdd,Nat.reduceLeDiff,reduceCtorEq,Nat.reduceMul]
  by_cases h7 : k = 10
  · simp only [F97,h7,Int.reduceEq,or_true,true_or,or_false,false_or,or_self,fxa,fxc,fxE,fxL,fxI,nxE,evO,evR,cellsT,ldCells,mkT,lenA,binPV,Env.init,resV,resT,frT,klT,ownT,intT,O.adds,ownA,rowsA,over,wrOk,keysT,keysA,ne_eq,if_true,if_false,ite_self,Nat.reduceLT,Nat.reduceSub,Nat.reduceBEq,Nat.reduceEqDiff,Nat.reduceAdd,Nat.reduceLeDiff,reduceCtorEq,Nat.reduceMul]
  by_cases h8 : k = 13
  · simp only [F97,h8,Int.reduceEq,or_true,true_or,or_false,false_or,or_self,fxa,fxc,fxE,fxL,fxI,nxE,evO,evR,cellsT,ldCells,mkT,lenA,binPV,Env.init,resV,resT,frT,klT,ownT,intT,O.adds,ownA,rowsA,over,wrOk,keysT,keysA,ne_eq,if_true,if_false,ite_self,Nat.reduceLT,Nat.reduceSub,Nat.reduceBEq,Nat.reduceEqDiff,Nat.reduceAdd,Nat.reduceLeDiff,reduceCtorEq,Nat.reduceMul]
  by_cases h9 : k = 4
  · simp only [F97,h9,Int.reduceEq,or_true,true_or,or_false,false_or,or_self,fxa,fxc,fxE,fxL,fxI,nxE,evO,evR,cellsT,ldCells,mkT,lenA,binPV,Env.init,resV,resT,frT,klT,ownT,intT,O.adds,ownA,rowsA,over,wrOk,keysT,keysA,ne_eq,if_true,if_false,ite_self,Nat.reduceLT,Nat.reduceSub,Nat.reduceBEq,Nat.reduceEqDiff,Nat.reduceAdd,Nat.reduceLeDiff,reduceCtorEq,Nat.reduceMul]
  by_cases h10 : k = 5
  · simp only [F97,h10,Int.reduceEq,or_true,true_or,or_false,false_or,or_self,fxa,fxc,fxE,fxL,fxI,nxE,evO,evR,cellsT,ldCells,mkT,lenA,binPV,Env.init,resV,resT,frT,klT,ownT,intT,O.adds,ownA,rowsA,over,wrOk,keysT,keysA,ne_eq,if_true,if_false,ite_self,Nat.reduceLT,Nat.reduceSub,Nat.reduceBEq,Nat.reduceEqDiff,Nat.reduceAdd,Nat.reduceLeDiff,reduceCtorEq,Nat.reduceMul]
  by_cases h11 : k = 6
  · simp only [F97,h11,Int.reduceEq,or_true,true_or,or_false,false_or,or_self,fxa,fxc,fxE,fxL,fxI,nxE,evO,evR,cellsT,ldCells,mkT,lenA,binPV,Env.init,resV,resT,frT,klT,ownT,intT,O.adds,ownA,rowsA,over,wrOk,keysT,keysA,ne_eq,if_true,if_false,ite_self,Nat.reduceLT,Nat.reduceSub,Nat.reduceBEq,Nat.reduceEqDiff,Nat.reduceAdd,Nat.reduceLeDiff,reduceCtorEq,Nat.reduceMul]
  by_cases h12 : k = 7
  · simp only [F97,h12,Int.reduceEq,or_true,true_or,or_false,false_or,or_self,fxa,fxc,fxE,fxL,fxI,nxE,evO,evR,cellsT,ldCells,mkT,lenA,binPV,Env.init,resV,resT,frT,klT,ownT,intT,O.adds,ownA,rowsA,over,wrOk,keysT,keysA,ne_eq,if_true,if_false,ite_self,Nat.reduceLT,Nat.reduceSub,Nat.reduceBEq,Nat.reduceEqDiff,Nat.reduceAdd,Nat.reduceLeDiff,reduceCtorEq,Nat.reduceMul]
  · simp only [F97,h1,h2,h3,h4,h5,h6,h7,h8,h9,h10,h11,h12,or_self,fxa,fxc,fxE,fxL,fxI,nxE,evO,evR,cellsT,ldCells,mkT,lenA,binPV,Env.init,resV,resT,frT,klT,ownT,intT,O.adds,ownA,rowsA,over,wrOk,keysT,keysA,ne_eq,if_true,if_false,ite_self,Nat.reduceLT,Nat.reduceSub,Nat.reduceBEq,Nat.reduceEqDiff,Nat.reduceAdd,Nat.reduceLeDiff,reduceCtorEq,Nat.reduceMul]
theorem plain_ok (k : Int) : eP S 99 [.a (.i .i64 k)] = some (encLE (plainR k)) := by
  refine x_fn (orcS (by decide)) (fc := F99) rfl rfl ?_
  simp only [F99,encLE,encL,plainR,zN,fxa,fxc,fxE,fxL,fxI,nxE,evO,evR,cellsT,ldCells,mkT,lenA,binPV,Env.init,resV,resT,frT,klT,ownT,intT,O.adds,ownA,rowsA,over,wrOk,keysT,keysA,ne_eq,if_true,if_false,ite_self,Nat.reduceLT,Nat.reduceSub,Nat.reduceBEq,Nat.reduceEqDiff,Nat.reduceAdd,Nat.reduceLeDiff,reduceCtorEq,Nat.reduceMul]
theorem swapped_ok (x : Pl × Int) : eP S 100 [.g (encL x.1),.a (.i .i64 x.2)] = some (encLE (swapR x)) := by
  refine x_fn (orcS (by decide)) (fc := F100) rfl rfl ?_
  unfold swapR
  by_cases h : x.2 = 0
  · simp only [F100,encLE,encL,h,fxa,fxc,fxE,fxL,fxI,nxE,evO,evR,cellsT,ldCells,mkT,lenA,binPV,Env.init,resV,resT,frT,klT,ownT,intT,O.adds,ownA,rowsA,over,wrOk,keysT,keysA,ne_eq,if_true,if_false,ite_self,Nat.reduceLT,Nat.reduceSub,Nat.reduceBEq,Nat.reduceEqDiff,Nat.reduceAdd,Nat.reduceLeDiff,reduceCtorEq,Nat.reduceMul]
  · simp only [F100,encLE,encL,h,fxa,fxc,fxE,fxL,fxI,nxE,evO,evR,cellsT,ldCells,mkT,lenA,binPV,Env.init,resV,resT,frT,klT,ownT,intT,O.adds,ownA,rowsA,over,wrOk,keysT,keysA,ne_eq,if_true,if_false,ite_self,Nat.reduceLT,Nat.reduceSub,Nat.reduceBEq,Nat.reduceEqDiff,Nat.reduceAdd,Nat.reduceLeDiff,reduceCtorEq,Nat.reduceMul]
theorem pass_ok (x y : Nd) : eP S 101 [.g (encN x),.g (encN y)] = some (encLE (passR x y)) := by
  refine x_fn (orcS (by decide)) (fc := F101) rfl rfl ?_
  unfold passR passLv wr
  by_cases h5 : x.k = 5
  · by_cases h1 : x.lv ≥ y.lv
    · simp only [F101,encLE,encL,noR,p0,zN,h5,h1,fxa,fxc,fxE,fxL,fxI,nxE,evO,evR,cellsT,ldCells,mkT,lenA,binPV,Env.init,resV,resT,frT,klT,ownT,intT,O.adds,ownA,rowsA,over,wrOk,keysT,keysA,ne_eq,if_true,if_false,ite_self,Nat.reduceLT,Nat.reduceSub,Nat.reduceBEq,Nat.reduceEqDiff,Nat.reduceAdd,Nat.reduceLeDiff,reduceCtorEq,Nat.reduceMul]
    · by_cases h2 : IntKind.i64.wrap (y.lv - 1) > 60
      · simp only [F101,encLE,encL,noR,p0,zN,h5,h1,h2,fxa,fxc,fxE,fxL,fxI,nxE,evO,evR,cellsT,ldCells,mkT,lenA,binPV,Env.init,resV,resT,frT,klT,ownT,intT,O.adds,ownA,rowsA,over,wrOk,keysT,keysA,ne_eq,if_true,if_false,ite_self,Nat.reduceLT,Nat.reduceSub,Nat.reduceBEq,Nat.reduceEqDiff,Nat.reduceAdd,Nat.reduceLeDiff,reduceCtorEq,Nat.reduceMul]
      · simp only [F101,encLE,encL,noR,p0,zN,h5,h1,h2,fxa,fxc,fxE,fxL,fxI,nxE,evO,evR,cellsT,ldCells,mkT,lenA,binPV,Env.init,resV,resT,frT,klT,ownT,intT,O.adds,ownA,rowsA,over,wrOk,keysT,keysA,ne_eq,if_true,if_false,ite_self,Nat.reduceLT,Nat.reduceSub,Nat.reduceBEq,Nat.reduceEqDiff,Nat.reduceAdd,Nat.reduceLeDiff,reduceCtorEq,Nat.reduceMul]
  by_cases h6 : x.k = 6
  · by_cases h1 : x.lv ≥ y.lv
    · simp only [F101,encLE,encL,noR,p0,zN,h6,h1,Int.reduceEq,fxa,fxc,fxE,fxL,fxI,nxE,evO,evR,cellsT,ldCells,mkT,lenA,binPV,Env.init,resV,resT,frT,klT,ownT,intT,O.adds,ownA,rowsA,over,wrOk,keysT,keysA,ne_eq,if_true,if_false,ite_self,Nat.reduceLT,Nat.reduceSub,Nat.reduceBEq,Nat.reduceEqDiff,Nat.reduceAdd,Nat.reduceLeDiff,reduceCtorEq,Nat.reduceMul]
    · by_cases h2 : IntKind.i64.wrap (y.lv + 1) > 60
      · simp only [F101,encLE,encL,noR,p0,zN,h6,h1,h2,Int.reduceEq,fxa,fxc,fxE,fxL,fxI,nxE,evO,evR,cellsT,ldCells,mkT,lenA,binPV,Env.init,resV,resT,frT,klT,ownT,intT,O.adds,ownA,rowsA,over,wrOk,keysT,keysA,ne_eq,if_true,if_false,ite_self,Nat.reduceLT,Nat.reduceSub,Nat.reduceBEq,Nat.reduceEqDiff,Nat.reduceAdd,Nat.reduceLeDiff,reduceCtorEq,Nat.reduceMul]
      · simp only [F101,encLE,encL,noR,p0,zN,h6,h1,h2,Int.reduceEq,fxa,fxc,fxE,fxL,fxI,nxE,evO,evR,cellsT,ldCells,mkT,lenA,binPV,Env.init,resV,resT,frT,klT,ownT,intT,O.adds,ownA,rowsA,over,wrOk,keysT,keysA,ne_eq,if_true,if_false,ite_self,Nat.reduceLT,Nat.reduceSub,Nat.reduceBEq,Nat.reduceEqDiff,Nat.reduceAdd,Nat.reduceLeDiff,reduceCtorEq,Nat.reduceMul]
  by_cases h1 : x.lv ≥ y.lv
  · simp only [F101,encLE,encL,noR,p0,zN,h5,h6,h1,Int.reduceEq,fxa,fxc,fxE,fxL,fxI,nxE,evO,evR,cellsT,ldCells,mkT,lenA,binPV,Env.init,resV,resT,frT,klT,ownT,intT,O.adds,ownA,rowsA,over,wrOk,keysT,keysA,ne_eq,if_true,if_false,ite_self,Nat.reduceLT,Nat.reduceSub,Nat.reduceBEq,Nat.reduceEqDiff,Nat.reduceAdd,Nat.reduceLeDiff,reduceCtorEq,Nat.reduceMul]
  · by_cases h2 : y.lv > 60
    · simp only [F101,encLE,encL,noR,p0,zN,h5,h6,h1,h2,Int.reduceEq,fxa,fxc,fxE,fxL,fxI,nxE,evO,evR,cellsT,ldCells,mkT,lenA,binPV,Env.init,resV,resT,frT,klT,ownT,intT,O.adds,ownA,rowsA,over,wrOk,keysT,keysA,ne_eq,if_true,if_false,ite_self,Nat.reduceLT,Nat.reduceSub,Nat.reduceBEq,Nat.reduceEqDiff,Nat.reduceAdd,Nat.reduceLeDiff,reduceCtorEq,Nat.reduceMul]
    · simp only [F101,encLE,encL,noR,p0,zN,h5,h6,h1,h2,Int.reduceEq,fxa,fxc,fxE,fxL,fxI,nxE,evO,evR,cellsT,ldCells,mkT,lenA,binPV,Env.init,resV,resT,frT,klT,ownT,intT,O.adds,ownA,rowsA,over,wrOk,keysT,keysA,ne_eq,if_true,if_false,ite_self,Nat.reduceLT,Nat.reduceSub,Nat.reduceBEq,Nat.reduceEqDiff,Nat.reduceAdd,Nat.reduceLeDiff,reduceCtorEq,Nat.reduceMul]
theorem pick1_ok (a : Ar) (y : Nd) (k : Key) (σ : St) (hk : σ.bs k = some (.var ((encN y).map .p))) (hlt : k.2 < σ.clk) :
    eS S (.f 150) [.g ((encA a).map .p),.a (.ptr k 0 0)] σ = some (.a (.p (.b (decide (a.s = y.s) && decide (a.n = wr (y.to.length - 1))))),σ.add 2 (.var ((encA a).map .p))) := by
  have hne : ¬ k = (2,σ.clk) := by rintro rfl; exact Nat.lt_irrefl _ hlt
  simp only [encN,List.map_cons,List.map_nil] at hk
  refine x_fnX (fc := F150) rfl rfl ?_
  unfold wr
  cases h1 : decide (a.s = y.s) with
  | false => simp only [F150,hk,hne,h1,fxa,fxc,fxE,fxL,fxI,nxE,evO,evR,cellsT,ldCells,mkT,lenA,binPV,Env.init,resV,resT,frT,klT,ownT,intT,O.adds,ownA,rowsA,over,wrOk,keysT,keysA,ne_eq,if_true,if_false,ite_self,Nat.reduceLT,Nat.reduceSub,Nat.reduceBEq,Nat.reduceEqDiff,Nat.reduceAdd,Nat.reduceLeDiff,reduceCtorEq,Nat.reduceMul]
  | true => simp only [F150,hk,hne,h1,fxa,fxc,fxE,fxL,fxI,nxE,evO,evR,cellsT,ldCells,mkT,lenA,binPV,Env.init,resV,resT,frT,klT,ownT,intT,O.adds,ownA,rowsA,over,wrOk,keysT,keysA,ne_eq,if_true,if_false,ite_self,Nat.reduceLT,Nat.reduceSub,Nat.reduceBEq,Nat.reduceEqDiff,Nat.reduceAdd,Nat.reduceLeDiff,reduceCtorEq,Nat.reduceMul]
theorem pick_ok {x y : Nd} (hx : x.Ok) : eP S 131 [.g (encN x),.g (encN y)] = some (encLE (pickR x y)) := by
  refine x_fn (orcS (by decide)) (fc := F131) rfl rfl ?_
  have c5 := plain_ok 5
  unfold pickR
  by_cases h1 : x.lv = y.lv
  case neg => simp only [F131,encLE,encL,noR,p0,zN,h1,fxa,fxc,fxE,fxL,fxI,nxE,evO,evR,cellsT,ldCells,mkT,lenA,binPV,Env.init,resV,resT,frT,klT,ownT,intT,O.adds,ownA,rowsA,over,wrOk,keysT,keysA,ne_eq,if_true,if_false,ite_self,Nat.reduceLT,Nat.reduceSub,Nat.reduceBEq,Nat.reduceEqDiff,Nat.reduceAdd,Nat.reduceLeDiff,reduceCtorEq,Nat.reduceMul]
  obtain ⟨σ0,hσ0⟩ : ∃ σ0,σ0 = ((St.empty.add 2 (.var ((encN x).map .p))).add 3 (.var ((encN y).map .p))).add 4 (.var [.p (.i .i64 0),.p (.b false),.p (.i .i64 0),.p (.i .i64 0),.p (.i .i64 0),.p (.i .i64 0),.p (.i .i64 0),.p (.s []),.nil,.nil]) := ⟨_,rfl⟩
  obtain ⟨σ1,hcall,h4,h5⟩ := indexA_ok x.al hx.al 150 [(3,1)] (by simp) (by decide) (fun a => decide (a.s = y.s) && decide (a.n = wr (y.to.length - 1))) (fun σ => (σ.bs (3,1) = some (.var ((encN y).map .p)) ∧ 2 ≤ σ.clk) ∧ σ.bs (4,2) = some (.var [.p (.i .i64 0),.p (.b false),.p (.i .i64 0),.p (.i .i64 0),.p (.i .i64 0),.p (.i .i64 0),.p (.i .i64 0),.p (.s []),.nil,.nil]))
    (fun a σ hσ => ⟨_,pick1_ok a y (3,1) σ hσ.1.1 (by have := hσ.1.2; simp; omega),by
      refine ⟨⟨?_,?_⟩,?_⟩
      · simp only [add_bs]; rw [if_neg (by simp)]; exact hσ.1.1
      · simp only [add_clk]; have := hσ.1.2; omega
      · simp only [add_bs]; rw [if_neg (by simp)]; exact hσ.2⟩) σ0 (by rw [hσ0]; refine ⟨⟨?_,?_⟩,?_⟩ <;> simp [add_bs,add_clk,empty_clk])
  rw [hσ0] at hcall
  have hcall : eS S (.f 149) [.a (.p (.l (x.al.map encA))),.a (.fn 150 [(3,1)])] _ = some (.a (.p (.i .i64 (pickIx x y))),σ1) := hcall
  simp only [encN,List.map_cons,List.map_nil,h1] at hcall h4
  simp only [encLE,encL,plainR,zN,List.map_nil] at c5
  by_cases h2 : pickIx x y < 0
  · simp only [F131,encLE,encL,noR,plainR,p0,zN,h1,capsOf,hcall,h2,h4,h5,c5,not_true_eq_false,fxa,fxc,fxE,fxL,fxI,nxE,evO,evR,cellsT,ldCells,mkT,lenA,binPV,Env.init,resV,resT,frT,klT,ownT,intT,O.adds,ownA,rowsA,over,wrOk,keysT,keysA,ne_eq,if_true,if_false,ite_self,Nat.reduceLT,Nat.reduceSub,Nat.reduceBEq,Nat.reduceEqDiff,Nat.reduceAdd,Nat.reduceLeDiff,reduceCtorEq,Nat.reduceMul]
  · simp only [F131,encLE,encL,noR,plainR,p0,zN,h1,capsOf,hcall,h2,h4,h5,c5,not_true_eq_false,fxa,fxc,fxE,fxL,fxI,nxE,evO,evR,cellsT,ldCells,mkT,lenA,binPV,Env.init,resV,resT,frT,klT,ownT,intT,O.adds,ownA,rowsA,over,wrOk,keysT,keysA,ne_eq,if_true,if_false,ite_self,Nat.reduceLT,Nat.reduceSub,Nat.reduceBEq,Nat.reduceEqDiff,Nat.reduceAdd,Nat.reduceLeDiff,reduceCtorEq,Nat.reduceMul]
theorem truth_ok (b : Bool) : eP S 151 [.a (.b b)] = some (.g (encN (truthN b))) := by
  refine x_fn (orcS (by decide)) (fc := F151) rfl rfl ?_
  unfold truthN
  cases b
  · simp only [F151,zP,Int.reduceLE,Int.reduceMul,Int.reduceToNat,Int.cast_ofNat_Int,fxa,fxc,fxE,fxL,fxI,nxE,evO,evR,cellsT,ldCells,mkT,lenA,binPV,Env.init,resV,resT,frT,klT,ownT,intT,O.adds,ownA,rowsA,over,wrOk,keysT,keysA,ne_eq,if_true,if_false,ite_self,Nat.reduceLT,Nat.reduceSub,Nat.reduceBEq,Nat.reduceEqDiff,Nat.reduceAdd,Nat.reduceLeDiff,reduceCtorEq,Nat.reduceMul]
  · simp only [F151,zP,Int.reduceLE,Int.reduceMul,Int.reduceToNat,Int.cast_ofNat_Int,fxa,fxc,fxE,fxL,fxI,nxE,evO,evR,cellsT,ldCells,mkT,lenA,binPV,Env.init,resV,resT,frT,klT,ownT,intT,O.adds,ownA,rowsA,over,wrOk,keysT,keysA,ne_eq,if_true,if_false,ite_self,Nat.reduceLT,Nat.reduceSub,Nat.reduceBEq,Nat.reduceEqDiff,Nat.reduceAdd,Nat.reduceLeDiff,reduceCtorEq,Nat.reduceMul]
theorem nmU : ((43 : UInt8) = 45) = False ∧ ((43 : UInt8) = 42) = False ∧ ((43 : UInt8) = 47) = False ∧ ((43 : UInt8) = 60) = False ∧ ((43 : UInt8) = 61) = False ∧ ((45 : UInt8) = 43) = False ∧ ((45 : UInt8) = 42) = False ∧ ((45 : UInt8) = 47) = False ∧ ((45 : UInt8) = 60) = False ∧ ((45 : UInt8) = 61) = False ∧ ((42 : UInt8) = 43) = False ∧ ((42 : UInt8) = 45) = False ∧ ((42 : UInt8) = 47) = False ∧ ((42 : UInt8) = 60) = False ∧ ((42 : UInt8) = 61) = False ∧ ((47 : UInt8) = 43) = False ∧ ((47 : UInt8) = 45) = False ∧ ((47 : UInt8) = 42) = False ∧ ((47 : UInt8) = 60) = False ∧ ((47 : UInt8) = 61) = False ∧ ((60 : UInt8) = 43) = False ∧ ((60 : UInt8) = 45) = False ∧ ((60 : UInt8) = 42) = False ∧ ((60 : UInt8) = 47) = False ∧ ((60 : UInt8) = 61) = False ∧ ((61 : UInt8) = 43) = False ∧ ((61 : UInt8) = 45) = False ∧ ((61 : UInt8) = 42) = False ∧ ((61 : UInt8) = 47) = False ∧ ((61 : UInt8) = 60) = False :=
  ⟨eq_false (by decide),eq_false (by decide),eq_false (by decide),eq_false (by decide),eq_false (by decide),eq_false (by decide),eq_false (by decide),eq_false (by decide),eq_false (by decide),eq_false (by decide),eq_false (by decide),eq_false (by decide),eq_false (by decide),eq_false (by decide),eq_false (by decide),eq_false (by decide),eq_false (by decide),eq_false (by decide),eq_false (by decide),eq_false (by decide),eq_false (by decide),eq_false (by decide),eq_false (by decide),eq_false (by decide),eq_false (by decide),eq_false (by decide),eq_false (by decide),eq_false (by decide),eq_false (by decide),eq_false (by decide)⟩
theorem out_ok (x y : Nd) : eP S 132 [.g (encN x),.g (encN y)] = some (encLE (outR x y)) := by
  refine x_fn (orcS (by decide)) (fc := F132) rfl rfl ?_
  have c5 := plain_ok 5
  have t1 := truth_ok (decide (x.n < y.n))
  have t2 := truth_ok (decide (x.n = y.n))
  unfold outR outN
  simp only [encN,truthN,zP,encP,List.map_cons,List.map_nil] at t1 t2
  obtain ⟨n1,hn1⟩ : ∃ b,decide (x.n < y.n) = b := ⟨_,rfl⟩
  obtain ⟨n2,hn2⟩ : ∃ b,decide (x.n = y.n) = b := ⟨_,rfl⟩
  rw [hn1] at t1 ⊢
  rw [hn2] at t2 ⊢
  simp only [encLE,encL,plainR,zN,List.map_nil] at c5
  by_cases h1 : x.s = [43]
  · simp only [F132,encLE,encL,plainR,zN,wr,h1,List.cons.injEq,nmU,List.cons_ne_nil,not_true_eq_false,fxa,fxc,fxE,fxL,fxI,nxE,evO,evR,cellsT,ldCells,mkT,lenA,binPV,Env.init,resV,resT,frT,klT,ownT,intT,O.adds,ownA,rowsA,over,wrOk,keysT,keysA,ne_eq,if_true,if_false,ite_self,Nat.reduceLT,Nat.reduceSub,Nat.reduceBEq,Nat.reduceEqDiff,Nat.reduceAdd,Nat.reduceLeDiff,reduceCtorEq,Nat.reduceMul]
  by_cases h2 : x.s = [45]
  · simp only [F132,encLE,encL,plainR,zN,wr,h2,List.cons.injEq,nmU,List.cons_ne_nil,not_true_eq_false,fxa,fxc,fxE,fxL,fxI,nxE,evO,evR,cellsT,ldCells,mkT,lenA,binPV,Env.init,resV,resT,frT,klT,ownT,intT,O.adds,ownA,rowsA,over,wrOk,keysT,keysA,ne_eq,if_true,if_false,ite_self,Nat.reduceLT,Nat.reduceSub,Nat.reduceBEq,Nat.reduceEqDiff,Nat.reduceAdd,Nat.reduceLeDiff,reduceCtorEq,Nat.reduceMul]
  by_cases h3 : x.s = [42]
  · simp only [F132,encLE,encL,plainR,zN,wr,h3,List.cons.injEq,nmU,List.cons_ne_nil,not_true_eq_false,fxa,fxc,fxE,fxL,fxI,nxE,evO,evR,cellsT,ldCells,mkT,lenA,binPV,Env.init,resV,resT,frT,klT,ownT,intT,O.adds,ownA,rowsA,over,wrOk,keysT,keysA,ne_eq,if_true,if_false,ite_self,Nat.reduceLT,Nat.reduceSub,Nat.reduceBEq,Nat.reduceEqDiff,Nat.reduceAdd,Nat.reduceLeDiff,reduceCtorEq,Nat.reduceMul]
  by_cases h4 : x.s = [47]
  · by_cases h5 : y.n = 0
    · simp only [F132,encLE,encL,plainR,zN,wr,h4,h5,c5,List.cons.injEq,nmU,List.cons_ne_nil,not_true_eq_false,fxa,fxc,fxE,fxL,fxI,nxE,evO,evR,cellsT,ldCells,mkT,lenA,binPV,Env.init,resV,resT,frT,klT,ownT,intT,O.adds,ownA,rowsA,over,wrOk,keysT,keysA,ne_eq,if_true,if_false,ite_self,Nat.reduceLT,Nat.reduceSub,Nat.reduceBEq,Nat.reduceEqDiff,Nat.reduceAdd,Nat.reduceLeDiff,reduceCtorEq,Nat.reduceMul]
    · simp only [F132,encLE,encL,plainR,zN,wr,h4,h5,c5,List.cons.injEq,nmU,List.cons_ne_nil,not_true_eq_false,fxa,fxc,fxE,fxL,fxI,nxE,evO,evR,cellsT,ldCells,mkT,lenA,binPV,Env.init,resV,resT,frT,klT,ownT,intT,O.adds,ownA,rowsA,over,wrOk,keysT,keysA,ne_eq,if_true,if_false,ite_self,Nat.reduceLT,Nat.reduceSub,Nat.reduceBEq,Nat.reduceEqDiff,Nat.reduceAdd,Nat.reduceLeDiff,reduceCtorEq,Nat.reduceMul]
  by_cases h6 : x.s = [60]
  · simp only [F132,encLE,encL,plainR,zN,wr,h6,t1,hn1,truthN,zP,List.cons.injEq,nmU,List.cons_ne_nil,not_true_eq_false,fxa,fxc,fxE,fxL,fxI,nxE,evO,evR,cellsT,ldCells,mkT,lenA,binPV,Env.init,resV,resT,frT,klT,ownT,intT,O.adds,ownA,rowsA,over,wrOk,keysT,keysA,ne_eq,if_true,if_false,ite_self,Nat.reduceLT,Nat.reduceSub,Nat.reduceBEq,Nat.reduceEqDiff,Nat.reduceAdd,Nat.reduceLeDiff,reduceCtorEq,Nat.reduceMul]
  by_cases h7 : x.s = [61,61]
  · simp only [F132,encLE,encL,plainR,zN,wr,h7,t2,hn2,truthN,zP,List.cons.injEq,nmU,List.cons_ne_nil,not_true_eq_false,fxa,fxc,fxE,fxL,fxI,nxE,evO,evR,cellsT,ldCells,mkT,lenA,binPV,Env.init,resV,resT,frT,klT,ownT,intT,O.adds,ownA,rowsA,over,wrOk,keysT,keysA,ne_eq,if_true,if_false,ite_self,Nat.reduceLT,Nat.reduceSub,Nat.reduceBEq,Nat.reduceEqDiff,Nat.reduceAdd,Nat.reduceLeDiff,reduceCtorEq,Nat.reduceMul]
  · simp only [F132,encLE,encL,plainR,zN,wr,h1,h2,h3,h4,h6,h7,List.cons.injEq,nmU,List.cons_ne_nil,not_true_eq_false,fxa,fxc,fxE,fxL,fxI,nxE,evO,evR,cellsT,ldCells,mkT,lenA,binPV,Env.init,resV,resT,frT,klT,ownT,intT,O.adds,ownA,rowsA,over,wrOk,keysT,keysA,ne_eq,if_true,if_false,ite_self,Nat.reduceLT,Nat.reduceSub,Nat.reduceBEq,Nat.reduceEqDiff,Nat.reduceAdd,Nat.reduceLeDiff,reduceCtorEq,Nat.reduceMul]
theorem ask_ok {x y : Nd} (hx : x.Ok) : eP S 102 [.g (encN x),.g (encN y)] = some (encLE (askR x y)) := by
  refine x_fn (orcS (by decide)) (fc := F102) rfl rfl ?_
  have c1 := plain_ok 1
  have c3 := plain_ok 3
  have c5 := plain_ok 5
  have cp := pick_ok (x := x) (y := y) hx
  have co := out_ok x y
  obtain ⟨⟨⟨pk,ps,pl,pa,⟨n1,n2,n3,n4,n5,n6⟩⟩,pe⟩,hp⟩ : ∃ z,pickR x y = z := ⟨_,rfl⟩
  obtain ⟨⟨⟨ok,os,ol,oa,⟨m1,m2,m3,m4,m5,m6⟩⟩,oe⟩,ho⟩ : ∃ z,outR x y = z := ⟨_,rfl⟩
  unfold askR
  rw [hp] at cp ⊢
  rw [ho] at co ⊢
  simp only [encN,encLE,encL] at cp co
  simp only [encLE,encL,plainR,zN,List.map_nil] at c1 c3 c5
  by_cases h1 : x.k = 3 ∧ y.k = 2
  · obtain ⟨h1,h2⟩ := h1
    by_cases h3 : x.lv = y.lv
    · simp only [F102,encLE,encL,plainR,noR,p0,zN,h1,h2,h3,c1,Int.reduceEq,not_true_eq_false,fxa,fxc,fxE,fxL,fxI,nxE,evO,evR,cellsT,ldCells,mkT,lenA,binPV,Env.init,resV,resT,frT,klT,ownT,intT,O.adds,ownA,rowsA,over,wrOk,keysT,keysA,ne_eq,if_true,if_false,ite_self,Nat.reduceLT,Nat.reduceSub,Nat.reduceBEq,Nat.reduceEqDiff,Nat.reduceAdd,Nat.reduceLeDiff,reduceCtorEq,Nat.reduceMul]
    · simp only [F102,encLE,encL,plainR,noR,p0,zN,h1,h2,h3,c1,Int.reduceEq,not_true_eq_false,fxa,fxc,fxE,fxL,fxI,nxE,evO,evR,cellsT,ldCells,mkT,lenA,binPV,Env.init,resV,resT,frT,klT,ownT,intT,O.adds,ownA,rowsA,over,wrOk,keysT,keysA,ne_eq,if_true,if_false,ite_self,Nat.reduceLT,Nat.reduceSub,Nat.reduceBEq,Nat.reduceEqDiff,Nat.reduceAdd,Nat.reduceLeDiff,reduceCtorEq,Nat.reduceMul]
  by_cases h2 : x.k = 9 ∧ y.k = 8
  · obtain ⟨h2,h3⟩ := h2
    rw [h2,h3] at cp
    simp only [F102,encLE,encL,plainR,noR,p0,zN,h2,h3,cp,Int.reduceEq,not_true_eq_false,fxa,fxc,fxE,fxL,fxI,nxE,evO,evR,cellsT,ldCells,mkT,lenA,binPV,Env.init,resV,resT,frT,klT,ownT,intT,O.adds,ownA,rowsA,over,wrOk,keysT,keysA,ne_eq,if_true,if_false,ite_self,Nat.reduceLT,Nat.reduceSub,Nat.reduceBEq,Nat.reduceEqDiff,Nat.reduceAdd,Nat.reduceLeDiff,reduceCtorEq,Nat.reduceMul]
  by_cases h3 : x.k = 11 ∧ y.k = 10
  · obtain ⟨h3,h4⟩ := h3
    simp only [F102,encLE,encL,plainR,noR,p0,zN,h3,h4,c3,Int.reduceEq,not_true_eq_false,fxa,fxc,fxE,fxL,fxI,nxE,evO,evR,cellsT,ldCells,mkT,lenA,binPV,Env.init,resV,resT,frT,klT,ownT,intT,O.adds,ownA,rowsA,over,wrOk,keysT,keysA,ne_eq,if_true,if_false,ite_self,Nat.reduceLT,Nat.reduceSub,Nat.reduceBEq,Nat.reduceEqDiff,Nat.reduceAdd,Nat.reduceLeDiff,reduceCtorEq,Nat.reduceMul]
  by_cases h4 : x.k = 12 ∧ y.k = 10
  · obtain ⟨h4,h5⟩ := h4
    rw [h4,h5] at co
    simp only [F102,encLE,encL,plainR,noR,p0,zN,h4,h5,co,Int.reduceEq,not_true_eq_false,fxa,fxc,fxE,fxL,fxI,nxE,evO,evR,cellsT,ldCells,mkT,lenA,binPV,Env.init,resV,resT,frT,klT,ownT,intT,O.adds,ownA,rowsA,over,wrOk,keysT,keysA,ne_eq,if_true,if_false,ite_self,Nat.reduceLT,Nat.reduceSub,Nat.reduceBEq,Nat.reduceEqDiff,Nat.reduceAdd,Nat.reduceLeDiff,reduceCtorEq,Nat.reduceMul]
  have g1 : (decide (x.k = 3) && decide (y.k = 2)) = false := by simpa using h1
  have g2 : (decide (x.k = 9) && decide (y.k = 8)) = false := by simpa using h2
  have g3 : (decide (x.k = 11) && decide (y.k = 10)) = false := by simpa using h3
  have g4 : (decide (x.k = 12) && decide (y.k = 10)) = false := by simpa using h4
  simp only [F102,encLE,encL,plainR,noR,p0,zN,h1,h2,h3,h4,g1,g2,g3,g4,c5,Int.reduceEq,not_true_eq_false,fxa,fxc,fxE,fxL,fxI,nxE,evO,evR,cellsT,ldCells,mkT,lenA,binPV,Env.init,resV,resT,frT,klT,ownT,intT,O.adds,ownA,rowsA,over,wrOk,keysT,keysA,ne_eq,if_true,if_false,ite_self,Nat.reduceLT,Nat.reduceSub,Nat.reduceBEq,Nat.reduceEqDiff,Nat.reduceAdd,Nat.reduceLeDiff,reduceCtorEq,Nat.reduceMul]
theorem of1_ok (i j : Int) (a b : Nd) (ka kb : Key) (σ : St) (ha : σ.bs ka = some (.var ((encN a).map .p))) (hb : σ.bs kb = some (.var ((encN b).map .p))) :
    eS S (.f 96) [.a (.p (.i .i64 i)),.a (.p (.i .i64 j)),.a (.ptr ka 0 0),.a (.ptr kb 0 0)] σ = some (.a (.p (.b (decide (cls a.k = i) && decide (cls b.k = j)))),σ) := by
  have c1 := class_ok a.k
  have c2 := class_ok b.k
  simp only [encN,List.map_cons,List.map_nil] at ha hb
  refine x_fnX (fc := F96) rfl rfl ?_
  cases h1 : decide (cls a.k = i) with
  | false => simp only [F96,ha,hb,c1,c2,h1,fxa,fxc,fxE,fxL,fxI,nxE,evO,evR,cellsT,ldCells,mkT,lenA,binPV,Env.init,resV,resT,frT,klT,ownT,intT,O.adds,ownA,rowsA,over,wrOk,keysT,keysA,ne_eq,if_true,if_false,ite_self,Nat.reduceLT,Nat.reduceSub,Nat.reduceBEq,Nat.reduceEqDiff,Nat.reduceAdd,Nat.reduceLeDiff,reduceCtorEq,Nat.reduceMul]
  | true => simp only [F96,ha,hb,c1,c2,h1,fxa,fxc,fxE,fxL,fxI,nxE,evO,evR,cellsT,ldCells,mkT,lenA,binPV,Env.init,resV,resT,frT,klT,ownT,intT,O.adds,ownA,rowsA,over,wrOk,keysT,keysA,ne_eq,if_true,if_false,ite_self,Nat.reduceLT,Nat.reduceSub,Nat.reduceBEq,Nat.reduceEqDiff,Nat.reduceAdd,Nat.reduceLeDiff,reduceCtorEq,Nat.reduceMul]
theorem of2_ok (i : Int) (a b : Nd) (ka kb : Key) (σ : St) (ha : σ.bs ka = some (.var ((encN a).map .p))) (hb : σ.bs kb = some (.var ((encN b).map .p))) :
    eS S (.f 98) [.a (.p (.i .i64 i)),.a (.ptr ka 0 0),.a (.ptr kb 0 0)] σ = some (.a (.p (.b (decide (cls a.k = i) || decide (cls b.k = i)))),σ) := by
  have c1 := class_ok a.k
  have c2 := class_ok b.k
  simp only [encN,List.map_cons,List.map_nil] at ha hb
  refine x_fnX (fc := F98) rfl rfl ?_
  cases h1 : decide (cls a.k = i) with
  | false => simp only [F98,ha,hb,c1,c2,h1,fxa,fxc,fxE,fxL,fxI,nxE,evO,evR,cellsT,ldCells,mkT,lenA,binPV,Env.init,resV,resT,frT,klT,ownT,intT,O.adds,ownA,rowsA,over,wrOk,keysT,keysA,ne_eq,if_true,if_false,ite_self,Nat.reduceLT,Nat.reduceSub,Nat.reduceBEq,Nat.reduceEqDiff,Nat.reduceAdd,Nat.reduceLeDiff,reduceCtorEq,Nat.reduceMul]
  | true => simp only [F98,ha,hb,c1,c2,h1,fxa,fxc,fxE,fxL,fxI,nxE,evO,evR,cellsT,ldCells,mkT,lenA,binPV,Env.init,resV,resT,frT,klT,ownT,intT,O.adds,ownA,rowsA,over,wrOk,keysT,keysA,ne_eq,if_true,if_false,ite_self,Nat.reduceLT,Nat.reduceSub,Nat.reduceBEq,Nat.reduceEqDiff,Nat.reduceAdd,Nat.reduceLeDiff,reduceCtorEq,Nat.reduceMul]
theorem Of_ok {a b : Nd} (ha : a.Ok) (hb : b.Ok) : eP S 70 [.g (encN a),.g (encN b)] = some (encLE (ofR a b)) := by
  have ca := class_ok a.k
  have cb := class_ok b.k
  have c8 := plain_ok 8
  have c6 := plain_ok 6
  have cs8 := swapped_ok (plainR 8)
  have pab := pass_ok a b
  have pba := pass_ok b a
  have spba := swapped_ok (passR b a)
  have aab := ask_ok (x := a) (y := b) ha
  have aba := ask_ok (x := b) (y := a) hb
  have saba := swapped_ok (askR b a)
  obtain ⟨⟨⟨q1,q2,q3,q4,⟨q5,q6,q7,q8,q9,q10⟩⟩,qe⟩,hq⟩ : ∃ z,passR a b = z := ⟨_,rfl⟩
  obtain ⟨⟨⟨r1,r2,r3,r4,⟨r5,r6,r7,r8,r9,r10⟩⟩,re⟩,hr⟩ : ∃ z,passR b a = z := ⟨_,rfl⟩
  obtain ⟨⟨⟨s1,s2,s3,s4,⟨s5,s6,s7,s8,s9,s10⟩⟩,se⟩,hs⟩ : ∃ z,askR a b = z := ⟨_,rfl⟩
  obtain ⟨⟨⟨t1,t2,t3,t4,⟨t5,t6,t7,t8,t9,t10⟩⟩,te⟩,ht⟩ : ∃ z,askR b a = z := ⟨_,rfl⟩
  rw [hq] at pab
  rw [hr] at pba spba
  rw [hs] at aab
  rw [ht] at aba saba
  obtain ⟨⟨⟨u1,u2,u3,u4,⟨u5,u6,u7,u8,u9,u10⟩⟩,ue⟩,hu⟩ : ∃ z,swapR (⟨r1,r2,r3,r4,⟨r5,r6,r7,r8,r9,r10⟩⟩,re) = z := ⟨_,rfl⟩
  obtain ⟨⟨⟨w1,w2,w3,w4,⟨w5,w6,w7,w8,w9,w10⟩⟩,we⟩,hw⟩ : ∃ z,swapR (⟨t1,t2,t3,t4,⟨t5,t6,t7,t8,t9,t10⟩⟩,te) = z := ⟨_,rfl⟩
  rw [hu] at spba
  rw [hw] at saba
  have e8 : swapR (plainR 8) = (⟨8,true,0,0,zN⟩,0) := rfl
  rw [e8] at cs8
  simp only [encLE,encL,encN,plainR,zN,List.map_nil] at c8 c6 cs8 pab pba spba aab aba saba
  have o1 := fun i j σ (h1 : σ.bs (2,0) = some (.var ((encN a).map .p))) h2 => of1_ok i j a b (2,0) (3,1) σ h1 h2
  have o2 := fun i σ (h1 : σ.bs (2,0) = some (.var ((encN a).map .p))) h2 => of2_ok i a b (2,0) (3,1) σ h1 h2
  obtain ⟨σ1,hσ1⟩ : ∃ σ1,σ1 = ((St.empty.add 2 (.var ((encN a).map .p))).add 3 (.var ((encN b).map .p))).add 4 (.var [.p (.i .i64 0),.p (.b false),.p (.i .i64 0),.p (.i .i64 0),.p (.i .i64 0),.p (.i .i64 0),.p (.i .i64 0),.p (.s []),.nil,.nil]) := ⟨_,rfl⟩
  have b2 : σ1.bs (2,0) = some (.var ((encN a).map .p)) := by rw [hσ1]; simp [add_bs,add_clk,empty_clk]
  have b3 : σ1.bs (3,1) = some (.var ((encN b).map .p)) := by rw [hσ1]; simp [add_bs,add_clk,empty_clk]
  have k0 := o2 0 σ1 b2 b3
  have k33 := o1 3 3 σ1 b2 b3
  have k12 := o1 1 2 σ1 b2 b3
  have k21 := o1 2 1 σ1 b2 b3
  rw [hσ1] at k0 k33 k12 k21
  simp only [encN,List.map_cons,List.map_nil] at k0 k33 k12 k21
  unfold ofR
  rw [hq,hr,hs,ht]
  refine x_fn (orcS (by decide)) (fc := F70) rfl rfl ?_
  by_cases h0 : cls a.k = 0 ∨ cls b.k = 0
  · have d0 : (decide (cls a.k = 0) || decide (cls b.k = 0)) = true := by simpa using h0
    rw [d0] at k0
    simp only [F70,capsOf,encLE,encL,noR,p0,zN,h0,k0,fxa,fxc,fxE,fxL,fxI,nxE,evO,evR,cellsT,ldCells,mkT,lenA,binPV,Env.init,resV,resT,frT,klT,ownT,intT,O.adds,ownA,rowsA,over,wrOk,keysT,keysA,ne_eq,if_true,if_false,ite_self,Nat.reduceLT,Nat.reduceSub,Nat.reduceBEq,Nat.reduceEqDiff,Nat.reduceAdd,Nat.reduceLeDiff,reduceCtorEq,Nat.reduceMul]
  have d0 : (decide (cls a.k = 0) || decide (cls b.k = 0)) = false := by simpa using h0
  rw [d0] at k0
  have h0a : ¬ cls a.k = 0 := fun h => h0 (.inl h)
  have h0b : ¬ cls b.k = 0 := fun h => h0 (.inr h)
  by_cases h1 : cls a.k = 4
  · simp only [F70,capsOf,encLE,encL,plainR,zN,h0a,h0b,h1,k0,ca,c8,Int.reduceEq,or_self,false_or,or_false,not_false_eq_true,not_true_eq_false,fxa,fxc,fxE,fxL,fxI,nxE,evO,evR,cellsT,ldCells,mkT,lenA,binPV,Env.init,resV,resT,frT,klT,ownT,intT,O.adds,ownA,rowsA,over,wrOk,keysT,keysA,ne_eq,if_true,if_false,ite_self,Nat.reduceLT,Nat.reduceSub,Nat.reduceBEq,Nat.reduceEqDiff,Nat.reduceAdd,Nat.reduceLeDiff,reduceCtorEq,Nat.reduceMul]
  by_cases h2 : cls b.k = 4
  · simp only [F70,capsOf,encLE,encL,plainR,zN,swapR,h0a,h0b,h1,h2,k0,ca,cb,c8,cs8,Int.reduceEq,or_self,false_or,or_false,not_false_eq_true,not_true_eq_false,fxa,fxc,fxE,fxL,fxI,nxE,evO,evR,cellsT,ldCells,mkT,lenA,binPV,Env.init,resV,resT,frT,klT,ownT,intT,O.adds,ownA,rowsA,over,wrOk,keysT,keysA,ne_eq,if_true,if_false,ite_self,Nat.reduceLT,Nat.reduceSub,Nat.reduceBEq,Nat.reduceEqDiff,Nat.reduceAdd,Nat.reduceLeDiff,reduceCtorEq,Nat.reduceMul]
  by_cases h3 : cls a.k = 3 ∧ cls b.k = 3 ∧ a.lv = b.lv ∧ a.k = b.k
  · obtain ⟨h3,h4,h5,h6⟩ := h3
    have d3 : (decide (cls a.k = 3) && decide (cls b.k = 3)) = true := by simp [h3,h4]
    rw [d3] at k33
    have h43 : ¬ (3 : Int) = 4 := by decide
    have h03 : ¬ ((3 : Int) = 0 ∨ (3 : Int) = 0) := by decide
    rw [h6] at h3 ca k0 k33
    rw [h5] at k0 k33
    simp only [F70,capsOf,encLE,encL,plainR,zN,h3,h4,h5,h6,h43,h03,k0,k33,ca,cb,c6,Int.reduceEq,or_self,false_or,or_false,not_false_eq_true,not_true_eq_false,fxa,fxc,fxE,fxL,fxI,nxE,evO,evR,cellsT,ldCells,mkT,lenA,binPV,Env.init,resV,resT,frT,klT,ownT,intT,O.adds,ownA,rowsA,over,wrOk,keysT,keysA,ne_eq,if_true,if_false,ite_self,Nat.reduceLT,Nat.reduceSub,Nat.reduceBEq,Nat.reduceEqDiff,Nat.reduceAdd,Nat.reduceLeDiff,reduceCtorEq,Nat.reduceMul]
  have d33 : ((decide (cls a.k = 3) && decide (cls b.k = 3)) = true ∧ a.lv = b.lv ∧ a.k = b.k) ↔ False := by simp; intro x y; exact fun z w => h3 ⟨x,y,z,w⟩
  obtain ⟨v33,hv33⟩ : ∃ v,(decide (cls a.k = 3) && decide (cls b.k = 3)) = v := ⟨_,rfl⟩
  rw [hv33] at k33 d33
  have g33 : ∀ {α : Type} (x y : α),(if ((decide (cls a.k = 3) && decide (cls b.k = 3)) && decide (a.lv = b.lv) && decide (a.k = b.k)) = true then x else y) = y := by
    intro α x y; rw [if_neg]; simp; intro x y; exact fun z w => h3 ⟨x,y,z,w⟩
  by_cases h4 : cls a.k = 3
  · by_cases h5 : cls b.k = 3
    · have hv : v33 = true := by rw [← hv33]; simp [h4,h5]
      rw [hv] at k33
      by_cases h6 : a.lv ≤ b.lv
      · by_cases h7 : a.lv = b.lv
        · have h8 : ¬ a.k = b.k := fun h => h3 ⟨h4,h5,h7,h⟩
          rw [h7] at k0 k33 pab
          simp only [F70,capsOf,encLE,encL,h0a,h0b,h1,h2,h4,h5,h7,h8,Int.le_refl,k0,k33,ca,cb,pab,true_or,or_true,Int.reduceEq,or_self,false_or,or_false,not_false_eq_true,not_true_eq_false,fxa,fxc,fxE,fxL,fxI,nxE,evO,evR,cellsT,ldCells,mkT,lenA,binPV,Env.init,resV,resT,frT,klT,ownT,intT,O.adds,ownA,rowsA,over,wrOk,keysT,keysA,ne_eq,if_true,if_false,ite_self,Nat.reduceLT,Nat.reduceSub,Nat.reduceBEq,Nat.reduceEqDiff,Nat.reduceAdd,Nat.reduceLeDiff,reduceCtorEq,Nat.reduceMul]
        · simp only [F70,capsOf,encLE,encL,h0a,h0b,h1,h2,h4,h5,h6,h7,k0,k33,ca,cb,pab,true_or,or_true,Int.reduceEq,or_self,false_or,or_false,not_false_eq_true,not_true_eq_false,fxa,fxc,fxE,fxL,fxI,nxE,evO,evR,cellsT,ldCells,mkT,lenA,binPV,Env.init,resV,resT,frT,klT,ownT,intT,O.adds,ownA,rowsA,over,wrOk,keysT,keysA,ne_eq,if_true,if_false,ite_self,Nat.reduceLT,Nat.reduceSub,Nat.reduceBEq,Nat.reduceEqDiff,Nat.reduceAdd,Nat.reduceLeDiff,reduceCtorEq,Nat.reduceMul]
      · have h7 : ¬ a.lv = b.lv := by omega
        simp only [F70,capsOf,encLE,encL,h0a,h0b,h1,h2,h4,h5,h6,h7,hu,k0,k33,ca,cb,pba,spba,or_self,Int.reduceEq,or_self,false_or,or_false,not_false_eq_true,not_true_eq_false,fxa,fxc,fxE,fxL,fxI,nxE,evO,evR,cellsT,ldCells,mkT,lenA,binPV,Env.init,resV,resT,frT,klT,ownT,intT,O.adds,ownA,rowsA,over,wrOk,keysT,keysA,ne_eq,if_true,if_false,ite_self,Nat.reduceLT,Nat.reduceSub,Nat.reduceBEq,Nat.reduceEqDiff,Nat.reduceAdd,Nat.reduceLeDiff,reduceCtorEq,Nat.reduceMul]
    · have hv : v33 = false := by rw [← hv33]; simp [h5]
      rw [hv] at k33
      simp only [F70,capsOf,encLE,encL,h0a,h0b,h1,h2,h4,h5,k0,k33,ca,cb,pab,true_or,or_true,Int.reduceEq,or_self,false_or,or_false,not_false_eq_true,not_true_eq_false,fxa,fxc,fxE,fxL,fxI,nxE,evO,evR,cellsT,ldCells,mkT,lenA,binPV,Env.init,resV,resT,frT,klT,ownT,intT,O.adds,ownA,rowsA,over,wrOk,keysT,keysA,ne_eq,if_true,if_false,ite_self,Nat.reduceLT,Nat.reduceSub,Nat.reduceBEq,Nat.reduceEqDiff,Nat.reduceAdd,Nat.reduceLeDiff,reduceCtorEq,Nat.reduceMul]
  · have hv : v33 = false := by rw [← hv33]; simp [h4]
    rw [hv] at k33
    by_cases h5 : cls b.k = 3
    · simp only [F70,capsOf,encLE,encL,h0a,h0b,h1,h2,h4,h5,hu,k0,k33,ca,cb,pba,spba,or_self,Int.reduceEq,or_self,false_or,or_false,not_false_eq_true,not_true_eq_false,fxa,fxc,fxE,fxL,fxI,nxE,evO,evR,cellsT,ldCells,mkT,lenA,binPV,Env.init,resV,resT,frT,klT,ownT,intT,O.adds,ownA,rowsA,over,wrOk,keysT,keysA,ne_eq,if_true,if_false,ite_self,Nat.reduceLT,Nat.reduceSub,Nat.reduceBEq,Nat.reduceEqDiff,Nat.reduceAdd,Nat.reduceLeDiff,reduceCtorEq,Nat.reduceMul]
    by_cases h6 : cls a.k = 1 ∧ cls b.k = 2
    · have d6 : (decide (cls a.k = 1) && decide (cls b.k = 2)) = true := by simpa using h6
      rw [d6] at k12
      simp only [F70,capsOf,encLE,encL,h0a,h0b,h1,h2,h4,h5,h6,k0,k33,k12,ca,cb,aab,Int.reduceEq,or_self,false_or,or_false,not_false_eq_true,not_true_eq_false,fxa,fxc,fxE,fxL,fxI,nxE,evO,evR,cellsT,ldCells,mkT,lenA,binPV,Env.init,resV,resT,frT,klT,ownT,intT,O.adds,ownA,rowsA,over,wrOk,keysT,keysA,ne_eq,if_true,if_false,ite_self,Nat.reduceLT,Nat.reduceSub,Nat.reduceBEq,Nat.reduceEqDiff,Nat.reduceAdd,Nat.reduceLeDiff,reduceCtorEq,Nat.reduceMul]
    have d6 : (decide (cls a.k = 1) && decide (cls b.k = 2)) = false := by simpa using h6
    rw [d6] at k12
    by_cases h7 : cls a.k = 2 ∧ cls b.k = 1
    · have d7 : (decide (cls a.k = 2) && decide (cls b.k = 1)) = true := by simpa using h7
      rw [d7] at k21
      simp only [F70,capsOf,encLE,encL,h0a,h0b,h1,h2,h4,h5,h6,h7,hw,k0,k33,k12,k21,ca,cb,aba,saba,Int.reduceEq,or_self,false_or,or_false,not_false_eq_true,not_true_eq_false,fxa,fxc,fxE,fxL,fxI,nxE,evO,evR,cellsT,ldCells,mkT,lenA,binPV,Env.init,resV,resT,frT,klT,ownT,intT,O.adds,ownA,rowsA,over,wrOk,keysT,keysA,ne_eq,if_true,if_false,ite_self,Nat.reduceLT,Nat.reduceSub,Nat.reduceBEq,Nat.reduceEqDiff,Nat.reduceAdd,Nat.reduceLeDiff,reduceCtorEq,Nat.reduceMul]
    · have d7 : (decide (cls a.k = 2) && decide (cls b.k = 1)) = false := by simpa using h7
      rw [d7] at k21
      simp only [F70,capsOf,encLE,encL,noR,p0,zN,h0a,h0b,h1,h2,h4,h5,h6,h7,k0,k33,k12,k21,ca,cb,Int.reduceEq,or_self,false_or,or_false,not_false_eq_true,not_true_eq_false,fxa,fxc,fxE,fxL,fxI,nxE,evO,evR,cellsT,ldCells,mkT,lenA,binPV,Env.init,resV,resT,frT,klT,ownT,intT,O.adds,ownA,rowsA,over,wrOk,keysT,keysA,ne_eq,if_true,if_false,ite_self,Nat.reduceLT,Nat.reduceSub,Nat.reduceBEq,Nat.reduceEqDiff,Nat.reduceAdd,Nat.reduceLeDiff,reduceCtorEq,Nat.reduceMul]
def oth (x : Nd) : Int := max (wr ((x.to.length : Int) - 1)) 0
theorem others_ok (x : Nd) : eP S 103 [.g (encN x)] = some (.a (.i .i64 (oth x))) := by
  refine x_fn (orcS (by decide)) (fc := F103) rfl rfl ?_
  have hm : (if (0 : Int) > IntKind.i64.wrap ((x.to.length : Int) - 1) then 0 else IntKind.i64.wrap ((x.to.length : Int) - 1)) = oth x := by unfold oth wr; omega
  simp only [F103,hm,fxa,fxc,fxE,fxL,fxI,nxE,evO,evR,cellsT,ldCells,mkT,lenA,binPV,Env.init,resV,resT,frT,klT,ownT,intT,O.adds,ownA,rowsA,over,wrOk,keysT,keysA,ne_eq,if_true,if_false,ite_self,Nat.reduceLT,Nat.reduceSub,Nat.reduceBEq,Nat.reduceEqDiff,Nat.reduceAdd,Nat.reduceLeDiff,reduceCtorEq,Nat.reduceMul]
end Go.Proofs.Ytkpfjolcmkikeaa
end
section
set_option linter.unusedVariables false
namespace Go.Proofs.Ytkpfjolcmkikeaa
open Go.Fx
theorem linkR_Ok {n : Nt} {p q : Pt} (hn : n.Ok) (hp : wf p.n ∧ wf p.s) (hq : wf q.n ∧ wf q.s) : (linkR n p q).1.Ok := by
  unfold linkR
  split
  · rename_i h
    simp only [Bool.and_eq_true] at h
    exact Ok_set (Ok_set hn h.1.1 hq) (by rw [has_set q q h.1.1]; exact h.1.2) hp
  · exact hn
theorem moveR_Ok {n : Nt} {p q : Pt} (hn : n.Ok) (hp : wf p.n ∧ wf p.s) (hq : wf q.n ∧ wf q.s) : (moveR n p q).1.Ok := by
  unfold moveR
  split
  · rename_i h
    simp only [Bool.and_eq_true] at h
    split
    · exact hn
    · exact linkR_Ok hn hq (lk_wf hn h.1.1.1)
  · exact hn
theorem joinR_Ok {n : Nt} {p q : Pt} (hn : n.Ok) (hp : wf p.n ∧ wf p.s) (hq : wf q.n ∧ wf q.s) : (joinR n p q).1.Ok := by
  unfold joinR
  split
  · rename_i h
    simp only [Bool.and_eq_true] at h
    split
    · exact hn
    · exact linkR_Ok hn (lk_wf hn h.1.1.1.1) (lk_wf hn h.1.1.1.2)
  · exact hn
end Go.Proofs.Ytkpfjolcmkikeaa
end
namespace Go.Proofs.Ytkpfjolcmkikeaa
open Go.Fx
def encI (i : Int) : List PV := [.i .i64 i]
end Go.Proofs.Ytkpfjolcmkikeaa
section
set_option linter.unusedSimpArgs false
set_option linter.unusedVariables false
set_option maxHeartbeats 4000000
set_option maxRecDepth 10000
namespace Go.Proofs.Ytkpfjolcmkikeaa
open Go.Fx
def needX (p : Pl) (x y : Nd) : Int :=
  if p.k = 2 then (if p.alt < 0 ∨ p.alt ≥ (x.al.length : Int) then 0 else wr (wr ((x.al.getD p.alt.toNat zA).n + x.al.length) - 1))
  else if p.k = 3 ∨ p.k = 4 then 1
  else if p.k = 5 then wr (wr (1 + max (wr (oth x - 1)) 0) + oth y)
  else if p.k = 7 then (if x.k = 4 then wr (2 + oth y) else wr (1 + oth y))
  else if p.k = 8 then oth y else 0
def needR (p : Pl) (a b : Nd) : Int := if p.sw = true then needX p b a else needX p a b
theorem need_ok {p : Pl} {a b : Nd} : eP S 72 [.g (encL p),.g (encN a),.g (encN b)] = some (.a (.i .i64 (needR p a b))) := by
  refine x_fn (orcS (by decide)) (fc := F72) rfl rfl ?_
  unfold F72
  simp only [encL,encN,List.map_cons,List.map_nil,ofPT_g]
  cases hsw : p.sw with
  | true =>
    have hn : needR p a b = needX p b a := by unfold needR; rw [if_pos hsw]
    rw [hn]
    have ca := others_ok a
    have cb := others_ok b
    simp only [encN] at ca cb
    unfold needX
    by_cases k2 : p.k = 2
    · by_cases h1 : p.alt < 0
      · simp only [k2,h1,true_or,or_true,if_true,fxa,fxc,fxE,fxL,fxI,nxE,evO,evR,cellsT,ldCells,mkT,lenA,binPV,Env.init,resV,resT,frT,klT,ownT,intT,O.adds,ownA,rowsA,over,wrOk,keysT,keysA,ne_eq,if_true,if_false,ite_self,Nat.reduceLT,Nat.reduceSub,Nat.reduceBEq,Nat.reduceEqDiff,Nat.reduceAdd,Nat.reduceLeDiff,reduceCtorEq,Nat.reduceMul]
      by_cases h2 : p.alt ≥ (b.al.length : Int)
      · simp only [k2,h1,h2,true_or,or_true,if_true,fxa,fxc,fxE,fxL,fxI,nxE,evO,evR,cellsT,ldCells,mkT,lenA,binPV,Env.init,resV,resT,frT,klT,ownT,intT,O.adds,ownA,rowsA,over,wrOk,keysT,keysA,ne_eq,if_true,if_false,ite_self,Nat.reduceLT,Nat.reduceSub,Nat.reduceBEq,Nat.reduceEqDiff,Nat.reduceAdd,Nat.reduceLeDiff,reduceCtorEq,Nat.reduceMul]
      have g := getA (l := b.al) (i := p.alt) (by omega) (by omega)
      have hge : 0 ≤ p.alt := by omega
      have hlt : p.alt < (b.al.length : Int) := by omega
      simp only [k2,h1,h2,g,hge,hlt,or_self,wr,fxa,fxc,fxE,fxL,fxI,nxE,evO,evR,cellsT,ldCells,mkT,lenA,binPV,Env.init,resV,resT,frT,klT,ownT,intT,O.adds,ownA,rowsA,over,wrOk,keysT,keysA,ne_eq,if_true,if_false,ite_self,Nat.reduceLT,Nat.reduceSub,Nat.reduceBEq,Nat.reduceEqDiff,Nat.reduceAdd,Nat.reduceLeDiff,reduceCtorEq,Nat.reduceMul]
    by_cases k3 : p.k = 3
    · simp only [k3,Int.reduceEq,true_or,or_true,fxa,fxc,fxE,fxL,fxI,nxE,evO,evR,cellsT,ldCells,mkT,lenA,binPV,Env.init,resV,resT,frT,klT,ownT,intT,O.adds,ownA,rowsA,over,wrOk,keysT,keysA,ne_eq,if_true,if_false,ite_self,Nat.reduceLT,Nat.reduceSub,Nat.reduceBEq,Nat.reduceEqDiff,Nat.reduceAdd,Nat.reduceLeDiff,reduceCtorEq,Nat.reduceMul]
    by_cases k4 : p.k = 4
    · simp only [k4,Int.reduceEq,true_or,or_true,fxa,fxc,fxE,fxL,fxI,nxE,evO,evR,cellsT,ldCells,mkT,lenA,binPV,Env.init,resV,resT,frT,klT,ownT,intT,O.adds,ownA,rowsA,over,wrOk,keysT,keysA,ne_eq,if_true,if_false,ite_self,Nat.reduceLT,Nat.reduceSub,Nat.reduceBEq,Nat.reduceEqDiff,Nat.reduceAdd,Nat.reduceLeDiff,reduceCtorEq,Nat.reduceMul]
    by_cases k5 : p.k = 5
    · have hm : (if (0 : Int) > IntKind.i64.wrap (oth b - 1) then 0 else IntKind.i64.wrap (oth b - 1)) = max (IntKind.i64.wrap (oth b - 1)) 0 := by omega
      simp only [k5,ca,cb,hm,wr,Int.reduceEq,or_self,fxa,fxc,fxE,fxL,fxI,nxE,evO,evR,cellsT,ldCells,mkT,lenA,binPV,Env.init,resV,resT,frT,klT,ownT,intT,O.adds,ownA,rowsA,over,wrOk,keysT,keysA,ne_eq,if_true,if_false,ite_self,Nat.reduceLT,Nat.reduceSub,Nat.reduceBEq,Nat.reduceEqDiff,Nat.reduceAdd,Nat.reduceLeDiff,reduceCtorEq,Nat.reduceMul]
    by_cases k7 : p.k = 7
    · by_cases h4 : b.k = 4
      · simp only [k7,h4,ca,wr,Int.reduceEq,or_self,fxa,fxc,fxE,fxL,fxI,nxE,evO,evR,cellsT,ldCells,mkT,lenA,binPV,Env.init,resV,resT,frT,klT,ownT,intT,O.adds,ownA,rowsA,over,wrOk,keysT,keysA,ne_eq,if_true,if_false,ite_self,Nat.reduceLT,Nat.reduceSub,Nat.reduceBEq,Nat.reduceEqDiff,Nat.reduceAdd,Nat.reduceLeDiff,reduceCtorEq,Nat.reduceMul]
      · simp only [k7,h4,ca,wr,Int.reduceEq,or_self,fxa,fxc,fxE,fxL,fxI,nxE,evO,evR,cellsT,ldCells,mkT,lenA,binPV,Env.init,resV,resT,frT,klT,ownT,intT,O.adds,ownA,rowsA,over,wrOk,keysT,keysA,ne_eq,if_true,if_false,ite_self,Nat.reduceLT,Nat.reduceSub,Nat.reduceBEq,Nat.reduceEqDiff,Nat.reduceAdd,Nat.reduceLeDiff,reduceCtorEq,Nat.reduceMul]
    by_cases k8 : p.k = 8
    · simp only [k8,ca,wr,Int.reduceEq,or_self,fxa,fxc,fxE,fxL,fxI,nxE,evO,evR,cellsT,ldCells,mkT,lenA,binPV,Env.init,resV,resT,frT,klT,ownT,intT,O.adds,ownA,rowsA,over,wrOk,keysT,keysA,ne_eq,if_true,if_false,ite_self,Nat.reduceLT,Nat.reduceSub,Nat.reduceBEq,Nat.reduceEqDiff,Nat.reduceAdd,Nat.reduceLeDiff,reduceCtorEq,Nat.reduceMul]
    · simp only [k2,k3,k4,k5,k7,k8,or_self,fxa,fxc,fxE,fxL,fxI,nxE,evO,evR,cellsT,ldCells,mkT,lenA,binPV,Env.init,resV,resT,frT,klT,ownT,intT,O.adds,ownA,rowsA,over,wrOk,keysT,keysA,ne_eq,if_true,if_false,ite_self,Nat.reduceLT,Nat.reduceSub,Nat.reduceBEq,Nat.reduceEqDiff,Nat.reduceAdd,Nat.reduceLeDiff,reduceCtorEq,Nat.reduceMul]
  | false =>
    have hn : needR p a b = needX p a b := by unfold needR; rw [if_neg (by simp [hsw])]
    rw [hn]
    have ca := others_ok a
    have cb := others_ok b
    simp only [encN] at ca cb
    unfold needX
    by_cases k2 : p.k = 2
    · by_cases h1 : p.alt < 0
      · simp only [k2,h1,true_or,or_true,if_true,fxa,fxc,fxE,fxL,fxI,nxE,evO,evR,cellsT,ldCells,mkT,lenA,binPV,Env.init,resV,resT,frT,klT,ownT,intT,O.adds,ownA,rowsA,over,wrOk,keysT,keysA,ne_eq,if_true,if_false,ite_self,Nat.reduceLT,Nat.reduceSub,Nat.reduceBEq,Nat.reduceEqDiff,Nat.reduceAdd,Nat.reduceLeDiff,reduceCtorEq,Nat.reduceMul]
      by_cases h2 : p.alt ≥ (a.al.length : Int)
      · simp only [k2,h1,h2,true_or,or_true,if_true,fxa,fxc,fxE,fxL,fxI,nxE,evO,evR,cellsT,ldCells,mkT,lenA,binPV,Env.init,resV,resT,frT,klT,ownT,intT,O.adds,ownA,rowsA,over,wrOk,keysT,keysA,ne_eq,if_true,if_false,ite_self,Nat.reduceLT,Nat.reduceSub,Nat.reduceBEq,Nat.reduceEqDiff,Nat.reduceAdd,Nat.reduceLeDiff,reduceCtorEq,Nat.reduceMul]
      have g := getA (l := a.al) (i := p.alt) (by omega) (by omega)
      have hge : 0 ≤ p.alt := by omega
      have hlt : p.alt < (a.al.length : Int) := by omega
      simp only [k2,h1,h2,g,hge,hlt,or_self,wr,fxa,fxc,fxE,fxL,fxI,nxE,evO,evR,cellsT,ldCells,mkT,lenA,binPV,Env.init,resV,resT,frT,klT,ownT,intT,O.adds,ownA,rowsA,over,wrOk,keysT,keysA,ne_eq,if_true,if_false,ite_self,Nat.reduceLT,Nat.reduceSub,Nat.reduceBEq,Nat.reduceEqDiff,Nat.reduceAdd,Nat.reduceLeDiff,reduceCtorEq,Nat.reduceMul]
    by_cases k3 : p.k = 3
    · simp only [k3,Int.reduceEq,true_or,or_true,fxa,fxc,fxE,fxL,fxI,nxE,evO,evR,cellsT,ldCells,mkT,lenA,binPV,Env.init,resV,resT,frT,klT,ownT,intT,O.adds,ownA,rowsA,over,wrOk,keysT,keysA,ne_eq,if_true,if_false,ite_self,Nat.reduceLT,Nat.reduceSub,Nat.reduceBEq,Nat.reduceEqDiff,Nat.reduceAdd,Nat.reduceLeDiff,reduceCtorEq,Nat.reduceMul]
    by_cases k4 : p.k = 4
    · simp only [k4,Int.reduceEq,true_or,or_true,fxa,fxc,fxE,fxL,fxI,nxE,evO,evR,cellsT,ldCells,mkT,lenA,binPV,Env.init,resV,resT,frT,klT,ownT,intT,O.adds,ownA,rowsA,over,wrOk,keysT,keysA,ne_eq,if_true,if_false,ite_self,Nat.reduceLT,Nat.reduceSub,Nat.reduceBEq,Nat.reduceEqDiff,Nat.reduceAdd,Nat.reduceLeDiff,reduceCtorEq,Nat.reduceMul]
    by_cases k5 : p.k = 5
    · have hm : (if (0 : Int) > IntKind.i64.wrap (oth a - 1) then 0 else IntKind.i64.wrap (oth a - 1)) = max (IntKind.i64.wrap (oth a - 1)) 0 := by omega
      simp only [k5,ca,cb,hm,wr,Int.reduceEq,or_self,fxa,fxc,fxE,fxL,fxI,nxE,evO,evR,cellsT,ldCells,mkT,lenA,binPV,Env.init,resV,resT,frT,klT,ownT,intT,O.adds,ownA,rowsA,over,wrOk,keysT,keysA,ne_eq,if_true,if_false,ite_self,Nat.reduceLT,Nat.reduceSub,Nat.reduceBEq,Nat.reduceEqDiff,Nat.reduceAdd,Nat.reduceLeDiff,reduceCtorEq,Nat.reduceMul]
    by_cases k7 : p.k = 7
    · by_cases h4 : a.k = 4
      · simp only [k7,h4,cb,wr,Int.reduceEq,or_self,fxa,fxc,fxE,fxL,fxI,nxE,evO,evR,cellsT,ldCells,mkT,lenA,binPV,Env.init,resV,resT,frT,klT,ownT,intT,O.adds,ownA,rowsA,over,wrOk,keysT,keysA,ne_eq,if_true,if_false,ite_self,Nat.reduceLT,Nat.reduceSub,Nat.reduceBEq,Nat.reduceEqDiff,Nat.reduceAdd,Nat.reduceLeDiff,reduceCtorEq,Nat.reduceMul]
      · simp only [k7,h4,cb,wr,Int.reduceEq,or_self,fxa,fxc,fxE,fxL,fxI,nxE,evO,evR,cellsT,ldCells,mkT,lenA,binPV,Env.init,resV,resT,frT,klT,ownT,intT,O.adds,ownA,rowsA,over,wrOk,keysT,keysA,ne_eq,if_true,if_false,ite_self,Nat.reduceLT,Nat.reduceSub,Nat.reduceBEq,Nat.reduceEqDiff,Nat.reduceAdd,Nat.reduceLeDiff,reduceCtorEq,Nat.reduceMul]
    by_cases k8 : p.k = 8
    · simp only [k8,cb,wr,Int.reduceEq,or_self,fxa,fxc,fxE,fxL,fxI,nxE,evO,evR,cellsT,ldCells,mkT,lenA,binPV,Env.init,resV,resT,frT,klT,ownT,intT,O.adds,ownA,rowsA,over,wrOk,keysT,keysA,ne_eq,if_true,if_false,ite_self,Nat.reduceLT,Nat.reduceSub,Nat.reduceBEq,Nat.reduceEqDiff,Nat.reduceAdd,Nat.reduceLeDiff,reduceCtorEq,Nat.reduceMul]
    · simp only [k2,k3,k4,k5,k7,k8,or_self,fxa,fxc,fxE,fxL,fxI,nxE,evO,evR,cellsT,ldCells,mkT,lenA,binPV,Env.init,resV,resT,frT,klT,ownT,intT,O.adds,ownA,rowsA,over,wrOk,keysT,keysA,ne_eq,if_true,if_false,ite_self,Nat.reduceLT,Nat.reduceSub,Nat.reduceBEq,Nat.reduceEqDiff,Nat.reduceAdd,Nat.reduceLeDiff,reduceCtorEq,Nat.reduceMul]
end Go.Proofs.Ytkpfjolcmkikeaa
end
section
set_option linter.unusedSimpArgs false
set_option linter.unusedVariables false
set_option maxHeartbeats 4000000
namespace Go.Proofs.Ytkpfjolcmkikeaa
open Go.Fx
def portsR (i : Int) (j k : Nat) : List Pt := (List.range' j (k - j)).map fun (s : Nat) => ⟨i,(s : Int)⟩
theorem portsR_succ {i : Int} {j k : Nat} (h : j ≤ k) : portsR i j (k + 1) = portsR i j k ++ [⟨i,k⟩] := by
  unfold portsR
  rw [show k + 1 - j = (k - j) + 1 by omega,List.range'_concat,List.map_append]
  simp only [List.map_cons,List.map_nil,Nat.one_mul]
  rw [show j + (k - j) = k by omega]
theorem portsR_nil {i : Int} {j k : Nat} (h : k ≤ j) : portsR i j k = [] := by
  unfold portsR; rw [show k - j = 0 by omega]; rfl
theorem portsR_len (i : Int) (j k : Nat) : (portsR i j k).length = k - j := by simp [portsR]
theorem mem_portsR {i : Int} {j k : Nat} {p : Pt} : p ∈ portsR i j k ↔ p.n = i ∧ (j : Int) ≤ p.s ∧ p.s < k := by
  unfold portsR
  simp only [List.mem_map,List.mem_range'_1]
  constructor
  · rintro ⟨s,h,rfl⟩; exact ⟨rfl,by simp only; omega,by simp only; omega⟩
  · rintro ⟨h1,h2,h3⟩
    refine ⟨p.s.toNat,by omega,?_⟩
    obtain ⟨u,v⟩ := p
    simp only at h1 h2 h3 ⊢
    subst h1
    simp only [Pt.mk.injEq,true_and]; omega
theorem portsR_nodup (i : Int) (j k : Nat) : (portsR i j k).Nodup := by
  unfold portsR List.Nodup
  rw [List.pairwise_map]
  exact (show (List.range' j (k - j)).Nodup from List.nodup_range' ..).imp fun hne e => hne (by simp only [Pt.mk.injEq,true_and] at e; omega)
theorem portsR_cons {i : Int} {j k : Nat} (h : j < k) : portsR i j k = ⟨i,j⟩ :: portsR i (j + 1) k := by
  unfold portsR
  rw [show k - j = (k - (j + 1)) + 1 by omega,List.range'_succ,List.map_cons]
noncomputable def likeR (n : Nt) (x : Nd) : Nat → Nt × List Int
  | 0 => (n,[])
  | k + 1 => ((makeR (likeR n x k).1 x).1,(likeR n x k).2 ++ [(makeR (likeR n x k).1 x).2.1])
theorem makeR_Ok {n : Nt} {x : Nd} (hn : n.Ok) (hx : x.Ok) (hb : n.ns.length * 88 + 88 ≤ 140737488355328) : (makeR n x).1.Ok ∧ (makeR n x).1.ns.length ≤ n.ns.length + 1 := by
  unfold makeR
  split
  · exact ⟨hn,by simp only; omega⟩
  · split
    · exact ⟨hn,by simp only; omega⟩
    · refine ⟨make_Ok hn hx hb,?_⟩
      unfold Nt.make
      simp only
      split
      · rw [List.length_set]; omega
      · rw [List.length_append]; simp
theorem likeR_Ok {n : Nt} {x : Nd} (hn : n.Ok) (hx : x.Ok) : ∀ k : Nat,(n.ns.length + k) * 88 + 88 ≤ 140737488355328 → (likeR n x k).1.Ok ∧ (likeR n x k).1.ns.length ≤ n.ns.length + k ∧ (likeR n x k).2.length = k
  | 0,_ => ⟨hn,by simp only [likeR]; omega,rfl⟩
  | k + 1,hb => by
    obtain ⟨h1,h2,h3⟩ := likeR_Ok hn hx k (by omega)
    obtain ⟨g1,g2⟩ := makeR_Ok (x := x) h1 hx (by omega)
    exact ⟨g1,by simp only [likeR]; omega,by simp only [likeR,List.length_append,List.length_cons,List.length_nil]; omega⟩
inductive Op where
  | mv (p q : Pt)
  | jn (p q : Pt)
  | ln (p q : Pt)
def Op.run (n : Nt) : Op → Nt
  | .mv p q => (moveR n p q).1
  | .jn p q => (joinR n p q).1
  | .ln p q => (linkR n p q).1
def runs (n : Nt) (l : List Op) : Nt := l.foldl Op.run n
def wfP (p : Pt) : Prop := wf p.n ∧ wf p.s
def Op.wf : Op → Prop
  | .mv p q => wfP p ∧ wfP q
  | .jn p q => wfP p ∧ wfP q
  | .ln p q => wfP p ∧ wfP q
theorem Op.run_Ok {n : Nt} {o : Op} (hn : n.Ok) (h : o.wf) : (o.run n).Ok := by
  cases o with
  | mv p q => exact moveR_Ok hn h.1 h.2
  | jn p q => exact joinR_Ok hn h.1 h.2
  | ln p q => exact linkR_Ok hn h.1 h.2
theorem runs_Ok : ∀ {l : List Op} {n : Nt},n.Ok → (∀ o ∈ l,o.wf) → (runs n l).Ok
  | [],n,hn,_ => hn
  | o :: l,n,hn,h => runs_Ok (l := l) (Op.run_Ok hn (h o (by simp))) (fun o' ho => h o' (by simp [ho]))
theorem runs_app (n : Nt) (l m : List Op) : runs n (l ++ m) = runs (runs n l) m := by unfold runs; rw [List.foldl_append]
theorem runs_cons' (n : Nt) (o : Op) (l : List Op) : runs n (o :: l) = runs (o.run n) l := rfl
theorem runs_one (n : Nt) (l : List Op) (o : Op) : runs n (l ++ [o]) = o.run (runs n l) := by rw [runs_app]; rfl
def dropOps (l : List Pt) (ds : List Int) : List Op := List.zipWith (fun p d => .mv p ⟨d,0⟩) l ds
def dropN (z : Int) : Nd := ⟨7,z,0,[],[],[]⟩
theorem dropN_Ok {z : Int} (h : wf z) : (dropN z).Ok := ⟨by show wf 7; decide,h,by show wf 0; decide,by simp [dropN],by simp [dropN],by simp [dropN],by simp [dropN],by simp [dropN]⟩
end Go.Proofs.Ytkpfjolcmkikeaa
end
section
set_option linter.unusedSimpArgs false
set_option linter.unusedVariables false
set_option maxHeartbeats 4000000
set_option maxRecDepth 10000
namespace Go.Proofs.Ytkpfjolcmkikeaa
open Go.Fx
def stg (n : Nt) (p : Pl) (a b : Int) : List PV := [.l (n.ns.map encN),.i .i64 n.cap,.i .i64 p.k,.b p.sw,.i .i64 p.lv,.i .i64 p.alt,.i .i64 p.nd.k,.i .i64 p.nd.lv,.i .i64 p.nd.n,.s p.nd.s,.l (p.nd.al.map encA),.l (p.nd.to.map encP),.i .i64 a,.i .i64 b]
structure SG (ks : Key) (n : Nt) (p : Pl) (a b : Int) (σ : St) : Prop where
  bs : σ.bs ks = some (.var ((stg n p a b).map .p))
  lt : ks.2 < σ.clk
structure Fr (ks : Key) (σ σ' : St) : Prop where
  clk : σ.clk ≤ σ'.clk
  ls : σ'.ls = σ.ls
  bs : ∀ k : Key,k.2 < σ.clk → k ≠ ks → σ'.bs k = σ.bs k
theorem Fr.refl (ks : Key) (σ : St) : Fr ks σ σ := ⟨Nat.le_refl _,rfl,fun _ _ _ => rfl⟩
theorem Fr.trans {ks : Key} {σ τ υ : St} (h : Fr ks σ τ) (g : Fr ks τ υ) : Fr ks σ υ :=
  ⟨Nat.le_trans h.clk g.clk,g.ls.trans h.ls,fun k h1 h2 => (g.bs k (Nat.lt_of_lt_of_le h1 h.clk) h2).trans (h.bs k h1 h2)⟩
theorem Fr.add {ks : Key} {σ τ : St} (h : Fr ks σ τ) (d : Nat) (b : Blk) : Fr ks σ (τ.add d b) :=
  ⟨Nat.le_trans h.clk (by simp only [add_clk]; omega),h.ls,fun k h1 h2 => by
    have h3 := h.clk
    have : ¬ k = (d,τ.clk) := by rintro rfl; simp at h1; omega
    simp only [add_bs,this,if_false]; exact h.bs k h1 h2⟩
theorem Fr.put {ks : Key} {σ τ : St} (h : Fr ks σ τ) {k : Key} (hk : k = ks ∨ σ.clk ≤ k.2) (b : Blk) : Fr ks σ (τ.put k b) :=
  ⟨h.clk,h.ls,fun j h1 h2 => by
    have : ¬ j = k := by rintro rfl; rcases hk with hk | hk; exact h2 hk; omega
    simp only [put_bs,this,if_false]; exact h.bs j h1 h2⟩
theorem Fr.kill {ks : Key} {σ τ : St} (h : Fr ks σ τ) {k : Key} (hk : σ.clk ≤ k.2) : Fr ks σ (τ.kill k) :=
  ⟨h.clk,h.ls,fun j h1 h2 => by
    have : ¬ j = k := by rintro rfl; omega
    simp only [kill_bs,this,if_false]; exact h.bs j h1 h2⟩
theorem SG.add {ks : Key} {n : Nt} {p : Pl} {a b : Int} {σ : St} (h : SG ks n p a b σ) (d : Nat) (x : Blk) : SG ks n p a b (σ.add d x) := by
  have hl := h.lt
  have : ¬ ks = (d,σ.clk) := by rintro rfl; simp at hl
  exact ⟨by simp only [add_bs,this,if_false]; exact h.bs,by simp only [add_clk]; omega⟩
theorem SG.put {ks : Key} {n : Nt} {p : Pl} {a b : Int} {σ : St} (h : SG ks n p a b σ) {k : Key} (hk : ¬ ks = k) (x : Blk) : SG ks n p a b (σ.put k x) :=
  ⟨by simp only [put_bs,hk,if_false]; exact h.bs,h.lt⟩
theorem SG.kill {ks : Key} {n : Nt} {p : Pl} {a b : Int} {σ : St} (h : SG ks n p a b σ) {k : Key} (hk : ¬ ks = k) : SG ks n p a b (σ.kill k) :=
  ⟨by simp only [kill_bs,hk,if_false]; exact h.bs,h.lt⟩
theorem SG.set {ks : Key} {n : Nt} {p : Pl} {a b : Int} {σ : St} (h : ks.2 < σ.clk) : SG ks n p a b (σ.put ks (.var ((stg n p a b).map .p))) :=
  ⟨by simp only [put_bs,if_true],h⟩
theorem port_ok (i j : Int) : eP S 95 [.a (.i .i64 i),.a (.i .i64 j)] = some (.g [.i .i64 i,.i .i64 j]) := by
  refine x_fn (orcS (by decide)) (fc := F95) rfl rfl ?_
  simp only [F95,fxa,fxc,fxE,fxL,fxI,nxE,evO,evR,cellsT,ldCells,mkT,lenA,binPV,Env.init,resV,resT,frT,klT,ownT,intT,O.adds,ownA,rowsA,over,wrOk,keysT,keysA,ne_eq,if_true,if_false,ite_self,Nat.reduceLT,Nat.reduceSub,Nat.reduceBEq,Nat.reduceEqDiff,Nat.reduceAdd,Nat.reduceLeDiff,reduceCtorEq,Nat.reduceMul]
theorem aMove_ok {ks : Key} {n : Nt} {pl : Pl} {a b : Int} {p q : Pt} {σ : St} (hn : n.Ok) (hp : wf p.n ∧ wf p.s) (hq : wf q.n ∧ wf q.s) (h : SG ks n pl a b σ) :
    ∃ σ',eS S (.f 107) [.a (.ptr ks 0 0),.g [.p (.i .i64 p.n),.p (.i .i64 p.s)],.g [.p (.i .i64 q.n),.p (.i .i64 q.s)]] σ = some (.u,σ') ∧ SG ks (moveR n p q).1 pl a b σ' ∧ Fr ks σ σ' := by
  refine x_fnR (fc := F107) rfl rfl ?_
  have c1 := Move_ok hn hp hq
  obtain ⟨⟨m,e⟩,hm⟩ : ∃ m,moveR n p q = m := ⟨_,rfl⟩
  rw [hm] at c1 ⊢
  have s1 := h.bs
  have hlt := h.lt
  have ne0 : ∀ d,¬ ks = (d,σ.clk) := by rintro d rfl; simp at hlt
  have ne1 : ∀ d,¬ ks = (d,σ.clk + 1) := by rintro d rfl; simp at hlt; omega
  simp only [encTE,encT,encP] at c1
  simp only [stg,List.map_cons,List.map_nil] at s1
  simp only [F107,s1,c1,ne0,ne1,fxa,fxc,fxE,fxL,fxI,nxE,evO,evR,cellsT,ldCells,mkT,lenA,binPV,Env.init,resV,resT,frT,klT,ownT,intT,O.adds,ownA,rowsA,over,wrOk,keysT,keysA,ne_eq,if_true,if_false,ite_self,Nat.reduceLT,Nat.reduceSub,Nat.reduceBEq,Nat.reduceEqDiff,Nat.reduceAdd,Nat.reduceLeDiff,reduceCtorEq,Nat.reduceMul]
  exact ⟨SG.set (n := m) (p := pl) (a := a) (b := b) (by simp only [add_clk]; omega),(((Fr.refl ks σ).add _ _).add _ _).put (.inl rfl) _⟩
theorem aJoin_ok {ks : Key} {n : Nt} {pl : Pl} {a b : Int} {p q : Pt} {σ : St} (hn : n.Ok) (hp : wf p.n ∧ wf p.s) (hq : wf q.n ∧ wf q.s) (h : SG ks n pl a b σ) :
    ∃ σ',eS S (.f 133) [.a (.ptr ks 0 0),.g [.p (.i .i64 p.n),.p (.i .i64 p.s)],.g [.p (.i .i64 q.n),.p (.i .i64 q.s)]] σ = some (.u,σ') ∧ SG ks (joinR n p q).1 pl a b σ' ∧ Fr ks σ σ' := by
  refine x_fnR (fc := F133) rfl rfl ?_
  have c1 := Join_ok hn hp hq
  obtain ⟨⟨m,e⟩,hm⟩ : ∃ m,joinR n p q = m := ⟨_,rfl⟩
  rw [hm] at c1 ⊢
  have s1 := h.bs
  have hlt := h.lt
  have ne0 : ∀ d,¬ ks = (d,σ.clk) := by rintro d rfl; simp at hlt
  have ne1 : ∀ d,¬ ks = (d,σ.clk + 1) := by rintro d rfl; simp at hlt; omega
  simp only [encTE,encT,encP] at c1
  simp only [stg,List.map_cons,List.map_nil] at s1
  simp only [F133,s1,c1,ne0,ne1,fxa,fxc,fxE,fxL,fxI,nxE,evO,evR,cellsT,ldCells,mkT,lenA,binPV,Env.init,resV,resT,frT,klT,ownT,intT,O.adds,ownA,rowsA,over,wrOk,keysT,keysA,ne_eq,if_true,if_false,ite_self,Nat.reduceLT,Nat.reduceSub,Nat.reduceBEq,Nat.reduceEqDiff,Nat.reduceAdd,Nat.reduceLeDiff,reduceCtorEq,Nat.reduceMul]
  exact ⟨SG.set (n := m) (p := pl) (a := a) (b := b) (by simp only [add_clk]; omega),(((Fr.refl ks σ).add _ _).add _ _).put (.inl rfl) _⟩
theorem aLink_ok {ks : Key} {n : Nt} {pl : Pl} {a b : Int} {p q : Pt} {σ : St} (hn : n.Ok) (hp : wf p.n ∧ wf p.s) (hq : wf q.n ∧ wf q.s) (h : SG ks n pl a b σ) :
    ∃ σ',eS S (.f 137) [.a (.ptr ks 0 0),.g [.p (.i .i64 p.n),.p (.i .i64 p.s)],.g [.p (.i .i64 q.n),.p (.i .i64 q.s)]] σ = some (.u,σ') ∧ SG ks (linkR n p q).1 pl a b σ' ∧ Fr ks σ σ' := by
  refine x_fnR (fc := F137) rfl rfl ?_
  have c1 := Link_ok hn hp hq
  obtain ⟨⟨m,e⟩,hm⟩ : ∃ m,linkR n p q = m := ⟨_,rfl⟩
  rw [hm] at c1 ⊢
  have s1 := h.bs
  have hlt := h.lt
  have ne0 : ∀ d,¬ ks = (d,σ.clk) := by rintro d rfl; simp at hlt
  have ne1 : ∀ d,¬ ks = (d,σ.clk + 1) := by rintro d rfl; simp at hlt; omega
  simp only [encTE,encT,encP] at c1
  simp only [stg,List.map_cons,List.map_nil] at s1
  simp only [F137,s1,c1,ne0,ne1,fxa,fxc,fxE,fxL,fxI,nxE,evO,evR,cellsT,ldCells,mkT,lenA,binPV,Env.init,resV,resT,frT,klT,ownT,intT,O.adds,ownA,rowsA,over,wrOk,keysT,keysA,ne_eq,if_true,if_false,ite_self,Nat.reduceLT,Nat.reduceSub,Nat.reduceBEq,Nat.reduceEqDiff,Nat.reduceAdd,Nat.reduceLeDiff,reduceCtorEq,Nat.reduceMul]
  exact ⟨SG.set (n := m) (p := pl) (a := a) (b := b) (by simp only [add_clk]; omega),(((Fr.refl ks σ).add _ _).add _ _).put (.inl rfl) _⟩
def NC (rows : List (List PV)) (z : AV) : Prop := z = .p (.l rows) ∨ z = .nil ∧ rows = []
theorem NC.p (rows : List (List PV)) : NC rows (.p (.l rows)) := .inl rfl
theorem NC.nil : NC [] .nil := .inr ⟨rfl,rfl⟩
theorem aMade_ok {ks : Key} {n : Nt} {pl : Pl} {a b : Int} {x : Nd} {za zt : AV} {σ : St} (hn : n.Ok) (hbig : n.ns.length * 88 + 88 ≤ 140737488355328) (hx : x.Ok) (ha : NC (x.al.map encA) za) (ht : NC (x.to.map encP) zt) (h : SG ks n pl a b σ) :
    ∃ σ',eS S (.f 108) [.a (.ptr ks 0 0),.g [.p (.i .i64 x.k),.p (.i .i64 x.lv),.p (.i .i64 x.n),.p (.s x.s),za,zt]] σ = some (.a (.p (.i .i64 (makeR n x).2.1)),σ') ∧ SG ks (makeR n x).1 pl a b σ' ∧ Fr ks σ σ' := by
  refine x_fnR (fc := F108) rfl rfl ?_
  have c1 := sMake_ok hn hbig hx
  obtain ⟨⟨m,i,e⟩,hm⟩ : ∃ m,makeR n x = m := ⟨_,rfl⟩
  rw [hm] at c1 ⊢
  have s1 := h.bs
  have hlt := h.lt
  have ne0 : ∀ d,¬ ks = (d,σ.clk) := by rintro d rfl; simp at hlt
  simp only [encTIE,encT,encN] at c1
  simp only [stg,List.map_cons,List.map_nil] at s1
  rcases ha with rfl | ⟨rfl,ha⟩
  all_goals rcases ht with rfl | ⟨rfl,ht⟩
  all_goals first | rw [ha,ht] at c1 | rw [ha] at c1 | rw [ht] at c1 | skip
  all_goals simp only [F108,s1,c1,ne0,encN,List.map_cons,List.map_nil,fxa,fxc,fxE,fxL,fxI,nxE,evO,evR,cellsT,ldCells,mkT,lenA,binPV,Env.init,resV,resT,frT,klT,ownT,intT,O.adds,ownA,rowsA,over,wrOk,keysT,keysA,ne_eq,if_true,if_false,ite_self,Nat.reduceLT,Nat.reduceSub,Nat.reduceBEq,Nat.reduceEqDiff,Nat.reduceAdd,Nat.reduceLeDiff,reduceCtorEq,Nat.reduceMul]
  all_goals exact ⟨SG.set (n := m) (p := pl) (a := a) (b := b) (by simp only [add_clk]; omega),((Fr.refl ks σ).add _ _).put (.inl rfl) _⟩
theorem aNode_ok {ks : Key} {n : Nt} {pl : Pl} {a b i : Int} {σ : St} (h0 : 0 ≤ i) (h1 : i < n.ns.length) (h : SG ks n pl a b σ) :
    ∃ σ',eS S (.f 134) [.a (.ptr ks 0 0),.a (.p (.i .i64 i))] σ = some (.g ((encN (n.nd i)).map .p),σ') ∧ SG ks n pl a b σ' ∧ Fr ks σ σ' := by
  refine x_fnR (fc := F134) rfl rfl ?_
  have s1 := h.bs
  have hlt := h.lt
  have k1 := getN (l := n.ns) h0 h1
  obtain ⟨x,hx⟩ : ∃ x,n.nd i = x := ⟨_,rfl⟩
  have hx2 : n.ns.getD i.toNat zN = x := hx
  rw [hx2] at k1
  rw [hx]
  have ne0 : ∀ d,¬ ks = (d,σ.clk) := by rintro d rfl; simp at hlt
  simp only [stg,List.map_cons,List.map_nil] at s1
  simp only [F134,s1,k1,h0,h1,ne0,encN,List.map_cons,List.map_nil,fxa,fxc,fxE,fxL,fxI,nxE,evO,evR,cellsT,ldCells,mkT,lenA,binPV,Env.init,resV,resT,frT,klT,ownT,intT,O.adds,ownA,rowsA,over,wrOk,keysT,keysA,ne_eq,if_true,if_false,ite_self,Nat.reduceLT,Nat.reduceSub,Nat.reduceBEq,Nat.reduceEqDiff,Nat.reduceAdd,Nat.reduceLeDiff,reduceCtorEq,Nat.reduceMul]
  exact ⟨((h.add _ _).put (ne0 4) _),((Fr.refl ks σ).add _ _).put (.inr (Nat.le_refl _)) _⟩
theorem aLevel_ok {ks : Key} {n : Nt} {pl : Pl} {a b : Int} {σ : St} (h0 : 0 ≤ a) (h1 : a < n.ns.length) (h : SG ks n pl a b σ) :
    ∃ σ',eS S (.f 136) [.a (.ptr ks 0 0)] σ = some (.a (.p (.i .i64 (n.nd a).lv)),σ') ∧ SG ks n pl a b σ' ∧ Fr ks σ σ' := by
  refine x_fnR (fc := F136) rfl rfl ?_
  have s1 := h.bs
  obtain ⟨σ',c1,g1,g2⟩ := aNode_ok h0 h1 h
  simp only [stg,List.map_cons,List.map_nil] at s1
  simp only [encN,List.map_cons,List.map_nil] at c1
  simp only [F136,s1,c1,frA_ptr,fxa,fxc,fxE,fxL,fxI,nxE,evO,evR,cellsT,ldCells,mkT,lenA,binPV,Env.init,resV,resT,frT,klT,ownT,intT,O.adds,ownA,rowsA,over,wrOk,keysT,keysA,ne_eq,if_true,if_false,ite_self,Nat.reduceLT,Nat.reduceSub,Nat.reduceBEq,Nat.reduceEqDiff,Nat.reduceAdd,Nat.reduceLeDiff,reduceCtorEq,Nat.reduceMul]
  exact ⟨g1,g2⟩
def SL (c0 w : Nat) (t : TypeId) (rows : List (List PV)) (v : AV) (σ : St) : Prop :=
  v = .nil ∧ rows = [] ∨ ∃ k : Key,v = .own k 0 rows.length ∧ σ.bs k = some (.row w t rows) ∧ c0 ≤ k.2 ∧ k.2 < σ.clk
theorem SL.fr {c0 w : Nat} {t : TypeId} {rows : List (List PV)} {v : AV} {σ τ : St} {ks : Key} {n : Nt} {pl : Pl} {a b : Int} (h : SL c0 w t rows v σ) (hs : SG ks n pl a b σ) (hf : Fr ks σ τ) : SL c0 w t rows v τ := by
  rcases h with h | ⟨k,h1,h2,h3,h4⟩
  · exact .inl h
  · have : k ≠ ks := by rintro rfl; rw [hs.bs] at h2; cases h2
    exact .inr ⟨k,h1,by rw [hf.bs k h4 this]; exact h2,h3,Nat.lt_of_lt_of_le h4 hf.clk⟩
theorem aOthers_ok {ks : Key} {n : Nt} {pl : Pl} {a b i : Int} {j : Nat} {jz : Int} {σ : St} (hjz : jz = (j : Nat)) (hj : j ≤ 100) (h0 : 0 ≤ i) (h1 : i < n.ns.length) (ht : (n.nd i).to.length * 16 ≤ 140737488355328) (h : SG ks n pl a b σ) :
    ∃ σ' v,eS S (.f 112) [.a (.ptr ks 0 0),.a (.p (.i .i64 i)),.a (.p (.i .i64 jz))] σ = some (.a v,σ') ∧ SG ks n pl a b σ' ∧ Fr ks σ σ' ∧
      SL σ.clk 2 43 ((portsR i j (n.nd i).to.length).map encP) v σ' := by
  subst hjz
  obtain ⟨c0,hc0⟩ : ∃ c,σ.clk = c := ⟨_,rfl⟩
  have key : ∃ v σ',eS S (.f 112) [.a (.ptr ks 0 0),.a (.p (.i .i64 i)),.a (.p (.i .i64 (j : Nat)))] σ = some (v,σ') ∧ ∃ x,v = .a x ∧ SG ks n pl a b σ' ∧ Fr ks σ σ' ∧
      SL c0 2 43 ((portsR i j (n.nd i).to.length).map encP) x σ' := by
    refine x_fnS (fc := F112) rfl rfl ?_
    simp only [F112,fxa,fxc,fxE,fxL,fxI,nxE,evO,evR,cellsT,ldCells,mkT,lenA,binPV,Env.init,resV,resT,frT,klT,ownT,intT,O.adds,ownA,rowsA,over,wrOk,keysT,keysA,ne_eq,if_true,if_false,ite_self,Nat.reduceLT,Nat.reduceSub,Nat.reduceBEq,Nat.reduceEqDiff,Nat.reduceAdd,Nat.reduceLeDiff,reduceCtorEq,Nat.reduceMul]
    refine loop_nat (max j (n.nd i).to.length) (fun k e τ => j ≤ k ∧ e 0 = .a (.ptr ks 0 0) ∧ e 1 = .a (.p (.i .i64 i)) ∧ e 8 = .a (.p (.i .i64 (k : Nat))) ∧ SG ks n pl a b τ ∧ Fr ks σ τ ∧ ∃ x,e 7 = .a x ∧ SL c0 2 43 ((portsR i j k).map encP) x τ) (i0 := j) (by omega) ?_ ?_ ?_
    · refine ⟨Nat.le_refl _,?_,?_,?_,h,Fr.refl ks σ,.nil,?_,.inl ⟨rfl,by rw [portsR_nil (Nat.le_refl _)]; rfl⟩⟩ <;> simp only [fxa,fxc,fxE,fxL,fxI,nxE,evO,evR,cellsT,ldCells,mkT,lenA,binPV,Env.init,resV,resT,frT,klT,ownT,intT,O.adds,ownA,rowsA,over,wrOk,keysT,keysA,ne_eq,if_true,if_false,ite_self,Nat.reduceLT,Nat.reduceSub,Nat.reduceBEq,Nat.reduceEqDiff,Nat.reduceAdd,Nat.reduceLeDiff,reduceCtorEq,Nat.reduceMul]
    · rintro k e τ hk ⟨hjk,e0,e1,e8,hS,hF,x,e7,hL⟩
      obtain ⟨τ',c1,hS',hF'⟩ := aNode_ok h0 h1 hS
      have hF2 := hF.trans hF'
      have hL' := hL.fr hS hF'
      have hlt : ((k : Nat) : Int) < ((n.nd i).to.length : Int) := by omega
      have hsu := portsR_succ (i := i) hjk
      have hln := portsR_len i j k
      have c2 := port_ok i (k : Int)
      obtain ⟨y,hy⟩ : ∃ y,n.nd i = y := ⟨_,rfl⟩
      rw [hy] at c1 hlt ht
      obtain ⟨L,hLL⟩ : ∃ L,portsR i j k = L := ⟨_,rfl⟩
      rw [hLL] at hL' hsu hln
      rw [hsu]
      simp only [encN,List.map_cons,List.map_nil] at c1
      have hcl := hF2.clk
      have hcl2 := hS'.lt
      rcases hL' with ⟨rfl,hr⟩ | ⟨q,rfl,r2,r3,r4⟩
      · have hr2 : L = [] := List.map_eq_nil_iff.1 hr
        subst hr2
        simp only [F112b0,e0,e1,e7,e8,c1,c2,hlt,frA_ptr,Nat.zero_add,Nat.one_mul,Nat.reduceLeDiff,Nat.zero_lt_one,List.length_map,fxa,fxc,fxE,fxL,fxI,nxE,evO,evR,cellsT,ldCells,mkT,lenA,binPV,Env.init,resV,resT,frT,klT,ownT,intT,O.adds,ownA,rowsA,over,wrOk,keysT,keysA,ne_eq,if_true,if_false,ite_self,Nat.reduceLT,Nat.reduceSub,Nat.reduceBEq,Nat.reduceEqDiff,Nat.reduceAdd,Nat.reduceLeDiff,reduceCtorEq,Nat.reduceMul]
        exact ⟨by omega,by rw [wrap_succ k (by omega)],(hS'.add _ _).add _ _,(hF2.add _ _).add _ _,_,rfl,.inr ⟨(24,τ'.clk + 1),rfl,by simp only [add_bs,add_clk,if_true],by simp only; omega,by simp only [add_clk]; omega⟩⟩
      · have n2 : ¬ ks = q := by rintro rfl; rw [hS'.bs] at r2; cases r2
        have n1 : ∀ d,¬ q = (d,τ'.clk) := by rintro d rfl; simp at r4
        have htk : List.take L.length (L.map encP) = L.map encP := List.take_of_length_le (by simp)
        have hbb : (L.length + 1) * 16 ≤ 140737488355328 := by omega
        rw [List.length_map] at e7
        simp only [F112b0,e0,e1,e7,e8,c1,c2,r2,hlt,frA_ptr,n1,htk,hbb,Nat.le_refl,Nat.zero_add,Nat.one_mul,Nat.reduceLeDiff,Nat.zero_lt_one,List.length_map,fxa,fxc,fxE,fxL,fxI,nxE,evO,evR,cellsT,ldCells,mkT,lenA,binPV,Env.init,resV,resT,frT,klT,ownT,intT,O.adds,ownA,rowsA,over,wrOk,keysT,keysA,ne_eq,if_true,if_false,ite_self,Nat.reduceLT,Nat.reduceSub,Nat.reduceBEq,Nat.reduceEqDiff,Nat.reduceAdd,Nat.reduceLeDiff,reduceCtorEq,Nat.reduceMul]
        exact ⟨by omega,by rw [wrap_succ k (by omega)],((hS'.add _ _).kill n2).add _ _,((hF2.add _ _).kill (by omega)).add _ _,_,rfl,.inr ⟨(24,τ'.clk + 1),by simp,by simp only [add_bs,add_clk,kill_clk,if_true,List.map_append,List.map_cons,List.map_nil,encP],by simp only; omega,by simp only [add_clk,kill_clk]; omega⟩⟩
    · rintro e τ ⟨hjk,e0,e1,e8,hS,hF,x,e7,hL⟩
      obtain ⟨τ',c1,hS',hF'⟩ := aNode_ok h0 h1 hS
      have hF2 := hF.trans hF'
      have hL' := hL.fr hS hF'
      have hlt : ¬ ((max j (n.nd i).to.length : Nat) : Int) < ((n.nd i).to.length : Int) := by omega
      obtain ⟨y,hy⟩ : ∃ y,n.nd i = y := ⟨_,rfl⟩
      rw [hy] at c1 hlt e8 hL' ⊢
      have hpp : portsR i j (max j y.to.length) = portsR i j y.to.length := by
        by_cases hjl : j ≤ y.to.length
        · rw [Nat.max_eq_right hjl]
        · rw [Nat.max_eq_left (by omega),portsR_nil (Nat.le_refl _),portsR_nil (by omega)]
      rw [hpp] at hL'
      simp only [encN,List.map_cons,List.map_nil] at c1
      simp only [F112b0,e0,e1,e7,e8,c1,hlt,frA_ptr,fxa,fxc,fxE,fxL,fxI,nxE,evO,evR,cellsT,ldCells,mkT,lenA,binPV,Env.init,resV,resT,frT,klT,ownT,intT,O.adds,ownA,rowsA,over,wrOk,keysT,keysA,ne_eq,if_true,if_false,ite_self,Nat.reduceLT,Nat.reduceSub,Nat.reduceBEq,Nat.reduceEqDiff,Nat.reduceAdd,Nat.reduceLeDiff,reduceCtorEq,Nat.reduceMul]
      exact ⟨x,rfl,hS',hF2,hL'⟩
  obtain ⟨_,σ',g1,x,rfl,g2,g3,g4⟩ := key
  exact ⟨σ',x,g1,g2,g3,hc0 ▸ g4⟩
theorem aLike_ok {ks : Key} {n : Nt} {pl : Pl} {a b : Int} {x : Nd} {za zt : AV} {m : Nat} {σ : St} (hn : n.Ok) (hx : x.Ok) (hza : NC (x.al.map encA) za) (hzt : NC (x.to.map encP) zt) (hb : (n.ns.length + m) * 88 + 88 ≤ 140737488355328) (h : SG ks n pl a b σ) :
    ∃ σ' v,eS S (.f 135) [.a (.ptr ks 0 0),.g [.p (.i .i64 x.k),.p (.i .i64 x.lv),.p (.i .i64 x.n),.p (.s x.s),za,zt],.a (.p (.i .i64 (m : Nat)))] σ = some (.a v,σ') ∧ SG ks (likeR n x m).1 pl a b σ' ∧ Fr ks σ σ' ∧
      SL σ.clk 1 3 ((likeR n x m).2.map encI) v σ' := by
  obtain ⟨c0,hc0⟩ : ∃ c,σ.clk = c := ⟨_,rfl⟩
  have key : ∃ v σ',eS S (.f 135) [.a (.ptr ks 0 0),.g [.p (.i .i64 x.k),.p (.i .i64 x.lv),.p (.i .i64 x.n),.p (.s x.s),za,zt],.a (.p (.i .i64 (m : Nat)))] σ = some (v,σ') ∧ ∃ y,v = .a y ∧ SG ks (likeR n x m).1 pl a b σ' ∧ Fr ks σ σ' ∧
      SL c0 1 3 ((likeR n x m).2.map encI) y σ' := by
    refine x_fnS (fc := F135) rfl rfl ?_
    simp only [F135,encN,List.map_cons,List.map_nil,fxa,fxc,fxE,fxL,fxI,nxE,evO,evR,cellsT,ldCells,mkT,lenA,binPV,Env.init,resV,resT,frT,klT,ownT,intT,O.adds,ownA,rowsA,over,wrOk,keysT,keysA,ne_eq,if_true,if_false,ite_self,Nat.reduceLT,Nat.reduceSub,Nat.reduceBEq,Nat.reduceEqDiff,Nat.reduceAdd,Nat.reduceLeDiff,reduceCtorEq,Nat.reduceMul]
    refine loop_nat m (fun k e τ => e 0 = .a (.ptr ks 0 0) ∧ e 4 = .a (.ptr (4,c0) 0 0) ∧ e 8 = .a (.p (.i .i64 (m : Nat))) ∧ e 9 = .a (.p (.i .i64 (k : Nat))) ∧ τ.bs (4,c0) = some (.var [.p (.i .i64 x.k),.p (.i .i64 x.lv),.p (.i .i64 x.n),.p (.s x.s),za,zt]) ∧ c0 < τ.clk ∧ SG ks (likeR n x k).1 pl a b τ ∧ Fr ks σ τ ∧ ∃ y,e 7 = .a y ∧ SL c0 1 3 ((likeR n x k).2.map encI) y τ) (i0 := 0) (Nat.zero_le _) ?_ ?_ ?_
    · refine ⟨?_,?_,?_,?_,?_,?_,h.add _ _,(Fr.refl ks σ).add _ _,.nil,?_,.inl ⟨rfl,rfl⟩⟩ <;> simp only [encN,hc0,List.map_cons,List.map_nil,fxa,fxc,fxE,fxL,fxI,nxE,evO,evR,cellsT,ldCells,mkT,lenA,binPV,Env.init,resV,resT,frT,klT,ownT,intT,O.adds,ownA,rowsA,over,wrOk,keysT,keysA,ne_eq,if_true,if_false,ite_self,Nat.reduceLT,Nat.reduceSub,Nat.reduceBEq,Nat.reduceEqDiff,Nat.reduceAdd,Nat.reduceLeDiff,reduceCtorEq,Nat.reduceMul]
      all_goals first | rfl | omega | skip
    · rintro k e τ hk ⟨e0,e4,e8,e9,s4,hc,hS,hF,y,e7,hL⟩
      obtain ⟨l1,l2,l3⟩ := likeR_Ok hn hx k (by omega)
      obtain ⟨τ',c1,hS',hF'⟩ := aMade_ok (x := x) l1 (by omega) hx hza hzt hS
      have hF2 := hF.trans hF'
      have hL' := hL.fr hS hF'
      have hlt : ((k : Nat) : Int) < (m : Int) := by omega
      obtain ⟨⟨n1,l⟩,hr⟩ : ∃ r,likeR n x k = r := ⟨_,rfl⟩
      have hsu : likeR n x (k + 1) = ((makeR n1 x).1,l ++ [(makeR n1 x).2.1]) := by simp only [likeR,hr]
      rw [hr] at hL' c1 hS' l3
      rw [hsu]
      simp only at hL' c1 hS' l3
      obtain ⟨⟨n2,i,ee⟩,hm⟩ : ∃ r,makeR n1 x = r := ⟨_,rfl⟩
      rw [hm] at hS' c1 ⊢
      simp only at hS' c1 ⊢
      have hcl := hF2.clk
      have hcl2 := hS'.lt
      have hne : (4,c0) ≠ ks := by rintro rfl; have := hS.lt; have := h.lt; simp at this; omega
      have s4' : τ'.bs (4,c0) = some (.var [.p (.i .i64 x.k),.p (.i .i64 x.lv),.p (.i .i64 x.n),.p (.s x.s),za,zt]) := by rw [hF'.bs _ hc hne]; exact s4
      have hc' := Nat.lt_of_lt_of_le hc hF'.clk
      have nc : ¬ c0 = τ'.clk ∧ ¬ c0 = τ'.clk + 1 := by omega
      rcases hL' with ⟨rfl,hr⟩ | ⟨q,rfl,r2,r3,r4⟩
      · have hr2 : l = [] := List.map_eq_nil_iff.1 hr
        subst hr2
        simp only [F135b0,e0,e4,e7,e8,e9,s4,c1,hlt,frA_ptr,Nat.zero_add,Nat.one_mul,Nat.reduceLeDiff,Nat.zero_lt_one,List.length_map,fxa,fxc,fxE,fxL,fxI,nxE,evO,evR,cellsT,ldCells,mkT,lenA,binPV,Env.init,resV,resT,frT,klT,ownT,intT,O.adds,ownA,rowsA,over,wrOk,keysT,keysA,ne_eq,if_true,if_false,ite_self,Nat.reduceLT,Nat.reduceSub,Nat.reduceBEq,Nat.reduceEqDiff,Nat.reduceAdd,Nat.reduceLeDiff,reduceCtorEq,Nat.reduceMul]
        refine ⟨by rw [wrap_succ k (by omega)],?_,by omega,(hS'.add _ _).add _ _,(hF2.add _ _).add _ _,_,rfl,.inr ⟨(16,τ'.clk + 1),rfl,by simp only [add_bs,add_clk,if_true,encI],by simp only; omega,by simp only [add_clk]; omega⟩⟩
        exact s4'
      · have n2 : ¬ ks = q := by rintro rfl; rw [hS'.bs] at r2; cases r2
        have n1 : ∀ d,¬ q = (d,τ'.clk) := by rintro d rfl; simp at r4
        have n3 : ¬ (4,c0) = q := by rintro rfl; rw [s4'] at r2; cases r2
        have htk : List.take l.length (l.map encI) = l.map encI := List.take_of_length_le (by simp)
        have hbb : (l.length + 1) * 8 ≤ 140737488355328 := by omega
        rw [List.length_map] at e7
        simp only [F135b0,e0,e4,e7,e8,e9,s4,c1,r2,hlt,frA_ptr,n1,n3,htk,hbb,Nat.le_refl,Nat.zero_add,Nat.one_mul,Nat.reduceLeDiff,Nat.zero_lt_one,List.length_map,fxa,fxc,fxE,fxL,fxI,nxE,evO,evR,cellsT,ldCells,mkT,lenA,binPV,Env.init,resV,resT,frT,klT,ownT,intT,O.adds,ownA,rowsA,over,wrOk,keysT,keysA,ne_eq,if_true,if_false,ite_self,Nat.reduceLT,Nat.reduceSub,Nat.reduceBEq,Nat.reduceEqDiff,Nat.reduceAdd,Nat.reduceLeDiff,reduceCtorEq,Nat.reduceMul]
        refine ⟨by rw [wrap_succ k (by omega)],?_,by omega,((hS'.add _ _).kill n2).add _ _,((hF2.add _ _).kill (by omega)).add _ _,_,rfl,.inr ⟨(16,τ'.clk + 1),by simp,by simp only [add_bs,add_clk,kill_clk,if_true,List.map_append,List.map_cons,List.map_nil,encI],by simp only; omega,by simp only [add_clk,kill_clk]; omega⟩⟩
        exact s4'
    · rintro e τ ⟨e0,e4,e8,e9,s4,hc,hS,hF,y,e7,hL⟩
      have hlt : ¬ ((m : Nat) : Int) < (m : Int) := by omega
      simp only [F135b0,e0,e4,e7,e8,e9,hlt,fxa,fxc,fxE,fxL,fxI,nxE,evO,evR,cellsT,ldCells,mkT,lenA,binPV,Env.init,resV,resT,frT,klT,ownT,intT,O.adds,ownA,rowsA,over,wrOk,keysT,keysA,ne_eq,if_true,if_false,ite_self,Nat.reduceLT,Nat.reduceSub,Nat.reduceBEq,Nat.reduceEqDiff,Nat.reduceAdd,Nat.reduceLeDiff,reduceCtorEq,Nat.reduceMul]
      exact ⟨y,rfl,hS,hF,hL⟩
  obtain ⟨_,σ',g1,x,rfl,g2,g3,g4⟩ := key
  exact ⟨σ',x,g1,g2,g3,hc0 ▸ g4⟩
end Go.Proofs.Ytkpfjolcmkikeaa
end
namespace Go.Proofs.Ytkpfjolcmkikeaa
open Go.Fx
theorem evI_cl {S : Seat} (d : Option Nat) (o : O) (ys : List (Nat × Nat)) (ns : List Nat) (e : Env) (σ : St) : evI (eP S) (eS S) S.sp ⟨d,none,o,.cl ys ns⟩ e σ = (evO (eP S) (eS S) S.sp d e σ o).bind fun x => if clOk e σ x.2 ys ns = true then some (e.putD d x.1,x.2) else none := rfl
end Go.Proofs.Ytkpfjolcmkikeaa
section
set_option linter.unusedSimpArgs false
set_option linter.unusedVariables false
set_option maxHeartbeats 4000000
set_option maxRecDepth 10000
namespace Go.Proofs.Ytkpfjolcmkikeaa
open Go.Fx
theorem aDrops_ok {ks k0 k1 k2 : Key} {n : Nt} {pl : Pl} {a b : Int} {l : List Pt} {ds : List Int} {lv dv : AV} {c0 c1 : Nat} {σ : St} (hn : n.Ok) (hl : ∀ p ∈ l,wfP p) (hd : ∀ d ∈ ds,wf d) (hld : l.length ≤ ds.length) (hlb : l.length ≤ 1000000000)
    (h : SG ks n pl a b σ) (s0 : σ.bs k0 = some (.var [lv])) (s1 : σ.bs k1 = some (.var [.ptr ks 0 0])) (s2 : σ.bs k2 = some (.var [dv])) (h0 : k0.2 < σ.clk) (h1 : k1.2 < σ.clk) (h2 : k2.2 < σ.clk)
    (hL : SL c0 2 43 (l.map encP) lv σ) (hD : SL c1 1 3 (ds.map encI) dv σ) :
    ∃ σ',eS S (.f 140) [.a (.ptr k0 0 0),.a (.ptr k1 0 0),.a (.ptr k2 0 0)] σ = some (.u,σ') ∧ SG ks (runs n (dropOps l ds)) pl a b σ' ∧ Fr ks σ σ' := by
  have hz : (dropOps l ds).length = l.length := by unfold dropOps; rw [List.length_zipWith]; omega
  have ne : ∀ {k : Key} {v : AV},σ.bs k = some (.var [v]) → k ≠ ks := by
    rintro k v hk rfl; rw [h.bs] at hk; simp [stg] at hk
  refine x_fnR (fc := F140) rfl rfl ?_
  have hopn : ∃ cv : Nat,(lv = .nil ∧ l = [] ∨ ∃ q : Key,lv = .own q 0 l.length ∧ σ.bs q = some (.row 2 43 (l.map encP)) ∧ q.2 < σ.clk) := ⟨0,by
    rcases hL with ⟨e1,e2⟩ | ⟨q,e1,e2,e3,e4⟩
    · exact .inl ⟨e1,List.map_eq_nil_iff.1 e2⟩
    · exact .inr ⟨q,by simpa using e1,e2,e4⟩⟩
  obtain ⟨_,hlv⟩ := hopn
  have go : ∀ (e : Env),e 0 = .a (.ptr k0 0 0) → e 1 = .a (.ptr k1 0 0) → e 2 = .a (.ptr k2 0 0) → e 5 = .a lv → e 6 = .a (.p (.i .i64 (l.length : Nat))) → e 7 = .a (.p (.i .i64 0)) →
      wp S false (.loop F140b0) e σ (fun x e' σ' => x = .exit 0 ∧ SG ks (runs n (dropOps l ds)) pl a b σ' ∧ Fr ks σ σ') := by
    intro e e0 e1 e2 e5 e6 e7
    refine loop_nat l.length (fun k e τ => e 0 = .a (.ptr k0 0 0) ∧ e 1 = .a (.ptr k1 0 0) ∧ e 2 = .a (.ptr k2 0 0) ∧ e 5 = .a lv ∧ e 6 = .a (.p (.i .i64 (l.length : Nat))) ∧ e 7 = .a (.p (.i .i64 (k : Nat))) ∧ SG ks (runs n ((dropOps l ds).take k)) pl a b τ ∧ Fr ks σ τ) (i0 := 0) (Nat.zero_le _) ⟨e0,e1,e2,e5,e6,e7,h,Fr.refl ks σ⟩ ?_ ?_
    · rintro k e τ hk ⟨e0,e1,e2,e5,e6,e7,hS,hF⟩
      obtain ⟨p,hp⟩ : ∃ p,l[k]? = some p := ⟨_,List.getElem?_eq_getElem hk⟩
      obtain ⟨d,hdk⟩ : ∃ d,ds[k]? = some d := ⟨_,List.getElem?_eq_getElem (by omega)⟩
      have hp' := mapGet encP hp
      have hd' := mapGet encI hdk
      have hlt : ((k : Nat) : Int) < (l.length : Int) := by omega
      have hge : (0 : Int) ≤ ((k : Nat) : Int) := by omega
      have hltd : ((k : Nat) : Int) < (ds.length : Int) := by omega
      have htk : (dropOps l ds).take (k + 1) = (dropOps l ds).take k ++ [.mv p ⟨d,0⟩] := by
        have : (dropOps l ds)[k]? = some (.mv p ⟨d,0⟩) := by unfold dropOps; rw [List.getElem?_zipWith,hp,hdk]
        rw [List.take_add_one,this]; rfl
      have wo : ∀ o ∈ (dropOps l ds).take k,o.wf := by
        intro o ho
        have := List.mem_of_mem_take ho
        unfold dropOps at this
        obtain ⟨i,hi⟩ := List.getElem?_of_mem this
        rw [List.getElem?_zipWith] at hi
        split at hi
        · rename_i p' d' h1 h2
          rw [← Option.some.inj hi]
          exact ⟨hl _ (List.mem_of_getElem? h1),hd _ (List.mem_of_getElem? h2),by show wf 0; decide⟩
        · cases hi
      rw [htk,runs_one]
      have hOk := runs_Ok hn wo
      obtain ⟨q,rfl,q2,q3⟩ : ∃ q : Key,lv = .own q 0 l.length ∧ σ.bs q = some (.row 2 43 (l.map encP)) ∧ q.2 < σ.clk := by
        rcases hlv with ⟨_,e⟩ | h
        · rw [e] at hk; simp at hk
        · exact h
      obtain ⟨r,rfl,r2,r3,r4⟩ : ∃ r : Key,dv = .own r 0 ds.length ∧ σ.bs r = some (.row 1 3 (ds.map encI)) ∧ c1 ≤ r.2 ∧ r.2 < σ.clk := by
        rcases hD with ⟨_,e⟩ | ⟨r,g1,g2,g3,g4⟩
        · rw [List.map_eq_nil_iff.1 e] at hltd; simp at hltd; omega
        · exact ⟨r,by simpa using g1,g2,g3,g4⟩
      have nq : q ≠ ks := by rintro rfl; rw [h.bs] at q2; cases q2
      have nr : r ≠ ks := by rintro rfl; rw [h.bs] at r2; cases r2
      have t0 := (hF.bs k0 h0 (ne s0)).trans s0
      have t1 := (hF.bs k1 h1 (ne s1)).trans s1
      have t2 := (hF.bs k2 h2 (ne s2)).trans s2
      have tq := (hF.bs q q3 nq).trans q2
      have tr := (hF.bs r r4 nr).trans r2
      have hcl := hF.clk
      obtain ⟨b0,hb0⟩ : ∃ b0,b0 = Blk.var [.p (.i .i64 p.n),.p (.i .i64 p.s)] := ⟨_,rfl⟩
      have nn : ∀ {k : Key},k.2 < σ.clk → ∀ d,¬ k = (d,τ.clk) := by rintro k hk d rfl; simp at hk; omega
      have wp0 := hl p (List.mem_of_getElem? hp)
      have wd0 := hd d (List.mem_of_getElem? hdk)
      obtain ⟨τ',c3,hS',hF'⟩ := aMove_ok (p := p) (q := ⟨d,0⟩) hOk wp0 ⟨wd0,by show wf 0; decide⟩ ((hS.add 4 (.var [.p (.i .i64 0),.p (.i .i64 0)])).put (k := (4,τ.clk)) (by intro e; have := hS.lt; rw [e] at this; simp at this) (Blk.var [.p (.i .i64 p.n),.p (.i .i64 p.s)]))
      have c4 := port_ok d 0
      have hF2 := (((hF.add 4 (.var [.p (.i .i64 0),.p (.i .i64 0)])).put (k := (4,τ.clk)) (.inr hcl) (Blk.var [.p (.i .i64 p.n),.p (.i .i64 p.s)]))).trans hF'
      simp only [encP] at hp'
      simp only [encI] at hd'
      simp only [F140b0,e0,e1,e2,e5,e6,e7,t0,t1,t2,tq,tr,hlt,hge,hltd,hp',hd',c3,c4,nn h0,nn h1,nn h2,nn q3,nn r4,frA_ptr,rowK,encP,encI,List.length_map,Int.toNat_natCast,Nat.zero_add,fxa,fxc,fxE,fxL,fxI,nxE,evO,evR,cellsT,ldCells,mkT,lenA,binPV,Env.init,resV,resT,frT,klT,ownT,intT,O.adds,ownA,rowsA,over,wrOk,keysT,keysA,ne_eq,if_true,if_false,ite_self,Nat.reduceLT,Nat.reduceSub,Nat.reduceBEq,Nat.reduceEqDiff,Nat.reduceAdd,Nat.reduceLeDiff,reduceCtorEq,Nat.reduceMul]
      exact ⟨by rw [wrap_succ k (by omega)],hS',hF2⟩
    · rintro e τ ⟨e0,e1,e2,e5,e6,e7,hS,hF⟩
      have hlt : ¬ ((l.length : Nat) : Int) < (l.length : Int) := by omega
      rw [← hz,List.take_length] at hS
      simp only [F140b0,e0,e1,e2,e5,e6,e7,hlt,fxa,fxc,fxE,fxL,fxI,nxE,evO,evR,cellsT,ldCells,mkT,lenA,binPV,Env.init,resV,resT,frT,klT,ownT,intT,O.adds,ownA,rowsA,over,wrOk,keysT,keysA,ne_eq,if_true,if_false,ite_self,Nat.reduceLT,Nat.reduceSub,Nat.reduceBEq,Nat.reduceEqDiff,Nat.reduceAdd,Nat.reduceLeDiff,reduceCtorEq,Nat.reduceMul]
      exact ⟨hS,hF⟩
  rcases hlv with ⟨rfl,rfl⟩ | ⟨q,rfl,q2,q3⟩
  all_goals
    simp only [F140,s0,fxa,fxc,fxE,fxL,fxI,nxE,evO,evR,cellsT,ldCells,mkT,lenA,binPV,Env.init,resV,resT,frT,klT,ownT,intT,O.adds,ownA,rowsA,over,wrOk,keysT,keysA,ne_eq,if_true,if_false,ite_self,Nat.reduceLT,Nat.reduceSub,Nat.reduceBEq,Nat.reduceEqDiff,Nat.reduceAdd,Nat.reduceLeDiff,reduceCtorEq,Nat.reduceMul]
    refine Go.Fx.wp_mono (go _ ?_ ?_ ?_ ?_ ?_ ?_) ?_
    all_goals first
      | (simp only [fxa,fxc,fxE,fxL,fxI,nxE,evO,evR,cellsT,ldCells,mkT,lenA,binPV,Env.init,resV,resT,frT,klT,ownT,intT,O.adds,ownA,rowsA,over,wrOk,keysT,keysA,ne_eq,if_true,if_false,ite_self,Nat.reduceLT,Nat.reduceSub,Nat.reduceBEq,Nat.reduceEqDiff,Nat.reduceAdd,Nat.reduceLeDiff,reduceCtorEq,Nat.reduceMul]; done)
      | (simp only [List.length_nil,fxa,fxc,fxE,fxL,fxI,nxE,evO,evR,cellsT,ldCells,mkT,lenA,binPV,Env.init,resV,resT,frT,klT,ownT,intT,O.adds,ownA,rowsA,over,wrOk,keysT,keysA,ne_eq,if_true,if_false,ite_self,Nat.reduceLT,Nat.reduceSub,Nat.reduceBEq,Nat.reduceEqDiff,Nat.reduceAdd,Nat.reduceLeDiff,reduceCtorEq,Nat.reduceMul]; done)
      | (rintro x e' σ' ⟨rfl,g1,g2⟩; simp only [fxa,fxc,fxE,fxL,fxI,nxE,evO,evR,cellsT,ldCells,mkT,lenA,binPV,Env.init,resV,resT,frT,klT,ownT,intT,O.adds,ownA,rowsA,over,wrOk,keysT,keysA,ne_eq,if_true,if_false,ite_self,Nat.reduceLT,Nat.reduceSub,Nat.reduceBEq,Nat.reduceEqDiff,Nat.reduceAdd,Nat.reduceLeDiff,reduceCtorEq,Nat.reduceMul]; exact ⟨g1,g2⟩)
theorem SL.weak {c0 w : Nat} {t : TypeId} {rows : List (List PV)} {v : AV} {σ : St} (h : SL c0 w t rows v σ) : SL 0 w t rows v σ := by
  rcases h with h | ⟨k,h1,h2,h3,h4⟩
  · exact .inl h
  · exact .inr ⟨k,h1,h2,Nat.zero_le _,h4⟩
theorem SL.put {c0 w : Nat} {t : TypeId} {rows : List (List PV)} {v : AV} {σ : St} (h : SL c0 w t rows v σ) {k : Key} {cs : List AV} (hk : σ.bs k = some (.var cs)) (b : Blk) : SL c0 w t rows v (σ.put k b) := by
  rcases h with h | ⟨q,h1,h2,h3,h4⟩
  · exact .inl h
  · have : ¬ q = k := by rintro rfl; rw [hk] at h2; cases h2
    exact .inr ⟨q,h1,by simp only [put_bs,this,if_false]; exact h2,h3,h4⟩
structure DropC (ks : Key) (l : List Pt) (ds : List Int) (f : AV) (σ : St) : Prop where
  ex : ∃ (k0 k1 k2 : Key) (lv dv : AV),f = .fn 140 [k0,k1,k2] ∧ σ.bs k0 = some (.var [lv]) ∧ σ.bs k1 = some (.var [.ptr ks 0 0]) ∧ σ.bs k2 = some (.var [dv]) ∧ k0.2 < σ.clk ∧ k1.2 < σ.clk ∧ k2.2 < σ.clk ∧
    SL 0 2 43 (l.map encP) lv σ ∧ SL 0 1 3 (ds.map encI) dv σ
theorem DropC.fr {ks : Key} {l : List Pt} {ds : List Int} {f : AV} {σ τ : St} {n : Nt} {pl : Pl} {a b : Int} (h : DropC ks l ds f σ) (hs : SG ks n pl a b σ) (hf : Fr ks σ τ) : DropC ks l ds f τ := by
  obtain ⟨k0,k1,k2,lv,dv,e1,e2,e3,e4,e5,e6,e7,e8,e9⟩ := h.ex
  have ne : ∀ {k : Key} {v : AV},σ.bs k = some (.var [v]) → k ≠ ks := by
    rintro k v hk rfl; rw [hs.bs] at hk; simp [stg] at hk
  have hc := hf.clk
  exact ⟨k0,k1,k2,lv,dv,e1,(hf.bs k0 e5 (ne e2)).trans e2,(hf.bs k1 e6 (ne e3)).trans e3,(hf.bs k2 e7 (ne e4)).trans e4,by omega,by omega,by omega,e8.fr hs hf,e9.fr hs hf⟩
theorem aDrop_ok {ks : Key} {n : Nt} {pl : Pl} {a b : Int} {l : List Pt} {lv : AV} {c0 : Nat} {σ : St} (hn : n.Ok) (hb : (n.ns.length + l.length) * 88 + 88 ≤ 140737488355328) (h0 : 0 ≤ a) (h1 : a < n.ns.length) (h : SG ks n pl a b σ)
    (hL : SL c0 2 43 (l.map encP) lv σ) :
    ∃ σ' f,eS S (.f 111) [.a (.ptr ks 0 0),.a lv] σ = some (.a f,σ') ∧ SG ks (likeR n (dropN (n.nd a).lv) l.length).1 pl a b σ' ∧ Fr ks σ σ' ∧ DropC ks l (likeR n (dropN (n.nd a).lv) l.length).2 f σ' := by
  obtain ⟨c,hc⟩ : ∃ c,σ.clk = c := ⟨_,rfl⟩
  have hnd := hn.nd _ (nd_mem h0 h1)
  have hx := dropN_Ok hnd.lv
  obtain ⟨z,hz⟩ : ∃ z,(n.nd a).lv = z := ⟨_,rfl⟩
  rw [hz] at hx ⊢
  obtain ⟨σ1,hσ1⟩ : ∃ σ1,σ1 = ((σ.add 2 (.var [.ptr ks 0 0])).add 3 (.var [lv])).add 5 (.var [.nil]) := ⟨_,rfl⟩
  have hS1 : SG ks n pl a b σ1 := by rw [hσ1]; exact ((h.add _ _).add _ _).add _ _
  have hF1 : Fr ks σ σ1 := by rw [hσ1]; exact (((Fr.refl ks σ).add _ _).add _ _).add _ _
  have hL1 := hL.fr h hF1
  have hcl1 : σ1.clk = c + 3 := by rw [hσ1]; simp only [add_clk]; omega
  have b2 : σ1.bs (2,c) = some (.var [.ptr ks 0 0]) := by rw [hσ1]; simp [add_bs,add_clk,hc]
  have b3 : σ1.bs (3,c + 1) = some (.var [lv]) := by rw [hσ1]; simp [add_bs,add_clk,hc]
  have b5 : σ1.bs (5,c + 1 + 1) = some (.var [.nil]) := by rw [hσ1]; simp [add_bs,add_clk,hc]
  obtain ⟨σ2,q1,hS2,hF2⟩ := aLevel_ok h0 h1 hS1
  rw [hz] at q1
  have hL2 := hL1.fr hS1 hF2
  have ne : ∀ {d e : Nat},e = c ∨ e = c + 1 ∨ e = c + 1 + 1 → (d,e) ≠ ks := by rintro d e he rfl; have := h.lt; simp at this; omega
  have b2' := (hF2.bs (2,c) (by simp only; omega) (ne (.inl rfl))).trans b2
  have b3' := (hF2.bs (3,c + 1) (by simp only; omega) (ne (.inr (.inl rfl)))).trans b3
  have b5' := (hF2.bs (5,c + 1 + 1) (by simp only; omega) (ne (.inr (.inr rfl)))).trans b5
  obtain ⟨σ3,v,q2,hS3,hF3,hD⟩ := aLike_ok (m := l.length) hn hx NC.nil NC.nil hb hS2
  have hL3 := hL2.fr hS2 hF3
  have hc2 := hF2.clk
  have hc3 := hF3.clk
  have b2'' := (hF3.bs (2,c) (by simp only; omega) (ne (.inl rfl))).trans b2'
  have b3'' := (hF3.bs (3,c + 1) (by simp only; omega) (ne (.inr (.inl rfl)))).trans b3'
  have b5'' := (hF3.bs (5,c + 1 + 1) (by simp only; omega) (ne (.inr (.inr rfl)))).trans b5'
  have key : ∃ w σ',eS S (.f 111) [.a (.ptr ks 0 0),.a lv] σ = some (w,σ') ∧ ∃ f,w = .a f ∧ SG ks (likeR n (dropN z) l.length).1 pl a b σ' ∧ Fr ks σ σ' ∧ DropC ks l (likeR n (dropN z) l.length).2 f σ' := by
    refine x_fnS (fc := F111) rfl rfl ?_
    have hF4 := (hF1.trans hF2).trans hF3
    have fin : ∃ f,TV.a (AV.fn 140 [(3,c + 1),(2,c),(5,c + 1 + 1)]) = TV.a f ∧ SG ks (likeR n (dropN z) l.length).1 pl a b (σ3.put (5,c + 1 + 1) (.var [v])) ∧ Fr ks σ (σ3.put (5,c + 1 + 1) (.var [v])) ∧
        DropC ks l (likeR n (dropN z) l.length).2 f (σ3.put (5,c + 1 + 1) (.var [v])) := by
      refine ⟨_,rfl,hS3.put (by intro e; exact ne (.inr (.inr rfl)) e.symm) _,hF4.put (.inr (by simp only; omega)) _,(3,c + 1),(2,c),(5,c + 1 + 1),lv,v,rfl,?_,?_,?_,?_,?_,?_,(hL3.put b5'' _).weak,(hD.put b5'' _).weak⟩
      · simp [put_bs,b3'']
      · simp [put_bs,b2'']
      · simp [put_bs]
      all_goals simp only [put_clk]; omega
    rcases hL2 with ⟨rfl,r2⟩ | ⟨q,rfl,r2,r3,r4⟩
    · have hl0 : l = [] := List.map_eq_nil_iff.1 r2
      subst hl0
      simp only [List.length_nil,dropN] at q2
      simp only [F111,hc,← hσ1,b2,b3,b5,b2',b3',b5',b5'',q1,q2,evI_cl,clOk,ldKeeps,ldKeeps1,iasKeeps,rowK,nwKeeps,sameC,sameL,sameA,sameP,sameR,sameRR_rfl,decide_true,frA_ptr,capsOf,fxa,fxc,fxE,fxL,fxI,nxE,evO,evR,cellsT,ldCells,mkT,lenA,binPV,Env.init,resV,resT,frT,klT,ownT,intT,O.adds,ownA,rowsA,over,wrOk,keysT,keysA,ne_eq,if_true,if_false,ite_self,Nat.reduceLT,Nat.reduceSub,Nat.reduceBEq,Nat.reduceEqDiff,Nat.reduceAdd,Nat.reduceLeDiff,reduceCtorEq,Nat.reduceMul]
      exact fin
    · simp only [List.length_map,dropN] at q2 hσ1 b3 b3'
      simp only [F111,hc,← hσ1,b2,b3,b5,b2',b3',b5',b5'',q1,q2,List.length_map,evI_cl,clOk,ldKeeps,ldKeeps1,iasKeeps,rowK,nwKeeps,sameC,sameL,sameA,sameP,sameR,sameRR_rfl,decide_true,frA_ptr,capsOf,fxa,fxc,fxE,fxL,fxI,nxE,evO,evR,cellsT,ldCells,mkT,lenA,binPV,Env.init,resV,resT,frT,klT,ownT,intT,O.adds,ownA,rowsA,over,wrOk,keysT,keysA,ne_eq,if_true,if_false,ite_self,Nat.reduceLT,Nat.reduceSub,Nat.reduceBEq,Nat.reduceEqDiff,Nat.reduceAdd,Nat.reduceLeDiff,reduceCtorEq,Nat.reduceMul]
      exact fin
  obtain ⟨_,σ',g1,f,rfl,g2,g3,g4⟩ := key
  exact ⟨σ',f,g1,g2,g3,g4⟩
end Go.Proofs.Ytkpfjolcmkikeaa
end
section
set_option linter.unusedSimpArgs false
set_option linter.unusedVariables false
set_option maxHeartbeats 4000000
set_option maxRecDepth 10000
namespace Go.Proofs.Ytkpfjolcmkikeaa
open Go.Fx
theorem cls_1 (k : Int) : cls k = 1 ↔ k = 3 ∨ k = 9 ∨ k = 11 ∨ k = 12 := by
  unfold cls; repeat' split
  all_goals omega
theorem cls_2 (k : Int) : cls k = 2 ↔ k = 2 ∨ k = 8 ∨ k = 10 ∨ k = 13 := by
  unfold cls; repeat' split
  all_goals omega
theorem cls_3 (k : Int) : cls k = 3 ↔ k = 4 ∨ k = 5 ∨ k = 6 := by
  unfold cls; repeat' split
  all_goals omega
theorem cls_4 (k : Int) : cls k = 4 ↔ k = 7 := by
  unfold cls; repeat' split
  all_goals omega
theorem cls_le (k : Int) : 0 ≤ cls k ∧ cls k ≤ 4 := by
  unfold cls; repeat' split
  all_goals omega
theorem wf_wr (z : Int) : wf (wr z) := by unfold wf wr; rw [IntKind.wrap_i64]; omega
theorem wf_s {i : Int} (h : -1000 ≤ i ∧ i ≤ 1000) : wf i := by unfold wf; omega
theorem truth_Ok (b : Bool) : (truthN b).Ok := by
  unfold truthN
  cases b <;> exact ⟨wf_s (i := 8) (by decide),wf_s (i := 0) (by decide),wf_s (i := 0) (by decide),by simp,by simp,by simp,by simp,fun p hp => by
    simp only [List.mem_cons,List.not_mem_nil,or_false] at hp
    rw [hp]; exact ⟨wf_s (i := 0) (by decide),wf_s (i := 0) (by decide)⟩⟩
theorem zN_Ok' : zN.Ok := ⟨wf_s (i := 0) (by decide),wf_s (i := 0) (by decide),wf_s (i := 0) (by decide),by simp [zN],by simp [zN],by simp [zN],by simp [zN],by simp [zN]⟩
theorem int_Ok {z l : Int} (h : wf z) (hl : wf l) : (⟨10,l,z,[],[],[]⟩ : Nd).Ok := ⟨wf_s (i := 10) (by decide),hl,h,by simp,by simp,by simp,by simp,by simp⟩
theorem lv_Ok {x : Nd} (h : x.Ok) {l : Int} (hl : wf l) : ({ x with lv := l } : Nd).Ok := ⟨h.k,hl,h.n,h.s,h.al,h.to,h.ap,h.tp⟩
theorem out_Ok (x y : Nd) : (outN x y).Ok := by
  unfold outN
  split
  · exact int_Ok (wf_wr _) (wf_s (by decide))
  split
  · exact int_Ok (wf_wr _) (wf_s (by decide))
  split
  · exact int_Ok (wf_wr _) (wf_s (by decide))
  split
  · exact int_Ok (wf_wr _) (wf_s (by decide))
  split
  · exact truth_Ok _
  split
  · exact truth_Ok _
  · exact int_Ok (wf_s (by decide)) (wf_s (by decide))
theorem swap_nd (r : Pl × Int) : (swapR r).1.nd = r.1.nd := by unfold swapR; split <;> rfl
theorem pass_nd (x y : Nd) : (passR x y).1.nd = zN := by
  unfold passR
  split
  · rfl
  · split <;> rfl
theorem ask_nd {x y : Nd} (hx : x.Ok) : (askR x y).1.nd.Ok := by
  unfold askR pickR outR
  repeat' split
  all_goals first | exact zN_Ok' | exact lv_Ok (out_Ok x y) hx.lv
theorem of_nd {a b : Nd} (ha : a.Ok) (hb : b.Ok) : (ofR a b).1.nd.Ok := by
  unfold ofR
  repeat' split
  all_goals first | exact zN_Ok' | (rw [swap_nd]; exact zN_Ok') | (rw [pass_nd]; exact zN_Ok') | (rw [swap_nd,pass_nd]; exact zN_Ok') | exact ask_nd ha | (rw [swap_nd]; exact ask_nd hb)
end Go.Proofs.Ytkpfjolcmkikeaa
end
section
set_option linter.unusedSimpArgs false
set_option linter.unusedVariables false
set_option maxHeartbeats 4000000
set_option maxRecDepth 10000
namespace Go.Proofs.Ytkpfjolcmkikeaa
open Go.Fx
inductive Src (x y : Nd) : Pl × Int → Prop
  | no : Src x y (noR 140)
  | drop : x.k = 7 → Src x y (plainR 8)
  | join : cls x.k = 3 → x.k = y.k → x.lv = y.lv → Src x y (plainR 6)
  | pass : cls x.k = 3 → Src x y (passR x y)
  | ask : cls x.k = 1 → cls y.k = 2 → Src x y (askR x y)
theorem of_src (a b : Nd) : Src a b (ofR a b) ∨ ∃ r,Src b a r ∧ ofR a b = swapR r := by
  unfold ofR
  split
  · exact .inl .no
  split
  · rename_i h; exact .inl (.drop ((cls_4 _).1 h))
  split
  · rename_i h; exact .inr ⟨_,.drop ((cls_4 _).1 h),rfl⟩
  split
  · rename_i h; exact .inl (.join h.1 h.2.2.2 h.2.2.1)
  split
  · rename_i h; exact .inl (.pass h.1)
  split
  · rename_i h; exact .inr ⟨_,.pass h,rfl⟩
  split
  · rename_i h; exact .inl (.ask h.1 h.2)
  split
  · rename_i h; exact .inr ⟨_,.ask h.2 h.1,rfl⟩
  · exact .inl .no
theorem wr_in {z : Int} (h : -9223372036854775808 ≤ z ∧ z ≤ 9223372036854775807) : wr z = z := wrap_in z h
theorem passLv_in {x y : Nd} (hy : 0 ≤ y.lv ∧ y.lv ≤ 60) : passLv x y = if x.k = 5 then y.lv - 1 else if x.k = 6 then y.lv + 1 else y.lv := by
  unfold passLv
  rw [wr_in (by omega),wr_in (by omega)]
def KindP (x y : Nd) (p : Pl) : Prop :=
  (p.k = 8 ∧ x.k = 7) ∨ (p.k = 6 ∧ cls x.k = 3 ∧ x.k = y.k ∧ x.lv = y.lv) ∨ (p.k = 7 ∧ cls x.k = 3 ∧ x.lv < y.lv ∧ 0 ≤ p.lv ∧ p.lv ≤ 60 ∧ x.lv ≤ p.lv) ∨
  (p.k = 4 ∧ x.k = 12 ∧ p.nd.lv = x.lv ∧ p.nd.may ∧ (p.nd.k = 10 ∨ p.nd.to.length = 1)) ∨ (¬ p.k = 8 ∧ ¬ p.k = 6 ∧ ¬ p.k = 7 ∧ ¬ p.k = 4 ∧ cls x.k = 1 ∧ cls y.k = 2 ∧ 1 ≤ p.k ∧ p.k ≤ 5)
theorem out_may {x y : Nd} (hx : x.may) : ({ outN x y with lv := x.lv } : Nd).may ∧ ((outN x y).k = 10 ∨ (outN x y).to.length = 1) := by
  have h0 := hx.lv0
  have h1 := hx.lv1
  have int : ∀ z : Int,(⟨10,x.lv,z,[],[],[]⟩ : Nd).may := fun z => ⟨by show (0 : Int) ≤ 10; omega,by show (10 : Int) ≤ 13; omega,h0,h1,fun h => by have h : (10 : Int) < 2 := h; omega,by simp,fun _ => .inl rfl,fun h => by have h : (10 : Int) = 8 := h; omega,fun h => by have h : (10 : Int) = 9 := h; omega,fun _ => by simp,by simp,fun i a h => by simp at h⟩
  have tr : ∀ b : Bool,({ truthN b with lv := x.lv } : Nd).may := fun b => ⟨by show (0 : Int) ≤ 8; omega,by show (8 : Int) ≤ 13; omega,h0,h1,fun h => by have h : (8 : Int) < 2 := h; omega,by simp [truthN]; cases b <;> simp,fun h => absurd rfl h,fun _ => by simp [truthN],fun h => by have h : (8 : Int) = 9 := h; omega,fun _ => by simp [truthN],by simp [truthN],fun i a h => by simp [truthN] at h⟩
  unfold outN
  split
  · exact ⟨int _,.inl rfl⟩
  split
  · exact ⟨int _,.inl rfl⟩
  split
  · exact ⟨int _,.inl rfl⟩
  split
  · exact ⟨int _,.inl rfl⟩
  split
  · exact ⟨tr _,.inr rfl⟩
  split
  · exact ⟨tr _,.inr rfl⟩
  · exact ⟨int _,.inl rfl⟩
theorem src_kind {x y : Nd} (hx : x.may) (hy : y.may) {r : Pl × Int} (h : Src x y r) : (r.2 = 0 ∨ r.2 = 140 ∨ r.2 = 141) ∧ (r.2 = 0 → KindP x y r.1) ∧ r.1.sw = false := by
  have y0 := hy.lv0
  have y1 := hy.lv1
  have x0 := hx.lv0
  cases h with
  | no => exact ⟨.inr (.inl rfl),fun h => by have h : (140 : Int) = 0 := h; omega,rfl⟩
  | drop h => exact ⟨.inl rfl,fun _ => .inl ⟨rfl,h⟩,rfl⟩
  | join h1 h2 h3 => exact ⟨.inl rfl,fun _ => .inr (.inl ⟨rfl,h1,h2,h3⟩),rfl⟩
  | pass h1 =>
    unfold passR
    split
    · exact ⟨.inr (.inl rfl),fun h => by have h : (140 : Int) = 0 := h; omega,rfl⟩
    split
    · exact ⟨.inr (.inr rfl),fun h => by have h : (141 : Int) = 0 := h; omega,rfl⟩
    · rename_i h2 h3
      rw [passLv_in ⟨y0,y1⟩] at h3 ⊢
      refine ⟨.inl rfl,fun _ => .inr (.inr (.inl ⟨rfl,h1,by omega,?_,?_,?_⟩)),rfl⟩ <;> simp only <;> split <;> first | omega | (split <;> omega)
  | ask h1 h2 =>
    have oth : ∀ k : Int,1 ≤ k → k ≤ 5 → ¬ k = 4 → KindP x y ⟨k,false,0,0,zN⟩ := fun k a b c => .inr (.inr (.inr (.inr ⟨by simp only; omega,by simp only; omega,by simp only; omega,c,h1,h2,a,b⟩)))
    have pl : ∀ k : Int,1 ≤ k → k ≤ 5 → ¬ k = 4 → ((plainR k).2 = 0 ∨ (plainR k).2 = 140 ∨ (plainR k).2 = 141) ∧ ((plainR k).2 = 0 → KindP x y (plainR k).1) ∧ (plainR k).1.sw = false := fun k a b c => ⟨.inl rfl,fun _ => oth k a b c,rfl⟩
    have no : ((noR 140).2 = 0 ∨ (noR 140).2 = 140 ∨ (noR 140).2 = 141) ∧ ((noR 140).2 = 0 → KindP x y (noR 140).1) ∧ (noR 140).1.sw = false := ⟨.inr (.inl rfl),fun h => by have h : (140 : Int) = 0 := h; omega,rfl⟩
    unfold askR pickR outR
    split
    · split
      · exact no
      · exact pl 1 (by omega) (by omega) (by omega)
    split
    · split
      · exact no
      · split
        · exact pl 5 (by omega) (by omega) (by omega)
        · exact ⟨.inl rfl,fun _ => .inr (.inr (.inr (.inr ⟨by show ¬ (2 : Int) = 8; omega,by show ¬ (2 : Int) = 6; omega,by show ¬ (2 : Int) = 7; omega,by show ¬ (2 : Int) = 4; omega,h1,h2,by show (1 : Int) ≤ 2; omega,by show (2 : Int) ≤ 5; omega⟩))),rfl⟩
    split
    · exact pl 3 (by omega) (by omega) (by omega)
    split
    · rename_i h12
      split
      · exact pl 5 (by omega) (by omega) (by omega)
      · have := out_may (y := y) hx
        exact ⟨.inl rfl,fun _ => .inr (.inr (.inr (.inl ⟨rfl,h12.1,rfl,this.1,this.2⟩))),rfl⟩
    · exact pl 5 (by omega) (by omega) (by omega)
theorem to_le {x : Nd} (hm : x.may) (h : (x.to.length : Int) ≤ x.ports) : (x.to.length : Int) ≤ 10 ∧ (cls x.k = 2 → (x.to.length : Int) ≤ 9) ∧ 0 ≤ x.ports := by
  have h1 := hm.to8
  have h2 := hm.al8
  have h3 := cls_2 x.k
  have h4 : x.ports ≤ 10 ∧ (cls x.k = 2 → x.ports ≤ 9) := by
    unfold Nd.ports
    rw [h3]
    repeat' split
    all_goals omega
  omega
theorem idx_lt {α : Type} {f : α → Bool} {l : List α} (h : ¬ idx f l < 0) : ∃ (i : Nat) (x : α),idx f l = (i : Int) ∧ l[i]? = some x := by
  unfold idx at h ⊢
  cases hf : l.findIdx? f with
  | none => rw [hf] at h; simp at h
  | some i =>
    rw [List.findIdx?_eq_some_iff_getElem] at hf
    exact ⟨i,_,rfl,List.getElem?_eq_getElem hf.1⟩
theorem oth_in {x : Nd} (h : (x.to.length : Int) ≤ 10) : oth x = max ((x.to.length : Int) - 1) 0 := by unfold oth; rw [wr_in (by omega)]
end Go.Proofs.Ytkpfjolcmkikeaa
end
section
set_option linter.unusedSimpArgs false
set_option linter.unusedVariables false
set_option maxHeartbeats 4000000
namespace Go.Proofs.Ytkpfjolcmkikeaa
open Go.Fx
def appN (z : Int) : Nd := ⟨3,z,0,[],[],[]⟩
def fail1 (z : Int) : Nd := ⟨13,z,0,[],[],[]⟩
def halfN (x y : Nd) : Nd := ⟨12,x.lv,y.n,x.s,[],[]⟩
def joinOps (a b : Int) (l : List Nat) : List Op := l.map fun (s : Nat) => .jn ⟨a,(s : Int)⟩ ⟨b,(s : Int)⟩
def joinD (n : Nt) (a b : Int) : Nt := runs n (joinOps a b (List.range' 1 ((n.nd a).to.length - 1)))
def pickOps (a b : Int) : Nat → List Int → List Op
  | _,[] => []
  | i,[d] => [.mv ⟨b,(i : Int) + 1⟩ ⟨d,2⟩,.mv ⟨a,1⟩ ⟨d,1⟩]
  | i,d :: e :: r => .mv ⟨b,(i : Int) + 1⟩ ⟨d,2⟩ :: .ln ⟨d,1⟩ ⟨e,0⟩ :: pickOps a b (i + 1) (e :: r)
def restR (n : Nt) (a alt : Int) : List Pt := (portsR a 2 (n.nd a).to.length).filter fun r => !decide (r = ⟨a,alt + 2⟩)
noncomputable def pickD (n : Nt) (alt : Int) (a b : Int) : Nt :=
  let k := ((n.nd a).al.getD alt.toNat zA).n.toNat
  let r1 := likeR n (appN (n.nd a).lv) k
  let l := restR r1.1 a alt
  let r2 := likeR r1.1 (dropN (r1.1.nd a).lv) l.length
  let m := match r1.2 with
    | [] => (joinR r2.1 ⟨a,alt + 2⟩ ⟨a,1⟩).1
    | d :: _ => (moveR r2.1 ⟨a,alt + 2⟩ ⟨d,0⟩).1
  runs (runs m (pickOps a b 0 r1.2)) (dropOps l r2.2)
noncomputable def halfD (n : Nt) (a b : Int) : Nt :=
  let r := makeR n (halfN (n.nd a) (n.nd b))
  (moveR (moveR r.1 ⟨a,2⟩ ⟨r.2.1,0⟩).1 ⟨a,1⟩ ⟨r.2.1,1⟩).1
noncomputable def outD (n : Nt) (x : Nd) (a : Int) : Nt :=
  let r := makeR n x
  (moveR r.1 ⟨a,1⟩ ⟨r.2.1,0⟩).1
noncomputable def failD (n : Nt) (a b : Int) : Nt :=
  let r := makeR n (fail1 (n.nd a).lv)
  let l := portsR a 2 (r.1.nd a).to.length ++ portsR b 1 (r.1.nd b).to.length
  let r2 := likeR r.1 (dropN (r.1.nd a).lv) l.length
  runs (moveR r2.1 ⟨a,1⟩ ⟨r.2.1,0⟩).1 (dropOps l r2.2)
def lnOps (m : Int) (k : Nat) : Nat → List Int → List Op
  | _,[] => []
  | i,c :: r => .ln ⟨m,(i : Int) + 1⟩ ⟨c,(k : Int) + 1⟩ :: lnOps m k (i + 1) r
def passOps (b : Int) (cs : List Int) : Nat → List Int → List Op
  | _,[] => []
  | k,m :: r => .mv ⟨b,(k : Int) + 1⟩ ⟨m,0⟩ :: (lnOps m k 0 cs ++ passOps b cs (k + 1) r)
noncomputable def passD (n : Nt) (lv : Int) (a b : Int) : Nt :=
  let x := n.nd a
  let y : Nd := { n.nd b with lv := lv }
  let r1 := likeR n y (x.to.length - 1)
  let r2 := likeR r1.1 x (y.to.length - 1)
  runs (runs r2.1 (dropOps (portsR a 1 x.to.length) r1.2)) (passOps b r1.2 0 r2.2)
noncomputable def dropD (n : Nt) (a b : Int) : Nt :=
  let l := portsR b 1 (n.nd b).to.length
  let r := likeR n (dropN (n.nd a).lv) l.length
  runs r.1 (dropOps l r.2)
noncomputable def doneR (n : Nt) (p : Pl) (a b : Int) : Nt :=
  if p.k = 1 ∨ p.k = 6 then joinD n a b else if p.k = 2 then pickD n p.alt a b else if p.k = 3 then halfD n a b else if p.k = 4 then outD n p.nd a
  else if p.k = 5 then failD n a b else if p.k = 7 then passD n p.lv a b else if p.k = 8 then dropD n a b else n
noncomputable def stepR (n : Nt) (p : Pl) (a b : Int) : Nt := (freeR (freeR (doneR n p a b) (max a b)).1 (min a b)).1
def meetR (n : Nt) (i : Int) : Int := if n.has ⟨i,0⟩ = true ∧ (n.lk ⟨i,0⟩).s = 0 then (n.lk ⟨i,0⟩).n else -1
noncomputable def doR (n : Nt) (i : Int) : Nt × Pl × Int :=
  if bool n.Good = false then (n,p0,120) else if meetR n i < 0 then (n,p0,122)
  else
    let r := ofR (n.nd i) (n.nd (meetR n i))
    if r.2 ≠ 0 then (n,p0,r.2) else if wr (n.used + needR r.1 (n.nd i) (n.nd (meetR n i))) > n.cap then (n,p0,121)
    else (stepR n r.1 (if r.1.sw = true then meetR n i else i) (if r.1.sw = true then i else meetR n i),r.1,0)
inductive PlanX (x y : Nd) (p : Pl) : Prop
  | beta (h : p.k = 1) (hx : x.k = 3) (hy : y.k = 2)
  | pick (i : Nat) (A : Ar) (h : p.k = 2) (hx : x.k = 9) (hy : y.k = 8) (h1 : p.alt = i) (h2 : x.al[i]? = some A) (h3 : A.n = (y.to.length : Int) - 1)
  | half (h : p.k = 3) (hx : x.k = 11) (hy : y.k = 10)
  | out (h : p.k = 4) (hx : x.k = 12) (hy : y.k = 10) (h1 : p.nd.may) (h2 : p.nd.Ok) (h3 : p.nd.ports = 1) (h4 : p.nd.k ≠ 0) (h5 : p.nd.k ≠ 1)
  | fail (h : p.k = 5) (hx : cls x.k = 1) (hy : cls y.k = 2)
  | join (h : p.k = 6) (hx : cls x.k = 3) (hy : x.k = y.k)
  | pass (h : p.k = 7) (hx : cls x.k = 3) (hy : cls y.k ≠ 0) (h1 : 0 ≤ p.lv) (h2 : p.lv ≤ 60)
  | drop (h : p.k = 8) (hx : x.k = 7) (hy : cls y.k ≠ 0)
theorem out_more {x y : Nd} (hx : x.Ok) : ({ outN x y with lv := x.lv } : Nd).Ok ∧ ({ outN x y with lv := x.lv } : Nd).ports = 1 ∧ (outN x y).k ≠ 0 ∧ (outN x y).k ≠ 1 := by
  refine ⟨lv_Ok (out_Ok x y) hx.lv,?_⟩
  unfold outN
  repeat' split
  all_goals first
    | exact ⟨rfl,by show ¬ (10 : Int) = 0; omega,by show ¬ (10 : Int) = 1; omega⟩
    | exact ⟨rfl,by show ¬ (8 : Int) = 0; omega,by show ¬ (8 : Int) = 1; omega⟩
theorem src_plan {x y : Nd} (hx : x.may) (hy : y.may) (kx : x.Ok) (ty : (y.to.length : Int) = y.ports) (cy : cls y.k ≠ 0) {r : Pl × Int} (h : Src x y r) (h0 : r.2 = 0) (p : Pl) (hk : p.k = r.1.k) (hl : p.lv = r.1.lv) (ha : p.alt = r.1.alt) (hn : p.nd = r.1.nd) : PlanX x y p := by
  have y0 := hy.lv0
  have y1 := hy.lv1
  have x0 := hx.lv0
  cases h with
  | no => have h0 : (140 : Int) = 0 := h0; omega
  | drop h => exact .drop hk h cy
  | join h1 h2 h3 => exact .join hk h1 h2
  | pass h1 =>
    unfold passR at h0 hk hl ha hn
    split at h0
    · have h0 : (140 : Int) = 0 := h0; omega
    rename_i g1
    rw [if_neg g1] at hk hl ha hn
    split at h0
    · have h0 : (141 : Int) = 0 := h0; omega
    rename_i g2
    rw [if_neg g2] at hk hl ha hn
    rw [passLv_in ⟨y0,y1⟩] at g2 hl
    have hl : p.lv = if x.k = 5 then y.lv - 1 else if x.k = 6 then y.lv + 1 else y.lv := hl
    refine .pass hk h1 cy ?_ ?_
    · rw [hl]; split
      · omega
      · split <;> omega
    · rw [hl]; omega
  | ask h1 h2 =>
    unfold askR at h0 hk hl ha hn
    by_cases c1 : x.k = 3 ∧ y.k = 2
    · rw [if_pos c1] at h0 hk hl ha hn
      by_cases c2 : x.lv ≠ y.lv
      · rw [if_pos c2] at h0; have h0 : (140 : Int) = 0 := h0; omega
      · rw [if_neg c2] at hk; exact .beta hk c1.1 c1.2
    rw [if_neg c1] at h0 hk hl ha hn
    by_cases c3 : x.k = 9 ∧ y.k = 8
    · rw [if_pos c3] at h0 hk hl ha hn
      unfold pickR at h0 hk hl ha hn
      by_cases c2 : x.lv ≠ y.lv
      · rw [if_pos c2] at h0; have h0 : (140 : Int) = 0 := h0; omega
      rw [if_neg c2] at h0 hk hl ha hn
      by_cases c4 : pickIx x y < 0
      · rw [if_pos c4] at hk; exact .fail hk h1 h2
      rw [if_neg c4] at h0 hk hl ha hn
      have h8 := hy.to8 c3.2
      have hw : wr ((y.to.length : Int) - 1) = y.to.length - 1 := wr_in (by omega)
      obtain ⟨i,A,e1,e2⟩ := idx_lt c4
      have e1 : pickIx x y = (i : Int) := e1
      refine .pick i A hk c3.1 c3.2 (by rw [ha]; exact e1) e2 ?_
      have e3 := e1
      unfold pickIx idx at e3
      split at e3
      · rename_i j hj
        have : j = i := by omega
        subst this
        rw [List.findIdx?_eq_some_iff_getElem] at hj
        obtain ⟨q1,q2,_⟩ := hj
        obtain ⟨_,q3⟩ := List.getElem?_eq_some_iff.1 e2
        rw [q3] at q2
        simp only [Bool.and_eq_true,decide_eq_true_eq] at q2
        rw [q2.2,hw]
      · omega
    rw [if_neg c3] at h0 hk hl ha hn
    by_cases c5 : x.k = 11 ∧ y.k = 10
    · rw [if_pos c5] at hk; exact .half hk c5.1 c5.2
    rw [if_neg c5] at h0 hk hl ha hn
    by_cases c6 : x.k = 12 ∧ y.k = 10
    · rw [if_pos c6] at h0 hk hl ha hn
      unfold outR at h0 hk hl ha hn
      by_cases c7 : x.s = [47] ∧ y.n = 0
      · rw [if_pos c7] at hk; exact .fail hk h1 h2
      · rw [if_neg c7] at h0 hk hl ha hn
        have e : p.nd = { outN x y with lv := x.lv } := hn
        obtain ⟨m1,m2,m3,m4⟩ := out_more (y := y) kx
        exact .out hk c6.1 c6.2 (by rw [e]; exact (out_may (y := y) hx).1) (by rw [e]; exact m1) (by rw [e]; exact m2) (by rw [e]; exact m3) (by rw [e]; exact m4)
    rw [if_neg c6] at hk
    exact .fail hk h1 h2
theorem of_plan {a b : Nd} (ha : a.may) (hb : b.may) (ka : a.Ok) (kb : b.Ok) (ta : (a.to.length : Int) = a.ports) (tb : (b.to.length : Int) = b.ports) (h : (ofR a b).2 = 0) :
    PlanX (if (ofR a b).1.sw = true then b else a) (if (ofR a b).1.sw = true then a else b) (ofR a b).1 := by
  have hc : ¬ (cls a.k = 0 ∨ cls b.k = 0) := by
    intro hc
    unfold ofR at h
    rw [if_pos hc] at h
    have h : (140 : Int) = 0 := h
    omega
  rcases of_src a b with h1 | ⟨r,h1,h2⟩
  · have := (src_kind ha hb h1).2.2
    rw [if_neg (by simp [this]),if_neg (by simp [this])]
    exact src_plan ha hb ka tb (fun e => hc (.inr e)) h1 h _ rfl rfl rfl rfl
  · have h3 := (src_kind hb ha h1).2.2
    have hr : r.2 = 0 := by
      rw [h2] at h; unfold swapR at h
      split at h
      · assumption
      · exact h
    have e : swapR r = (⟨r.1.k,true,r.1.lv,r.1.alt,r.1.nd⟩,0) := by unfold swapR; rw [if_pos hr]
    rw [h2,e]
    simp only [if_true]
    exact src_plan hb ha kb ta (fun e => hc (.inl e)) h1 hr _ rfl rfl rfl rfl
end Go.Proofs.Ytkpfjolcmkikeaa
end
section
set_option linter.unusedSimpArgs false
set_option linter.unusedVariables false
set_option maxHeartbeats 4000000
set_option maxRecDepth 10000
namespace Go.Proofs.Ytkpfjolcmkikeaa
open Go.Fx
theorem wf_small {i : Int} (h0 : 0 ≤ i) (h1 : i ≤ 1000000000000000000) : wf i := by unfold wf; omega
theorem wf_place {n : Nt} (hn : n.Ok) {i : Int} (h0 : 0 ≤ i) (h1 : i < n.ns.length) : wf i := by have := hn.ns; unfold wf; omega
theorem wf_0 : wf 0 := by decide
theorem wf_1 : wf 1 := by decide
theorem makeR_wf {n : Nt} {x : Nd} (hb : n.ns.length ≤ 100000) : wf (makeR n x).2.1 := by
  unfold makeR
  split
  · exact wf_0
  · split
    · exact wf_0
    · refine wf_small (by simp only; omega) ?_
      have : n.at ≤ n.ns.length := by
        unfold Nt.at
        split
        · rename_i i hi; have := (List.findIdx?_eq_some_iff_getElem.1 hi).1; omega
        · exact Nat.le_refl _
      simp only; omega
structure Two (n : Nt) (a b : Int) (B : Nat) : Prop where
  ok : n.Ok
  big : n.ns.length ≤ B
  a0 : 0 ≤ a
  a1 : a < n.ns.length
  b0 : 0 ≤ b
  b1 : b < n.ns.length
  ta : (n.nd a).to.length ≤ 100
  tb : (n.nd b).to.length ≤ 100
  ka : (n.nd a).k ≠ 0
  kb : (n.nd b).k ≠ 0
theorem Two.pa {n : Nt} {a b : Int} {B : Nat} (h : Two n a b B) {s : Int} (h0 : 0 ≤ s) (h1 : s ≤ 1000) : wfP ⟨a,s⟩ := ⟨wf_place h.ok h.a0 h.a1,wf_small h0 (by simp only; omega)⟩
theorem Two.pb {n : Nt} {a b : Int} {B : Nat} (h : Two n a b B) {s : Int} (h0 : 0 ≤ s) (h1 : s ≤ 1000) : wfP ⟨b,s⟩ := ⟨wf_place h.ok h.b0 h.b1,wf_small h0 (by simp only; omega)⟩
theorem Two.xa {n : Nt} {a b : Int} {B : Nat} (h : Two n a b B) : (n.nd a).Ok := h.ok.nd _ (nd_mem h.a0 h.a1)
theorem Two.xb {n : Nt} {a b : Int} {B : Nat} (h : Two n a b B) : (n.nd b).Ok := h.ok.nd _ (nd_mem h.b0 h.b1)
theorem make_nd {n : Nt} {x : Nd} {i : Int} (h0 : 0 ≤ i) (h1 : i < n.ns.length) (hk : (n.nd i).k ≠ 0) : (n.make x).nd i = n.nd i ∧ n.ns.length ≤ (n.make x).ns.length := by
  unfold Nt.make
  have g := get_nd (n := n) h0 h1
  cases hf : n.ns.findIdx? isFree with
  | some j =>
    obtain ⟨hi,hfi,hbef⟩ := List.findIdx?_eq_some_iff_getElem.1 hf
    refine ⟨?_,by simp⟩
    have hne : j ≠ i.toNat := by
      rintro rfl
      obtain ⟨_,g2⟩ := List.getElem?_eq_some_iff.1 g
      rw [g2] at hfi
      simp only [isFree,decide_eq_true_eq] at hfi
      exact hk hfi
    unfold Nt.nd
    simp only
    rw [List.getD_eq_getElem?_getD,List.getD_eq_getElem?_getD,List.getElem?_set_ne hne]
  | none =>
    refine ⟨?_,by simp⟩
    unfold Nt.nd
    simp only
    rw [List.getD_eq_getElem?_getD,List.getD_eq_getElem?_getD,List.getElem?_append_left (by omega)]
theorem makeR_nd {n : Nt} (x : Nd) {i : Int} (h0 : 0 ≤ i) (h1 : i < n.ns.length) (hk : (n.nd i).k ≠ 0) : (makeR n x).1.nd i = n.nd i ∧ n.ns.length ≤ (makeR n x).1.ns.length := by
  unfold makeR
  split
  · exact ⟨rfl,Nat.le_refl _⟩
  · split
    · exact ⟨rfl,Nat.le_refl _⟩
    · exact make_nd h0 h1 hk
theorem Two.make {n : Nt} {a b : Int} {B : Nat} (h : Two n a b B) {x : Nd} (hx : x.Ok) (hB : B ≤ 100000) : Two (makeR n x).1 a b (B + 1) ∧ (makeR n x).1.nd a = n.nd a ∧ (makeR n x).1.nd b = n.nd b := by
  obtain ⟨e1,e2⟩ := makeR_nd x h.a0 h.a1 h.ka
  obtain ⟨e3,_⟩ := makeR_nd x h.b0 h.b1 h.kb
  have hb := h.big
  obtain ⟨g1,g2⟩ := makeR_Ok h.ok hx (by omega)
  have h1 := h.a1
  have h2 := h.b1
  exact ⟨⟨g1,by omega,h.a0,by omega,h.b0,by omega,by rw [e1]; exact h.ta,by rw [e3]; exact h.tb,by rw [e1]; exact h.ka,by rw [e3]; exact h.kb⟩,e1,e3⟩
theorem Two.like {n : Nt} {a b : Int} {B : Nat} (h : Two n a b B) {x : Nd} (hx : x.Ok) : ∀ k : Nat,B + k ≤ 100000 → Two (likeR n x k).1 a b (B + k) ∧ (likeR n x k).1.nd a = n.nd a ∧ (likeR n x k).1.nd b = n.nd b
  | 0,_ => ⟨h,rfl,rfl⟩
  | k + 1,hB => by
    obtain ⟨h1,h2,h3⟩ := Two.like h hx k (by omega)
    obtain ⟨g1,g2,g3⟩ := h1.make hx (by omega)
    exact ⟨g1,g2.trans h2,g3.trans h3⟩
theorem likeR_wf {n : Nt} {x : Nd} (hn : n.Ok) (hx : x.Ok) : ∀ k : Nat,n.ns.length + k ≤ 100000 → ∀ d ∈ (likeR n x k).2,wf d
  | 0,_,d,hd => by simp [likeR] at hd
  | k + 1,hB,d,hd => by
    simp only [likeR,List.mem_append,List.mem_cons,List.not_mem_nil,or_false] at hd
    rcases hd with hd | rfl
    · exact likeR_wf hn hx k (by omega) d hd
    · exact makeR_wf (by have := (likeR_Ok hn hx k (by omega)).2.1; omega)
theorem aJoinAll_ok {ks : Key} {n : Nt} {pl : Pl} {a b : Int} {B : Nat} {σ : St} (hT : Two n a b B) (hB : B ≤ 90000) (h : SG ks n pl a b σ) :
    ∃ σ',eS S (.f 104) [.a (.ptr ks 0 0)] σ = some (.u,σ') ∧ SG ks (joinD n a b) pl a b σ' ∧ Fr ks σ σ' := by
  have hn := hT.ok
  obtain ⟨σ1,v,q1,hS1,hF1,hL⟩ := aOthers_ok (j := 1) (jz := 1) rfl (by omega) hT.a0 hT.a1 (hn.nd _ (nd_mem hT.a0 hT.a1)).to h
  have hta := hT.ta
  obtain ⟨m,hm⟩ : ∃ m,(n.nd a).to.length - 1 = m := ⟨_,rfl⟩
  have hpl : (portsR a 1 (n.nd a).to.length).length = m := by rw [portsR_len,hm]
  have hJ : joinD n a b = runs n (joinOps a b (List.range' 1 m)) := by unfold joinD; rw [hm]
  rw [hJ]
  refine x_fnR (fc := F104) rfl rfl ?_
  have s1 := h.bs
  simp only [stg,List.map_cons,List.map_nil] at s1
  have go : ∀ (e : Env),e 0 = .a (.ptr ks 0 0) → e 9 = .a (.p (.i .i64 (m : Nat))) → e 10 = .a (.p (.i .i64 0)) →
      wp S false (.loop F104b0) e σ1 (fun x e' σ' => x = .exit 0 ∧ SG ks (runs n (joinOps a b (List.range' 1 m))) pl a b σ' ∧ Fr ks σ σ') := by
    intro e e0 e9 e10
    refine loop_nat m (fun k e τ => e 0 = .a (.ptr ks 0 0) ∧ e 9 = .a (.p (.i .i64 (m : Nat))) ∧ e 10 = .a (.p (.i .i64 (k : Nat))) ∧ SG ks (runs n (joinOps a b (List.range' 1 k))) pl a b τ ∧ Fr ks σ τ) (i0 := 0) (Nat.zero_le _) ⟨e0,e9,e10,hS1,hF1⟩ ?_ ?_
    · rintro k e τ hk ⟨e0,e9,e10,hS,hF⟩
      have hlt : ((k : Nat) : Int) < (m : Int) := by omega
      have hw : IntKind.i64.wrap ((k : Int) + 1) = (k : Int) + 1 := wrap_in _ (by omega)
      have t1 := hS.bs
      simp only [stg,List.map_cons,List.map_nil] at t1
      have wo : ∀ o ∈ joinOps a b (List.range' 1 k),o.wf := by
        intro o ho
        unfold joinOps at ho
        obtain ⟨s,hs,rfl⟩ := List.mem_map.1 ho
        rw [List.mem_range'_1] at hs
        exact ⟨hT.pa (by omega) (by omega),hT.pb (by omega) (by omega)⟩
      have hsu : joinOps a b (List.range' 1 (k + 1)) = joinOps a b (List.range' 1 k) ++ [.jn ⟨a,(k : Int) + 1⟩ ⟨b,(k : Int) + 1⟩] := by
        unfold joinOps
        rw [List.range'_concat,List.map_append]
        simp only [List.map_cons,List.map_nil,Nat.one_mul]
        rw [show ((1 + k : Nat) : Int) = (k : Int) + 1 by omega]
      rw [hsu,runs_one]
      obtain ⟨τ',c1,hS',hF'⟩ := aJoin_ok (p := ⟨a,(k : Int) + 1⟩) (q := ⟨b,(k : Int) + 1⟩) (runs_Ok hn wo) (hT.pa (by omega) (by omega)) (hT.pb (by omega) (by omega)) hS
      have p1 := port_ok a ((k : Int) + 1)
      have p2 := port_ok b ((k : Int) + 1)
      simp only [F104b0,e0,e9,e10,t1,hlt,hw,p1,p2,c1,evI_cl,clOk,ldKeeps,ldKeeps1,iasKeeps,rowK,nwKeeps,sameC,sameL,sameA,sameP,sameR,sameRR_rfl,decide_true,frA_ptr,capsOf,fxa,fxc,fxE,fxL,fxI,nxE,evO,evR,cellsT,ldCells,mkT,lenA,binPV,Env.init,resV,resT,frT,klT,ownT,intT,O.adds,ownA,rowsA,over,wrOk,keysT,keysA,ne_eq,if_true,if_false,ite_self,Nat.reduceLT,Nat.reduceSub,Nat.reduceBEq,Nat.reduceEqDiff,Nat.reduceAdd,Nat.reduceLeDiff,reduceCtorEq,Nat.reduceMul]
      exact ⟨rfl,hS',hF.trans hF'⟩
    · rintro e τ ⟨e0,e9,e10,hS,hF⟩
      have hlt : ¬ ((m : Nat) : Int) < (m : Int) := by omega
      simp only [F104b0,e0,e9,e10,hlt,fxa,fxc,fxE,fxL,fxI,nxE,evO,evR,cellsT,ldCells,mkT,lenA,binPV,Env.init,resV,resT,frT,klT,ownT,intT,O.adds,ownA,rowsA,over,wrOk,keysT,keysA,ne_eq,if_true,if_false,ite_self,Nat.reduceLT,Nat.reduceSub,Nat.reduceBEq,Nat.reduceEqDiff,Nat.reduceAdd,Nat.reduceLeDiff,reduceCtorEq,Nat.reduceMul]
      exact ⟨hS,hF⟩
  rcases hL with ⟨rfl,hr⟩ | ⟨q,rfl,r2,r3,r4⟩
  · have hr2 : portsR a 1 (n.nd a).to.length = [] := List.map_eq_nil_iff.1 hr
    rw [hr2] at hpl
    have hm0 : m = 0 := by rw [← hpl]; rfl
    subst hm0
    simp only [F104,s1,q1,evI_cl,clOk,ldKeeps,ldKeeps1,iasKeeps,rowK,nwKeeps,sameC,sameL,sameA,sameP,sameR,sameRR_rfl,decide_true,frA_ptr,capsOf,fxa,fxc,fxE,fxL,fxI,nxE,evO,evR,cellsT,ldCells,mkT,lenA,binPV,Env.init,resV,resT,frT,klT,ownT,intT,O.adds,ownA,rowsA,over,wrOk,keysT,keysA,ne_eq,if_true,if_false,ite_self,Nat.reduceLT,Nat.reduceSub,Nat.reduceBEq,Nat.reduceEqDiff,Nat.reduceAdd,Nat.reduceLeDiff,reduceCtorEq,Nat.reduceMul]
    refine Go.Fx.wp_mono (go _ ?_ ?_ ?_) ?_
    all_goals first
      | (simp only [fxa,fxc,fxE,fxL,fxI,nxE,evO,evR,cellsT,ldCells,mkT,lenA,binPV,Env.init,resV,resT,frT,klT,ownT,intT,O.adds,ownA,rowsA,over,wrOk,keysT,keysA,ne_eq,if_true,if_false,ite_self,Nat.reduceLT,Nat.reduceSub,Nat.reduceBEq,Nat.reduceEqDiff,Nat.reduceAdd,Nat.reduceLeDiff,reduceCtorEq,Nat.reduceMul]; done)
      | (rintro x e' σ' ⟨rfl,g1,g2⟩; simp only [fxa,fxc,fxE,fxL,fxI,nxE,evO,evR,cellsT,ldCells,mkT,lenA,binPV,Env.init,resV,resT,frT,klT,ownT,intT,O.adds,ownA,rowsA,over,wrOk,keysT,keysA,ne_eq,if_true,if_false,ite_self,Nat.reduceLT,Nat.reduceSub,Nat.reduceBEq,Nat.reduceEqDiff,Nat.reduceAdd,Nat.reduceLeDiff,reduceCtorEq,Nat.reduceMul]; exact ⟨g1,g2⟩)
  · rw [List.length_map,hpl] at q1
    simp only [F104,s1,q1,evI_cl,clOk,ldKeeps,ldKeeps1,iasKeeps,rowK,nwKeeps,sameC,sameL,sameA,sameP,sameR,sameRR_rfl,decide_true,frA_ptr,capsOf,fxa,fxc,fxE,fxL,fxI,nxE,evO,evR,cellsT,ldCells,mkT,lenA,binPV,Env.init,resV,resT,frT,klT,ownT,intT,O.adds,ownA,rowsA,over,wrOk,keysT,keysA,ne_eq,if_true,if_false,ite_self,Nat.reduceLT,Nat.reduceSub,Nat.reduceBEq,Nat.reduceEqDiff,Nat.reduceAdd,Nat.reduceLeDiff,reduceCtorEq,Nat.reduceMul]
    refine Go.Fx.wp_mono (go _ ?_ ?_ ?_) ?_
    all_goals first
      | (simp only [fxa,fxc,fxE,fxL,fxI,nxE,evO,evR,cellsT,ldCells,mkT,lenA,binPV,Env.init,resV,resT,frT,klT,ownT,intT,O.adds,ownA,rowsA,over,wrOk,keysT,keysA,ne_eq,if_true,if_false,ite_self,Nat.reduceLT,Nat.reduceSub,Nat.reduceBEq,Nat.reduceEqDiff,Nat.reduceAdd,Nat.reduceLeDiff,reduceCtorEq,Nat.reduceMul]; done)
      | (rintro x e' σ' ⟨rfl,g1,g2⟩; simp only [fxa,fxc,fxE,fxL,fxI,nxE,evO,evR,cellsT,ldCells,mkT,lenA,binPV,Env.init,resV,resT,frT,klT,ownT,intT,O.adds,ownA,rowsA,over,wrOk,keysT,keysA,ne_eq,if_true,if_false,ite_self,Nat.reduceLT,Nat.reduceSub,Nat.reduceBEq,Nat.reduceEqDiff,Nat.reduceAdd,Nat.reduceLeDiff,reduceCtorEq,Nat.reduceMul]; exact ⟨g1,g2⟩)
theorem aHalf_ok {ks : Key} {n : Nt} {pl : Pl} {a b : Int} {B : Nat} {σ : St} (hT : Two n a b B) (hB : B ≤ 90000) (h : SG ks n pl a b σ) :
    ∃ σ',eS S (.f 106) [.a (.ptr ks 0 0)] σ = some (.u,σ') ∧ SG ks (halfD n a b) pl a b σ' ∧ Fr ks σ σ' := by
  have hn := hT.ok
  have hbg : n.ns.length ≤ 100000 := by have := hT.big; omega
  obtain ⟨x,hx0⟩ : ∃ x,n.nd a = x := ⟨_,rfl⟩
  obtain ⟨y,hy0⟩ : ∃ y,n.nd b = y := ⟨_,rfl⟩
  have hx := hn.nd _ (nd_mem hT.a0 hT.a1)
  have hy := hn.nd _ (nd_mem hT.b0 hT.b1)
  rw [hx0] at hx
  rw [hy0] at hy
  have s0 := h.bs
  simp only [stg,List.map_cons,List.map_nil] at s0
  obtain ⟨σ1,q1,hS1,hF1⟩ := aNode_ok hT.a0 hT.a1 h
  rw [hx0] at q1
  obtain ⟨c1,hc1⟩ : ∃ c,σ1.clk = c := ⟨_,rfl⟩
  obtain ⟨σ2,hσ2⟩ : ∃ σ2,σ2 = (σ1.add 2 (.var [.p (.i .i64 0),.p (.i .i64 0),.p (.i .i64 0),.p (.s []),.nil,.nil])).put (2,c1) (.var ((encN x).map .p)) := ⟨_,rfl⟩
  have hlt := h.lt
  have hcl1 := hF1.clk
  have nk : ∀ d,¬ ks = (d,c1) := by rintro d rfl; simp at hlt; omega
  have hS2 : SG ks n pl a b σ2 := by rw [hσ2]; exact (hS1.add _ _).put (nk 2) _
  have hF2 : Fr ks σ σ2 := by rw [hσ2]; exact (hF1.add _ _).put (.inr (by simp only; omega)) _
  have hcl2 : σ2.clk = c1 + 1 := by rw [hσ2]; simp only [put_clk,add_clk]; omega
  have b2 : σ2.bs (2,c1) = some (.var ((encN x).map .p)) := by rw [hσ2]; simp only [put_bs,if_true]
  obtain ⟨σ3,q3,hS3,hF3⟩ := aNode_ok hT.b0 hT.b1 hS2
  rw [hy0] at q3
  have b2' : σ3.bs (2,c1) = some (.var ((encN x).map .p)) := (hF3.bs (2,c1) (by simp only; omega) (fun e => nk 2 e.symm)).trans b2
  obtain ⟨σ4,q4,hS4,hF4⟩ := aMade_ok (x := halfN x y) hn (by omega) ⟨by show wf 12; decide,hx.lv,hy.n,hx.s,by simp [halfN],by simp [halfN],by simp [halfN],by simp [halfN]⟩ NC.nil NC.nil hS3
  have hD : halfD n a b = (moveR (moveR (makeR n (halfN x y)).1 ⟨a,2⟩ ⟨(makeR n (halfN x y)).2.1,0⟩).1 ⟨a,1⟩ ⟨(makeR n (halfN x y)).2.1,1⟩).1 := by unfold halfD; simp only [hx0,hy0]
  have hOk := (makeR_Ok (x := halfN x y) hn ⟨by show wf 12; decide,hx.lv,hy.n,hx.s,by simp [halfN],by simp [halfN],by simp [halfN],by simp [halfN]⟩ (by omega)).1
  have hti := makeR_wf (x := halfN x y) hbg
  obtain ⟨⟨m,t,ee⟩,hmk⟩ : ∃ r,makeR n (halfN x y) = r := ⟨_,rfl⟩
  rw [hD]
  rw [hmk] at q4 hS4 hOk hti ⊢
  simp only at q4 hS4 hOk hti ⊢
  obtain ⟨σ5,q5,hS5,hF5⟩ := aMove_ok (p := ⟨a,2⟩) (q := ⟨t,0⟩) hOk (hT.pa (by omega) (by omega)) ⟨hti,wf_0⟩ hS4
  obtain ⟨σ6,q6,hS6,hF6⟩ := aMove_ok (p := ⟨a,1⟩) (q := ⟨t,1⟩) (moveR_Ok (q := ⟨t,0⟩) hOk (hT.pa (s := 2) (by omega) (by omega)) ⟨hti,wf_0⟩) (hT.pa (by omega) (by omega)) ⟨hti,wf_1⟩ hS5
  have p1 := port_ok a 1
  have p2 := port_ok a 2
  have p3 := port_ok t 0
  have p4 := port_ok t 1
  have u2 := hS2.bs
  have u3 := hS3.bs
  have u4 := hS4.bs
  have u5 := hS5.bs
  simp only [stg,List.map_cons,List.map_nil] at u2 u3 u4 u5
  simp only [encN,List.map_cons,List.map_nil] at q1 q3 b2 b2' hσ2
  simp only [halfN] at q4
  refine x_fnR (fc := F106) rfl rfl ?_
  simp only [F106,s0,q1,← hσ2,hc1,b2,b2',u2,q3,u3,q4,u4,q5,u5,q6,p1,p2,p3,p4,evI_cl,clOk,ldKeeps,ldKeeps1,iasKeeps,rowK,nwKeeps,sameC,sameL,sameA,sameP,sameR,sameRR_rfl,decide_true,frA_ptr,capsOf,fxa,fxc,fxE,fxL,fxI,nxE,evO,evR,cellsT,ldCells,mkT,lenA,binPV,Env.init,resV,resT,frT,klT,ownT,intT,O.adds,ownA,rowsA,over,wrOk,keysT,keysA,ne_eq,if_true,if_false,ite_self,Nat.reduceLT,Nat.reduceSub,Nat.reduceBEq,Nat.reduceEqDiff,Nat.reduceAdd,Nat.reduceLeDiff,reduceCtorEq,Nat.reduceMul]
  exact ⟨hS6,(((hF2.trans hF3).trans hF4).trans hF5).trans hF6⟩
theorem portsR_wf {n : Nt} {a b : Int} {B : Nat} (h : Two n a b B) {j k : Nat} (hk : k ≤ 1000) : (∀ p ∈ portsR a j k,wfP p) ∧ (∀ p ∈ portsR b j k,wfP p) := by
  constructor
  · intro p hp
    unfold portsR at hp
    obtain ⟨s,hs,rfl⟩ := List.mem_map.1 hp
    rw [List.mem_range'_1] at hs
    exact h.pa (by omega) (by omega)
  · intro p hp
    unfold portsR at hp
    obtain ⟨s,hs,rfl⟩ := List.mem_map.1 hp
    rw [List.mem_range'_1] at hs
    exact h.pb (by omega) (by omega)
theorem aCall_ok {ks : Key} {n : Nt} {pl : Pl} {a b : Int} {l : List Pt} {ds : List Int} {f : AV} {σ : St} (hn : n.Ok) (hl : ∀ p ∈ l,wfP p) (hd : ∀ d ∈ ds,wf d) (hld : l.length ≤ ds.length) (hlb : l.length ≤ 1000000000) (h : SG ks n pl a b σ) (hD : DropC ks l ds f σ) :
    ∃ k0 k1 k2 σ',f = .fn 140 [k0,k1,k2] ∧ eS S (.f 140) [.a (.ptr k0 0 0),.a (.ptr k1 0 0),.a (.ptr k2 0 0)] σ = some (.u,σ') ∧ SG ks (runs n (dropOps l ds)) pl a b σ' ∧ Fr ks σ σ' := by
  obtain ⟨k0,k1,k2,lv,dv,e1,e2,e3,e4,e5,e6,e7,e8,e9⟩ := hD.ex
  obtain ⟨σ',g1,g2,g3⟩ := aDrops_ok hn hl hd hld hlb h e2 e3 e4 e5 e6 e7 e8 e9
  exact ⟨k0,k1,k2,σ',e1,g1,g2,g3⟩
theorem SL.fa {c0 w : Nat} {t : TypeId} {rows : List (List PV)} {v : AV} {σ : St} (h : SL c0 w t rows v σ) : frA σ v = some (.l rows) := by
  rcases h with ⟨rfl,rfl⟩ | ⟨q,rfl,h2,_,_⟩
  · rfl
  · rw [frA_own,h2]; simp
theorem aFail_ok {ks : Key} {n : Nt} {pl : Pl} {a b : Int} {B : Nat} {σ : St} (hT : Two n a b B) (hB : B ≤ 90000) (h : SG ks n pl a b σ) :
    ∃ σ',eS S (.f 109) [.a (.ptr ks 0 0)] σ = some (.u,σ') ∧ SG ks (failD n a b) pl a b σ' ∧ Fr ks σ σ' := by
  have hn := hT.ok
  have hbg : n.ns.length ≤ 100000 := by have := hT.big; omega
  have hfx : (fail1 (n.nd a).lv).Ok := ⟨by show wf 13; decide,hT.xa.lv,by show wf 0; decide,by simp [fail1],by simp [fail1],by simp [fail1],by simp [fail1],by simp [fail1]⟩
  obtain ⟨σ1,q1,hS1,hF1⟩ := aLevel_ok hT.a0 hT.a1 h
  obtain ⟨σ2,q2,hS2,hF2⟩ := aMade_ok (x := fail1 (n.nd a).lv) hn (by omega) hfx NC.nil NC.nil hS1
  obtain ⟨hT2,ea,eb⟩ := hT.make hfx (by omega)
  have hti := makeR_wf (x := fail1 (n.nd a).lv) hbg
  have hD : failD n a b = (let r := makeR n (fail1 (n.nd a).lv)
    let l := portsR a 2 (r.1.nd a).to.length ++ portsR b 1 (r.1.nd b).to.length
    let r2 := likeR r.1 (dropN (r.1.nd a).lv) l.length
    runs (moveR r2.1 ⟨a,1⟩ ⟨r.2.1,0⟩).1 (dropOps l r2.2)) := rfl
  obtain ⟨⟨m,t,ee⟩,hmk⟩ : ∃ r,makeR n (fail1 (n.nd a).lv) = r := ⟨_,rfl⟩
  rw [hmk] at q2 hS2 hT2 hti ea eb hD
  simp only at q2 hS2 hT2 hti ea eb hD
  obtain ⟨σ3,v1,q3,hS3,hF3,hL3⟩ := aOthers_ok (j := 2) (jz := 2) rfl (by omega) hT2.a0 hT2.a1 hT2.xa.to hS2
  obtain ⟨σ4,v2,q4,hS4,hF4,hL4⟩ := aOthers_ok (j := 1) (jz := 1) rfl (by omega) hT2.b0 hT2.b1 hT2.xb.to hS3
  have hL3' := hL3.fr hS3 hF4
  have fa2 := hL4.fa
  obtain ⟨l1,hl1⟩ : ∃ l,portsR a 2 (m.nd a).to.length = l := ⟨_,rfl⟩
  obtain ⟨l2,hl2⟩ : ∃ l,portsR b 1 (m.nd b).to.length = l := ⟨_,rfl⟩
  have w1 : ∀ p ∈ l1 ++ l2,wfP p := by
    intro p hp
    have := hT2.ta
    have := hT2.tb
    rcases List.mem_append.1 hp with hp | hp
    · rw [← hl1] at hp; exact (portsR_wf hT2 (by omega)).1 p hp
    · rw [← hl2] at hp; exact (portsR_wf hT2 (by omega)).2 p hp
  have n1 : l1.length ≤ 100 := by rw [← hl1,portsR_len]; have := hT2.ta; omega
  have n2 : l2.length ≤ 100 := by rw [← hl2,portsR_len]; have := hT2.tb; omega
  rw [hl1,hl2] at hD
  rw [hl1] at hL3'
  rw [hl2] at fa2
  have key : ∀ σ5,SG ks m pl a b σ5 → Fr ks σ σ5 → SL 0 2 43 ((l1 ++ l2).map encP) (.own (22,σ4.clk) 0 (l1.length + l2.length)) σ5 →
      ∃ k0 k1 k2 σ6 σ7 σ8,eS S (.f 111) [.a (.ptr ks 0 0),.a (.own (22,σ4.clk) 0 (l1.length + l2.length))] σ5 = some (.a (.fn 140 [k0,k1,k2]),σ6) ∧
        σ6.bs ks = some (.var ((stg (likeR m (dropN (m.nd a).lv) (l1 ++ l2).length).1 pl a b).map .p)) ∧
        eS S (.f 107) [.a (.ptr ks 0 0),.g [.p (.i .i64 a),.p (.i .i64 1)],.g [.p (.i .i64 t),.p (.i .i64 0)]] σ6 = some (.u,σ7) ∧
        eS S (.f 140) [.a (.ptr k0 0 0),.a (.ptr k1 0 0),.a (.ptr k2 0 0)] σ7 = some (.u,σ8) ∧ SG ks (failD n a b) pl a b σ8 ∧ Fr ks σ σ8 := by
    intro σ5 hS5 hF5 hL5
    have hb2 := hT2.big
    obtain ⟨σ6,f,g1,hS6,hF6,hDC⟩ := aDrop_ok (l := l1 ++ l2) (c0 := 0) hT2.ok (by rw [List.length_append]; omega) hT2.a0 hT2.a1 hS5 hL5
    have hdx := dropN_Ok hT2.xa.lv
    obtain ⟨o1,o2,o3⟩ := likeR_Ok hT2.ok hdx (l1 ++ l2).length (by rw [List.length_append]; omega)
    obtain ⟨σ7,g2,hS7,hF7⟩ := aMove_ok (p := ⟨a,1⟩) (q := ⟨t,0⟩) o1 (hT.pa (by omega) (by omega)) ⟨hti,wf_0⟩ hS6
    obtain ⟨k0,k1,k2,σ8,rfl,g3,hS8,hF8⟩ := aCall_ok (moveR_Ok (p := ⟨a,1⟩) (q := ⟨t,0⟩) o1 (hT.pa (by omega) (by omega)) ⟨hti,wf_0⟩) w1 (likeR_wf hT2.ok hdx _ (by rw [List.length_append]; omega)) (by rw [o3]; exact Nat.le_refl _) (by rw [List.length_append]; omega) hS7 (hDC.fr hS6 hF7)
    exact ⟨k0,k1,k2,σ6,σ7,σ8,g1,hS6.bs,g2,g3,by rw [hD]; exact hS8,((hF5.trans hF6).trans hF7).trans hF8⟩
  have s0 := h.bs
  have u2 := hS2.bs
  have u3 := hS3.bs
  have hF04 := ((hF1.trans hF2).trans hF3).trans hF4
  have hcl4 := hS4.lt
  have n4 : ∀ d,¬ ks = (d,σ4.clk) := by rintro d rfl; simp at hcl4
  have p1 := port_ok a 1
  have p3 := port_ok t 0
  refine x_fnR (fc := F109) rfl rfl ?_
  simp only [fail1] at q2
  simp only [stg,List.map_cons,List.map_nil] at s0 u2 u3
  rcases hL3' with ⟨rfl,hr⟩ | ⟨q,rfl,r2,r3,r4⟩
  · have hl0 : l1 = [] := List.map_eq_nil_iff.1 hr
    subst hl0
    obtain ⟨k0,k1,k2,σ6,σ7,σ8,g1,g2,g3,g4,g5,g6⟩ := key (σ4.add 22 (.row 2 43 (l2.map encP))) (hS4.add _ _) (hF04.add _ _) (.inr ⟨(22,σ4.clk),by simp,by simp only [add_bs,if_true]; simp,Nat.zero_le _,by simp only [add_clk]; omega⟩)
    simp only [List.length_nil,Nat.zero_add] at g1
    simp only [stg,List.map_cons,List.map_nil] at g2
    have hbb : l2.length * 16 ≤ 140737488355328 := by omega
    simp only [F109,s0,q1,q2,u2,q3,u3,q4,fa2,hbb,allP,g1,g2,g3,g4,p1,p3,List.length_map,evI_cl,clOk,ldKeeps,ldKeeps1,iasKeeps,rowK,nwKeeps,sameC,sameL,sameA,sameP,sameR,sameRR_rfl,decide_true,frA_ptr,capsOf,fxa,fxc,fxE,fxL,fxI,nxE,evO,evR,cellsT,ldCells,mkT,lenA,binPV,Env.init,resV,resT,frT,klT,ownT,intT,O.adds,ownA,rowsA,over,wrOk,keysT,keysA,ne_eq,if_true,if_false,ite_self,Nat.reduceLT,Nat.reduceSub,Nat.reduceBEq,Nat.reduceEqDiff,Nat.reduceAdd,Nat.reduceLeDiff,reduceCtorEq,Nat.reduceMul]
    exact ⟨g5,g6⟩
  · have n5 : ¬ ks = q := by rintro rfl; rw [hS4.bs] at r2; cases r2
    rw [List.length_map] at q3
    obtain ⟨k0,k1,k2,σ6,σ7,σ8,g1,g2,g3,g4,g5,g6⟩ := key ((σ4.kill q).add 22 (.row 2 43 (l1.map encP ++ l2.map encP))) ((hS4.kill n5).add _ _) ((hF04.kill (by have := (hF1.trans hF2).clk; omega)).add _ _) (.inr ⟨(22,σ4.clk),by simp,by simp only [add_bs,kill_clk,if_true,List.map_append],Nat.zero_le _,by simp only [add_clk,kill_clk]; omega⟩)
    simp only [stg,List.map_cons,List.map_nil] at g2
    have htk : List.take l1.length (l1.map encP) = l1.map encP := List.take_of_length_le (by simp)
    have hbb : (l1.length + l2.length) * 16 ≤ 140737488355328 := by omega
    simp only [F109,s0,q1,q2,u2,q3,u3,q4,r2,fa2,hbb,htk,allP,g1,g2,g3,g4,p1,p3,List.length_map,evI_cl,clOk,ldKeeps,ldKeeps1,iasKeeps,rowK,nwKeeps,sameC,sameL,sameA,sameP,sameR,sameRR_rfl,decide_true,frA_ptr,capsOf,fxa,fxc,fxE,fxL,fxI,nxE,evO,evR,cellsT,ldCells,mkT,lenA,binPV,Env.init,resV,resT,frT,klT,ownT,intT,O.adds,ownA,rowsA,over,wrOk,keysT,keysA,ne_eq,if_true,if_false,ite_self,Nat.reduceLT,Nat.reduceSub,Nat.reduceBEq,Nat.reduceEqDiff,Nat.reduceAdd,Nat.reduceLeDiff,reduceCtorEq,Nat.reduceMul]
    exact ⟨g5,g6⟩
end Go.Proofs.Ytkpfjolcmkikeaa
end
section
set_option linter.unusedSimpArgs false
set_option linter.unusedVariables false
set_option maxHeartbeats 4000000
set_option maxRecDepth 10000
namespace Go.Proofs.Ytkpfjolcmkikeaa
open Go.Fx
theorem pickLoop0 {ks kq : Key} {n : Nt} {pl : Pl} {a b : Int} {l : List Pt} {q : Pt} {lv : AV} {c0 : Nat} {σ : St} (h : SG ks n pl a b σ) (hq : σ.bs kq = some (.var [.p (.i .i64 q.n),.p (.i .i64 q.s)])) (hkq : kq.2 < σ.clk)
    (hL : SL c0 2 43 (l.map encP) lv σ) (hlen : l.length ≤ 1000) (e : Env) (e3 : e 3 = .a (.ptr kq 0 0)) (e5 : e 5 = .a .nil) (e48 : e 48 = .a lv) (e49 : e 49 = .a (.p (.i .i64 (l.length : Nat)))) (e50 : e 50 = .a (.p (.i .i64 0))) :
    wp S false (.loop F105b0) e σ (fun x e' σ' => x = .exit 0 ∧ (∃ y,e' 5 = .a y ∧ SL σ.clk 2 43 ((l.filter fun r => !decide (r = q)).map encP) y σ') ∧ e' 0 = e 0 ∧ e' 2 = e 2 ∧ e' 3 = e 3 ∧ e' 4 = e 4 ∧ SG ks n pl a b σ' ∧ Fr ks σ σ') := by
  obtain ⟨c1,hc1⟩ : ∃ c,σ.clk = c := ⟨_,rfl⟩
  have hqs : kq ≠ ks := by rintro rfl; rw [h.bs] at hq; simp [stg] at hq
  have hlv : lv = .nil ∧ l = [] ∨ ∃ r : Key,lv = .own r 0 l.length ∧ σ.bs r = some (.row 2 43 (l.map encP)) ∧ r.2 < σ.clk := by
    rcases hL with ⟨e1,e2⟩ | ⟨r,e1,e2,e3,e4⟩
    · exact .inl ⟨e1,List.map_eq_nil_iff.1 e2⟩
    · exact .inr ⟨r,by simpa using e1,e2,e4⟩
  obtain ⟨u0,hu0⟩ : ∃ z,e 0 = z := ⟨_,rfl⟩
  obtain ⟨u2,hu2⟩ : ∃ z,e 2 = z := ⟨_,rfl⟩
  obtain ⟨u4,hu4⟩ : ∃ z,e 4 = z := ⟨_,rfl⟩
  rw [hu0,hu2,hu4,e3]
  refine loop_nat l.length (fun k e τ => e 0 = u0 ∧ e 2 = u2 ∧ e 4 = u4 ∧ e 3 = .a (.ptr kq 0 0) ∧ e 48 = .a lv ∧ e 49 = .a (.p (.i .i64 (l.length : Nat))) ∧ e 50 = .a (.p (.i .i64 (k : Nat))) ∧ SG ks n pl a b τ ∧ Fr ks σ τ ∧
    ∃ y,e 5 = .a y ∧ SL c1 2 43 (((l.take k).filter fun r => !decide (r = q)).map encP) y τ) (i0 := 0) (Nat.zero_le _) ⟨hu0,hu2,hu4,e3,e48,e49,e50,h,Fr.refl ks σ,.nil,e5,.inl ⟨rfl,rfl⟩⟩ ?_ ?_
  · rintro k e τ hk ⟨e0,e2,e4,e3,e48,e49,e50,hS,hF,y,e5,hy⟩
    obtain ⟨p,hp⟩ : ∃ p,l[k]? = some p := ⟨_,List.getElem?_eq_getElem hk⟩
    have hp' := mapGet encP hp
    have hlt : ((k : Nat) : Int) < (l.length : Int) := by omega
    have hge : (0 : Int) ≤ ((k : Nat) : Int) := by omega
    have hw : IntKind.i64.wrap ((k : Int) + 1) = ((k + 1 : Nat) : Int) := wrap_succ k (by omega)
    obtain ⟨r,rfl,r2,r3⟩ : ∃ r : Key,lv = .own r 0 l.length ∧ σ.bs r = some (.row 2 43 (l.map encP)) ∧ r.2 < σ.clk := by
      rcases hlv with ⟨_,e⟩ | h
      · rw [e] at hk; simp at hk
      · exact h
    have nr : r ≠ ks := by rintro rfl; rw [h.bs] at r2; cases r2
    have tr := (hF.bs r r3 nr).trans r2
    have tq := (hF.bs kq hkq hqs).trans hq
    have hcl := hF.clk
    have nn : ∀ {k : Key},k.2 < σ.clk → ∀ d,¬ k = (d,τ.clk) := by rintro k hk d rfl; simp at hk; omega
    have nq7 := nn hkq 7
    have nr7 := nn r3 7
    have htk : l.take (k + 1) = l.take k ++ [p] := by rw [List.take_add_one,hp]; rfl
    have hd := ptEq p q
    simp only [encP] at hp'
    obtain ⟨fl,hfl⟩ : ∃ fl,(l.take k).filter (fun r => !decide (r = q)) = fl := ⟨_,rfl⟩
    have hfn : fl.length ≤ 1000 := by rw [← hfl]; have := List.length_filter_le (fun r => !decide (r = q)) (l.take k); rw [List.length_take] at this; omega
    rw [hfl] at hy
    by_cases hpq : p = q
    · have hd2 : decide (p = q) = true := decide_eq_true hpq
      rw [hd2] at hd
      have hsu : (l.take (k + 1)).filter (fun r => !decide (r = q)) = fl := by rw [htk,List.filter_append,hfl]; simp [hpq]
      rw [hsu]
      simp only [F105b0,e0,e2,e3,e4,e5,e48,e49,e50,hlt,hge,tr,tq,hp',hw,hd,nq7,nr7,frA_ptr,rowK,Int.toNat_natCast,Nat.zero_add,List.length_map,fxa,fxc,fxE,fxL,fxI,nxE,evO,evR,cellsT,ldCells,mkT,lenA,binPV,Env.init,resV,resT,frT,klT,ownT,intT,O.adds,ownA,rowsA,over,wrOk,keysT,keysA,ne_eq,if_true,if_false,ite_self,Nat.reduceLT,Nat.reduceSub,Nat.reduceBEq,Nat.reduceEqDiff,Nat.reduceAdd,Nat.reduceLeDiff,reduceCtorEq,Nat.reduceMul]
      refine ⟨(hS.add _ _).put (by intro e; have := hS.lt; rw [e] at this; simp at this) _,(hF.add _ _).put (.inr (by simp only; omega)) _,y,rfl,?_⟩
      rcases hy with hy | ⟨s,s1,s2,s3,s4⟩
      · exact .inl hy
      · have ns : ¬ s = (7,τ.clk) := by rintro rfl; simp at s4
        exact .inr ⟨s,s1,by simp only [put_bs,add_bs,ns,if_false]; exact s2,s3,by simp only [put_clk,add_clk]; omega⟩
    · have hd2 : decide (p = q) = false := decide_eq_false hpq
      rw [hd2] at hd
      have hsu : (l.take (k + 1)).filter (fun r => !decide (r = q)) = fl ++ [p] := by rw [htk,List.filter_append,hfl]; simp [hpq]
      rw [hsu]
      have hSn : SG ks n pl a b (((τ.add 7 (.var [.p (.i .i64 0),.p (.i .i64 0)])).put (7,τ.clk) (.var [.p (.i .i64 p.n),.p (.i .i64 p.s)])).add 59 (.row 2 43 [[.i .i64 p.n,.i .i64 p.s]])) := ((hS.add _ _).put (by intro e; have := hS.lt; rw [e] at this; simp at this) _).add _ _
      have hFn : Fr ks σ (((τ.add 7 (.var [.p (.i .i64 0),.p (.i .i64 0)])).put (7,τ.clk) (.var [.p (.i .i64 p.n),.p (.i .i64 p.s)])).add 59 (.row 2 43 [[.i .i64 p.n,.i .i64 p.s]])) := ((hF.add _ _).put (.inr (by simp only; omega)) _).add _ _
      rcases hy with ⟨rfl,hr⟩ | ⟨s,rfl,s2,s3,s4⟩
      · have hr2 : fl = [] := List.map_eq_nil_iff.1 hr
        subst hr2
        simp only [F105b0,e0,e2,e3,e4,e5,e48,e49,e50,hlt,hge,tr,tq,hp',hw,hd,nq7,nr7,frA_ptr,rowK,Int.toNat_natCast,Nat.zero_add,Nat.one_mul,Nat.zero_lt_one,List.length_map,fxa,fxc,fxE,fxL,fxI,nxE,evO,evR,cellsT,ldCells,mkT,lenA,binPV,Env.init,resV,resT,frT,klT,ownT,intT,O.adds,ownA,rowsA,over,wrOk,keysT,keysA,ne_eq,if_true,if_false,ite_self,Nat.reduceLT,Nat.reduceSub,Nat.reduceBEq,Nat.reduceEqDiff,Nat.reduceAdd,Nat.reduceLeDiff,reduceCtorEq,Nat.reduceMul]
        exact ⟨hSn.add _ _,hFn.add _ _,_,rfl,.inr ⟨(60,τ.clk + 1 + 1),rfl,by simp only [add_bs,add_clk,put_clk,if_true,encP,List.map_cons,List.map_nil,List.nil_append],by simp only; omega,by simp only [add_clk,put_clk]; omega⟩⟩
      · have ns7 : ¬ s = (7,τ.clk) := by rintro rfl; simp at s4
        have ns59 : ¬ s = (59,τ.clk + 1) := by rintro rfl; simp at s4; omega
        have n2 : ¬ ks = s := by rintro rfl; rw [hS.bs] at s2; cases s2
        have htk2 : List.take fl.length (fl.map encP) = fl.map encP := List.take_of_length_le (by simp)
        have hbb : (fl.length + 1) * 16 ≤ 140737488355328 := by omega
        rw [List.length_map] at e5
        simp only [F105b0,e0,e2,e3,e4,e5,e48,e49,e50,hlt,hge,tr,tq,hp',hw,hd,nq7,nr7,s2,ns7,ns59,htk2,hbb,frA_ptr,rowK,Int.toNat_natCast,Nat.zero_add,Nat.one_mul,Nat.zero_lt_one,List.length_map,fxa,fxc,fxE,fxL,fxI,nxE,evO,evR,cellsT,ldCells,mkT,lenA,binPV,Env.init,resV,resT,frT,klT,ownT,intT,O.adds,ownA,rowsA,over,wrOk,keysT,keysA,ne_eq,if_true,if_false,ite_self,Nat.reduceLT,Nat.reduceSub,Nat.reduceBEq,Nat.reduceEqDiff,Nat.reduceAdd,Nat.reduceLeDiff,reduceCtorEq,Nat.reduceMul]
        exact ⟨(hSn.kill n2).add _ _,(hFn.kill (by omega)).add _ _,_,rfl,.inr ⟨(60,τ.clk + 1 + 1),by simp,by simp only [add_bs,add_clk,put_clk,kill_clk,if_true,List.map_append,List.map_cons,List.map_nil,encP],by simp only; omega,by simp only [add_clk,put_clk,kill_clk]; omega⟩⟩
  · rintro e τ ⟨e0,e2,e4,e3,e48,e49,e50,hS,hF,y,e5,hy⟩
    have hlt : ¬ ((l.length : Nat) : Int) < (l.length : Int) := by omega
    rw [List.take_length] at hy
    simp only [F105b0,e0,e2,e3,e4,e5,e48,e49,e50,hlt,fxa,fxc,fxE,fxL,fxI,nxE,evO,evR,cellsT,ldCells,mkT,lenA,binPV,Env.init,resV,resT,frT,klT,ownT,intT,O.adds,ownA,rowsA,over,wrOk,keysT,keysA,ne_eq,if_true,if_false,ite_self,Nat.reduceLT,Nat.reduceSub,Nat.reduceBEq,Nat.reduceEqDiff,Nat.reduceAdd,Nat.reduceLeDiff,reduceCtorEq,Nat.reduceMul]
    exact ⟨⟨y,rfl,hc1 ▸ hy⟩,hS,hF⟩
theorem pickLoop1 {ks : Key} {n m0 : Nt} {pl : Pl} {a b : Int} {B : Nat} {apps : List Int} {lv : AV} {c0 : Nat} {σ : St} (hT : Two n a b B) (hm0 : m0.Ok) (h : SG ks m0 pl a b σ)
    (hL : SL c0 1 3 (apps.map encI) lv σ) (hd : ∀ d ∈ apps,wf d) (hlen : apps.length ≤ 500) (e : Env) (e0 : e 0 = .a (.ptr ks 0 0)) (e2 : e 2 = .a (.p (.i .i64 (apps.length : Nat)))) (e4 : e 4 = .a lv) (e82 : e 82 = .a lv)
    (e83 : e 83 = .a (.p (.i .i64 (apps.length : Nat)))) (e84 : e 84 = .a (.p (.i .i64 0))) :
    wp S false (.loop F105b1) e σ (fun x e' σ' => x = .exit 2 ∧ e' 8 = e 8 ∧ SG ks (runs m0 (pickOps a b 0 apps)) pl a b σ' ∧ Fr ks σ σ' ∧ (runs m0 (pickOps a b 0 apps)).Ok) := by
  have hlv : lv = .nil ∧ apps = [] ∨ ∃ r : Key,lv = .own r 0 apps.length ∧ σ.bs r = some (.row 1 3 (apps.map encI)) ∧ r.2 < σ.clk := by
    rcases hL with ⟨e1,e2⟩ | ⟨r,e1,e2,e3,e4⟩
    · exact .inl ⟨e1,List.map_eq_nil_iff.1 e2⟩
    · exact .inr ⟨r,by simpa using e1,e2,e4⟩
  obtain ⟨u8,hu8⟩ : ∃ z,e 8 = z := ⟨_,rfl⟩
  rw [hu8]
  refine loop_nat apps.length (fun i e τ => e 8 = u8 ∧ e 0 = .a (.ptr ks 0 0) ∧ e 2 = .a (.p (.i .i64 (apps.length : Nat))) ∧ e 4 = .a lv ∧ e 82 = .a lv ∧ e 83 = .a (.p (.i .i64 (apps.length : Nat))) ∧ e 84 = .a (.p (.i .i64 (i : Nat))) ∧
    ∃ m,m.Ok ∧ SG ks m pl a b τ ∧ Fr ks σ τ ∧ runs m (pickOps a b i (apps.drop i)) = runs m0 (pickOps a b 0 apps)) (i0 := 0) (Nat.zero_le _) ⟨hu8,e0,e2,e4,e82,e83,e84,m0,hm0,h,Fr.refl ks σ,by rw [List.drop_zero]⟩ ?_ ?_
  · rintro i e τ hi ⟨e8,e0,e2,e4,e82,e83,e84,m,hm,hS,hF,hR⟩
    obtain ⟨d,hdi⟩ : ∃ d,apps[i]? = some d := ⟨_,List.getElem?_eq_getElem hi⟩
    have hd' := mapGet encI hdi
    have wd := hd d (List.mem_of_getElem? hdi)
    have hlt : ((i : Nat) : Int) < (apps.length : Int) := by omega
    have hge : (0 : Int) ≤ ((i : Nat) : Int) := by omega
    have hge1 : (0 : Int) ≤ ((i : Nat) : Int) + 1 := by omega
    have hw : IntKind.i64.wrap ((i : Int) + 1) = (i : Int) + 1 := wrap_in _ (by omega)
    have htn : ((i : Int) + 1).toNat = i + 1 := by omega
    obtain ⟨r,rfl,r2,r3⟩ : ∃ r : Key,lv = .own r 0 apps.length ∧ σ.bs r = some (.row 1 3 (apps.map encI)) ∧ r.2 < σ.clk := by
      rcases hlv with ⟨_,e⟩ | h
      · rw [e] at hi; simp at hi
      · exact h
    have nr : r ≠ ks := by rintro rfl; rw [h.bs] at r2; cases r2
    have tr := (hF.bs r r3 nr).trans r2
    have t1 := hS.bs
    simp only [stg,List.map_cons,List.map_nil] at t1
    obtain ⟨τ1,c1,hS1,hF1⟩ := aMove_ok (p := ⟨b,(i : Int) + 1⟩) (q := ⟨d,2⟩) hm (hT.pb (by omega) (by omega)) ⟨wd,by show wf 2; decide⟩ hS
    have tr1 := (hF1.bs r (Nat.lt_of_lt_of_le r3 hF.clk) nr).trans tr
    have t2 := hS1.bs
    simp only [stg,List.map_cons,List.map_nil] at t2
    have hm1 := moveR_Ok (p := ⟨b,(i : Int) + 1⟩) (q := ⟨d,2⟩) hm (hT.pb (by omega) (by omega)) ⟨wd,by show wf 2; decide⟩
    have p1 := port_ok b ((i : Int) + 1)
    have p2 := port_ok d 2
    have p3 := port_ok d 1
    have hdr : apps.drop i = d :: apps.drop (i + 1) := by
      rw [List.drop_eq_getElem_cons hi]
      obtain ⟨_,h2⟩ := List.getElem?_eq_some_iff.1 hdi
      rw [h2]
    rw [hdr] at hR
    simp only [encI] at hd'
    by_cases hl : i + 1 < apps.length
    · obtain ⟨f,hfi⟩ : ∃ f,apps[i + 1]? = some f := ⟨_,List.getElem?_eq_getElem hl⟩
      have hf' := mapGet encI hfi
      have wf' := hd f (List.mem_of_getElem? hfi)
      have hlt2 : ((i : Nat) : Int) + 1 < (apps.length : Int) := by omega
      have hdr2 : apps.drop (i + 1) = f :: apps.drop (i + 1 + 1) := by
        rw [List.drop_eq_getElem_cons hl]
        obtain ⟨_,h2⟩ := List.getElem?_eq_some_iff.1 hfi
        rw [h2]
      obtain ⟨τ2,c2,hS2,hF2⟩ := aLink_ok (p := ⟨d,1⟩) (q := ⟨f,0⟩) hm1 ⟨wd,wf_1⟩ ⟨wf',wf_0⟩ hS1
      have hm2 := linkR_Ok (p := ⟨d,1⟩) (q := ⟨f,0⟩) hm1 ⟨wd,wf_1⟩ ⟨wf',wf_0⟩
      have p4 := port_ok f 0
      simp only [encI] at hf'
      simp only [F105b1,e0,e2,e4,e8,e82,e83,e84,hlt,hlt2,hge,hge1,htn,hw,tr,tr1,t1,t2,hd',hf',c1,c2,p1,p2,p3,p4,frA_ptr,rowK,Int.toNat_natCast,Nat.zero_add,List.length_map,fxa,fxc,fxE,fxL,fxI,nxE,evO,evR,cellsT,ldCells,mkT,lenA,binPV,Env.init,resV,resT,frT,klT,ownT,intT,O.adds,ownA,rowsA,over,wrOk,keysT,keysA,ne_eq,if_true,if_false,ite_self,Nat.reduceLT,Nat.reduceSub,Nat.reduceBEq,Nat.reduceEqDiff,Nat.reduceAdd,Nat.reduceLeDiff,reduceCtorEq,Nat.reduceMul]
      refine ⟨rfl,_,hm2,hS2,(hF.trans hF1).trans hF2,?_⟩
      rw [hdr2] at hR ⊢
      exact hR
    · have hlt2 : ¬ ((i : Nat) : Int) + 1 < (apps.length : Int) := by omega
      have hdr2 : apps.drop (i + 1) = [] := List.drop_eq_nil_of_le (by omega)
      obtain ⟨τ2,c2,hS2,hF2⟩ := aMove_ok (p := ⟨a,1⟩) (q := ⟨d,1⟩) hm1 (hT.pa (by omega) (by omega)) ⟨wd,wf_1⟩ hS1
      have hm2 := moveR_Ok (p := ⟨a,1⟩) (q := ⟨d,1⟩) hm1 (hT.pa (by omega) (by omega)) ⟨wd,wf_1⟩
      have p4 := port_ok a 1
      simp only [F105b1,e0,e2,e4,e8,e82,e83,e84,hlt,hlt2,hge,hge1,htn,hw,tr,tr1,t1,t2,hd',c1,c2,p1,p2,p3,p4,frA_ptr,rowK,Int.toNat_natCast,Nat.zero_add,List.length_map,fxa,fxc,fxE,fxL,fxI,nxE,evO,evR,cellsT,ldCells,mkT,lenA,binPV,Env.init,resV,resT,frT,klT,ownT,intT,O.adds,ownA,rowsA,over,wrOk,keysT,keysA,ne_eq,if_true,if_false,ite_self,Nat.reduceLT,Nat.reduceSub,Nat.reduceBEq,Nat.reduceEqDiff,Nat.reduceAdd,Nat.reduceLeDiff,reduceCtorEq,Nat.reduceMul]
      refine ⟨rfl,_,hm2,hS2,(hF.trans hF1).trans hF2,?_⟩
      rw [hdr2] at hR ⊢
      exact hR
  · rintro e τ ⟨e8,e0,e2,e4,e82,e83,e84,m,hm,hS,hF,hR⟩
    have hlt : ¬ ((apps.length : Nat) : Int) < (apps.length : Int) := by omega
    rw [List.drop_length] at hR
    simp only [F105b1,e0,e2,e4,e8,e82,e83,e84,hlt,fxa,fxc,fxE,fxL,fxI,nxE,evO,evR,cellsT,ldCells,mkT,lenA,binPV,Env.init,resV,resT,frT,klT,ownT,intT,O.adds,ownA,rowsA,over,wrOk,keysT,keysA,ne_eq,if_true,if_false,ite_self,Nat.reduceLT,Nat.reduceSub,Nat.reduceBEq,Nat.reduceEqDiff,Nat.reduceAdd,Nat.reduceLeDiff,reduceCtorEq,Nat.reduceMul]
    have hR : m = runs m0 (pickOps a b 0 apps) := hR
    exact ⟨by rw [← hR]; exact hS,hF,by rw [← hR]; exact hm⟩
theorem aPick_ok {ks : Key} {n : Nt} {pl : Pl} {a b : Int} {B : Nat} {i : Nat} {A : Ar} {σ : St} (hT : Two n a b B) (hB : B ≤ 80000) (hi : pl.alt = (i : Nat)) (hA : (n.nd a).al[i]? = some A) (hk0 : 0 ≤ A.n) (hk1 : A.n ≤ 100) (hal : (n.nd a).al.length ≤ 100) (h : SG ks n pl a b σ) :
    ∃ σ',eS S (.f 105) [.a (.ptr ks 0 0)] σ = some (.u,σ') ∧ SG ks (pickD n pl.alt a b) pl a b σ' ∧ Fr ks σ σ' := by
  have hn := hT.ok
  have hbg := hT.big
  have hil := (List.getElem?_eq_some_iff.1 hA).1
  obtain ⟨k,hk⟩ : ∃ k : Nat,A.n = k := ⟨A.n.toNat,by omega⟩
  obtain ⟨c,hc⟩ : ∃ c,σ.clk = c := ⟨_,rfl⟩
  have hlt := h.lt
  have nk : ∀ d,¬ ks = (d,c) := by rintro d rfl; simp at hlt; omega
  have s0 := h.bs
  obtain ⟨σ0,hσ0⟩ : ∃ σ0,σ0 = σ.add 3 (.var [.p (.i .i64 0),.p (.i .i64 0)]) := ⟨_,rfl⟩
  have hS0 : SG ks n pl a b σ0 := by rw [hσ0]; exact h.add _ _
  have hF0 : Fr ks σ σ0 := by rw [hσ0]; exact (Fr.refl ks σ).add _ _
  have hcl0 : σ0.clk = c + 1 := by rw [hσ0]; simp only [add_clk]; omega
  have b3 : σ0.bs (3,c) = some (.var [.p (.i .i64 0),.p (.i .i64 0)]) := by rw [hσ0]; simp [add_bs,hc]
  obtain ⟨σ1,q1,hS1,hF1⟩ := aNode_ok hT.a0 hT.a1 hS0
  have b31 := (hF1.bs (3,c) (by simp only; omega) (fun e => nk 3 e.symm)).trans b3
  have hcl1 := hF1.clk
  obtain ⟨σ2,hσ2⟩ : ∃ σ2,σ2 = σ1.put (3,c) (.var [.p (.i .i64 a),.p (.i .i64 ((i : Int) + 2))]) := ⟨_,rfl⟩
  have hS2 : SG ks n pl a b σ2 := by rw [hσ2]; exact hS1.put (nk 3) _
  have hF2 : Fr ks σ σ2 := by rw [hσ2]; exact (hF0.trans hF1).put (.inr (by simp only; omega)) _
  have b32 : σ2.bs (3,c) = some (.var [.p (.i .i64 a),.p (.i .i64 ((i : Int) + 2))]) := by rw [hσ2]; simp [put_bs]
  have hcl2 : σ2.clk = σ1.clk := by rw [hσ2]; rfl
  obtain ⟨σ3,q3,hS3,hF3⟩ := aLevel_ok hT.a0 hT.a1 hS2
  have hax : (appN (n.nd a).lv).Ok := ⟨by show wf 3; decide,hT.xa.lv,by show wf 0; decide,by simp [appN],by simp [appN],by simp [appN],by simp [appN],by simp [appN]⟩
  obtain ⟨σ4,v4,q4,hS4,hF4,hL4⟩ := aLike_ok (x := appN (n.nd a).lv) (m := k) hn hax NC.nil NC.nil (by omega) hS3
  obtain ⟨hT1,ea,eb⟩ := hT.like hax k (by omega)
  have hAD : (n.nd a).al.getD i zA = A := by rw [List.getD_eq_getElem?_getD,hA]; rfl
  have wap := likeR_wf hn hax k (by omega)
  have lap := (likeR_Ok hn hax k (by omega)).2.2
  have hD : pickD n pl.alt a b = (let r1 := likeR n (appN (n.nd a).lv) k
    let l := restR r1.1 a i
    let r2 := likeR r1.1 (dropN (r1.1.nd a).lv) l.length
    let m := match r1.2 with
      | [] => (joinR r2.1 ⟨a,(i : Int) + 2⟩ ⟨a,1⟩).1
      | d :: _ => (moveR r2.1 ⟨a,(i : Int) + 2⟩ ⟨d,0⟩).1
    runs (runs m (pickOps a b 0 r1.2)) (dropOps l r2.2)) := by
    unfold pickD; simp only [hi,Int.toNat_natCast,hAD,hk]; try rfl
  obtain ⟨⟨m1,apps⟩,hr⟩ : ∃ r,likeR n (appN (n.nd a).lv) k = r := ⟨_,rfl⟩
  rw [hr] at hS4 hL4 hT1 ea eb hD wap lap
  simp only at hS4 hL4 hT1 ea eb hD wap lap
  have hbg1 := hT1.big
  obtain ⟨σ5,v5,q5,hS5,hF5,hL5⟩ := aOthers_ok (j := 2) (jz := 2) rfl (by omega) hT1.a0 hT1.a1 hT1.xa.to hS4
  obtain ⟨l0,hl0⟩ : ∃ l,portsR a 2 (m1.nd a).to.length = l := ⟨_,rfl⟩
  have nl0 : l0.length ≤ 100 := by rw [← hl0,portsR_len]; have := hT1.ta; omega
  rw [hl0] at hL5
  have hl1 : restR m1 a i = l0.filter fun r => !decide (r = ⟨a,(i : Int) + 2⟩) := by unfold restR; rw [hl0]
  obtain ⟨l,hl2⟩ : ∃ l,l0.filter (fun r => !decide (r = ⟨a,(i : Int) + 2⟩)) = l := ⟨_,rfl⟩
  rw [hl1,hl2] at hD
  have nl : l.length ≤ 100 := by rw [← hl2]; have := List.length_filter_le (fun r => !decide (r = (⟨a,(i : Int) + 2⟩ : Pt))) l0; omega
  have wl : ∀ p ∈ l,wfP p := by
    intro p hp
    rw [← hl2] at hp
    have := (List.mem_filter.1 hp).1
    rw [← hl0] at this
    exact (portsR_wf hT1 (by have := hT1.ta; omega)).1 p this
  have b34 := (hF4.bs (3,c) (by have := hF3.clk; simp only; omega) (fun e => nk 3 e.symm)).trans ((hF3.bs (3,c) (by simp only; omega) (fun e => nk 3 e.symm)).trans b32)
  have b35 := (hF5.bs (3,c) (by have := hF3.clk; have := hF4.clk; simp only; omega) (fun e => nk 3 e.symm)).trans b34
  have hF05 := ((hF2.trans hF3).trans hF4).trans hF5
  have hc5 : c < σ5.clk := by have := hF3.clk; have := hF4.clk; have := hF5.clk; omega
  have hL45 := hL4.fr hS4 hF5
  have u0 := hS0.bs
  have u1 := hS1.bs
  have u3 := hS3.bs
  have u4 := hS4.bs
  have gA := mapGet encA hA
  have p1 := port_ok a ((i : Int) + 2)
  have p2 := port_ok a 1
  have hw : IntKind.i64.wrap ((i : Int) + 2) = (i : Int) + 2 := wrap_in _ (by omega)
  have hge : (0 : Int) ≤ (i : Int) := by omega
  have hlti : (i : Int) < ((n.nd a).al.length : Int) := by omega
  obtain ⟨x,hx⟩ : ∃ x,n.nd a = x := ⟨_,rfl⟩
  rw [hx] at q1 q3 q4 gA hlti
  simp only [stg,List.map_cons,List.map_nil,hi] at s0 u0 u1 u3 u4
  simp only [encN,List.map_cons,List.map_nil] at q1
  simp only [appN] at q4
  simp only [encA] at gA
  refine x_fnR (fc := F105) rfl rfl ?_
  have hb2 : ∀ {τ : St},Fr ks σ5 τ → τ.bs (3,c) = some (.var [.p (.i .i64 a),.p (.i .i64 ((i : Int) + 2))]) := fun hF => (hF.bs (3,c) hc5 (fun e => nk 3 e.symm)).trans b35
  obtain ⟨Z,hZ⟩ : ∃ Z : C,(.seq (.seq (.reg [
  ia 82 (.mv (.t 4)),ia 83 (.len false (.t 82)),ia 84 (.mv (ci 0))]) (.block 2 (.loop F105b1))) (.reg [
  ia 124 (.mv (.t 8)),ia 125 (.call (.t 124) [])])) = Z := ⟨_,rfl⟩
  have rest : ∀ (e : Env) (σ6 : St) (y : AV),e 0 = .a (.ptr ks 0 0) → e 2 = .a (.p (.i .i64 (k : Nat))) → e 3 = .a (.ptr (3,c) 0 0) → e 4 = .a v4 → e 5 = .a y → SL σ5.clk 2 43 (l.map encP) y σ6 → SG ks m1 pl a b σ6 → Fr ks σ5 σ6 →
      wp S false (.seq (.reg [
  ia 62 (.mv (.t 0)),ia 63 (.mv (.t 5)),ia 64 (.call (.f 111) [(.t 62),(.t 63)]),ia 8 (.mv (.t 64))]) (.seq (.seq (.reg [
  ia 65 (.mv (.t 2)),ia 66 (.bin .eql (.t 65) (ci 0))]) (.cond (.t 66) (.reg [
  ir 67 (.mv (.t 0)),ir 68 (.ld 2 true (.t 3)),ir 69 (.mv (.t 0)),ir 70 (.nck (.t 69)),ir 71 (.fad 12 (.t 70)),ir 72 (.ld 1 false (.t 71)),ir 73 (.call (.f 95) [(.t 72),(ci 1)]),ia 74 (.call (.f 133) [(.t 67),(.t 68),(.t 73)])]) (.reg [
  ir 75 (.mv (.t 0)),ir 76 (.ld 2 true (.t 3)),ir 77 (.mv (.t 4)),ir 78 (.ias 1 (.t 77) (ci 0)),ir 79 (.ld 1 false (.t 78)),ir 80 (.call (.f 95) [(.t 79),(ci 0)]),ia 81 (.call (.f 107) [(.t 75),(.t 76),(.t 80)])]))) Z)) e σ6 (RetS [] fun v σ' => v = .u ∧ SG ks (pickD n pl.alt a b) pl a b σ' ∧ Fr ks σ σ') := by
    intro e σ6 y e0 e2 e3 e4 e5 hy hS6 hF6
    obtain ⟨σ7,f,q7,hS7,hF7,hDC⟩ := aDrop_ok (l := l) hT1.ok (by omega) hT1.a0 hT1.a1 hS6 hy
    have hdx := dropN_Ok hT1.xa.lv
    obtain ⟨hOk2,o2,o3⟩ := likeR_Ok hT1.ok hdx l.length (by omega)
    have wds := likeR_wf hT1.ok hdx l.length (by omega)
    obtain ⟨⟨m2,ds⟩,hr2⟩ : ∃ r,likeR m1 (dropN (m1.nd a).lv) l.length = r := ⟨_,rfl⟩
    rw [hr2] at hS7 hDC hOk2 o3 wds hD
    simp only at hS7 hDC hOk2 o3 wds hD
    have b37 := hb2 (hF6.trans hF7)
    have hL47 := (hL45.fr hS5 hF6).fr hS6 hF7
    have u7 := hS7.bs
    simp only [stg,List.map_cons,List.map_nil] at u7
    have w1 : wfP ⟨a,(i : Int) + 2⟩ := hT.pa (by omega) (by omega)
    have w2 : wfP ⟨a,1⟩ := hT.pa (by omega) (by omega)
    have fin : ∀ (m3 : Nt) (σ8 : St) (e : Env),m3.Ok → SG ks m3 pl a b σ8 → Fr ks σ7 σ8 → pickD n pl.alt a b = runs (runs m3 (pickOps a b 0 apps)) (dropOps l ds) → e 0 = .a (.ptr ks 0 0) → e 2 = .a (.p (.i .i64 (k : Nat))) → e 4 = .a v4 → e 8 = .a f →
        wp S false Z e σ8 (RetS [] fun v σ' => v = .u ∧ SG ks (pickD n pl.alt a b) pl a b σ' ∧ Fr ks σ σ') := by
      rw [← hZ]
      intro m3 σ8 e hm3 hS8 hF8 hD2 e0 e2 e4 e8
      have hL48 := hL47.fr hS7 hF8
      have hop : v4 = .nil ∧ apps.length = 0 ∨ ∃ r : Key,v4 = .own r 0 apps.length := by
        rcases hL48 with ⟨e1,e2⟩ | ⟨r,e1,_,_,_⟩
        · exact .inl ⟨e1,by rw [List.map_eq_nil_iff.1 e2]; rfl⟩
        · exact .inr ⟨r,by simpa using e1⟩
      rcases hop with ⟨rfl,ha0⟩ | ⟨r,rfl⟩
      all_goals
        simp only [e0,e2,e4,e8,fxa,fxc,fxE,fxL,fxI,nxE,evO,evR,cellsT,ldCells,mkT,lenA,binPV,Env.init,resV,resT,frT,klT,ownT,intT,O.adds,ownA,rowsA,over,wrOk,keysT,keysA,ne_eq,if_true,if_false,ite_self,Nat.reduceLT,Nat.reduceSub,Nat.reduceBEq,Nat.reduceEqDiff,Nat.reduceAdd,Nat.reduceLeDiff,reduceCtorEq,Nat.reduceMul]
        refine Go.Fx.wp_mono (pickLoop1 (n := n) hT hm3 hS8 hL48 wap (by omega) _ ?_ ?_ ?_ ?_ ?_ ?_) ?_
        all_goals first
          | (simp only [e0,e2,e4,lap,fxa,fxc,fxE,fxL,fxI,nxE,evO,evR,cellsT,ldCells,mkT,lenA,binPV,Env.init,resV,resT,frT,klT,ownT,intT,O.adds,ownA,rowsA,over,wrOk,keysT,keysA,ne_eq,if_true,if_false,ite_self,Nat.reduceLT,Nat.reduceSub,Nat.reduceBEq,Nat.reduceEqDiff,Nat.reduceAdd,Nat.reduceLeDiff,reduceCtorEq,Nat.reduceMul]; done)
          | (simp only [ha0,fxa,fxc,fxE,fxL,fxI,nxE,evO,evR,cellsT,ldCells,mkT,lenA,binPV,Env.init,resV,resT,frT,klT,ownT,intT,O.adds,ownA,rowsA,over,wrOk,keysT,keysA,ne_eq,if_true,if_false,ite_self,Nat.reduceLT,Nat.reduceSub,Nat.reduceBEq,Nat.reduceEqDiff,Nat.reduceAdd,Nat.reduceLeDiff,reduceCtorEq,Nat.reduceMul]; done)
          | skip
        rintro x e' σ9 ⟨rfl,g8,hS9,hF9,hm9⟩
        simp only [e8,fxa,fxc,fxE,fxL,fxI,nxE,evO,evR,cellsT,ldCells,mkT,lenA,binPV,Env.init,resV,resT,frT,klT,ownT,intT,O.adds,ownA,rowsA,over,wrOk,keysT,keysA,ne_eq,if_true,if_false,ite_self,Nat.reduceLT,Nat.reduceSub,Nat.reduceBEq,Nat.reduceEqDiff,Nat.reduceAdd,Nat.reduceLeDiff,reduceCtorEq,Nat.reduceMul] at g8
        obtain ⟨k0,k1,k2,σ10,rfl,q10,hS10,hF10⟩ := aCall_ok hm9 wl wds (by omega) (by omega) hS9 (hDC.fr hS7 (hF8.trans hF9))
        simp only [g8,q10,fxa,fxc,fxE,fxL,fxI,nxE,evO,evR,cellsT,ldCells,mkT,lenA,binPV,Env.init,resV,resT,frT,klT,ownT,intT,O.adds,ownA,rowsA,over,wrOk,keysT,keysA,ne_eq,if_true,if_false,ite_self,Nat.reduceLT,Nat.reduceSub,Nat.reduceBEq,Nat.reduceEqDiff,Nat.reduceAdd,Nat.reduceLeDiff,reduceCtorEq,Nat.reduceMul]
        exact ⟨by rw [hD2]; exact hS10,hF05.trans (hF6.trans (hF7.trans (hF8.trans (hF9.trans hF10))))⟩
    rcases apps with _ | ⟨d,r⟩
    · have hk00 : (((k : Nat) : Int) = 0) = True := by have : k = 0 := lap.symm; rw [this]; simp
      obtain ⟨σ8,q8,hS8,hF8⟩ := aJoin_ok (p := ⟨a,(i : Int) + 2⟩) (q := ⟨a,1⟩) hOk2 w1 w2 hS7
      simp only [e0,e2,e3,e4,e5,q7,b37,u7,hk00,p2,q8,evI_cl,clOk,ldKeeps,ldKeeps1,iasKeeps,rowK,nwKeeps,sameC,sameL,sameA,sameP,sameR,sameRR_rfl,decide_true,frA_ptr,capsOf,fxa,fxc,fxE,fxL,fxI,nxE,evO,evR,cellsT,ldCells,mkT,lenA,binPV,Env.init,resV,resT,frT,klT,ownT,intT,O.adds,ownA,rowsA,over,wrOk,keysT,keysA,ne_eq,if_true,if_false,ite_self,Nat.reduceLT,Nat.reduceSub,Nat.reduceBEq,Nat.reduceEqDiff,Nat.reduceAdd,Nat.reduceLeDiff,reduceCtorEq,Nat.reduceMul]
      exact fin _ _ _ (joinR_Ok hOk2 w1 w2) hS8 hF8 hD (by simp only [e0,fxa,fxc,fxE,fxL,fxI,nxE,evO,evR,cellsT,ldCells,mkT,lenA,binPV,Env.init,resV,resT,frT,klT,ownT,intT,O.adds,ownA,rowsA,over,wrOk,keysT,keysA,ne_eq,if_true,if_false,ite_self,Nat.reduceLT,Nat.reduceSub,Nat.reduceBEq,Nat.reduceEqDiff,Nat.reduceAdd,Nat.reduceLeDiff,reduceCtorEq,Nat.reduceMul]) (by simp only [e2,fxa,fxc,fxE,fxL,fxI,nxE,evO,evR,cellsT,ldCells,mkT,lenA,binPV,Env.init,resV,resT,frT,klT,ownT,intT,O.adds,ownA,rowsA,over,wrOk,keysT,keysA,ne_eq,if_true,if_false,ite_self,Nat.reduceLT,Nat.reduceSub,Nat.reduceBEq,Nat.reduceEqDiff,Nat.reduceAdd,Nat.reduceLeDiff,reduceCtorEq,Nat.reduceMul]) (by simp only [e4,fxa,fxc,fxE,fxL,fxI,nxE,evO,evR,cellsT,ldCells,mkT,lenA,binPV,Env.init,resV,resT,frT,klT,ownT,intT,O.adds,ownA,rowsA,over,wrOk,keysT,keysA,ne_eq,if_true,if_false,ite_self,Nat.reduceLT,Nat.reduceSub,Nat.reduceBEq,Nat.reduceEqDiff,Nat.reduceAdd,Nat.reduceLeDiff,reduceCtorEq,Nat.reduceMul]) (by simp only [fxa,fxc,fxE,fxL,fxI,nxE,evO,evR,cellsT,ldCells,mkT,lenA,binPV,Env.init,resV,resT,frT,klT,ownT,intT,O.adds,ownA,rowsA,over,wrOk,keysT,keysA,ne_eq,if_true,if_false,ite_self,Nat.reduceLT,Nat.reduceSub,Nat.reduceBEq,Nat.reduceEqDiff,Nat.reduceAdd,Nat.reduceLeDiff,reduceCtorEq,Nat.reduceMul])
    · have hk00 : (((k : Nat) : Int) = 0) = False := by have : r.length + 1 = k := lap; simp; omega
      have wd := wap d (by simp)
      have p5 := port_ok d 0
      obtain ⟨σ8,q8,hS8,hF8⟩ := aMove_ok (p := ⟨a,(i : Int) + 2⟩) (q := ⟨d,0⟩) hOk2 w1 ⟨wd,wf_0⟩ hS7
      obtain ⟨r4,rfl,s4⟩ : ∃ r4 : Key,v4 = .own r4 0 (r.length + 1) ∧ σ7.bs r4 = some (.row 1 3 ([.i .i64 d] :: r.map encI)) := by
        rcases hL47 with ⟨_,e2⟩ | ⟨r4,e1,e2,_,_⟩
        · simp at e2
        · exact ⟨r4,by simpa using e1,e2⟩
      have hlt0 : (0 : Int) < ((r.length + 1 : Nat) : Int) := by omega
      simp only [e0,e2,e3,e4,e5,q7,b37,u7,s4,hlt0,hk00,p5,q8,Int.toNat_zero,Int.reduceLE,Int.le_refl,evI_cl,clOk,ldKeeps,ldKeeps1,iasKeeps,rowK,nwKeeps,sameC,sameL,sameA,sameP,sameR,sameRR_rfl,decide_true,frA_ptr,capsOf,fxa,fxc,fxE,fxL,fxI,nxE,evO,evR,cellsT,ldCells,mkT,lenA,binPV,Env.init,resV,resT,frT,klT,ownT,intT,O.adds,ownA,rowsA,over,wrOk,keysT,keysA,ne_eq,if_true,if_false,ite_self,Nat.reduceLT,Nat.reduceSub,Nat.reduceBEq,Nat.reduceEqDiff,Nat.reduceAdd,Nat.reduceLeDiff,reduceCtorEq,Nat.reduceMul]
      exact fin _ _ _ (moveR_Ok hOk2 w1 ⟨wd,wf_0⟩) hS8 hF8 hD (by simp only [e0,fxa,fxc,fxE,fxL,fxI,nxE,evO,evR,cellsT,ldCells,mkT,lenA,binPV,Env.init,resV,resT,frT,klT,ownT,intT,O.adds,ownA,rowsA,over,wrOk,keysT,keysA,ne_eq,if_true,if_false,ite_self,Nat.reduceLT,Nat.reduceSub,Nat.reduceBEq,Nat.reduceEqDiff,Nat.reduceAdd,Nat.reduceLeDiff,reduceCtorEq,Nat.reduceMul]) (by simp only [e2,fxa,fxc,fxE,fxL,fxI,nxE,evO,evR,cellsT,ldCells,mkT,lenA,binPV,Env.init,resV,resT,frT,klT,ownT,intT,O.adds,ownA,rowsA,over,wrOk,keysT,keysA,ne_eq,if_true,if_false,ite_self,Nat.reduceLT,Nat.reduceSub,Nat.reduceBEq,Nat.reduceEqDiff,Nat.reduceAdd,Nat.reduceLeDiff,reduceCtorEq,Nat.reduceMul]) (by simp only [e4,fxa,fxc,fxE,fxL,fxI,nxE,evO,evR,cellsT,ldCells,mkT,lenA,binPV,Env.init,resV,resT,frT,klT,ownT,intT,O.adds,ownA,rowsA,over,wrOk,keysT,keysA,ne_eq,if_true,if_false,ite_self,Nat.reduceLT,Nat.reduceSub,Nat.reduceBEq,Nat.reduceEqDiff,Nat.reduceAdd,Nat.reduceLeDiff,reduceCtorEq,Nat.reduceMul]) (by simp only [fxa,fxc,fxE,fxL,fxI,nxE,evO,evR,cellsT,ldCells,mkT,lenA,binPV,Env.init,resV,resT,frT,klT,ownT,intT,O.adds,ownA,rowsA,over,wrOk,keysT,keysA,ne_eq,if_true,if_false,ite_self,Nat.reduceLT,Nat.reduceSub,Nat.reduceBEq,Nat.reduceEqDiff,Nat.reduceAdd,Nat.reduceLeDiff,reduceCtorEq,Nat.reduceMul])
  have hln : v5 = .nil ∧ l0.length = 0 ∨ ∃ q : Key,v5 = .own q 0 l0.length := by
    rcases hL5 with ⟨e1,e2⟩ | ⟨r,e1,_,_,_⟩
    · exact .inl ⟨e1,by rw [List.map_eq_nil_iff.1 e2]; rfl⟩
    · exact .inr ⟨r,by simpa using e1⟩
  rcases hln with ⟨rfl,hn0⟩ | ⟨q,rfl⟩
  all_goals
    simp only [F105,hc,s0,u0,u1,u3,u4,← hσ0,← hσ2,b3,b31,b32,q1,q3,q4,q5,gA,hge,hlti,hw,hk,p1,allA,Int.toNat_natCast,List.length_map,evI_cl,clOk,ldKeeps,ldKeeps1,iasKeeps,rowK,nwKeeps,sameC,sameL,sameA,sameP,sameR,sameRR_rfl,decide_true,frA_ptr,capsOf,fxa,fxc,fxE,fxL,fxI,nxE,evO,evR,cellsT,ldCells,mkT,lenA,binPV,Env.init,resV,resT,frT,klT,ownT,intT,O.adds,ownA,rowsA,over,wrOk,keysT,keysA,ne_eq,if_true,if_false,ite_self,Nat.reduceLT,Nat.reduceSub,Nat.reduceBEq,Nat.reduceEqDiff,Nat.reduceAdd,Nat.reduceLeDiff,reduceCtorEq,Nat.reduceMul]
    refine Go.Fx.wp_mono (pickLoop0 (q := ⟨a,(i : Int) + 2⟩) (kq := (3,c)) hS5 b35 hc5 hL5 (by omega) _ ?_ ?_ ?_ ?_ ?_) ?_
    all_goals first
      | (simp only [fxa,fxc,fxE,fxL,fxI,nxE,evO,evR,cellsT,ldCells,mkT,lenA,binPV,Env.init,resV,resT,frT,klT,ownT,intT,O.adds,ownA,rowsA,over,wrOk,keysT,keysA,ne_eq,if_true,if_false,ite_self,Nat.reduceLT,Nat.reduceSub,Nat.reduceBEq,Nat.reduceEqDiff,Nat.reduceAdd,Nat.reduceLeDiff,reduceCtorEq,Nat.reduceMul]; done)
      | (simp only [hn0,fxa,fxc,fxE,fxL,fxI,nxE,evO,evR,cellsT,ldCells,mkT,lenA,binPV,Env.init,resV,resT,frT,klT,ownT,intT,O.adds,ownA,rowsA,over,wrOk,keysT,keysA,ne_eq,if_true,if_false,ite_self,Nat.reduceLT,Nat.reduceSub,Nat.reduceBEq,Nat.reduceEqDiff,Nat.reduceAdd,Nat.reduceLeDiff,reduceCtorEq,Nat.reduceMul]; done)
      | skip
    rintro x e' σ6 ⟨rfl,⟨y,g5,hy⟩,g0,g2,g3,g4,hS6,hF6⟩
    simp only [fxa,fxc,fxE,fxL,fxI,nxE,evO,evR,cellsT,ldCells,mkT,lenA,binPV,Env.init,resV,resT,frT,klT,ownT,intT,O.adds,ownA,rowsA,over,wrOk,keysT,keysA,ne_eq,if_true,if_false,ite_self,Nat.reduceLT,Nat.reduceSub,Nat.reduceBEq,Nat.reduceEqDiff,Nat.reduceAdd,Nat.reduceLeDiff,reduceCtorEq,Nat.reduceMul] at g0 g2 g3 g4
    rw [hl2] at hy
    simp only [blkQ_exit,if_true,seqQ_norm,hZ]
    exact rest e' σ6 y g0 g2 g3 g4 g5 hy hS6 hF6
end Go.Proofs.Ytkpfjolcmkikeaa
end
section
set_option linter.unusedSimpArgs false
set_option linter.unusedVariables false
set_option maxHeartbeats 4000000
set_option maxRecDepth 10000
namespace Go.Proofs.Ytkpfjolcmkikeaa
open Go.Fx
theorem SL.open1 {c0 : Nat} {ds : List Int} {lv : AV} {σ : St} (hL : SL c0 1 3 (ds.map encI) lv σ) : lv = .nil ∧ ds = [] ∨ ∃ r : Key,lv = .own r 0 ds.length ∧ σ.bs r = some (.row 1 3 (ds.map encI)) ∧ r.2 < σ.clk := by
  rcases hL with ⟨e1,e2⟩ | ⟨r,e1,e2,e3,e4⟩
  · exact .inl ⟨e1,List.map_eq_nil_iff.1 e2⟩
  · exact .inr ⟨r,by simpa using e1,e2,e4⟩
theorem drop_cons {α : Type} {l : List α} {i : Nat} {d : α} (h : l[i]? = some d) : l.drop i = d :: l.drop (i + 1) := by
  obtain ⟨h1,h2⟩ := List.getElem?_eq_some_iff.1 h
  rw [List.drop_eq_getElem_cons h1,h2]
theorem passLoop0 {ks : Key} {n m0 : Nt} {pl : Pl} {a b : Int} {B : Nat} {cs : List Int} {lv : AV} {c0 : Nat} {σ : St} (hT : Two n a b B) (hm0 : m0.Ok) (h : SG ks m0 pl a b σ)
    (hL : SL c0 1 3 (cs.map encI) lv σ) (hd : ∀ d ∈ cs,wf d) (hlen : cs.length ≤ 500) (e : Env) (e0 : e 0 = .a (.ptr ks 0 0)) (e44 : e 44 = .a lv) (e45 : e 45 = .a (.p (.i .i64 (cs.length : Nat)))) (e46 : e 46 = .a (.p (.i .i64 0))) :
    wp S false (.loop F110b0) e σ (fun x e' σ' => x = .exit 0 ∧ e' 0 = e 0 ∧ e' 4 = e 4 ∧ e' 5 = e 5 ∧ SG ks (runs m0 (dropOps (portsR a 1 (cs.length + 1)) cs)) pl a b σ' ∧ Fr ks σ σ' ∧ (runs m0 (dropOps (portsR a 1 (cs.length + 1)) cs)).Ok) := by
  have hlv := hL.open1
  obtain ⟨u4,hu4⟩ : ∃ z,e 4 = z := ⟨_,rfl⟩
  obtain ⟨u5,hu5⟩ : ∃ z,e 5 = z := ⟨_,rfl⟩
  rw [e0,hu4,hu5]
  refine loop_nat cs.length (fun i e τ => e 4 = u4 ∧ e 5 = u5 ∧ e 0 = .a (.ptr ks 0 0) ∧ e 44 = .a lv ∧ e 45 = .a (.p (.i .i64 (cs.length : Nat))) ∧ e 46 = .a (.p (.i .i64 (i : Nat))) ∧
    ∃ m,m.Ok ∧ SG ks m pl a b τ ∧ Fr ks σ τ ∧ runs m (dropOps (portsR a (i + 1) (cs.length + 1)) (cs.drop i)) = runs m0 (dropOps (portsR a 1 (cs.length + 1)) cs)) (i0 := 0) (Nat.zero_le _) ⟨hu4,hu5,e0,e44,e45,e46,m0,hm0,h,Fr.refl ks σ,by rw [List.drop_zero]⟩ ?_ ?_
  · rintro i e τ hi ⟨e4,e5,e0,e44,e45,e46,m,hm,hS,hF,hR⟩
    obtain ⟨d,hdi⟩ : ∃ d,cs[i]? = some d := ⟨_,List.getElem?_eq_getElem hi⟩
    have hd' := mapGet encI hdi
    have wd := hd d (List.mem_of_getElem? hdi)
    have hlt : ((i : Nat) : Int) < (cs.length : Int) := by omega
    have hge : (0 : Int) ≤ ((i : Nat) : Int) := by omega
    have hw : IntKind.i64.wrap ((i : Int) + 1) = (i : Int) + 1 := wrap_in _ (by omega)
    obtain ⟨r,rfl,r2,r3⟩ : ∃ r : Key,lv = .own r 0 cs.length ∧ σ.bs r = some (.row 1 3 (cs.map encI)) ∧ r.2 < σ.clk := by
      rcases hlv with ⟨_,e⟩ | h
      · rw [e] at hi; simp at hi
      · exact h
    have nr : r ≠ ks := by rintro rfl; rw [h.bs] at r2; cases r2
    have tr := (hF.bs r r3 nr).trans r2
    have t1 := hS.bs
    simp only [stg,List.map_cons,List.map_nil] at t1
    obtain ⟨τ1,c1,hS1,hF1⟩ := aMove_ok (p := ⟨a,(i : Int) + 1⟩) (q := ⟨d,0⟩) hm (hT.pa (by omega) (by omega)) ⟨wd,wf_0⟩ hS
    have hm1 := moveR_Ok (p := ⟨a,(i : Int) + 1⟩) (q := ⟨d,0⟩) hm (hT.pa (by omega) (by omega)) ⟨wd,wf_0⟩
    have p1 := port_ok a ((i : Int) + 1)
    have p2 := port_ok d 0
    rw [drop_cons hdi,portsR_cons (by omega)] at hR
    simp only [encI] at hd'
    simp only [F110b0,e0,e4,e5,e44,e45,e46,hlt,hge,hw,tr,t1,hd',c1,p1,p2,frA_ptr,rowK,Int.toNat_natCast,Nat.zero_add,List.length_map,fxa,fxc,fxE,fxL,fxI,nxE,evO,evR,cellsT,ldCells,mkT,lenA,binPV,Env.init,resV,resT,frT,klT,ownT,intT,O.adds,ownA,rowsA,over,wrOk,keysT,keysA,ne_eq,if_true,if_false,ite_self,Nat.reduceLT,Nat.reduceSub,Nat.reduceBEq,Nat.reduceEqDiff,Nat.reduceAdd,Nat.reduceLeDiff,reduceCtorEq,Nat.reduceMul]
    exact ⟨rfl,_,hm1,hS1,hF.trans hF1,hR⟩
  · rintro e τ ⟨e4,e5,e0,e44,e45,e46,m,hm,hS,hF,hR⟩
    have hlt : ¬ ((cs.length : Nat) : Int) < (cs.length : Int) := by omega
    rw [List.drop_length,portsR_nil (Nat.le_refl _)] at hR
    have hR : m = runs m0 (dropOps (portsR a 1 (cs.length + 1)) cs) := hR
    simp only [F110b0,e0,e4,e5,e44,e45,e46,hlt,fxa,fxc,fxE,fxL,fxI,nxE,evO,evR,cellsT,ldCells,mkT,lenA,binPV,Env.init,resV,resT,frT,klT,ownT,intT,O.adds,ownA,rowsA,over,wrOk,keysT,keysA,ne_eq,if_true,if_false,ite_self,Nat.reduceLT,Nat.reduceSub,Nat.reduceBEq,Nat.reduceEqDiff,Nat.reduceAdd,Nat.reduceLeDiff,reduceCtorEq,Nat.reduceMul]
    exact ⟨by rw [← hR]; exact hS,hF,by rw [← hR]; exact hm⟩
theorem passLoop2 {ks : Key} {n m0 : Nt} {pl : Pl} {a b : Int} {cs : List Int} {lv : AV} {c0 k : Nat} {t : Int} {σ : St} (hk : k ≤ 500) (wt : wf t) (hm0 : m0.Ok) (h : SG ks m0 pl a b σ)
    (hL : SL c0 1 3 (cs.map encI) lv σ) (hd : ∀ d ∈ cs,wf d) (hlen : cs.length ≤ 500) (e : Env) (e0 : e 0 = .a (.ptr ks 0 0)) (e8 : e 8 = .a (.p (.i .i64 (k : Nat)))) (e9 : e 9 = .a (.p (.i .i64 t))) (e81 : e 81 = .a lv) (e82 : e 82 = .a (.p (.i .i64 (cs.length : Nat)))) (e83 : e 83 = .a (.p (.i .i64 0))) :
    wp S false (.loop F110b2) e σ (fun x e' σ' => x = .exit 4 ∧ e' 0 = e 0 ∧ e' 4 = e 4 ∧ e' 63 = e 63 ∧ e' 64 = e 64 ∧ e' 65 = e 65 ∧ SG ks (runs m0 (lnOps t k 0 cs)) pl a b σ' ∧ Fr ks σ σ' ∧ (runs m0 (lnOps t k 0 cs)).Ok) := by
  have hlv := hL.open1
  obtain ⟨u4,hu4⟩ : ∃ z,e 4 = z := ⟨_,rfl⟩
  obtain ⟨u63,hu63⟩ : ∃ z,e 63 = z := ⟨_,rfl⟩
  obtain ⟨u64,hu64⟩ : ∃ z,e 64 = z := ⟨_,rfl⟩
  obtain ⟨u65,hu65⟩ : ∃ z,e 65 = z := ⟨_,rfl⟩
  rw [e0,hu4,hu63,hu64,hu65]
  refine loop_nat cs.length (fun i e τ => e 4 = u4 ∧ e 63 = u63 ∧ e 64 = u64 ∧ e 65 = u65 ∧ e 0 = .a (.ptr ks 0 0) ∧ e 8 = .a (.p (.i .i64 (k : Nat))) ∧ e 9 = .a (.p (.i .i64 t)) ∧ e 81 = .a lv ∧ e 82 = .a (.p (.i .i64 (cs.length : Nat))) ∧ e 83 = .a (.p (.i .i64 (i : Nat))) ∧
    ∃ m,m.Ok ∧ SG ks m pl a b τ ∧ Fr ks σ τ ∧ runs m (lnOps t k i (cs.drop i)) = runs m0 (lnOps t k 0 cs)) (i0 := 0) (Nat.zero_le _) ⟨hu4,hu63,hu64,hu65,e0,e8,e9,e81,e82,e83,m0,hm0,h,Fr.refl ks σ,by rw [List.drop_zero]⟩ ?_ ?_
  · rintro i e τ hi ⟨e4,e63,e64,e65,e0,e8,e9,e81,e82,e83,m,hm,hS,hF,hR⟩
    obtain ⟨d,hdi⟩ : ∃ d,cs[i]? = some d := ⟨_,List.getElem?_eq_getElem hi⟩
    have hd' := mapGet encI hdi
    have wd := hd d (List.mem_of_getElem? hdi)
    have hlt : ((i : Nat) : Int) < (cs.length : Int) := by omega
    have hge : (0 : Int) ≤ ((i : Nat) : Int) := by omega
    have hw : IntKind.i64.wrap ((i : Int) + 1) = (i : Int) + 1 := wrap_in _ (by omega)
    have hw2 : IntKind.i64.wrap ((k : Int) + 1) = (k : Int) + 1 := wrap_in _ (by omega)
    obtain ⟨r,rfl,r2,r3⟩ : ∃ r : Key,lv = .own r 0 cs.length ∧ σ.bs r = some (.row 1 3 (cs.map encI)) ∧ r.2 < σ.clk := by
      rcases hlv with ⟨_,e⟩ | h
      · rw [e] at hi; simp at hi
      · exact h
    have nr : r ≠ ks := by rintro rfl; rw [h.bs] at r2; cases r2
    have tr := (hF.bs r r3 nr).trans r2
    obtain ⟨τ1,c1,hS1,hF1⟩ := aLink_ok (p := ⟨t,(i : Int) + 1⟩) (q := ⟨d,(k : Int) + 1⟩) hm ⟨wt,wf_small (by simp only; omega) (by simp only; omega)⟩ ⟨wd,wf_small (by simp only; omega) (by simp only; omega)⟩ hS
    have hm1 := linkR_Ok (p := ⟨t,(i : Int) + 1⟩) (q := ⟨d,(k : Int) + 1⟩) hm ⟨wt,wf_small (by simp only; omega) (by simp only; omega)⟩ ⟨wd,wf_small (by simp only; omega) (by simp only; omega)⟩
    have p1 := port_ok t ((i : Int) + 1)
    have p2 := port_ok d ((k : Int) + 1)
    rw [drop_cons hdi] at hR
    simp only [encI] at hd'
    simp only [F110b2,e0,e4,e8,e9,e63,e64,e65,e81,e82,e83,hlt,hge,hw,hw2,tr,hd',c1,p1,p2,frA_ptr,rowK,Int.toNat_natCast,Nat.zero_add,List.length_map,fxa,fxc,fxE,fxL,fxI,nxE,evO,evR,cellsT,ldCells,mkT,lenA,binPV,Env.init,resV,resT,frT,klT,ownT,intT,O.adds,ownA,rowsA,over,wrOk,keysT,keysA,ne_eq,if_true,if_false,ite_self,Nat.reduceLT,Nat.reduceSub,Nat.reduceBEq,Nat.reduceEqDiff,Nat.reduceAdd,Nat.reduceLeDiff,reduceCtorEq,Nat.reduceMul]
    exact ⟨rfl,_,hm1,hS1,hF.trans hF1,hR⟩
  · rintro e τ ⟨e4,e63,e64,e65,e0,e8,e9,e81,e82,e83,m,hm,hS,hF,hR⟩
    have hlt : ¬ ((cs.length : Nat) : Int) < (cs.length : Int) := by omega
    rw [List.drop_length] at hR
    have hR : m = runs m0 (lnOps t k 0 cs) := hR
    simp only [F110b2,e0,e4,e8,e9,e63,e64,e65,e81,e82,e83,hlt,fxa,fxc,fxE,fxL,fxI,nxE,evO,evR,cellsT,ldCells,mkT,lenA,binPV,Env.init,resV,resT,frT,klT,ownT,intT,O.adds,ownA,rowsA,over,wrOk,keysT,keysA,ne_eq,if_true,if_false,ite_self,Nat.reduceLT,Nat.reduceSub,Nat.reduceBEq,Nat.reduceEqDiff,Nat.reduceAdd,Nat.reduceLeDiff,reduceCtorEq,Nat.reduceMul]
    exact ⟨by rw [← hR]; exact hS,hF,by rw [← hR]; exact hm⟩
theorem passLoop1 {ks : Key} {n m0 : Nt} {pl : Pl} {a b : Int} {B : Nat} {cs ds : List Int} {lc lv : AV} {c0 c1 : Nat} {σ : St} (hT : Two n a b B) (hm0 : m0.Ok) (h : SG ks m0 pl a b σ)
    (hC : SL c0 1 3 (cs.map encI) lc σ) (hL : SL c1 1 3 (ds.map encI) lv σ) (hc : ∀ d ∈ cs,wf d) (hd : ∀ d ∈ ds,wf d) (clen : cs.length ≤ 500) (hlen : ds.length ≤ 500) (e : Env) (e0 : e 0 = .a (.ptr ks 0 0)) (e4 : e 4 = .a lc) (e63 : e 63 = .a lv) (e64 : e 64 = .a (.p (.i .i64 (ds.length : Nat)))) (e65 : e 65 = .a (.p (.i .i64 0))) :
    wp S false (.loop F110b1) e σ (fun x e' σ' => x = .exit 2 ∧ SG ks (runs m0 (passOps b cs 0 ds)) pl a b σ' ∧ Fr ks σ σ') := by
  have hlv := hL.open1
  have llc : lenA false lc = some cs.length := by
    rcases hC.open1 with ⟨rfl,rfl⟩ | ⟨r,rfl,_,_⟩ <;> rfl
  refine loop_nat ds.length (fun i e τ => e 0 = .a (.ptr ks 0 0) ∧ e 4 = .a lc ∧ e 63 = .a lv ∧ e 64 = .a (.p (.i .i64 (ds.length : Nat))) ∧ e 65 = .a (.p (.i .i64 (i : Nat))) ∧
    ∃ m,m.Ok ∧ SG ks m pl a b τ ∧ Fr ks σ τ ∧ runs m (passOps b cs i (ds.drop i)) = runs m0 (passOps b cs 0 ds)) (i0 := 0) (Nat.zero_le _) ⟨e0,e4,e63,e64,e65,m0,hm0,h,Fr.refl ks σ,by rw [List.drop_zero]⟩ ?_ ?_
  · rintro i e τ hi ⟨e0,e4,e63,e64,e65,m,hm,hS,hF,hR⟩
    obtain ⟨d,hdi⟩ : ∃ d,ds[i]? = some d := ⟨_,List.getElem?_eq_getElem hi⟩
    have hd' := mapGet encI hdi
    have wd := hd d (List.mem_of_getElem? hdi)
    have hlt : ((i : Nat) : Int) < (ds.length : Int) := by omega
    have hge : (0 : Int) ≤ ((i : Nat) : Int) := by omega
    have hw : IntKind.i64.wrap ((i : Int) + 1) = (i : Int) + 1 := wrap_in _ (by omega)
    obtain ⟨r,rfl,r2,r3⟩ : ∃ r : Key,lv = .own r 0 ds.length ∧ σ.bs r = some (.row 1 3 (ds.map encI)) ∧ r.2 < σ.clk := by
      rcases hlv with ⟨_,e⟩ | h
      · rw [e] at hi; simp at hi
      · exact h
    have nr : r ≠ ks := by rintro rfl; rw [h.bs] at r2; cases r2
    have tr := (hF.bs r r3 nr).trans r2
    have t1 := hS.bs
    simp only [stg,List.map_cons,List.map_nil] at t1
    obtain ⟨τ1,c1,hS1,hF1⟩ := aMove_ok (p := ⟨b,(i : Int) + 1⟩) (q := ⟨d,0⟩) hm (hT.pb (by omega) (by omega)) ⟨wd,wf_0⟩ hS
    have hm1 := moveR_Ok (p := ⟨b,(i : Int) + 1⟩) (q := ⟨d,0⟩) hm (hT.pb (by omega) (by omega)) ⟨wd,wf_0⟩
    have hC1 := (hC.fr h hF).fr hS hF1
    have p1 := port_ok b ((i : Int) + 1)
    have p2 := port_ok d 0
    rw [drop_cons hdi] at hR
    simp only [passOps,runs_cons',runs_app] at hR
    simp only [encI] at hd'
    rcases hC1.open1 with ⟨rfl,hcs⟩ | ⟨rc,rfl,_,_⟩
    all_goals
      simp only [F110b1,e0,e4,e63,e64,e65,hlt,hge,hw,tr,t1,hd',c1,p1,p2,frA_ptr,rowK,Int.toNat_natCast,Nat.zero_add,List.length_map,fxa,fxc,fxE,fxL,fxI,nxE,evO,evR,cellsT,ldCells,mkT,lenA,binPV,Env.init,resV,resT,frT,klT,ownT,intT,O.adds,ownA,rowsA,over,wrOk,keysT,keysA,ne_eq,if_true,if_false,ite_self,Nat.reduceLT,Nat.reduceSub,Nat.reduceBEq,Nat.reduceEqDiff,Nat.reduceAdd,Nat.reduceLeDiff,reduceCtorEq,Nat.reduceMul]
      refine Go.Fx.wp_mono (passLoop2 (n := n) (k := i) (t := d) (by omega) wd hm1 hS1 hC1 hc clen _ ?_ ?_ ?_ ?_ ?_ ?_) ?_
      all_goals first
        | (simp only [e0,fxa,fxc,fxE,fxL,fxI,nxE,evO,evR,cellsT,ldCells,mkT,lenA,binPV,Env.init,resV,resT,frT,klT,ownT,intT,O.adds,ownA,rowsA,over,wrOk,keysT,keysA,ne_eq,if_true,if_false,ite_self,Nat.reduceLT,Nat.reduceSub,Nat.reduceBEq,Nat.reduceEqDiff,Nat.reduceAdd,Nat.reduceLeDiff,reduceCtorEq,Nat.reduceMul]; done)
        | (simp only [hcs,List.length_nil,fxa,fxc,fxE,fxL,fxI,nxE,evO,evR,cellsT,ldCells,mkT,lenA,binPV,Env.init,resV,resT,frT,klT,ownT,intT,O.adds,ownA,rowsA,over,wrOk,keysT,keysA,ne_eq,if_true,if_false,ite_self,Nat.reduceLT,Nat.reduceSub,Nat.reduceBEq,Nat.reduceEqDiff,Nat.reduceAdd,Nat.reduceLeDiff,reduceCtorEq,Nat.reduceMul]; done)
        | skip
      rintro x e' τ2 ⟨rfl,g0,g4,g63,g64,g65,hS2,hF2,hm2⟩
      simp only [fxa,fxc,fxE,fxL,fxI,nxE,evO,evR,cellsT,ldCells,mkT,lenA,binPV,Env.init,resV,resT,frT,klT,ownT,intT,O.adds,ownA,rowsA,over,wrOk,keysT,keysA,ne_eq,if_true,if_false,ite_self,Nat.reduceLT,Nat.reduceSub,Nat.reduceBEq,Nat.reduceEqDiff,Nat.reduceAdd,Nat.reduceLeDiff,reduceCtorEq,Nat.reduceMul] at g0 g4 g63 g64 g65
      simp only [g0,g4,g63,g64,g65,e0,e4,e63,e64,e65,hw,fxa,fxc,fxE,fxL,fxI,nxE,evO,evR,cellsT,ldCells,mkT,lenA,binPV,Env.init,resV,resT,frT,klT,ownT,intT,O.adds,ownA,rowsA,over,wrOk,keysT,keysA,ne_eq,if_true,if_false,ite_self,Nat.reduceLT,Nat.reduceSub,Nat.reduceBEq,Nat.reduceEqDiff,Nat.reduceAdd,Nat.reduceLeDiff,reduceCtorEq,Nat.reduceMul]
      exact ⟨rfl,_,hm2,hS2,(hF.trans hF1).trans hF2,hR⟩
  · rintro e τ ⟨e0,e4,e63,e64,e65,m,hm,hS,hF,hR⟩
    have hlt : ¬ ((ds.length : Nat) : Int) < (ds.length : Int) := by omega
    rw [List.drop_length] at hR
    have hR : m = runs m0 (passOps b cs 0 ds) := hR
    simp only [F110b1,e0,e4,e63,e64,e65,hlt,fxa,fxc,fxE,fxL,fxI,nxE,evO,evR,cellsT,ldCells,mkT,lenA,binPV,Env.init,resV,resT,frT,klT,ownT,intT,O.adds,ownA,rowsA,over,wrOk,keysT,keysA,ne_eq,if_true,if_false,ite_self,Nat.reduceLT,Nat.reduceSub,Nat.reduceBEq,Nat.reduceEqDiff,Nat.reduceAdd,Nat.reduceLeDiff,reduceCtorEq,Nat.reduceMul]
    exact ⟨by rw [← hR]; exact hS,hF⟩
theorem aPass_ok {ks : Key} {n : Nt} {pl : Pl} {a b : Int} {B : Nat} {σ : St} (hT : Two n a b B) (hB : B ≤ 80000) (hwl : wf pl.lv) (la : 1 ≤ (n.nd a).to.length) (lb : 1 ≤ (n.nd b).to.length) (h : SG ks n pl a b σ) :
    ∃ σ',eS S (.f 110) [.a (.ptr ks 0 0)] σ = some (.u,σ') ∧ SG ks (passD n pl.lv a b) pl a b σ' ∧ Fr ks σ σ' := by
  have hn := hT.ok
  have hbg := hT.big
  have hta := hT.ta
  have htb := hT.tb
  obtain ⟨c,hc⟩ : ∃ c,σ.clk = c := ⟨_,rfl⟩
  have hlt := h.lt
  have nk : ∀ d,¬ ks = (d,c) := by rintro d rfl; simp at hlt; omega
  have nk1 : ∀ d,¬ ks = (d,c + 1) := by rintro d rfl; simp at hlt; omega
  have s0 := h.bs
  obtain ⟨x,hx0⟩ : ∃ x,n.nd a = x := ⟨_,rfl⟩
  obtain ⟨y,hy0⟩ : ∃ y,n.nd b = y := ⟨_,rfl⟩
  have hx := hT.xa
  have hy := hT.xb
  rw [hx0] at hx la hta
  rw [hy0] at hy lb htb
  obtain ⟨σ0,hσ0⟩ : ∃ σ0,σ0 = (σ.add 2 (.var [.p (.i .i64 0),.p (.i .i64 0),.p (.i .i64 0),.p (.s []),.nil,.nil])).add 3 (.var [.p (.i .i64 0),.p (.i .i64 0),.p (.i .i64 0),.p (.s []),.nil,.nil]) := ⟨_,rfl⟩
  have hS0 : SG ks n pl a b σ0 := by rw [hσ0]; exact (h.add _ _).add _ _
  have hF0 : Fr ks σ σ0 := by rw [hσ0]; exact ((Fr.refl ks σ).add _ _).add _ _
  have hcl0 : σ0.clk = c + 2 := by rw [hσ0]; simp only [add_clk]; omega
  have b2 : σ0.bs (2,c) = some (.var [.p (.i .i64 0),.p (.i .i64 0),.p (.i .i64 0),.p (.s []),.nil,.nil]) := by rw [hσ0]; simp [add_bs,add_clk,hc]
  have b3 : σ0.bs (3,c + 1) = some (.var [.p (.i .i64 0),.p (.i .i64 0),.p (.i .i64 0),.p (.s []),.nil,.nil]) := by rw [hσ0]; simp [add_bs,add_clk,hc]
  obtain ⟨σ1,q1,hS1,hF1⟩ := aNode_ok hT.a0 hT.a1 hS0
  have b21 := (hF1.bs (2,c) (by simp only; omega) (fun e => nk 2 e.symm)).trans b2
  have b31 := (hF1.bs (3,c + 1) (by simp only; omega) (fun e => nk1 3 e.symm)).trans b3
  have hcl1 := hF1.clk
  obtain ⟨σ2,q2,hS2,hF2⟩ := aNode_ok hT.b0 hT.b1 hS1
  have hcl2 := hF2.clk
  have b22 := (hF2.bs (2,c) (by simp only; omega) (fun e => nk 2 e.symm)).trans b21
  have b32 := (hF2.bs (3,c + 1) (by simp only; omega) (fun e => nk1 3 e.symm)).trans b31
  rw [hx0] at q1
  rw [hy0] at q2
  obtain ⟨σ3,hσ3⟩ : ∃ σ3,σ3 = (σ2.put (2,c) (.var ((encN x).map .p))).put (3,c + 1) (.var ((encN y).map .p)) := ⟨_,rfl⟩
  have hS3 : SG ks n pl a b σ3 := by rw [hσ3]; exact (hS2.put (nk 2) _).put (nk1 3) _
  have hF3 : Fr ks σ σ3 := by rw [hσ3]; exact (((hF0.trans hF1).trans hF2).put (.inr (by simp only; omega)) _).put (.inr (by simp only; omega)) _
  have b23 : σ3.bs (2,c) = some (.var ((encN x).map .p)) := by rw [hσ3]; simp [put_bs]
  have b33 : σ3.bs (3,c + 1) = some (.var ((encN y).map .p)) := by rw [hσ3]; simp [put_bs]
  have hcl3 : σ3.clk = σ2.clk := by rw [hσ3]; rfl
  obtain ⟨y',hy'⟩ : ∃ y' : Nd,({ y with lv := pl.lv } : Nd) = y' := ⟨_,rfl⟩
  have hyo : y'.Ok := by rw [← hy']; exact ⟨hy.k,hwl,hy.n,hy.s,hy.al,hy.to,hy.ap,hy.tp⟩
  obtain ⟨σ4,hσ4⟩ : ∃ σ4,σ4 = σ3.put (3,c + 1) (.var ((encN y').map .p)) := ⟨_,rfl⟩
  have hS4 : SG ks n pl a b σ4 := by rw [hσ4]; exact hS3.put (nk1 3) _
  have hF4 : Fr ks σ σ4 := by rw [hσ4]; exact hF3.put (.inr (by simp only; omega)) _
  have b24 : σ4.bs (2,c) = some (.var ((encN x).map .p)) := by rw [hσ4]; simp only [put_bs]; rw [if_neg (by simp)]; exact b23
  have b34 : σ4.bs (3,c + 1) = some (.var ((encN y').map .p)) := by rw [hσ4]; simp [put_bs]
  have hcl4 : σ4.clk = σ2.clk := by rw [hσ4]; exact hcl3
  obtain ⟨ma,hma⟩ : ∃ m,x.to.length - 1 = m := ⟨_,rfl⟩
  obtain ⟨mb,hmb⟩ : ∃ m,y.to.length - 1 = m := ⟨_,rfl⟩
  obtain ⟨σ5,v4,q5,hS5,hF5,hL5⟩ := aLike_ok (x := y') (m := ma) hn hyo (NC.p _) (NC.p _) (by omega) hS4
  obtain ⟨hT1,ea,eb⟩ := hT.like hyo ma (by omega)
  have wcs := likeR_wf hn hyo ma (by omega)
  have lcs := (likeR_Ok hn hyo ma (by omega)).2.2
  have hD : passD n pl.lv a b = runs (runs (likeR (likeR n y' ma).1 x mb).1 (dropOps (portsR a 1 x.to.length) (likeR n y' ma).2)) (passOps b (likeR n y' ma).2 0 (likeR (likeR n y' ma).1 x mb).2) := by
    unfold passD; simp only [hx0,hy0,hy',hma]
    rw [hmb]
  obtain ⟨⟨m1,cs⟩,hr⟩ : ∃ r,likeR n y' ma = r := ⟨_,rfl⟩
  rw [hr] at hS5 hL5 hT1 ea eb hD wcs lcs
  simp only at hS5 hL5 hT1 ea eb hD wcs lcs
  have hbg1 := hT1.big
  have b25 := (hF5.bs (2,c) (by simp only; omega) (fun e => nk 2 e.symm)).trans b24
  have b35 := (hF5.bs (3,c + 1) (by simp only; omega) (fun e => nk1 3 e.symm)).trans b34
  obtain ⟨σ6,v5,q6,hS6,hF6,hL6⟩ := aLike_ok (x := x) (m := mb) hT1.ok hx (NC.p _) (NC.p _) (by omega) hS5
  have wds := likeR_wf hT1.ok hx mb (by omega)
  obtain ⟨hOk6,_,lds⟩ := likeR_Ok hT1.ok hx mb (by omega)
  obtain ⟨⟨m2,ds⟩,hr2⟩ : ∃ r,likeR m1 x mb = r := ⟨_,rfl⟩
  rw [hr2] at hS6 hL6 hD wds lds hOk6
  simp only at hS6 hL6 hD wds lds hOk6
  have hL56 := hL5.fr hS5 hF6
  have hF06 := (hF4.trans hF5).trans hF6
  have hwa : IntKind.i64.wrap ((x.to.length : Int) - 1) = ((ma : Nat) : Int) := by rw [wrap_in _ (by omega)]; omega
  have hwb : IntKind.i64.wrap ((y'.to.length : Int) - 1) = ((mb : Nat) : Int) := by
    have : y'.to.length = y.to.length := by rw [← hy']
    rw [this,wrap_in _ (by omega)]; omega
  have u0 := hS0.bs
  have u1 := hS1.bs
  have u3 := hS3.bs
  simp only [stg,List.map_cons,List.map_nil] at s0 u0 u1 u3
  have ey : encN y' = [.i .i64 y.k,.i .i64 pl.lv,.i .i64 y.n,.s y.s,.l (y.al.map encA),.l (y.to.map encP)] := by rw [← hy']; rfl
  have ez : [AV.p (.i .i64 y'.k),.p (.i .i64 y'.lv),.p (.i .i64 y'.n),.p (.s y'.s),.p (.l (y'.al.map encA)),.p (.l (y'.to.map encP))] = (encN y').map .p := rfl
  rw [ez,ey] at q5
  rw [ey] at hσ4 b34 b35
  have hyt : y'.to.length = y.to.length := by rw [← hy']
  rw [hyt] at hwb
  simp only [encN,List.map_cons,List.map_nil] at q1 q2 q5 q6 hσ3 b23 b33 hσ4 b24 b34 b25 b35
  obtain ⟨Z,hZ⟩ : ∃ Z : C,(.seq (.reg [
  ia 63 (.mv (.t 5)),ia 64 (.len false (.t 63)),ia 65 (.mv (ci 0))]) (.block 2 (.loop F110b1))) = Z := ⟨_,rfl⟩
  have rest : ∀ (e : Env) (m3 : Nt) (σ7 : St),m3.Ok → passD n pl.lv a b = runs m3 (passOps b cs 0 ds) → e 0 = .a (.ptr ks 0 0) → e 4 = .a v4 → e 5 = .a v5 → SG ks m3 pl a b σ7 → Fr ks σ6 σ7 →
      wp S false Z e σ7 (RetS [] fun v σ' => v = .u ∧ SG ks (passD n pl.lv a b) pl a b σ' ∧ Fr ks σ σ') := by
    intro e m3 σ7 hm3 hD3 e0 e4 e5 hS7 hF7
    rw [← hZ]
    have hC7 := hL56.fr hS6 hF7
    have hL7 := hL6.fr hS6 hF7
    have hop : v5 = .nil ∧ ds.length = 0 ∨ ∃ r : Key,v5 = .own r 0 ds.length := by
      rcases hL6.open1 with ⟨e1,e2⟩ | ⟨r,e1,_,_⟩
      · exact .inl ⟨e1,by rw [e2]; rfl⟩
      · exact .inr ⟨r,e1⟩
    rcases hop with ⟨rfl,hd0⟩ | ⟨r,rfl⟩
    all_goals
      simp only [e0,e4,e5,fxa,fxc,fxE,fxL,fxI,nxE,evO,evR,cellsT,ldCells,mkT,lenA,binPV,Env.init,resV,resT,frT,klT,ownT,intT,O.adds,ownA,rowsA,over,wrOk,keysT,keysA,ne_eq,if_true,if_false,ite_self,Nat.reduceLT,Nat.reduceSub,Nat.reduceBEq,Nat.reduceEqDiff,Nat.reduceAdd,Nat.reduceLeDiff,reduceCtorEq,Nat.reduceMul]
      refine Go.Fx.wp_mono (passLoop1 (n := n) hT hm3 hS7 hC7 hL7 wcs wds (by omega) (by omega) _ ?_ ?_ ?_ ?_ ?_) ?_
      all_goals first
        | (simp only [e0,e4,fxa,fxc,fxE,fxL,fxI,nxE,evO,evR,cellsT,ldCells,mkT,lenA,binPV,Env.init,resV,resT,frT,klT,ownT,intT,O.adds,ownA,rowsA,over,wrOk,keysT,keysA,ne_eq,if_true,if_false,ite_self,Nat.reduceLT,Nat.reduceSub,Nat.reduceBEq,Nat.reduceEqDiff,Nat.reduceAdd,Nat.reduceLeDiff,reduceCtorEq,Nat.reduceMul]; done)
        | (simp only [hd0,fxa,fxc,fxE,fxL,fxI,nxE,evO,evR,cellsT,ldCells,mkT,lenA,binPV,Env.init,resV,resT,frT,klT,ownT,intT,O.adds,ownA,rowsA,over,wrOk,keysT,keysA,ne_eq,if_true,if_false,ite_self,Nat.reduceLT,Nat.reduceSub,Nat.reduceBEq,Nat.reduceEqDiff,Nat.reduceAdd,Nat.reduceLeDiff,reduceCtorEq,Nat.reduceMul]; done)
        | skip
      rintro x e' σ8 ⟨rfl,hS8,hF8⟩
      simp only [fxa,fxc,fxE,fxL,fxI,nxE,evO,evR,cellsT,ldCells,mkT,lenA,binPV,Env.init,resV,resT,frT,klT,ownT,intT,O.adds,ownA,rowsA,over,wrOk,keysT,keysA,ne_eq,if_true,if_false,ite_self,Nat.reduceLT,Nat.reduceSub,Nat.reduceBEq,Nat.reduceEqDiff,Nat.reduceAdd,Nat.reduceLeDiff,reduceCtorEq,Nat.reduceMul]
      exact ⟨by rw [hD3]; exact hS8,hF06.trans (hF7.trans hF8)⟩
  have hop : v4 = .nil ∧ cs.length = 0 ∨ ∃ r : Key,v4 = .own r 0 cs.length := by
    rcases hL5.open1 with ⟨e1,e2⟩ | ⟨r,e1,_,_⟩
    · exact .inl ⟨e1,by rw [e2]; rfl⟩
    · exact .inr ⟨r,e1⟩
  refine x_fnR (fc := F110) rfl rfl ?_
  rcases hop with ⟨rfl,hc0⟩ | ⟨q,rfl⟩
  all_goals
    simp only [F110,hc,s0,u0,u1,u3,← hσ0,← hσ3,← hσ4,b2,b21,b22,b3,b31,b32,b23,b33,b24,b34,b25,b35,q1,q2,q5,q6,hwa,hwb,List.length_map,evI_cl,clOk,ldKeeps,ldKeeps1,iasKeeps,rowK,nwKeeps,sameC,sameL,sameA,sameP,sameR,sameRR_rfl,decide_true,frA_ptr,capsOf,fxa,fxc,fxE,fxL,fxI,nxE,evO,evR,cellsT,ldCells,mkT,lenA,binPV,Env.init,resV,resT,frT,klT,ownT,intT,O.adds,ownA,rowsA,over,wrOk,keysT,keysA,ne_eq,if_true,if_false,ite_self,Nat.reduceLT,Nat.reduceSub,Nat.reduceBEq,Nat.reduceEqDiff,Nat.reduceAdd,Nat.reduceLeDiff,reduceCtorEq,Nat.reduceMul]
    refine Go.Fx.wp_mono (passLoop0 (n := n) hT hOk6 hS6 hL56 wcs (by omega) _ ?_ ?_ ?_ ?_) ?_
    all_goals first
      | (simp only [fxa,fxc,fxE,fxL,fxI,nxE,evO,evR,cellsT,ldCells,mkT,lenA,binPV,Env.init,resV,resT,frT,klT,ownT,intT,O.adds,ownA,rowsA,over,wrOk,keysT,keysA,ne_eq,if_true,if_false,ite_self,Nat.reduceLT,Nat.reduceSub,Nat.reduceBEq,Nat.reduceEqDiff,Nat.reduceAdd,Nat.reduceLeDiff,reduceCtorEq,Nat.reduceMul]; done)
      | (simp only [hc0,fxa,fxc,fxE,fxL,fxI,nxE,evO,evR,cellsT,ldCells,mkT,lenA,binPV,Env.init,resV,resT,frT,klT,ownT,intT,O.adds,ownA,rowsA,over,wrOk,keysT,keysA,ne_eq,if_true,if_false,ite_self,Nat.reduceLT,Nat.reduceSub,Nat.reduceBEq,Nat.reduceEqDiff,Nat.reduceAdd,Nat.reduceLeDiff,reduceCtorEq,Nat.reduceMul]; done)
      | skip
    rintro z e' σ7 ⟨rfl,g0,g4,g5,hS7,hF7,hm7⟩
    simp only [fxa,fxc,fxE,fxL,fxI,nxE,evO,evR,cellsT,ldCells,mkT,lenA,binPV,Env.init,resV,resT,frT,klT,ownT,intT,O.adds,ownA,rowsA,over,wrOk,keysT,keysA,ne_eq,if_true,if_false,ite_self,Nat.reduceLT,Nat.reduceSub,Nat.reduceBEq,Nat.reduceEqDiff,Nat.reduceAdd,Nat.reduceLeDiff,reduceCtorEq,Nat.reduceMul] at g0 g4 g5
    simp only [blkQ_exit,if_true,seqQ_norm,hZ]
    refine rest e' _ σ7 hm7 ?_ g0 g4 g5 hS7 hF7
    rw [hD,lcs,show ma + 1 = x.to.length by omega]
end Go.Proofs.Ytkpfjolcmkikeaa
end
