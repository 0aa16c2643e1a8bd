/- Part 6 of what is proved for the law UseSteps: it returns true,whatever the input. No condition. -/
import Derived.Test.YtlgekplmbmkcmaaChecked
import Derived.Test.YtlgekplmbmkcmaaRows
import Derived.Test.YtlgekplmbmkcmaaPUseStepse
section
set_option linter.unusedSimpArgs false
set_option linter.unusedVariables false
set_option maxHeartbeats 4000000
set_option maxRecDepth 10000
namespace Go.Proofs.Ytlgekplmbmkcmaa
open Go.Fx
theorem nmU : ((43 : UInt8) = 45) = False ∧ ((43 : UInt8) = 42) = False ∧ ((43 : UInt8) = 47) = False ∧ ((43 : UInt8) = 60) = False ∧ ((43 : UInt8) = 61) = False ∧ ((45 : UInt8) = 43) = False ∧ ((45 : UInt8) = 42) = False ∧ ((45 : UInt8) = 47) = False ∧ ((45 : UInt8) = 60) = False ∧ ((45 : UInt8) = 61) = False ∧ ((42 : UInt8) = 43) = False ∧ ((42 : UInt8) = 45) = False ∧ ((42 : UInt8) = 47) = False ∧ ((42 : UInt8) = 60) = False ∧ ((42 : UInt8) = 61) = False ∧ ((47 : UInt8) = 43) = False ∧ ((47 : UInt8) = 45) = False ∧ ((47 : UInt8) = 42) = False ∧ ((47 : UInt8) = 60) = False ∧ ((47 : UInt8) = 61) = False ∧ ((60 : UInt8) = 43) = False ∧ ((60 : UInt8) = 45) = False ∧ ((60 : UInt8) = 42) = False ∧ ((60 : UInt8) = 47) = False ∧ ((60 : UInt8) = 61) = False ∧ ((61 : UInt8) = 43) = False ∧ ((61 : UInt8) = 45) = False ∧ ((61 : UInt8) = 42) = False ∧ ((61 : UInt8) = 47) = False ∧ ((61 : UInt8) = 60) = False :=
  ⟨eq_false (by decide),eq_false (by decide),eq_false (by decide),eq_false (by decide),eq_false (by decide),eq_false (by decide),eq_false (by decide),eq_false (by decide),eq_false (by decide),eq_false (by decide),eq_false (by decide),eq_false (by decide),eq_false (by decide),eq_false (by decide),eq_false (by decide),eq_false (by decide),eq_false (by decide),eq_false (by decide),eq_false (by decide),eq_false (by decide),eq_false (by decide),eq_false (by decide),eq_false (by decide),eq_false (by decide),eq_false (by decide),eq_false (by decide),eq_false (by decide),eq_false (by decide),eq_false (by decide),eq_false (by decide)⟩
def encR (r : T × Int) : PT := .t [(true,enc r.1),(false,[.i .i64 r.2])]
def failT : T := .mk 9 0 [] []
def numT (n : Int) : T := .mk 7 n [] []
def conT (s : List UInt8) : T := .mk 4 0 s []
def opR (s : List UInt8) (a b : Int) : T × Int :=
  if s = [43] then (numT (w (a + b)),3) else if s = [45] then (numT (w (a - b)),3) else if s = [42] then (numT (w (a * b)),3)
  else if s = [47] then (if b = 0 then (failT,4) else (numT (w (a.tdiv b)),3))
  else if (s = [60] ∧ a < b) ∨ (s = [61,61] ∧ a = b) then (conT [84,114,117,101],3) else (conT [70,97,108,115,101],3)
theorem number9_ok (a : Int) : eP S 87 [.a (.i .i64 a)] = some (encR (numT a,3)) := by
  refine x_fn (orcS _) (fc := F87) rfl rfl ?_
  simp only [F87,encR,numT,enc,encL,spS,fxa,fxc,fxE,fxL,fxI,nxE,evO,evR,cellsT,ldCells,mkT,lenA,binPV,Env.init,resV,resT,frT,klT,ownT,intT,O.adds,ownA,rowsA,over,wrOk,keysT,keysA,ne_eq,if_true,if_false,ite_self,Nat.reduceLT,Nat.reduceSub,Nat.reduceBEq,Nat.reduceEqDiff,Nat.reduceAdd,Nat.reduceLeDiff,reduceCtorEq,Nat.reduceMul]
theorem fail9_ok : eP S 82 [] = some (encR (failT,4)) := by
  refine x_fn (orcS _) (fc := F82) rfl rfl ?_
  simp only [F82,encR,failT,enc,encL,spS,fxa,fxc,fxE,fxL,fxI,nxE,evO,evR,cellsT,ldCells,mkT,lenA,binPV,Env.init,resV,resT,frT,klT,ownT,intT,O.adds,ownA,rowsA,over,wrOk,keysT,keysA,ne_eq,if_true,if_false,ite_self,Nat.reduceLT,Nat.reduceSub,Nat.reduceBEq,Nat.reduceEqDiff,Nat.reduceAdd,Nat.reduceLeDiff,reduceCtorEq,Nat.reduceMul]
def valT (t : T) : Prop := t.k = 2 ∨ t.k = 4 ∨ t.k = 7 ∨ t.k = 9
theorem value9_ok {t : T} (h : valT t) : eP S 79 [.g (enc t)] = some (.a (.b true)) := by
  refine x_fn (orcS _) (fc := F79) rfl rfl ?_
  rw [enc_eq]
  rcases h with h | h | h | h <;> simp only [F79,h,Int.reduceEq,spS,fxa,fxc,fxE,fxL,fxI,nxE,evO,evR,cellsT,ldCells,mkT,lenA,binPV,Env.init,resV,resT,frT,klT,ownT,intT,O.adds,ownA,rowsA,over,wrOk,keysT,keysA,ne_eq,if_true,if_false,ite_self,Nat.reduceLT,Nat.reduceSub,Nat.reduceBEq,Nat.reduceEqDiff,Nat.reduceAdd,Nat.reduceLeDiff,reduceCtorEq,Nat.reduceMul]
theorem value9_no {t : T} (h : ¬ valT t) : eP S 79 [.g (enc t)] = some (.a (.b false)) := by
  refine x_fn (orcS _) (fc := F79) rfl rfl ?_
  rw [enc_eq]
  unfold valT at h
  have h1 : ¬ t.k = 2 := fun g => h (.inl g)
  have h2 : ¬ t.k = 4 := fun g => h (.inr (.inl g))
  have h3 : ¬ t.k = 7 := fun g => h (.inr (.inr (.inl g)))
  have h4 : ¬ t.k = 9 := fun g => h (.inr (.inr (.inr g)))
  simp only [F79,h1,h2,h3,h4,spS,fxa,fxc,fxE,fxL,fxI,nxE,evO,evR,cellsT,ldCells,mkT,lenA,binPV,Env.init,resV,resT,frT,klT,ownT,intT,O.adds,ownA,rowsA,over,wrOk,keysT,keysA,ne_eq,if_true,if_false,ite_self,Nat.reduceLT,Nat.reduceSub,Nat.reduceBEq,Nat.reduceEqDiff,Nat.reduceAdd,Nat.reduceLeDiff,reduceCtorEq,Nat.reduceMul]
theorem op9_ok {s : List UInt8} {a b : Int} (hs : isOp s = true) : eP S 83 [.a (.s s),.a (.i .i64 a),.a (.i .i64 b)] = some (encR (opR s a b)) := by
  refine x_fn (orcS _) (fc := F83) rfl rfl ?_
  have n1 := number9_ok (w (a + b))
  have n2 := number9_ok (w (a - b))
  have n3 := number9_ok (w (a * b))
  have n4 := number9_ok (w (a.tdiv b))
  have n5 := fail9_ok
  unfold opR
  unfold isOp at hs
  simp only [Bool.or_eq_true,decide_eq_true_eq] at hs
  simp only [encR,numT,failT,conT,enc,encL,w] at n1 n2 n3 n4 n5 ⊢
  rcases hs with ((((rfl | rfl) | rfl) | rfl) | rfl) | rfl
  · simp only [F83,n1,nmU,List.cons.injEq,and_true,encR,numT,failT,conT,enc,encL,w,spS,fxa,fxc,fxE,fxL,fxI,nxE,evO,evR,cellsT,ldCells,mkT,lenA,binPV,Env.init,resV,resT,frT,klT,ownT,intT,O.adds,ownA,rowsA,over,wrOk,keysT,keysA,ne_eq,if_true,if_false,ite_self,Nat.reduceLT,Nat.reduceSub,Nat.reduceBEq,Nat.reduceEqDiff,Nat.reduceAdd,Nat.reduceLeDiff,reduceCtorEq,Nat.reduceMul]
  · simp only [F83,n2,nmU,List.cons.injEq,and_true,encR,numT,failT,conT,enc,encL,w,spS,fxa,fxc,fxE,fxL,fxI,nxE,evO,evR,cellsT,ldCells,mkT,lenA,binPV,Env.init,resV,resT,frT,klT,ownT,intT,O.adds,ownA,rowsA,over,wrOk,keysT,keysA,ne_eq,if_true,if_false,ite_self,Nat.reduceLT,Nat.reduceSub,Nat.reduceBEq,Nat.reduceEqDiff,Nat.reduceAdd,Nat.reduceLeDiff,reduceCtorEq,Nat.reduceMul]
  · simp only [F83,n3,nmU,List.cons.injEq,and_true,encR,numT,failT,conT,enc,encL,w,spS,fxa,fxc,fxE,fxL,fxI,nxE,evO,evR,cellsT,ldCells,mkT,lenA,binPV,Env.init,resV,resT,frT,klT,ownT,intT,O.adds,ownA,rowsA,over,wrOk,keysT,keysA,ne_eq,if_true,if_false,ite_self,Nat.reduceLT,Nat.reduceSub,Nat.reduceBEq,Nat.reduceEqDiff,Nat.reduceAdd,Nat.reduceLeDiff,reduceCtorEq,Nat.reduceMul]
  · by_cases h0 : b = 0
    · simp only [F83,n5,h0,nmU,List.cons.injEq,and_true,encR,numT,failT,conT,enc,encL,w,spS,fxa,fxc,fxE,fxL,fxI,nxE,evO,evR,cellsT,ldCells,mkT,lenA,binPV,Env.init,resV,resT,frT,klT,ownT,intT,O.adds,ownA,rowsA,over,wrOk,keysT,keysA,ne_eq,if_true,if_false,ite_self,Nat.reduceLT,Nat.reduceSub,Nat.reduceBEq,Nat.reduceEqDiff,Nat.reduceAdd,Nat.reduceLeDiff,reduceCtorEq,Nat.reduceMul]
    · by_cases h1 : b = -1
      · subst h1
        have e : IntKind.i64.wrap (0 - a) = IntKind.i64.wrap (a.tdiv (-1)) := by rw [Int.tdiv_neg,Int.tdiv_one,Int.zero_sub]
        simp only [F83,n4,e,h0,nmU,Int.reduceNeg,List.cons.injEq,and_true,encR,numT,failT,conT,enc,encL,w,spS,fxa,fxc,fxE,fxL,fxI,nxE,evO,evR,cellsT,ldCells,mkT,lenA,binPV,Env.init,resV,resT,frT,klT,ownT,intT,O.adds,ownA,rowsA,over,wrOk,keysT,keysA,ne_eq,if_true,if_false,ite_self,Nat.reduceLT,Nat.reduceSub,Nat.reduceBEq,Nat.reduceEqDiff,Nat.reduceAdd,Nat.reduceLeDiff,reduceCtorEq,Nat.reduceMul]
      · simp only [F83,n4,h0,h1,nmU,List.cons.injEq,and_true,encR,numT,failT,conT,enc,encL,w,spS,fxa,fxc,fxE,fxL,fxI,nxE,evO,evR,cellsT,ldCells,mkT,lenA,binPV,Env.init,resV,resT,frT,klT,ownT,intT,O.adds,ownA,rowsA,over,wrOk,keysT,keysA,ne_eq,if_true,if_false,ite_self,Nat.reduceLT,Nat.reduceSub,Nat.reduceBEq,Nat.reduceEqDiff,Nat.reduceAdd,Nat.reduceLeDiff,reduceCtorEq,Nat.reduceMul]
  · by_cases h : a < b
    · simp only [F83,h,nmU,List.cons.injEq,and_true,or_false,false_or,true_or,or_true,or_self,encR,numT,failT,conT,enc,encL,w,spS,fxa,fxc,fxE,fxL,fxI,nxE,evO,evR,cellsT,ldCells,mkT,lenA,binPV,Env.init,resV,resT,frT,klT,ownT,intT,O.adds,ownA,rowsA,over,wrOk,keysT,keysA,ne_eq,if_true,if_false,ite_self,Nat.reduceLT,Nat.reduceSub,Nat.reduceBEq,Nat.reduceEqDiff,Nat.reduceAdd,Nat.reduceLeDiff,reduceCtorEq,Nat.reduceMul]
    · simp only [F83,h,nmU,List.cons.injEq,and_true,or_false,false_or,true_or,or_true,or_self,encR,numT,failT,conT,enc,encL,w,spS,fxa,fxc,fxE,fxL,fxI,nxE,evO,evR,cellsT,ldCells,mkT,lenA,binPV,Env.init,resV,resT,frT,klT,ownT,intT,O.adds,ownA,rowsA,over,wrOk,keysT,keysA,ne_eq,if_true,if_false,ite_self,Nat.reduceLT,Nat.reduceSub,Nat.reduceBEq,Nat.reduceEqDiff,Nat.reduceAdd,Nat.reduceLeDiff,reduceCtorEq,Nat.reduceMul]
  · by_cases h : a = b
    · simp only [F83,h,nmU,List.cons.injEq,and_true,or_false,false_or,true_or,or_true,or_self,encR,numT,failT,conT,enc,encL,w,spS,fxa,fxc,fxE,fxL,fxI,nxE,evO,evR,cellsT,ldCells,mkT,lenA,binPV,Env.init,resV,resT,frT,klT,ownT,intT,O.adds,ownA,rowsA,over,wrOk,keysT,keysA,ne_eq,if_true,if_false,ite_self,Nat.reduceLT,Nat.reduceSub,Nat.reduceBEq,Nat.reduceEqDiff,Nat.reduceAdd,Nat.reduceLeDiff,reduceCtorEq,Nat.reduceMul]
    · simp only [F83,h,nmU,List.cons.injEq,and_true,or_false,false_or,true_or,or_true,or_self,encR,numT,failT,conT,enc,encL,w,spS,fxa,fxc,fxE,fxL,fxI,nxE,evO,evR,cellsT,ldCells,mkT,lenA,binPV,Env.init,resV,resT,frT,klT,ownT,intT,O.adds,ownA,rowsA,over,wrOk,keysT,keysA,ne_eq,if_true,if_false,ite_self,Nat.reduceLT,Nat.reduceSub,Nat.reduceBEq,Nat.reduceEqDiff,Nat.reduceAdd,Nat.reduceLeDiff,reduceCtorEq,Nat.reduceMul]
theorem within9_ok {k n : Int} {s : List UInt8} {l : List T} (hl : l.length * 56 ≤ reachBytes) {i : Nat} {a x : T} {z : Int} (hi : l[i]? = some a) (h : eP S 68 [.g (enc a)] = some (encR (x,z))) :
    eP S 80 [.g (enc (.mk k n s l)),.a (.i .i64 (i : Nat))] = some (encR (if z = 0 then (.mk k n s l,0) else (.mk k n s (l.set i x),z))) := by
  refine x_fn (orcS _) (fc := F80) rfl rfl ?_
  have hil := (List.getElem?_eq_some_iff.1 hi).1
  have hi' : (l.map enc)[i]? = some (enc a) := by simp [hi]
  have hlt : ((i : Nat) : Int) < (l.length : Int) := by omega
  have hge : (0 : Int) ≤ ((i : Nat) : Int) := by omega
  have hbb : l.length * 56 ≤ 140737488355328 := by simp only [reachBytes] at hl; omega
  have htk : List.take l.length (l.map enc) = l.map enc := List.take_of_length_le (by simp)
  have htk2 : ∀ v,List.take l.length ((l.map enc).set i v) = (l.map enc).set i v := fun v => List.take_of_length_le (by simp)
  have e4 : enc (.mk k n s l) = [.i .i64 k,.i .i64 n,.s s,.l (l.map enc)] := enc_eq _
  have ea := enc_eq a
  have ex := enc_eq x
  unfold encR at h
  rw [ea,ex] at h
  rw [ea] at hi'
  by_cases hz : z = 0
  · subst hz
    rw [if_pos rfl]
    simp only [F80,e4,hi',hlt,hge,h,encR,enc_len,enc_take,enc_all,Int.toNat_natCast,List.length_map,spS,fxa,fxc,fxE,fxL,fxI,nxE,evO,evR,cellsT,ldCells,mkT,lenA,binPV,Env.init,resV,resT,frT,klT,ownT,intT,O.adds,ownA,rowsA,over,wrOk,keysT,keysA,ne_eq,if_true,if_false,ite_self,Nat.reduceLT,Nat.reduceSub,Nat.reduceBEq,Nat.reduceEqDiff,Nat.reduceAdd,Nat.reduceLeDiff,reduceCtorEq,Nat.reduceMul]
  · rw [if_neg hz]
    have e5 : enc (.mk k n s (l.set i x)) = [.i .i64 k,.i .i64 n,.s s,.l ((l.map enc).set i (enc x))] := by rw [enc_eq]; simp [T.k,T.n,T.s,T.l,List.map_set]
    simp only [F80,e4,e5,hi',hlt,hge,h,hz,hil,hbb,htk,htk2,ex,rowK,List.length_set,encR,enc_len,enc_take,enc_all,Int.toNat_natCast,List.length_map,Nat.zero_add,Nat.le_refl,List.drop_zero,spS,fxa,fxc,fxE,fxL,fxI,nxE,evO,evR,cellsT,ldCells,mkT,lenA,binPV,Env.init,resV,resT,frT,klT,ownT,intT,O.adds,ownA,rowsA,over,wrOk,keysT,keysA,ne_eq,if_true,if_false,ite_self,Nat.reduceLT,Nat.reduceSub,Nat.reduceBEq,Nat.reduceEqDiff,Nat.reduceAdd,Nat.reduceLeDiff,reduceCtorEq,Nat.reduceMul]
def pickL (c : T) : List T → T × Int
  | [] => (failT,4)
  | a :: r => if a.s = c.s ∧ a.n = (c.l.length : Int) then (inst c.l (a.l.getD 0 zT) 0,2) else pickL c r
theorem pick9_ok {k n : Int} {s : List UInt8} {c : T} {r : List T} (hl : (c :: r).length * 56 ≤ reachBytes) (hc : ∀ u ∈ c.l,T.Ok u) (h8 : c.k = 4 → c.l.length ≤ 8) (hr : ∀ a ∈ r,T.Ok a ∧ ∃ b,a.l = [b] ∧ tame b = true ∧ dep b ≤ 600) :
    eP S 81 [.g (enc (.mk k n s (c :: r)))] = some (encR (if c.k = 4 then pickL c r else (failT,4))) := by
  refine x_fn (orcS _) (fc := F81) rfl rfl ?_
  have n5 := fail9_ok
  unfold encR at n5
  have ef : enc failT = [.i .i64 9,.i .i64 0,.s [],.l []] := rfl
  have e4 : enc (.mk k n s (c :: r)) = [.i .i64 k,.i .i64 n,.s s,.l ((c :: r).map enc)] := enc_eq _
  have ec := enc_eq c
  obtain ⟨L,hL⟩ : ∃ L,c :: r = L := ⟨_,rfl⟩
  have h0 : (L.map enc)[0]? = some [.i .i64 c.k,.i .i64 c.n,.s c.s,.l (c.l.map enc)] := by rw [← hL,← ec]; rfl
  have hLl : L.length = r.length + 1 := by rw [← hL]; rfl
  have hL1 : (0 : Int) < (L.length : Int) := by omega
  have hLr : ∀ i,L.drop (i + 1) = r.drop i := by intro i; rw [← hL]; rfl
  have hLb : L.length ≤ 9223372036854775806 := by rw [hL] at hl; simp only [reachBytes] at hl; omega
  rw [hL] at e4 ⊢
  obtain ⟨R,hR⟩ : ∃ R,(if c.k = 4 then pickL c r else (failT,4)) = R := ⟨_,rfl⟩
  rw [hR]
  rw [e4]
  unfold encR
  simp only [F81,h0,hL1,Int.le_refl,Int.toNat_zero,enc_len,enc_all,List.length_map,spS,fxa,fxc,fxE,fxL,fxI,nxE,evO,evR,cellsT,ldCells,mkT,lenA,binPV,Env.init,resV,resT,frT,klT,ownT,intT,O.adds,ownA,rowsA,over,wrOk,keysT,keysA,ne_eq,if_true,if_false,ite_self,Nat.reduceLT,Nat.reduceSub,Nat.reduceBEq,Nat.reduceEqDiff,Nat.reduceAdd,Nat.reduceLeDiff,reduceCtorEq,Nat.reduceMul]
  refine loop_nat (r.length + 1) (fun i e τ => e 1 = .a (.ptr (1,0) 0 0) ∧ e 2 = .a (.ptr (2,1) 0 0) ∧ e 4 = .a (.ptr (4,2) 0 0) ∧ e 5 = .a (.p (.i .i64 (i : Nat))) ∧ 1 ≤ i ∧ τ.bs (1,0) = some (.var [.p (.i .i64 k),.p (.i .i64 n),.p (.s s),.p (.l (L.map enc))]) ∧ τ.bs (2,1) = some (.var [.p (.i .i64 0),.p (.i .i64 0),.p (.s []),.nil]) ∧ τ.bs (4,2) = some (.var [.p (.i .i64 c.k),.p (.i .i64 c.n),.p (.s c.s),.p (.l (c.l.map enc))]) ∧ (c.k = 4 → pickL c (L.drop i) = R)) (i0 := 1) (by omega) ?_ ?_ ?_
  · refine ⟨rfl,rfl,rfl,rfl,Nat.le_refl _,rfl,rfl,rfl,fun h => ?_⟩
    rw [if_pos h] at hR
    rw [hLr 0]; exact hR
  · rintro i e τ hi ⟨e1,e2,e4',e5,hi1,b1,b2,b4,hP⟩
    obtain ⟨a,ha⟩ : ∃ a,L[i]? = some a := ⟨_,List.getElem?_eq_getElem (by omega)⟩
    have har : a ∈ r := by
      have : r[i - 1]? = some a := by rw [← hL] at ha; rw [List.getElem?_cons,if_neg (by omega)] at ha; exact ha
      exact List.mem_of_getElem? this
    obtain ⟨hao,b,hab,htb,hdb⟩ := hr a har
    have ea := enc_eq a
    have ha' : (L.map enc)[i]? = some [.i .i64 a.k,.i .i64 a.n,.s a.s,.l (a.l.map enc)] := by rw [← ea]; simp [ha]
    have hlt : ((i : Nat) : Int) < (L.length : Int) := by omega
    have hge : (0 : Int) ≤ ((i : Nat) : Int) := by omega
    have hw := wrap_succ i (by omega)
    by_cases hk : c.k = 4
    case neg =>
      have hR' : R = (failT,4) := by rw [← hR,if_neg hk]
      rw [hR']
      simp only [F81b0,e1,e2,e4',e5,b1,b2,b4,hlt,hge,hw,hk,n5,ef,encR,enc_len,enc_all,Int.toNat_natCast,List.length_map,spS,fxa,fxc,fxE,fxL,fxI,nxE,evO,evR,cellsT,ldCells,mkT,lenA,binPV,Env.init,resV,resT,frT,klT,ownT,intT,O.adds,ownA,rowsA,over,wrOk,keysT,keysA,ne_eq,if_true,if_false,ite_self,Nat.reduceLT,Nat.reduceSub,Nat.reduceBEq,Nat.reduceEqDiff,Nat.reduceAdd,Nat.reduceLeDiff,reduceCtorEq,Nat.reduceMul]
    have hd : L.drop i = a :: L.drop (i + 1) := by
      obtain ⟨h1,rfl⟩ := List.getElem?_eq_some_iff.1 ha
      rw [List.drop_eq_getElem_cons h1]
    have hP' := hP hk
    rw [hd] at hP'
    simp only [pickL] at hP'
    by_cases g1 : a.s = c.s
    · by_cases g2 : a.n = (c.l.length : Int)
      · rw [if_pos ⟨g1,g2⟩,hab] at hP'
        have hP2 : (inst c.l b 0,(2 : Int)) = R := hP'
        have hbo : T.Ok b := by
          cases hao with
          | mk k n s l hk hn hs hl h => exact h b (by have : l = [b] := hab; rw [this]; simp)
        have c5 := inst8_ok hc (h8 hk) hbo hdb htb
        have eb := enc_eq b
        have ei := enc_eq (inst c.l b 0)
        rw [ei,eb] at c5
        have hb0 : (a.l.map enc)[0]? = some [.i .i64 b.k,.i .i64 b.n,.s b.s,.l (b.l.map enc)] := by rw [hab,← eb]; rfl
        have hal : (0 : Int) < (a.l.length : Int) := by rw [hab]; simp
        rw [← hP2]
        simp only [F81b0,e1,e2,e4',e5,b1,b2,b4,hlt,hge,hw,hk,g1,g2,ha',hb0,hal,c5,ei,Int.le_refl,Int.toNat_zero,encR,enc_len,enc_all,Int.toNat_natCast,List.length_map,spS,fxa,fxc,fxE,fxL,fxI,nxE,evO,evR,cellsT,ldCells,mkT,lenA,binPV,Env.init,resV,resT,frT,klT,ownT,intT,O.adds,ownA,rowsA,over,wrOk,keysT,keysA,ne_eq,if_true,if_false,ite_self,Nat.reduceLT,Nat.reduceSub,Nat.reduceBEq,Nat.reduceEqDiff,Nat.reduceAdd,Nat.reduceLeDiff,reduceCtorEq,Nat.reduceMul]
      · rw [if_neg (fun h => g2 h.2)] at hP'
        simp only [F81b0,e1,e2,e4',e5,b1,b2,b4,hlt,hge,hw,hk,g1,g2,ha',Int.le_refl,Int.toNat_zero,encR,enc_len,enc_all,Int.toNat_natCast,List.length_map,spS,fxa,fxc,fxE,fxL,fxI,nxE,evO,evR,cellsT,ldCells,mkT,lenA,binPV,Env.init,resV,resT,frT,klT,ownT,intT,O.adds,ownA,rowsA,over,wrOk,keysT,keysA,ne_eq,if_true,if_false,ite_self,Nat.reduceLT,Nat.reduceSub,Nat.reduceBEq,Nat.reduceEqDiff,Nat.reduceAdd,Nat.reduceLeDiff,reduceCtorEq,Nat.reduceMul]
        exact fun _ => hP'
    · rw [if_neg (fun h => g1 h.1)] at hP'
      simp only [F81b0,e1,e2,e4',e5,b1,b2,b4,hlt,hge,hw,hk,g1,ha',Int.le_refl,Int.toNat_zero,encR,enc_len,enc_all,Int.toNat_natCast,List.length_map,spS,fxa,fxc,fxE,fxL,fxI,nxE,evO,evR,cellsT,ldCells,mkT,lenA,binPV,Env.init,resV,resT,frT,klT,ownT,intT,O.adds,ownA,rowsA,over,wrOk,keysT,keysA,ne_eq,if_true,if_false,ite_self,Nat.reduceLT,Nat.reduceSub,Nat.reduceBEq,Nat.reduceEqDiff,Nat.reduceAdd,Nat.reduceLeDiff,reduceCtorEq,Nat.reduceMul]
      exact fun _ => hP'
  · rintro e τ ⟨e1,e2,e4',e5,hi1,b1,b2,b4,hP⟩
    have hlt : ¬ ((r.length + 1 : Nat) : Int) < (L.length : Int) := by omega
    have hR' : R = (failT,4) := by
      by_cases hk : c.k = 4
      · have := hP hk
        rw [hLr,List.drop_length] at this
        exact this.symm
      · rw [← hR,if_neg hk]
    rw [hR']
    simp only [F81b0,e1,e2,e4',e5,b1,b2,b4,hlt,n5,ef,encR,List.length_map,spS,fxa,fxc,fxE,fxL,fxI,nxE,evO,evR,cellsT,ldCells,mkT,lenA,binPV,Env.init,resV,resT,frT,klT,ownT,intT,O.adds,ownA,rowsA,over,wrOk,keysT,keysA,ne_eq,if_true,if_false,ite_self,Nat.reduceLT,Nat.reduceSub,Nat.reduceBEq,Nat.reduceEqDiff,Nat.reduceAdd,Nat.reduceLeDiff,reduceCtorEq,Nat.reduceMul]
end Go.Proofs.Ytlgekplmbmkcmaa
end
section
set_option linter.unusedSimpArgs false
set_option linter.unusedVariables false
set_option maxHeartbeats 4000000
set_option maxRecDepth 10000
namespace Go.Proofs.Ytlgekplmbmkcmaa
open Go.Fx
theorem step_none {k n : Int} {s : List UInt8} {l : List T} (h3 : k ≠ 3) (h5 : k ≠ 5) (h8 : k ≠ 8) : eP S 68 [.g (enc (.mk k n s l))] = some (encR (.mk k n s l,0)) := by
  refine x_fn (orcS _) (fc := F68) rfl rfl ?_
  have e4 : enc (.mk k n s l) = [.i .i64 k,.i .i64 n,.s s,.l (l.map enc)] := enc_eq _
  simp only [F68,e4,h3,h5,h8,encR,spS,fxa,fxc,fxE,fxL,fxI,nxE,evO,evR,cellsT,ldCells,mkT,lenA,binPV,Env.init,resV,resT,frT,klT,ownT,intT,O.adds,ownA,rowsA,over,wrOk,keysT,keysA,ne_eq,if_true,if_false,ite_self,Nat.reduceLT,Nat.reduceSub,Nat.reduceBEq,Nat.reduceEqDiff,Nat.reduceAdd,Nat.reduceLeDiff,reduceCtorEq,Nat.reduceMul]
theorem step_in0 {k n : Int} {s : List UInt8} {a : T} {r : List T} (hk : k = 3 ∨ k = 5 ∨ k = 8) (hv : ¬ valT a) {R : T × Int} (h : eP S 80 [.g (enc (.mk k n s (a :: r))),.a (.i .i64 ((0 : Nat) : Int))] = some (encR R)) :
    eP S 68 [.g (enc (.mk k n s (a :: r)))] = some (encR R) := by
  refine x_fn (orcS _) (fc := F68) rfl rfl ?_
  obtain ⟨x,z⟩ := R
  have e4 : enc (.mk k n s (a :: r)) = [.i .i64 k,.i .i64 n,.s s,.l (enc a :: r.map enc)] := enc_eq _
  have ea := enc_eq a
  have ex := enc_eq x
  have hv' := value9_no hv
  have h0 : ((0 : Nat) : Int) = 0 := rfl
  unfold encR at h ⊢
  rw [e4] at h ⊢
  rw [ea] at h hv' ⊢
  rw [ex] at h ⊢
  have hlt : (0 : Int) < (((r.length + 1 : Nat)) : Int) := by omega
  rcases hk with rfl | rfl | rfl <;> simp only [F68,h,h0,hv',hlt,enc_len,enc_take,enc_all,Int.reduceEq,Int.le_refl,Int.toNat_zero,List.getElem?_cons_zero,List.length_cons,List.length_map,List.all_cons,Bool.true_and,spS,fxa,fxc,fxE,fxL,fxI,nxE,evO,evR,cellsT,ldCells,mkT,lenA,binPV,Env.init,resV,resT,frT,klT,ownT,intT,O.adds,ownA,rowsA,over,wrOk,keysT,keysA,ne_eq,if_true,if_false,ite_self,Nat.reduceLT,Nat.reduceSub,Nat.reduceBEq,Nat.reduceEqDiff,Nat.reduceAdd,Nat.reduceLeDiff,reduceCtorEq,Nat.reduceMul] at h ⊢
  all_goals simp only [h,spS,fxa,fxc,fxE,fxL,fxI,nxE,evO,evR,cellsT,ldCells,mkT,lenA,binPV,Env.init,resV,resT,frT,klT,ownT,intT,O.adds,ownA,rowsA,over,wrOk,keysT,keysA,ne_eq,if_true,if_false,ite_self,Nat.reduceLT,Nat.reduceSub,Nat.reduceBEq,Nat.reduceEqDiff,Nat.reduceAdd,Nat.reduceLeDiff,reduceCtorEq,Nat.reduceMul]
theorem step_case {n : Int} {s : List UInt8} {a : T} {r : List T} (hv : valT a) {R : T × Int} (h : eP S 81 [.g (enc (.mk 5 n s (a :: r)))] = some (encR R)) :
    eP S 68 [.g (enc (.mk 5 n s (a :: r)))] = some (encR R) := by
  refine x_fn (orcS _) (fc := F68) rfl rfl ?_
  obtain ⟨x,z⟩ := R
  have e4 : enc (.mk 5 n s (a :: r)) = [.i .i64 5,.i .i64 n,.s s,.l (enc a :: r.map enc)] := enc_eq _
  have ea := enc_eq a
  have ex := enc_eq x
  have hv' := value9_ok hv
  unfold encR at h ⊢
  rw [e4] at h ⊢
  rw [ea] at h hv' ⊢
  rw [ex] at h ⊢
  have hlt : (0 : Int) < (((r.length + 1 : Nat)) : Int) := by omega
  simp only [F68,h,hv',hlt,enc_len,enc_take,enc_all,Int.reduceEq,Int.le_refl,Int.toNat_zero,List.getElem?_cons_zero,List.length_cons,List.length_map,List.all_cons,Bool.true_and,spS,fxa,fxc,fxE,fxL,fxI,nxE,evO,evR,cellsT,ldCells,mkT,lenA,binPV,Env.init,resV,resT,frT,klT,ownT,intT,O.adds,ownA,rowsA,over,wrOk,keysT,keysA,ne_eq,if_true,if_false,ite_self,Nat.reduceLT,Nat.reduceSub,Nat.reduceBEq,Nat.reduceEqDiff,Nat.reduceAdd,Nat.reduceLeDiff,reduceCtorEq,Nat.reduceMul]
theorem step_beta {n m : Int} {s q : List UInt8} {b u : T} (hb : T.Ok b) (hu : T.Ok u) : eP S 68 [.g (enc (.mk 3 n s [.mk 2 m q [b],u]))] = some (encR (put 0 u b 0,1)) := by
  refine x_fn (orcS _) (fc := F68) rfl rfl ?_
  have e4 : enc (.mk 3 n s [.mk 2 m q [b],u]) = [.i .i64 3,.i .i64 n,.s s,.l [enc (.mk 2 m q [b]),enc u]] := rfl
  have ea : enc (.mk 2 m q [b]) = [.i .i64 2,.i .i64 m,.s q,.l [enc b]] := rfl
  have hv' := value9_ok (t := .mk 2 m q [b]) (.inl rfl)
  have c1 := put_ok hb hu 0
  have ex := enc_eq (put 0 u b 0)
  have eb := enc_eq b
  have eu := enc_eq u
  unfold encR
  rw [ex,eb,eu] at c1
  rw [e4]
  rw [ea,eb] at hv' ⊢
  rw [ex,eu]
  simp only [F68,hv',c1,enc_len,enc_take,enc_all,Int.cast_ofNat_Int,Int.reduceEq,Int.reduceLT,Int.reduceLE,Int.reduceToNat,Int.le_refl,Int.toNat_zero,List.getElem?_cons_zero,List.getElem?_cons_succ,List.length_cons,List.length_nil,List.length_map,List.all_cons,List.all_nil,Bool.true_and,spS,fxa,fxc,fxE,fxL,fxI,nxE,evO,evR,cellsT,ldCells,mkT,lenA,binPV,Env.init,resV,resT,frT,klT,ownT,intT,O.adds,ownA,rowsA,over,wrOk,keysT,keysA,ne_eq,if_true,if_false,ite_self,Nat.reduceLT,Nat.reduceSub,Nat.reduceBEq,Nat.reduceEqDiff,Nat.reduceAdd,Nat.reduceLeDiff,reduceCtorEq,Nat.reduceMul]
theorem step_fail3 {n : Int} {s : List UInt8} {a u : T} (hv : valT a) (h2 : a.k ≠ 2) : eP S 68 [.g (enc (.mk 3 n s [a,u]))] = some (encR (failT,4)) := by
  refine x_fn (orcS _) (fc := F68) rfl rfl ?_
  have e4 : enc (.mk 3 n s [a,u]) = [.i .i64 3,.i .i64 n,.s s,.l [enc a,enc u]] := rfl
  have hv' := value9_ok hv
  have n5 := fail9_ok
  have ef : enc failT = [.i .i64 9,.i .i64 0,.s [],.l []] := rfl
  have ea := enc_eq a
  unfold encR at n5 ⊢
  rw [e4]
  rw [ea] at hv' ⊢
  simp only [F68,hv',n5,ef,h2,enc_len,enc_take,enc_all,Int.cast_ofNat_Int,Int.reduceEq,Int.reduceLT,Int.reduceLE,Int.reduceToNat,Int.le_refl,Int.toNat_zero,List.getElem?_cons_zero,List.getElem?_cons_succ,List.length_cons,List.length_nil,List.length_map,List.all_cons,List.all_nil,Bool.true_and,spS,fxa,fxc,fxE,fxL,fxI,nxE,evO,evR,cellsT,ldCells,mkT,lenA,binPV,Env.init,resV,resT,frT,klT,ownT,intT,O.adds,ownA,rowsA,over,wrOk,keysT,keysA,ne_eq,if_true,if_false,ite_self,Nat.reduceLT,Nat.reduceSub,Nat.reduceBEq,Nat.reduceEqDiff,Nat.reduceAdd,Nat.reduceLeDiff,reduceCtorEq,Nat.reduceMul]
theorem step_fail8 {n : Int} {s : List UInt8} {a u : T} (hv : valT a) (h2 : a.k ≠ 7) : eP S 68 [.g (enc (.mk 8 n s [a,u]))] = some (encR (failT,4)) := by
  refine x_fn (orcS _) (fc := F68) rfl rfl ?_
  have e4 : enc (.mk 8 n s [a,u]) = [.i .i64 8,.i .i64 n,.s s,.l [enc a,enc u]] := rfl
  have hv' := value9_ok hv
  have n5 := fail9_ok
  have ef : enc failT = [.i .i64 9,.i .i64 0,.s [],.l []] := rfl
  have ea := enc_eq a
  have eu := enc_eq u
  unfold encR at n5 ⊢
  rw [e4]
  rw [ea] at hv' ⊢
  rw [eu]
  simp only [F68,hv',n5,ef,h2,enc_len,enc_take,enc_all,Int.cast_ofNat_Int,Int.reduceEq,Int.reduceLT,Int.reduceLE,Int.reduceToNat,Int.le_refl,Int.toNat_zero,List.getElem?_cons_zero,List.getElem?_cons_succ,List.length_cons,List.length_nil,List.length_map,List.all_cons,List.all_nil,Bool.true_and,spS,fxa,fxc,fxE,fxL,fxI,nxE,evO,evR,cellsT,ldCells,mkT,lenA,binPV,Env.init,resV,resT,frT,klT,ownT,intT,O.adds,ownA,rowsA,over,wrOk,keysT,keysA,ne_eq,if_true,if_false,ite_self,Nat.reduceLT,Nat.reduceSub,Nat.reduceBEq,Nat.reduceEqDiff,Nat.reduceAdd,Nat.reduceLeDiff,reduceCtorEq,Nat.reduceMul]
theorem step_in1 {n : Int} {s : List UInt8} {a u : T} (h7 : a.k = 7) (hv : ¬ valT u) {R : T × Int} (h : eP S 80 [.g (enc (.mk 8 n s [a,u])),.a (.i .i64 ((1 : Nat) : Int))] = some (encR R)) :
    eP S 68 [.g (enc (.mk 8 n s [a,u]))] = some (encR R) := by
  refine x_fn (orcS _) (fc := F68) rfl rfl ?_
  obtain ⟨x,z⟩ := R
  have e4 : enc (.mk 8 n s [a,u]) = [.i .i64 8,.i .i64 n,.s s,.l [enc a,enc u]] := rfl
  have ea := enc_eq a
  rw [h7] at ea
  have eu := enc_eq u
  have ex := enc_eq x
  have hv' := value9_ok (t := a) (.inr (.inr (.inl h7)))
  have hv2 := value9_no hv
  have h1 : ((1 : Nat) : Int) = 1 := rfl
  rw [h1] at h
  unfold encR at h ⊢
  rw [e4] at h ⊢
  rw [ea] at h hv' ⊢
  rw [eu] at h hv2 ⊢
  rw [ex] at h ⊢
  simp only [F68,hv',hv2,h,h7,enc_len,enc_take,enc_all,Int.cast_ofNat_Int,Int.reduceEq,Int.reduceLT,Int.reduceLE,Int.reduceToNat,Int.le_refl,Int.toNat_zero,List.getElem?_cons_zero,List.getElem?_cons_succ,List.length_cons,List.length_nil,List.length_map,List.all_cons,List.all_nil,Bool.true_and,spS,fxa,fxc,fxE,fxL,fxI,nxE,evO,evR,cellsT,ldCells,mkT,lenA,binPV,Env.init,resV,resT,frT,klT,ownT,intT,O.adds,ownA,rowsA,over,wrOk,keysT,keysA,ne_eq,if_true,if_false,ite_self,Nat.reduceLT,Nat.reduceSub,Nat.reduceBEq,Nat.reduceEqDiff,Nat.reduceAdd,Nat.reduceLeDiff,reduceCtorEq,Nat.reduceMul]
theorem step_fail81 {n : Int} {s : List UInt8} {a u : T} (h7 : a.k = 7) (hv : valT u) (h2 : u.k ≠ 7) : eP S 68 [.g (enc (.mk 8 n s [a,u]))] = some (encR (failT,4)) := by
  refine x_fn (orcS _) (fc := F68) rfl rfl ?_
  have e4 : enc (.mk 8 n s [a,u]) = [.i .i64 8,.i .i64 n,.s s,.l [enc a,enc u]] := rfl
  have hv' := value9_ok (t := a) (.inr (.inr (.inl h7)))
  have hv2 := value9_ok hv
  have n5 := fail9_ok
  have ef : enc failT = [.i .i64 9,.i .i64 0,.s [],.l []] := rfl
  have ea := enc_eq a
  rw [h7] at ea
  have eu := enc_eq u
  unfold encR at n5 ⊢
  rw [e4]
  rw [ea] at hv' ⊢
  rw [eu] at hv2 ⊢
  simp only [F68,hv',hv2,n5,ef,h7,h2,enc_len,enc_take,enc_all,Int.cast_ofNat_Int,Int.reduceEq,Int.reduceLT,Int.reduceLE,Int.reduceToNat,Int.le_refl,Int.toNat_zero,List.getElem?_cons_zero,List.getElem?_cons_succ,List.length_cons,List.length_nil,List.length_map,List.all_cons,List.all_nil,Bool.true_and,spS,fxa,fxc,fxE,fxL,fxI,nxE,evO,evR,cellsT,ldCells,mkT,lenA,binPV,Env.init,resV,resT,frT,klT,ownT,intT,O.adds,ownA,rowsA,over,wrOk,keysT,keysA,ne_eq,if_true,if_false,ite_self,Nat.reduceLT,Nat.reduceSub,Nat.reduceBEq,Nat.reduceEqDiff,Nat.reduceAdd,Nat.reduceLeDiff,reduceCtorEq,Nat.reduceMul]
theorem step_op {n : Int} {s : List UInt8} {a u : T} (h7 : a.k = 7) (h2 : u.k = 7) (hs : isOp s = true) : eP S 68 [.g (enc (.mk 8 n s [a,u]))] = some (encR (opR s a.n u.n)) := by
  refine x_fn (orcS _) (fc := F68) rfl rfl ?_
  have e4 : enc (.mk 8 n s [a,u]) = [.i .i64 8,.i .i64 n,.s s,.l [enc a,enc u]] := rfl
  have hv' := value9_ok (t := a) (.inr (.inr (.inl h7)))
  have hv2 := value9_ok (t := u) (.inr (.inr (.inl h2)))
  have c1 := op9_ok (a := a.n) (b := u.n) hs
  obtain ⟨⟨x,z⟩,hx⟩ : ∃ R,opR s a.n u.n = R := ⟨_,rfl⟩
  rw [hx] at c1 ⊢
  have ea := enc_eq a
  rw [h7] at ea
  have eu := enc_eq u
  rw [h2] at eu
  have ex := enc_eq x
  unfold encR at c1 ⊢
  rw [ex] at c1 ⊢
  rw [e4]
  rw [ea] at hv' ⊢
  rw [eu] at hv2 ⊢
  simp only [F68,hv',hv2,c1,h7,h2,enc_len,enc_take,enc_all,Int.cast_ofNat_Int,Int.reduceEq,Int.reduceLT,Int.reduceLE,Int.reduceToNat,Int.le_refl,Int.toNat_zero,List.getElem?_cons_zero,List.getElem?_cons_succ,List.length_cons,List.length_nil,List.length_map,List.all_cons,List.all_nil,Bool.true_and,spS,fxa,fxc,fxE,fxL,fxI,nxE,evO,evR,cellsT,ldCells,mkT,lenA,binPV,Env.init,resV,resT,frT,klT,ownT,intT,O.adds,ownA,rowsA,over,wrOk,keysT,keysA,ne_eq,if_true,if_false,ite_self,Nat.reduceLT,Nat.reduceSub,Nat.reduceBEq,Nat.reduceEqDiff,Nat.reduceAdd,Nat.reduceLeDiff,reduceCtorEq,Nat.reduceMul]
end Go.Proofs.Ytlgekplmbmkcmaa
end
section
set_option linter.unusedSimpArgs false
set_option linter.unusedVariables false
set_option maxHeartbeats 4000000
set_option maxRecDepth 10000
namespace Go.Proofs.Ytlgekplmbmkcmaa
open Go.Fx
theorem sizeLZ_set : ∀ {l : List T} {i : Nat} {a : T} (x : T),l[i]? = some a → sizeLZ (l.set i x) = sizeLZ l - sizeZ a + sizeZ x
  | [],i,a,x,h => by simp at h
  | t :: l,0,a,x,h => by
    simp only [List.getElem?_cons_zero,Option.some.injEq] at h
    subst h
    simp only [List.set_cons_zero,sizeLZ]; omega
  | t :: l,i + 1,a,x,h => by
    rw [List.getElem?_cons_succ] at h
    have := sizeLZ_set x h
    simp only [List.set_cons_succ,sizeLZ,this]; omega
theorem plain_eq {k n : Int} {s : List UInt8} {l : List T} (h2 : k ≠ 2) (h6 : k ≠ 6) (h : ∀ u ∈ l,ofT u = ofZ u) : ofT (.mk k n s l) = ofZ (.mk k n s l) ∧ bZ k n l = [] := by
  have hb : bZ k n l = [] := by
    unfold bZ mo
    rw [if_neg h2,if_neg h6]
    simp
  have hu : useB (.mk k n s l) = [] := by
    unfold useB binds
    simp only [T.k,T.n,T.l,h2,h6,if_false]
    split <;> rfl
  refine ⟨?_,hb⟩
  show useB (.mk k n s l) ++ ofTL l = bZ k n l ++ ofZL l
  rw [hb,hu,ofTL_eq h]
structure Goes (t x : T) (z : Int) : Prop where
  ok : T.Ok x
  eq : ofT x = ofZ x
  a : aff x
  s : sizeZ x ≤ sizeZ t
  d : z = 0 ∨ sizeZ x < sizeZ t
theorem goes_leaf {t : T} {k n z : Int} {s : List UInt8} (h1 : k ≠ 1) (h2 : k ≠ 2) (h6 : k ≠ 6) (hk : (Lit.int .i64 k).wf = true) (hn : (Lit.int .i64 n).wf = true) (hs : s.length ≤ reachBytes) (ht : 1 < sizeZ t) : Goes t (.mk k n s []) z := by
  have h := plain_eq (k := k) (n := n) (s := s) (l := []) h2 h6 (by simp)
  have hz : sizeZ (.mk k n s []) = 1 := rfl
  refine ⟨.mk k n s [] hk hn hs (by simp [reachBytes]) (by simp),h.1,?_,by omega,.inr (by omega)⟩
  rw [aff_mk,h.2]; simp
theorem goes_fail {t : T} {z : Int} (ht : 1 < sizeZ t) : Goes t failT z := goes_leaf (by decide) (by decide) (by decide) (by decide) (by decide) (by simp [reachBytes]) ht
theorem goes_op {t : T} {s : List UInt8} {a b : Int} (ht : 1 < sizeZ t) : Goes t (opR s a b).1 (opR s a b).2 := by
  unfold opR
  have hnum : ∀ n,Goes t (numT (w n)) 3 := fun n => goes_leaf (by decide) (by decide) (by decide) (by decide) (wf_w n) (by simp [reachBytes]) ht
  have hcon : ∀ s : List UInt8,s.length ≤ 10 → Goes t (conT s) 3 := fun s hs => goes_leaf (by decide) (by decide) (by decide) (by decide) (by decide) (by simp only [reachBytes]; omega) ht
  repeat' split
  all_goals first
    | exact hnum _
    | exact goes_fail ht
    | exact hcon _ (by decide)
theorem goes_within {k n : Int} {s : List UInt8} {l : List T} (h1 : k ≠ 1) (h2 : k ≠ 2) (h6 : k ≠ 6) (ht : T.Ok (.mk k n s l)) (hZ : ∀ u ∈ l,ofT u = ofZ u) (ha : aff (.mk k n s l)) {i : Nat} {a x : T} {z : Int} (hi : l[i]? = some a) (hg : Goes a x z) :
    Goes (.mk k n s l) (if z = 0 then ((.mk k n s l : T),(0 : Int)) else (.mk k n s (l.set i x),z)).1 (if z = 0 then ((.mk k n s l : T),(0 : Int)) else (.mk k n s (l.set i x),z)).2 := by
  by_cases hz : z = 0
  · rw [if_pos hz]
    exact ⟨ht,(plain_eq h2 h6 hZ).1,ha,Int.le_refl _,.inl rfl⟩
  · rw [if_neg hz]
    show Goes (.mk k n s l) (.mk k n s (l.set i x)) z
    have hs : sizeZ (.mk k n s (l.set i x)) = sizeLZ (l.set i x) + 1 := rfl
    have hs2 : sizeZ (.mk k n s l) = sizeLZ l + 1 := rfl
    have hset := sizeLZ_set x hi
    have hd := hg.d.resolve_left hz
    have hZ' : ∀ u ∈ l.set i x,ofT u = ofZ u := fun u hu => by
      rcases List.mem_or_eq_of_mem_set hu with h | rfl
      · exact hZ u h
      · exact hg.eq
    have hp := plain_eq (k := k) (n := n) (s := s) h2 h6 hZ'
    refine ⟨?_,hp.1,?_,by omega,.inr (by omega)⟩
    · cases ht with
      | mk k n s l hk hn hs hl h =>
        refine .mk k n s _ hk hn hs (by simpa using hl) fun u hu => ?_
        rcases List.mem_or_eq_of_mem_set hu with h' | rfl
        · exact h u h'
        · exact hg.ok
    · rw [aff_mk,hp.2]
      refine ⟨by simp,fun u hu => ?_⟩
      rcases List.mem_or_eq_of_mem_set hu with h' | rfl
      · exact (aff_mk.1 ha).2 u h'
      · exact hg.a
theorem goes_beta {n m : Int} {s q : List UInt8} {b u : T} (hb : T.Ok b) (hu : T.Ok u) (mb : may b 1 false = true) (mu : may u 0 false = true) (db : dep b ≤ 600) (du : dep u ≤ 600) (ab : aff b) (au : aff u) (h1 : usesZ b 0 ≤ 1) (hz : sizeZ b + sizeZ u ≤ 1000) :
    Goes (.mk 3 n s [.mk 2 m q [b],u]) (put 0 u b 0) 1 := by
  have vb : V b 1 600 := may_V mb db (by omega) (by omega)
  have vu : V u 0 600 := may_V mu du (by omega) (by omega)
  have e : put 0 u b 0 = sub (mput (fun _ => u) 1 0) b := by
    rw [put0 vb vu (by omega) (by omega) (p := 0) (by omega) (by omega) (by omega) 0 (by omega)]
    refine sub_ext vb fun n h0 hn => ?_
    rw [sput_eq vu,if_pos (by omega)]
    unfold mput
    rw [if_neg (by omega),if_pos (by omega)]
  have hup : upTo (fun _ => sizeZ u) 1 = sizeZ u := by simp [upTo]
  obtain ⟨g1,g2,g3⟩ := mput_good (U := fun _ => u) (m := 1) (t := b) (Z := sizeZ b + sizeZ u) (by omega) mb db (fun j h0 hj => ⟨mu,du,au⟩) ab (fun j h0 hj => by rw [show j = 0 by omega]; exact h1) (by rw [hup]; omega) (by omega)
  have ho := Ok_put 0 hu hb 0
  have hs : sizeZ (.mk 3 n s [.mk 2 m q [b],u]) = (sizeZ b + 0 + 1) + (sizeZ u + 0) + 1 := rfl
  rw [e] at ho ⊢
  exact ⟨ho,g1,g2,by omega,.inr (by omega)⟩
theorem rng_getD {l : List T} (f : T → Int) : ((List.range l.length).map fun i : Nat => f (l.getD i zT)).sum = (l.map f).sum := by
  congr 1
  refine List.ext_getElem (by simp) fun i h1 h2 => ?_
  simp only [List.length_map] at h2
  simp [List.getD_eq_getElem?_getD,List.getElem?_eq_getElem h2]
theorem sizeLZ_sum (l : List T) : sizeLZ l = (l.map sizeZ).sum := by
  induction l with
  | nil => rfl
  | cons t l ih => simp only [sizeLZ,List.map_cons,List.sum_cons,ih]
theorem goes_inst {t : T} {us : List T} {b : T} (hus : ∀ u ∈ us,T.Ok u ∧ may u 0 false = true ∧ dep u ≤ 600 ∧ aff u) (hl : us.length ≤ 8) (hb : T.Ok b) (tb : tame b = true) (mb : may b us.length false = true) (db : dep b ≤ 600) (ab : aff b) (h1 : ∀ j : Int,0 ≤ j → j < us.length → usesZ b j ≤ 1) (hz : sizeZ b + sizeLZ us < sizeZ t) (hz2 : sizeZ t ≤ 1000) :
    Goes t (inst us b 0) 2 := by
  have vb : V b us.length 600 := may_V mb db (by omega) (by omega)
  have vu : ∀ u ∈ us,V u 0 600 := fun u hu => may_V (hus u hu).2.1 (hus u hu).2.2.1 (by omega) (by omega)
  obtain ⟨U,hU⟩ : ∃ U : Int → T,U = fun j => us.getD ((us.length : Int) - 1 - j).toNat zT := ⟨_,rfl⟩
  have hUm : ∀ j : Int,0 ≤ j → j < us.length → U j ∈ us := fun j h0 hj => by
    rw [hU]
    show us.getD ((us.length : Int) - 1 - j).toNat zT ∈ us
    rw [List.getD_eq_getElem?_getD,List.getElem?_eq_getElem (by omega)]
    exact List.getElem_mem _
  have e : inst us b 0 = sub (mput U us.length 0) b := by
    rw [inst_sub vu (by omega) vb (by omega) (by omega) (by omega)]
    refine sub_ext vb fun n h0 hn => ?_
    have hm := hUm n h0 hn
    unfold sinst mput
    rw [if_neg (by omega),if_pos (by omega),if_neg (by omega),if_pos (by omega),Int.sub_zero]
    have : us.getD ((us.length : Int) - 1 - n).toNat (.mk 0 0 [] []) = U n := by rw [hU]
    rw [this,ren_closed (vu _ hm)]
  have hup : upTo (fun j => sizeZ (U j)) us.length = sizeLZ us := by
    rw [← upTo_rev,sizeLZ_sum,← rng_getD sizeZ]
    congr 1
    refine List.map_congr_left fun i hi => ?_
    have hi := List.mem_range.1 hi
    rw [hU]
    show sizeZ (us.getD ((us.length : Int) - 1 - ((us.length : Int) - 1 - (i : Int))).toNat zT) = _
    rw [show ((us.length : Int) - 1 - ((us.length : Int) - 1 - (i : Int))).toNat = i by omega]
  obtain ⟨g1,g2,g3⟩ := mput_good (U := U) (m := us.length) (t := b) (Z := sizeZ b + sizeLZ us) (by omega) mb db (fun j h0 hj => (hus _ (hUm j h0 hj)).2) ab h1 (by rw [hup]; omega) (by omega)
  have ho := Ok_inst8 (fun u hu => (hus u hu).1) hl hb tb 0
  rw [e] at ho ⊢
  exact ⟨ho,g1,g2,by omega,.inr (by omega)⟩
theorem pickL_mem (c : T) : ∀ r : List T,pickL c r = (failT,4) ∨ ∃ a ∈ r,a.n = (c.l.length : Int) ∧ pickL c r = (inst c.l (a.l.getD 0 zT) 0,2)
  | [] => .inl rfl
  | a :: r => by
    unfold pickL
    by_cases h : a.s = c.s ∧ a.n = (c.l.length : Int)
    · rw [if_pos h]
      exact .inr ⟨a,by simp,h.2,rfl⟩
    · rw [if_neg h]
      rcases pickL_mem c r with h1 | ⟨b,hb,h2,h3⟩
      · exact .inl h1
      · exact .inr ⟨b,by simp [hb],h2,h3⟩
theorem Ok_l {t : T} (h : T.Ok t) : ∀ u ∈ t.l,T.Ok u := by
  cases h with
  | mk k n s l hk hn hs hl h => exact h
theorem step_main {t : T} : T.Ok t → may t 0 false = true → dep t ≤ 600 → sizeZ t ≤ 1000 → aff t → ∃ R : T × Int,eP S 68 [.g (enc t)] = some (encR R) ∧ Goes t R.1 R.2 := by
  induction t using T.ind with
  | h k n s l ih =>
    intro ht hm hd hz ha
    have hZt := ofT_Z hm hd (by omega) (by omega) (by omega)
    have hm' := hm
    rw [may_iff (by omega) (by omega)] at hm'
    obtain ⟨h1,h2⟩ := hm'
    have eh : head (.mk k n s l) 0 false = headC k n s l.length 0 false := rfl
    rw [eh] at h1
    have hdl : depL l + 1 ≤ 600 := hd
    have hzl : sizeLZ l + 1 ≤ 1000 := hz
    have hlb : l.length * 56 ≤ reachBytes := by cases ht; assumption
    have hok := Ok_l ht
    have hal := (aff_mk.1 ha).2
    by_cases hk : k = 3 ∨ k = 5 ∨ k = 8
    case neg => exact ⟨(.mk k n s l,0),step_none (fun h => hk (.inl h)) (fun h => hk (.inr (.inl h))) (fun h => hk (.inr (.inr h))),⟨ht,hZt,ha,Int.le_refl _,.inl rfl⟩⟩
    have hmo : T.more (.mk k n s l) = 0 := by
      rw [more_eq]
      rw [if_neg (by omega),if_neg (by omega)]
    rw [hmo] at h2
    have hmj : ∀ j u,l[j]? = some u → may u 0 (decide (k = 5) && decide (((j : Nat) : Int) > 0)) = true := fun j u hj => by have := (h2 j u hj).1; simpa using this
    have hlen : 2 ≤ l.length := by
      unfold headC at h1
      rcases hk with rfl | rfl | rfl
      all_goals simp at h1; omega
    have hp : ∀ u ∈ l,dep u ≤ 600 ∧ sizeZ u ≤ 1000 := fun u hu => by
      have h3 := depL_mem hu
      have h4 := sizeLZ_mem hu
      exact ⟨by omega,by omega⟩
    have hZ : ∀ u ∈ l,ofT u = ofZ u := fun u hu => by
      obtain ⟨j,hj⟩ := List.getElem?_of_mem hu
      have := hp u hu
      exact ofT_Z (hmj j u hj) this.1 (by omega) (by omega) (by omega)
    obtain ⟨a,r,rfl⟩ : ∃ a r,l = a :: r := by
      match l,hlen with
      | a :: r,_ => exact ⟨a,r,rfl⟩
    have ma : may a 0 false = true := by
      have := hmj 0 a rfl
      simpa using this
    have hpa := hp a (by simp)
    have hsz : sizeZ (.mk k n s (a :: r)) = sizeZ a + sizeLZ r + 1 := rfl
    have hsp := sizeZ_pos a
    have hrn := sizeLZ_nn r
    by_cases hv : valT a
    case neg =>
      obtain ⟨⟨x,z⟩,h3,h4⟩ := ih a (by simp) (hok a (by simp [T.l])) ma hpa.1 hpa.2 (hal a (by simp))
      have h5 := within9_ok (k := k) (n := n) (s := s) hlb (i := 0) rfl h3
      exact ⟨_,step_in0 hk hv h5,goes_within (by omega) (by omega) (by omega) ht hZ ha (i := 0) rfl h4⟩
    have hma := ma
    obtain ⟨ka,na,sa,la⟩ := a
    rw [may_iff (by omega) (by omega)] at hma
    obtain ⟨g1,g2⟩ := hma
    have ega : head (.mk ka na sa la) 0 false = headC ka na sa la.length 0 false := rfl
    rw [ega] at g1
    have haa := aff_mk.1 (hal (.mk ka na sa la) (by simp))
    have hza : sizeZ (.mk ka na sa la) = sizeLZ la + 1 := rfl
    have hda : dep (.mk ka na sa la) = depL la + 1 := rfl
    rcases hk with rfl | rfl | rfl
    · 
      obtain ⟨u,rfl⟩ : ∃ u,r = [u] := by
        have : (T.mk ka na sa la :: r).length = 2 := by
          unfold headC at h1; simp at h1; simp; omega
        match r,this with
        | [u],_ => exact ⟨u,rfl⟩
      have mu : may u 0 false = true := by have := hmj 1 u rfl; simpa using this
      by_cases hk2 : ka = 2
      · subst hk2
        obtain ⟨b,rfl⟩ : ∃ b,la = [b] := by
          have : la.length = 1 := by unfold headC at g1; simp at g1; omega
          match la,this with
          | [b],_ => exact ⟨b,rfl⟩
        have hm1 : T.more (.mk 2 na sa [b]) = 1 := rfl
        rw [hm1] at g2
        have mb : may b 1 false = true := by have := (g2 0 b rfl).1; simpa using this
        have hu1 : usesZ b 0 ≤ 1 := by
          have := haa.1 (usesLZ [b] (((1 : Nat) : Int) - 1 - ((0 : Nat) : Int))) (by unfold bZ; rw [if_neg (by decide)]; show _ ∈ (List.range 1).map _; simp [mo])
          have e : usesLZ [b] (((1 : Nat) : Int) - 1 - ((0 : Nat) : Int)) = usesZ b 0 + 0 := rfl
          omega
        have hob := Ok_l (hok (.mk 2 na sa [b]) (by simp [T.l])) b (by simp [T.l])
        have hdb := depL_mem (l := [b]) (t := b) (by simp)
        have hs2 : sizeLZ [b] = sizeZ b + 0 := rfl
        have hs3 : sizeLZ [u] = sizeZ u + 0 := rfl
        exact ⟨_,step_beta hob (hok u (by simp [T.l])),goes_beta hob (hok u (by simp [T.l])) mb mu (by omega) (hp u (by simp)).1 (haa.2 b (by simp)) (hal u (by simp)) hu1 (by omega)⟩
      · exact ⟨_,step_fail3 hv hk2,goes_fail (by omega)⟩
    · 
      have hr : ∀ x ∈ r,T.Ok x ∧ ∃ b,x.l = [b] ∧ tame b = true ∧ dep b ≤ 600 ∧ may b x.n false = true ∧ 0 ≤ x.n ∧ x.n ≤ 8 ∧ x.k = 6 ∧ sizeZ x = sizeZ b + 1 ∧ sizeZ x ≤ sizeLZ r ∧ (∀ j : Int,0 ≤ j → j < x.n → usesZ b j ≤ 1) ∧ aff b ∧ T.Ok b := by
        intro x hx
        obtain ⟨j,hj⟩ := List.getElem?_of_mem hx
        have mx : may x 0 true = true := by
          have := hmj (j + 1) x (by rw [List.getElem?_cons_succ]; exact hj)
          have e : (decide ((5 : Int) = 5) && decide (((j + 1 : Nat) : Int) > 0)) = true := by simp <;> omega
          rw [e] at this; exact this
        have hox := hok x (by simp [T.l,hx])
        have hpx := hp x (by simp [hx])
        have hsx := sizeLZ_mem hx
        have hax := hal x (by simp [hx])
        obtain ⟨kx,nx,sx,lx⟩ := x
        rw [may_iff (by omega) (by omega)] at mx
        obtain ⟨q1,q2⟩ := mx
        have eq1 : head (.mk kx nx sx lx) 0 true = headC kx nx sx lx.length 0 true := rfl
        rw [eq1] at q1
        unfold headC at q1
        simp at q1
        obtain ⟨⟨⟨⟨rfl,_⟩,q3⟩,q4⟩,q5⟩ := q1
        obtain ⟨b,rfl⟩ : ∃ b,lx = [b] := by
          have : lx.length = 1 := by omega
          match lx,this with
          | [b],_ => exact ⟨b,rfl⟩
        have hm1 : T.more (.mk 6 nx sx [b]) = nx := by rw [more_eq,if_neg (by decide),if_pos rfl]
        rw [hm1,Int.zero_add] at q2
        have mb : may b nx false = true := by have := (q2 0 b rfl).1; simpa using this
        have hdx : dep (.mk 6 nx sx [b]) = depL [b] + 1 := rfl
        have hdb := depL_mem (l := [b]) (t := b) (by simp)
        refine ⟨hox,b,rfl,may_tame mb (D := 600) (by omega) (by omega) (by omega),by omega,mb,q3,q4,rfl,?_,hsx,?_,(aff_mk.1 hax).2 b (by simp),Ok_l hox b (by simp [T.l])⟩
        · show sizeZ b + 0 + 1 = _; omega
        · intro j h0 hj
          have hmo6 : mo 6 nx = nx.toNat := by unfold mo; rw [if_neg (by decide),if_pos rfl]
          have := (aff_mk.1 hax).1 (usesLZ [b] ((mo 6 nx : Int) - 1 - ((nx - 1 - j).toNat : Int))) (by
            unfold bZ
            rw [if_neg (by decide)]
            exact List.mem_map.2 ⟨(nx - 1 - j).toNat,List.mem_range.2 (by rw [hmo6]; simp only [T.n] at hj; omega),rfl⟩)
          have e : usesLZ [b] ((mo 6 nx : Int) - 1 - ((nx - 1 - j).toNat : Int)) = usesZ b j + 0 := by
            simp only [T.n] at hj
            rw [show (mo 6 nx : Int) - 1 - ((nx - 1 - j).toNat : Int) = j by rw [hmo6]; omega]; rfl
          omega
      have h8 : ka = 4 → la.length ≤ 8 := fun h => by subst h; unfold headC at g1; simp at g1; omega
      have hoc := Ok_l (hok (.mk ka na sa la) (by simp [T.l]))
      have hpk := pick9_ok (k := 5) (n := n) (s := s) (c := .mk ka na sa la) (r := r) hlb hoc h8 fun x hx => by
        obtain ⟨p1,b,p2,p3,p4,_⟩ := hr x hx
        exact ⟨p1,b,p2,p3,p4⟩
      refine ⟨_,step_case hv hpk,?_⟩
      by_cases hk4 : ka = 4
      case neg =>
        rw [if_neg (show ¬ T.k (.mk ka na sa la) = 4 from hk4)]
        exact goes_fail (by omega)
      rw [if_pos (show T.k (.mk ka na sa la) = 4 from hk4)]
      rcases pickL_mem (.mk ka na sa la) r with h5 | ⟨x,hx,h6,h7⟩
      · rw [h5]; exact goes_fail (by omega)
      · rw [h7]
        obtain ⟨p1,b,p2,p3,p4,p5,p6,p7,p8,p9,p10,p11,p12,p13⟩ := hr x hx
        have hxb : x.l.getD 0 zT = b := by rw [p2]; rfl
        rw [hxb]
        have h6' : x.n = (la.length : Int) := h6
        rw [h6'] at p5 p11
        subst hk4
        have hm4 : T.more (.mk 4 na sa la) = 0 := rfl
        rw [hm4] at g2
        refine goes_inst (us := la) (fun u hu => ?_) (h8 rfl) p13 p3 p5 p4 p12 p11 (by omega) (by omega)
        obtain ⟨j,hj⟩ := List.getElem?_of_mem hu
        have mu : may u 0 false = true := by have := (g2 j u hj).1; simpa using this
        have hdu := depL_mem hu
        exact ⟨hoc u hu,mu,by omega,haa.2 u hu⟩
    · 
      obtain ⟨u,rfl⟩ : ∃ u,r = [u] := by
        have : (T.mk ka na sa la :: r).length = 2 := by
          unfold headC at h1; simp at h1; simp; omega
        match r,this with
        | [u],_ => exact ⟨u,rfl⟩
      have hs : isOp s = true := by unfold headC at h1; simp at h1; exact h1.1
      have mu : may u 0 false = true := by have := hmj 1 u rfl; simpa using this
      by_cases hk7 : ka = 7
      case neg => exact ⟨_,step_fail8 hv hk7,goes_fail (by omega)⟩
      by_cases hvu : valT u
      case neg =>
        obtain ⟨⟨x,z⟩,h3,h4⟩ := ih u (by simp) (hok u (by simp [T.l])) mu (hp u (by simp)).1 (hp u (by simp)).2 (hal u (by simp))
        have h5 := within9_ok (k := 8) (n := n) (s := s) hlb (i := 1) (a := u) rfl h3
        exact ⟨_,step_in1 (a := .mk ka na sa la) hk7 hvu h5,goes_within (by omega) (by omega) (by omega) ht hZ ha (i := 1) (a := u) rfl h4⟩
      by_cases hku : u.k = 7
      case neg => exact ⟨_,step_fail81 (a := .mk ka na sa la) hk7 hvu hku,goes_fail (by omega)⟩
      exact ⟨_,step_op (a := .mk ka na sa la) hk7 hku hs,goes_op (by omega)⟩
theorem Step9_ok {t : T} {R : T × Int} (ht : T.Ok t) (hm : may t 0 false = true) (hd : dep t ≤ 600) (h : eP S 68 [.g (enc t)] = some (encR R)) : eP S 48 [.g (enc t)] = some (encR R) := by
  refine x_fn (orcS _) (fc := F48) rfl rfl ?_
  have m := May_ok ht 4611686018427387904
  rw [may_up hm hd (by omega) (by omega) (by omega)] at m
  obtain ⟨x,z⟩ := R
  have et := enc_eq t
  have ex := enc_eq x
  unfold encR at h ⊢
  rw [et] at h m ⊢
  rw [ex] at h ⊢
  simp only [F48,h,m,spS,fxa,fxc,fxE,fxL,fxI,nxE,evO,evR,cellsT,ldCells,mkT,lenA,binPV,Env.init,resV,resT,frT,klT,ownT,intT,O.adds,ownA,rowsA,over,wrOk,keysT,keysA,ne_eq,if_true,if_false,ite_self,Nat.reduceLT,Nat.reduceSub,Nat.reduceBEq,Nat.reduceEqDiff,Nat.reduceAdd,Nat.reduceLeDiff,reduceCtorEq,Nat.reduceMul]
theorem useSteps_law {t : T} (ht : T.Ok t) : eP S 14 [.g (enc t)] = some (.a (.b true)) := by
  have f0 := fixed11_ok
  have a1 := small_ok ht 150
  have m1 := May_ok ht 0
  have b1 := Affine_ok ht
  have e4 := enc_eq t
  refine x_fn (orcS _) (fc := F14) rfl rfl ?_
  cases hs : small t 150 with
  | false =>
    rw [hs,e4] at a1
    rw [e4]
    simp only [F14,f0,a1,spS,fxa,fxc,fxE,fxL,fxI,nxE,evO,evR,cellsT,ldCells,mkT,lenA,binPV,Env.init,resV,resT,frT,klT,ownT,intT,O.adds,ownA,rowsA,over,wrOk,keysT,keysA,ne_eq,if_true,if_false,ite_self,Nat.reduceLT,Nat.reduceSub,Nat.reduceBEq,Nat.reduceEqDiff,Nat.reduceAdd,Nat.reduceLeDiff,reduceCtorEq,Nat.reduceMul]
  | true =>
  obtain ⟨hS,hz⟩ := sml_of (by omega) hs
  have d1 := Depth_ok ht (by have := hS.d; omega)
  rw [hs] at a1
  by_cases hd : ((dep t : Nat) : Int) > 200
  · rw [e4] at a1 d1 ⊢
    simp only [F14,f0,a1,d1,hd,spS,fxa,fxc,fxE,fxL,fxI,nxE,evO,evR,cellsT,ldCells,mkT,lenA,binPV,Env.init,resV,resT,frT,klT,ownT,intT,O.adds,ownA,rowsA,over,wrOk,keysT,keysA,ne_eq,if_true,if_false,ite_self,Nat.reduceLT,Nat.reduceSub,Nat.reduceBEq,Nat.reduceEqDiff,Nat.reduceAdd,Nat.reduceLeDiff,reduceCtorEq,Nat.reduceMul]
  cases hm : may t 0 false with
  | false =>
    rw [hm] at m1
    rw [e4] at a1 d1 m1 ⊢
    simp only [F14,f0,a1,d1,m1,hd,spS,fxa,fxc,fxE,fxL,fxI,nxE,evO,evR,cellsT,ldCells,mkT,lenA,binPV,Env.init,resV,resT,frT,klT,ownT,intT,O.adds,ownA,rowsA,over,wrOk,keysT,keysA,ne_eq,if_true,if_false,ite_self,Nat.reduceLT,Nat.reduceSub,Nat.reduceBEq,Nat.reduceEqDiff,Nat.reduceAdd,Nat.reduceLeDiff,reduceCtorEq,Nat.reduceMul]
  | true =>
  rw [hm] at m1
  by_cases hf : fansW (ofT t) = 0
  case neg =>
    rw [decide_eq_false hf] at b1
    rw [e4] at a1 d1 m1 b1 ⊢
    simp only [F14,f0,a1,d1,m1,b1,hd,spS,fxa,fxc,fxE,fxL,fxI,nxE,evO,evR,cellsT,ldCells,mkT,lenA,binPV,Env.init,resV,resT,frT,klT,ownT,intT,O.adds,ownA,rowsA,over,wrOk,keysT,keysA,ne_eq,if_true,if_false,ite_self,Nat.reduceLT,Nat.reduceSub,Nat.reduceBEq,Nat.reduceEqDiff,Nat.reduceAdd,Nat.reduceLeDiff,reduceCtorEq,Nat.reduceMul]
  rw [decide_eq_true hf] at b1
  have hZ := ofT_Z hm hS.d (by omega) (by omega) (by omega)
  have ha : aff t := by
    rw [(fan_eq hS.r hS.l).1,hZ] at hf
    exact aff_sum.1 hf
  obtain ⟨⟨x,z⟩,h1,hg⟩ := step_main ht hm hS.d (by omega) ha
  have h2 := Step9_ok ht hm hS.d h1
  have hgo : T.Ok x := hg.ok
  have hgz : ofT x = ofZ x := hg.eq
  have hga : aff x := hg.a
  have hgs : sizeZ x ≤ sizeZ t := hg.s
  have hgd : z = 0 ∨ sizeZ x < sizeZ t := hg.d
  have b2 := Affine_ok hgo
  have hfx : fansW (ofT x) = 0 := by
    rw [(nums_of (t := x) (by omega)).f,hgz]
    exact aff_sum.2 hga
  rw [decide_eq_true hfx] at b2
  have s1 := size_ok ht
  have s2 := size_ok hgo
  rw [size_Z t (by omega)] at s1
  rw [size_Z x (by omega)] at s2
  have ex := enc_eq x
  unfold encR at h2
  simp only at h2
  rw [ex] at h2 b2 s2
  rw [e4] at a1 d1 m1 b1 h2 s1 ⊢
  by_cases hz0 : z = 0
  · simp only [F14,f0,a1,d1,m1,b1,b2,h2,s1,s2,hd,hgs,hz0,spS,fxa,fxc,fxE,fxL,fxI,nxE,evO,evR,cellsT,ldCells,mkT,lenA,binPV,Env.init,resV,resT,frT,klT,ownT,intT,O.adds,ownA,rowsA,over,wrOk,keysT,keysA,ne_eq,if_true,if_false,ite_self,Nat.reduceLT,Nat.reduceSub,Nat.reduceBEq,Nat.reduceEqDiff,Nat.reduceAdd,Nat.reduceLeDiff,reduceCtorEq,Nat.reduceMul]
  · have hlt := hgd.resolve_left hz0
    simp only [F14,f0,a1,d1,m1,b1,b2,h2,s1,s2,hd,hgs,hz0,hlt,spS,fxa,fxc,fxE,fxL,fxI,nxE,evO,evR,cellsT,ldCells,mkT,lenA,binPV,Env.init,resV,resT,frT,klT,ownT,intT,O.adds,ownA,rowsA,over,wrOk,keysT,keysA,ne_eq,if_true,if_false,ite_self,Nat.reduceLT,Nat.reduceSub,Nat.reduceBEq,Nat.reduceEqDiff,Nat.reduceAdd,Nat.reduceLeDiff,reduceCtorEq,Nat.reduceMul]
end Go.Proofs.Ytlgekplmbmkcmaa
end
section
set_option linter.unusedSimpArgs false
set_option linter.unusedVariables false
namespace Go.Proofs.Ytlgekplmbmkcmaa
open Go.Fx
theorem cells24 : Try.prog.cellsOf 24 = 4 := by kernel_rfl
theorem bytes24 : Try.prog.bytesOf 24 = 56 := by kernel_rfl
theorem cells3 : Try.prog.cellsOf 3 = 1 := by kernel_rfl
theorem cells9 : Try.prog.cellsOf 9 = 1 := by kernel_rfl
theorem cells22 : Try.prog.cellsOf 22 = 1 := by kernel_rfl
theorem len4 {α : Type} {l : List α} (h : l.length = 4) : ∃ a b c d,l = [a,b,c,d] := by
  match l,h with
  | [a,b,c,d],_ => exact ⟨a,b,c,d,rfl⟩
theorem ct_int {n : Nat} {qs : List PV} (h : CT Try.prog n 3 qs) : ∃ i,qs = [.i .i64 i] ∧ (Lit.int .i64 i).wf = true := by
  cases n with
  | zero => exact h.elim
  | succ n => simp only [CT,Try.underlying3] at h; exact h
theorem ct_term : ∀ {n : Nat} {qs : List PV},CT Try.prog n 24 qs → ∃ t,T.Ok t ∧ qs = enc t := by
  intro n
  induction n using Nat.strongRecOn with
  | _ n ih =>
    intro qs h
    cases n with
    | zero => exact h.elim
    | succ n =>
      simp only [CT,Try.underlying24,cells24] at h
      obtain ⟨hl,hf⟩ := h
      obtain ⟨q0,q1,q2,q3,rfl⟩ := len4 hl
      · have f0 : CT Try.prog n 3 (List.take (Try.prog.cellsOf 3) [q0,q1,q2,q3]) := hf _ (Array.mem_of_getElem? (i := 0) rfl)
        have f1 : CT Try.prog n 3 (List.take (Try.prog.cellsOf 3) [q1,q2,q3]) := hf _ (Array.mem_of_getElem? (i := 1) rfl)
        have f2 : CT Try.prog n 9 (List.take (Try.prog.cellsOf 9) [q2,q3]) := hf _ (Array.mem_of_getElem? (i := 2) rfl)
        have f3 : CT Try.prog n 22 (List.take (Try.prog.cellsOf 22) [q3]) := hf _ (Array.mem_of_getElem? (i := 3) rfl)
        rw [cells3] at f0 f1
        rw [cells9] at f2
        rw [cells22] at f3
        have f0 : CT Try.prog n 3 [q0] := f0
        have f1 : CT Try.prog n 3 [q1] := f1
        have f2 : CT Try.prog n 9 [q2] := f2
        have f3 : CT Try.prog n 22 [q3] := f3
        obtain ⟨k,e0,hk⟩ := ct_int f0
        obtain ⟨m,e1,hm⟩ := ct_int f1
        cases n with
        | zero => exact f0.elim
        | succ n =>
          simp only [CT,Try.underlying9] at f2
          simp only [CT,Try.underlying22,bytes24] at f3
          obtain ⟨s,e2,hs⟩ := f2
          obtain ⟨rows,e3,hr,hrow⟩ := f3
          simp only [List.cons.injEq,and_true] at e0 e1 e2 e3
          subst e0 e1 e2 e3
          have : ∀ (rows : List (List PV)),(∀ r,r ∈ rows → r.length = Try.prog.cellsOf 24 ∧ CT Try.prog n 24 r) → ∃ l : List T,rows = l.map enc ∧ ∀ t,t ∈ l → T.Ok t := by
            intro rows
            induction rows with
            | nil => intro _; exact ⟨[],rfl,fun t ht => by simp at ht⟩
            | cons r rows ihr =>
              intro h
              obtain ⟨t,ht,rfl⟩ := ih n (by omega) (h r (by simp)).2
              obtain ⟨l,rfl,hl⟩ := ihr fun r hr => h r (by simp [hr])
              exact ⟨t :: l,rfl,fun u hu => by rcases List.mem_cons.1 hu with rfl | hu; exact ht; exact hl u hu⟩
          obtain ⟨l,rfl,hall⟩ := this rows hrow
          exact ⟨.mk k m s l,.mk k m s l hk hm hs (by simpa using hr) hall,by simp [enc,encL_map]⟩
theorem agg24 : aggT Try.prog 24 = true := by simp only [aggT,Try.underlying24,aggD]
theorem at_term {p : PT} (h : AT Try.prog 24 p ∧ p.isG = aggT Try.prog 24) : ∃ t,T.Ok t ∧ p = .g (enc t) := by
  obtain ⟨h1,h2⟩ := h
  rw [agg24] at h2
  cases p with
  | g qs => obtain ⟨n,hn⟩ := h1; obtain ⟨t,ht,rfl⟩ := ct_term hn; exact ⟨t,ht,rfl⟩
  | _ => simp [PT.isG] at h2
def lawTs : List TypeId := [3,9,22,24,25]
theorem lawTsOk : closedTs Try.prog lawTs = true := by kernel_rfl
theorem own : ownKnob Try.prog.godebug = none := by kernel_rfl
theorem laidOut : laidOutB Try.prog = true := by kernel_rfl
end Go.Proofs.Ytlgekplmbmkcmaa
end
namespace Go.Proofs.Ytlgekplmbmkcmaa.useSteps
open Go.Fx Go.ChangeShapes Go.WideShapes Go.ChangeAt Go.RowKit
theorem law (ps : List PT) (h : F2 (fun t p => AT Try.checked.prog t p ∧ p.isG = aggT Try.checked.prog t) Try.f14.params.toList ps) : eP S 14 ps = some (.a (.b true)) := by
  have h' : F2 (fun t p => AT Try.prog t p ∧ p.isG = aggT Try.prog t) [24] ps := by rw [Try.params14] at h; exact h
  obtain _ | ⟨h1,r1⟩ := h'
  obtain _ | _ := r1
  obtain ⟨a1,k1,rfl⟩ := at_term h1
  exact useSteps_law k1
set_option maxRecDepth 100000 in
theorem lifted (os : Os) (started : os.Started) (H : Type) (enc : TypeId × Value → H) :
    ReturnsInHanded {} Try.checked os 14 .any (Rows.useStepsSpec.pre6 enc Try.prog Try.f14 Rows.useStepsRow.domain false) (Rows.useStepsSpec.post enc Try.prog Try.f14 false true false false) := by
  refine row_ok (C := Try.checked) (eqs := []) (S := S) (ts := lawTs) (tb := 4) own started (by kernel_rfl) Try.func14 laidOut
    (ChangeSpec.witness6 (enc := enc) (C := Try.checked) false ⟨#[],#[.agg #[.int .i64 0,.int .i64 0,.string ByteArray.empty,.slice none 0 0]],[]⟩ 8 (by kernel_rfl) (by kernel_rfl) (by kernel_rfl) (by kernel_rfl))
    lawTsOk (by kernel_rfl) rfl Try.underlying4 rfl ?_ seatOk law
  intro ds hd
  match ds,hd with
  | [d1],_ => rfl
theorem over : Rows.useStepsRow.holds Try.pinned (OpenSpec.ofChange Rows.useStepsSpec) :=
  OpenClaim.holds_of_wide 14 Try.f14 rfl rfl rfl rfl rfl rfl rfl ⟨rfl,rfl,rfl,rfl,rfl⟩ rfl rfl rfl rfl rfl (by kernel_rfl) Try.func14 (by kernel_rfl)
    (of_decide_eq_true (by kernel_rfl)) (by unfold Func.isWrapper; first | (rw [if_pos (by decide +kernel)]; kernel_rfl) | (rw [if_neg (by decide +kernel)]; exact ⟨rfl,rfl⟩))
    (fun os started H enc _ => lifted os started H enc)
theorem proved : Rows.UseStepsSaid := over
#print axioms proved
end Go.Proofs.Ytlgekplmbmkcmaa.useSteps
