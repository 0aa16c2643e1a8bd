/- The stage: whatever the plan says, and what is freed then. -/
import Derived.Test.YtomcceambpneiaaAct4
import Derived.Test.YtomcceambpneiaaAct5
import Derived.Test.YtomcceambpneiaaActT
set_option linter.unusedSimpArgs false
set_option linter.unusedVariables false
set_option maxHeartbeats 4000000
set_option maxRecDepth 10000
namespace Go.Proofs.Ytomcceambpneiaa
open Go.Fx

theorem Meet.two {n : Nt} {a b : Int} (h : Meet n a b) : Two n a b 4000 :=
  ⟨h.ok, good_big h.good, h.a0, h.a1, h.b0, h.b1, by have := to10 h.ma h.pa; omega, by have := to10 h.mb h.pb; omega, h.kA, h.kB⟩

theorem freeR_Ok {n : Nt} (hn : n.Ok) (i : Int) : (freeR n i).1.Ok ∧ (freeR n i).1.ns.length ≤ n.ns.length := by
  unfold freeR
  split
  · exact ⟨free_Ok hn i, free_len n i⟩
  · exact ⟨hn, Nat.le_refl _⟩

theorem aDo_ok {ks : Key} {n : Nt} {pl : Pl} {a b : Int} {σ : St} (hM : Meet n a b) (hp : PlanX (n.nd a) (n.nd b) pl) (hu : n.used + needX pl (n.nd a) (n.nd b) ≤ n.cap) (h : SG ks n pl a b σ) :
    ∃ σ', eS S (.f 49) [.a (.ptr ks 0 0)] σ = some (.u, σ') ∧ SG ks (stepR n pl a b) pl a b σ' ∧ Fr ks σ σ' := by
  have hT := hM.two
  have hR := done_run hM hp hu
  have hbig := semi_big hR.semi
  have s0 := h.bs
  simp only [stg, List.map_cons, List.map_nil] at s0
  have hmx : (if b > a then b else a) = max a b := by omega
  have hmn : (if b < a then b else a) = min a b := by omega
  obtain ⟨Z, hZ⟩ : ∃ Z : C, (.seq (.reg [
ir 58 (.mv (.t 0)), ir 59 (.nck (.t 58)), ir 60 (.fad 12 (.t 59)), ir 61 (.ld 1 false (.t 60)), ir 62 (.mv (.t 0)), ir 63 (.nck (.t 62)), ir 64 (.fad 13 (.t 63)), ir 65 (.ld 1 false (.t 64)), ir 66 (.mx (.t 61) (.t 65)),
ir 67 (.mv (.t 0)), ir 68 (.nck (.t 67)), ir 69 (.fad 12 (.t 68)), ir 70 (.ld 1 false (.t 69)), ir 71 (.mv (.t 0)), ir 72 (.nck (.t 71)), ir 73 (.fad 13 (.t 72)), ir 74 (.ld 1 false (.t 73)), ir 75 (.mn (.t 70) (.t 74)),
⟨some 76, none, .bsl 1 3 [(.p (.i .i64 0))] 2 [(0, .t 66), (1, .t 75)], .ad⟩, ir 77 (.len false (.t 76)), ir 78 (.mv (ci 0))]) (.block 1 (.loop F49b0))) = Z := ⟨_, rfl⟩
  have rest : ∀ (e : Env) (σ1 : St), e 0 = .a (.ptr ks 0 0) → SG ks (doneR n pl a b) pl a b σ1 → Fr ks σ σ1 → wp S false Z e σ1 (RetS [] fun v σ' => v = .u ∧ SG ks (stepR n pl a b) pl a b σ' ∧ Fr ks σ σ') := by
    intro e σ1 e0 hS hF
    rw [← hZ]
    have c1 := sFree_ok (n := doneR n pl a b) hR.ok (by omega) (max a b)
    obtain ⟨o1, o2⟩ := freeR_Ok hR.ok (max a b)
    have c2 := sFree_ok (n := (freeR (doneR n pl a b) (max a b)).1) o1 (by omega) (min a b)
    have hst : stepR n pl a b = (freeR (freeR (doneR n pl a b) (max a b)).1 (min a b)).1 := rfl
    rw [hst]
    obtain ⟨m, hm⟩ : ∃ m, doneR n pl a b = m := ⟨_, rfl⟩
    rw [hm] at hS c1 c2 ⊢
    obtain ⟨⟨m1, e1⟩, hm1⟩ : ∃ r, freeR m (max a b) = r := ⟨_, rfl⟩
    rw [hm1] at c1 c2 ⊢
    simp only at c1 c2 ⊢
    obtain ⟨⟨m2, e2⟩, hm2⟩ : ∃ r, freeR m1 (min a b) = r := ⟨_, rfl⟩
    rw [hm2] at c2 ⊢
    have t1 := hS.bs
    have hlt := hS.lt
    have ne0 : ∀ d, ¬ ks = (d, σ1.clk) := by rintro d rfl; simp at hlt
    have ne1 : ∀ d, ¬ (d, σ1.clk) = ks := fun d e => ne0 d e.symm
    simp only [stg, List.map_cons, List.map_nil] at t1
    simp only [encT, encTE] at c1 c2
    simp only [F49b0, x_loop, e0, t1, hmx, hmn, c1, c2, ne0, ne1, frA_ptr, rowK, Int.toNat_natCast, Nat.zero_add, Int.cast_ofNat_Int, Int.reduceLE, Int.reduceLT, Int.reduceToNat, Int.reduceAdd, Int.reduceSub, Int.reduceNeg, Int.le_refl, wrap_in 1 (by decide), wrap_in 2 (by decide), evI_cl, clOk, ldKeeps, ldKeeps1, iasKeeps, rowK, nwKeeps, sameC, sameL, sameA, sameP, decide_true, frA_ptr, capsOf, fxa, fxc, fxE, fxL, fxI, nxE, evO, evR, cellsT, ldCells, mkT, lenA, binPV, Env.init, resV, resT, frT, klT, ownT, intT, O.adds, ownA, rowsA, over, wrOk, keysT, keysA, ne_eq, if_true, if_false, ite_self, Nat.reduceLT, Nat.reduceSub, Nat.reduceBEq, Nat.reduceEqDiff, Nat.reduceAdd, Nat.reduceLeDiff, reduceCtorEq, Nat.reduceMul]
    exact ⟨SG.set (n := m2) (p := pl) (a := a) (b := b) (by simp only [put_clk, add_clk]; omega), ((hF.add _ _).put (.inl rfl) _).put (.inl rfl) _⟩
  refine x_fnR (fc := F49) rfl rfl ?_
  have fin : ∀ (e : Env) (σ1 : St), e 0 = .a (.ptr ks 0 0) → SG ks (doneR n pl a b) pl a b σ1 → Fr ks σ σ1 → blkQ 0 (seqQ S false Z (RetS [] fun v σ' => v = .u ∧ SG ks (stepR n pl a b) pl a b σ' ∧ Fr ks σ σ')) .norm e σ1 := by
    intro e σ1 h1 h2 h3
    simp only [blkQ_norm, seqQ_norm]
    exact rest e σ1 h1 h2 h3
  have hta := hT.ta
  have htb := hT.tb
  cases hp with
  | beta h1 hx hy =>
    obtain ⟨σ1, q1, hS1, hF1⟩ := aJoinAll_ok hT (by omega) h
    have e2 : doneR n pl a b = joinD n a b := by unfold doneR; rw [h1]; simp
    rw [← e2] at hS1
    rw [h1] at s0
    simp only [F49, hZ, s0, q1, Int.reduceEq, evI_cl, clOk, ldKeeps, ldKeeps1, iasKeeps, rowK, nwKeeps, sameC, sameL, sameA, sameP, decide_true, frA_ptr, capsOf, fxa, fxc, fxE, fxL, fxI, nxE, evO, evR, cellsT, ldCells, mkT, lenA, binPV, Env.init, resV, resT, frT, klT, ownT, intT, O.adds, ownA, rowsA, over, wrOk, keysT, keysA, ne_eq, if_true, if_false, ite_self, Nat.reduceLT, Nat.reduceSub, Nat.reduceBEq, Nat.reduceEqDiff, Nat.reduceAdd, Nat.reduceLeDiff, reduceCtorEq, Nat.reduceMul]
    exact rest _ _ (by simp only [fxa, fxc, fxE, fxL, fxI, nxE, evO, evR, cellsT, ldCells, mkT, lenA, binPV, Env.init, resV, resT, frT, klT, ownT, intT, O.adds, ownA, rowsA, over, wrOk, keysT, keysA, ne_eq, if_true, if_false, ite_self, Nat.reduceLT, Nat.reduceSub, Nat.reduceBEq, Nat.reduceEqDiff, Nat.reduceAdd, Nat.reduceLeDiff, reduceCtorEq, Nat.reduceMul]) hS1 hF1
  | join h1 hx hy =>
    obtain ⟨σ1, q1, hS1, hF1⟩ := aJoinAll_ok hT (by omega) h
    have e2 : doneR n pl a b = joinD n a b := by unfold doneR; rw [h1]; simp
    rw [← e2] at hS1
    rw [h1] at s0
    simp only [F49, hZ, s0, q1, Int.reduceEq, evI_cl, clOk, ldKeeps, ldKeeps1, iasKeeps, rowK, nwKeeps, sameC, sameL, sameA, sameP, decide_true, frA_ptr, capsOf, fxa, fxc, fxE, fxL, fxI, nxE, evO, evR, cellsT, ldCells, mkT, lenA, binPV, Env.init, resV, resT, frT, klT, ownT, intT, O.adds, ownA, rowsA, over, wrOk, keysT, keysA, ne_eq, if_true, if_false, ite_self, Nat.reduceLT, Nat.reduceSub, Nat.reduceBEq, Nat.reduceEqDiff, Nat.reduceAdd, Nat.reduceLeDiff, reduceCtorEq, Nat.reduceMul]
    exact rest _ _ (by simp only [fxa, fxc, fxE, fxL, fxI, nxE, evO, evR, cellsT, ldCells, mkT, lenA, binPV, Env.init, resV, resT, frT, klT, ownT, intT, O.adds, ownA, rowsA, over, wrOk, keysT, keysA, ne_eq, if_true, if_false, ite_self, Nat.reduceLT, Nat.reduceSub, Nat.reduceBEq, Nat.reduceEqDiff, Nat.reduceAdd, Nat.reduceLeDiff, reduceCtorEq, Nat.reduceMul]) hS1 hF1
  | pick i A h1 hx hy h2 h3 h4 =>
    have hal := hM.ma.al8
    have ha8 := hM.ma.alt i A h3
    obtain ⟨σ1, q1, hS1, hF1⟩ := aPick_ok hT (by omega) h2 h3 ha8.2.1 (by omega) (by omega) h
    have e2 : doneR n pl a b = pickD n pl.alt a b := by unfold doneR; rw [h1]; simp
    rw [← e2] at hS1
    rw [h1] at s0
    simp only [F49, hZ, s0, q1, Int.reduceEq, evI_cl, clOk, ldKeeps, ldKeeps1, iasKeeps, rowK, nwKeeps, sameC, sameL, sameA, sameP, decide_true, frA_ptr, capsOf, fxa, fxc, fxE, fxL, fxI, nxE, evO, evR, cellsT, ldCells, mkT, lenA, binPV, Env.init, resV, resT, frT, klT, ownT, intT, O.adds, ownA, rowsA, over, wrOk, keysT, keysA, ne_eq, if_true, if_false, ite_self, Nat.reduceLT, Nat.reduceSub, Nat.reduceBEq, Nat.reduceEqDiff, Nat.reduceAdd, Nat.reduceLeDiff, reduceCtorEq, Nat.reduceMul]
    exact rest _ _ (by simp only [fxa, fxc, fxE, fxL, fxI, nxE, evO, evR, cellsT, ldCells, mkT, lenA, binPV, Env.init, resV, resT, frT, klT, ownT, intT, O.adds, ownA, rowsA, over, wrOk, keysT, keysA, ne_eq, if_true, if_false, ite_self, Nat.reduceLT, Nat.reduceSub, Nat.reduceBEq, Nat.reduceEqDiff, Nat.reduceAdd, Nat.reduceLeDiff, reduceCtorEq, Nat.reduceMul]) hS1 hF1
  | half h1 hx hy =>
    obtain ⟨σ1, q1, hS1, hF1⟩ := aHalf_ok hT (by omega) h
    have e2 : doneR n pl a b = halfD n a b := by unfold doneR; rw [h1]; simp
    rw [← e2] at hS1
    rw [h1] at s0
    simp only [F49, hZ, s0, q1, Int.reduceEq, evI_cl, clOk, ldKeeps, ldKeeps1, iasKeeps, rowK, nwKeeps, sameC, sameL, sameA, sameP, decide_true, frA_ptr, capsOf, fxa, fxc, fxE, fxL, fxI, nxE, evO, evR, cellsT, ldCells, mkT, lenA, binPV, Env.init, resV, resT, frT, klT, ownT, intT, O.adds, ownA, rowsA, over, wrOk, keysT, keysA, ne_eq, if_true, if_false, ite_self, Nat.reduceLT, Nat.reduceSub, Nat.reduceBEq, Nat.reduceEqDiff, Nat.reduceAdd, Nat.reduceLeDiff, reduceCtorEq, Nat.reduceMul]
    exact rest _ _ (by simp only [fxa, fxc, fxE, fxL, fxI, nxE, evO, evR, cellsT, ldCells, mkT, lenA, binPV, Env.init, resV, resT, frT, klT, ownT, intT, O.adds, ownA, rowsA, over, wrOk, keysT, keysA, ne_eq, if_true, if_false, ite_self, Nat.reduceLT, Nat.reduceSub, Nat.reduceBEq, Nat.reduceEqDiff, Nat.reduceAdd, Nat.reduceLeDiff, reduceCtorEq, Nat.reduceMul]) hS1 hF1
  | out h1 hx hy g1 g2 g3 g4 g5 =>
    have hbg := hT.big
    obtain ⟨σ1, q1, hS1, hF1⟩ := aMade_ok (x := pl.nd) hT.ok (by omega) g2 (NC.p _) (NC.p _) h
    have hti := makeR_wf (n := n) (x := pl.nd) (by omega)
    have hOk := (makeR_Ok (x := pl.nd) hT.ok g2 (by omega)).1
    have e2 : doneR n pl a b = (moveR (makeR n pl.nd).1 ⟨a, 1⟩ ⟨(makeR n pl.nd).2.1, 0⟩).1 := by unfold doneR outD; rw [h1]; simp
    obtain ⟨⟨m, t, ee⟩, hmk⟩ : ∃ r, makeR n pl.nd = r := ⟨_, rfl⟩
    rw [hmk] at q1 hS1 hti hOk e2
    simp only at q1 hS1 hti hOk e2
    obtain ⟨σ2, q2, hS2, hF2⟩ := aMove_ok (p := ⟨a, 1⟩) (q := ⟨t, 0⟩) hOk (hT.pa (by omega) (by omega)) ⟨hti, wf_0⟩ hS1
    have p1 := port_ok a 1
    have p2 := port_ok t 0
    have u1 := hS1.bs
    rw [← e2] at hS2
    simp only [stg, List.map_cons, List.map_nil] at u1
    rw [h1] at s0 u1
    simp only [F49, hZ, s0, u1, q1, q2, p1, p2, Int.reduceEq, evI_cl, clOk, ldKeeps, ldKeeps1, iasKeeps, rowK, nwKeeps, sameC, sameL, sameA, sameP, decide_true, frA_ptr, capsOf, fxa, fxc, fxE, fxL, fxI, nxE, evO, evR, cellsT, ldCells, mkT, lenA, binPV, Env.init, resV, resT, frT, klT, ownT, intT, O.adds, ownA, rowsA, over, wrOk, keysT, keysA, ne_eq, if_true, if_false, ite_self, Nat.reduceLT, Nat.reduceSub, Nat.reduceBEq, Nat.reduceEqDiff, Nat.reduceAdd, Nat.reduceLeDiff, reduceCtorEq, Nat.reduceMul]
    exact rest _ _ (by simp only [fxa, fxc, fxE, fxL, fxI, nxE, evO, evR, cellsT, ldCells, mkT, lenA, binPV, Env.init, resV, resT, frT, klT, ownT, intT, O.adds, ownA, rowsA, over, wrOk, keysT, keysA, ne_eq, if_true, if_false, ite_self, Nat.reduceLT, Nat.reduceSub, Nat.reduceBEq, Nat.reduceEqDiff, Nat.reduceAdd, Nat.reduceLeDiff, reduceCtorEq, Nat.reduceMul]) hS2 (hF1.trans hF2)
  | fail h1 hx hy =>
    obtain ⟨σ1, q1, hS1, hF1⟩ := aFail_ok hT (by omega) h
    have e2 : doneR n pl a b = failD n a b := by unfold doneR; rw [h1]; simp
    rw [← e2] at hS1
    rw [h1] at s0
    simp only [F49, hZ, s0, q1, Int.reduceEq, evI_cl, clOk, ldKeeps, ldKeeps1, iasKeeps, rowK, nwKeeps, sameC, sameL, sameA, sameP, decide_true, frA_ptr, capsOf, fxa, fxc, fxE, fxL, fxI, nxE, evO, evR, cellsT, ldCells, mkT, lenA, binPV, Env.init, resV, resT, frT, klT, ownT, intT, O.adds, ownA, rowsA, over, wrOk, keysT, keysA, ne_eq, if_true, if_false, ite_self, Nat.reduceLT, Nat.reduceSub, Nat.reduceBEq, Nat.reduceEqDiff, Nat.reduceAdd, Nat.reduceLeDiff, reduceCtorEq, Nat.reduceMul]
    exact rest _ _ (by simp only [fxa, fxc, fxE, fxL, fxI, nxE, evO, evR, cellsT, ldCells, mkT, lenA, binPV, Env.init, resV, resT, frT, klT, ownT, intT, O.adds, ownA, rowsA, over, wrOk, keysT, keysA, ne_eq, if_true, if_false, ite_self, Nat.reduceLT, Nat.reduceSub, Nat.reduceBEq, Nat.reduceEqDiff, Nat.reduceAdd, Nat.reduceLeDiff, reduceCtorEq, Nat.reduceMul]) hS1 hF1
  | pass h1 hx hy g1 g2 =>
    obtain ⟨σ1, q1, hS1, hF1⟩ := aPass_ok hT (by omega) (wf_small g1 (by omega)) hM.lenA hM.lenB h
    have e2 : doneR n pl a b = passD n pl.lv a b := by unfold doneR; rw [h1]; simp
    rw [← e2] at hS1
    rw [h1] at s0
    simp only [F49, hZ, s0, q1, Int.reduceEq, evI_cl, clOk, ldKeeps, ldKeeps1, iasKeeps, rowK, nwKeeps, sameC, sameL, sameA, sameP, decide_true, frA_ptr, capsOf, fxa, fxc, fxE, fxL, fxI, nxE, evO, evR, cellsT, ldCells, mkT, lenA, binPV, Env.init, resV, resT, frT, klT, ownT, intT, O.adds, ownA, rowsA, over, wrOk, keysT, keysA, ne_eq, if_true, if_false, ite_self, Nat.reduceLT, Nat.reduceSub, Nat.reduceBEq, Nat.reduceEqDiff, Nat.reduceAdd, Nat.reduceLeDiff, reduceCtorEq, Nat.reduceMul]
    exact rest _ _ (by simp only [fxa, fxc, fxE, fxL, fxI, nxE, evO, evR, cellsT, ldCells, mkT, lenA, binPV, Env.init, resV, resT, frT, klT, ownT, intT, O.adds, ownA, rowsA, over, wrOk, keysT, keysA, ne_eq, if_true, if_false, ite_self, Nat.reduceLT, Nat.reduceSub, Nat.reduceBEq, Nat.reduceEqDiff, Nat.reduceAdd, Nat.reduceLeDiff, reduceCtorEq, Nat.reduceMul]) hS1 hF1
  | drop h1 hx hy =>
    have hbg := hT.big
    obtain ⟨σ1, v, q1, hS1, hF1, hL1⟩ := aOthers_ok (j := 1) (jz := 1) rfl (by omega) hT.b0 hT.b1 hT.xb.to h
    obtain ⟨l, hl⟩ : ∃ l, portsR b 1 (n.nd b).to.length = l := ⟨_, rfl⟩
    have nl : l.length ≤ 100 := by rw [← hl, portsR_len]; omega
    have wl : ∀ p ∈ l, wfP p := by intro p hp; rw [← hl] at hp; exact (portsR_wf hT (by omega)).2 p hp
    rw [hl] at hL1
    have e2 : doneR n pl a b = runs (likeR n (dropN (n.nd a).lv) l.length).1 (dropOps l (likeR n (dropN (n.nd a).lv) l.length).2) := by unfold doneR dropD; rw [h1]; simp [hl]
    obtain ⟨σ2, f, q2, hS2, hF2, hDC⟩ := aDrop_ok (l := l) hT.ok (by omega) hT.a0 hT.a1 hS1 hL1
    have hdx := dropN_Ok hT.xa.lv
    obtain ⟨o1, o2, o3⟩ := likeR_Ok hT.ok hdx l.length (by omega)
    obtain ⟨k0, k1, k2, σ3, rfl, q3, hS3, hF3⟩ := aCall_ok o1 wl (likeR_wf hT.ok hdx _ (by omega)) (by omega) (by omega) hS2 hDC
    rw [← e2] at hS3
    rw [h1] at s0
    simp only [F49, hZ, s0, q1, q2, q3, Int.reduceEq, evI_cl, clOk, ldKeeps, ldKeeps1, iasKeeps, rowK, nwKeeps, sameC, sameL, sameA, sameP, decide_true, frA_ptr, capsOf, fxa, fxc, fxE, fxL, fxI, nxE, evO, evR, cellsT, ldCells, mkT, lenA, binPV, Env.init, resV, resT, frT, klT, ownT, intT, O.adds, ownA, rowsA, over, wrOk, keysT, keysA, ne_eq, if_true, if_false, ite_self, Nat.reduceLT, Nat.reduceSub, Nat.reduceBEq, Nat.reduceEqDiff, Nat.reduceAdd, Nat.reduceLeDiff, reduceCtorEq, Nat.reduceMul]
    exact rest _ _ (by simp only [fxa, fxc, fxE, fxL, fxI, nxE, evO, evR, cellsT, ldCells, mkT, lenA, binPV, Env.init, resV, resT, frT, klT, ownT, intT, O.adds, ownA, rowsA, over, wrOk, keysT, keysA, ne_eq, if_true, if_false, ite_self, Nat.reduceLT, Nat.reduceSub, Nat.reduceBEq, Nat.reduceEqDiff, Nat.reduceAdd, Nat.reduceLeDiff, reduceCtorEq, Nat.reduceMul]) hS3 ((hF1.trans hF2).trans hF3)
end Go.Proofs.Ytomcceambpneiaa
