/- A meeting is carried out: act.Do, as a function. -/
import Derived.Test.YtomcceambpneiaaAct6
set_option linter.unusedSimpArgs false
set_option linter.unusedVariables false
set_option maxHeartbeats 4000000
set_option maxRecDepth 10000
namespace Go.Proofs.Ytomcceambpneiaa
open Go.Fx

theorem meets_ok (n : Nt) (i : Int) : eP S 47 [.g (encT n), .a (.i .i64 i)] = some (.a (.i .i64 (meetR n i))) := by
  refine x_fn (orcS (by decide)) (fc := F47) rfl rfl ?_
  have c1 := Peer_ok n ⟨i, 0⟩
  have p1 := port_ok i 0
  unfold meetR
  obtain ⟨q, hq⟩ : ∃ q, n.lk ⟨i, 0⟩ = q := ⟨_, rfl⟩
  rw [hq] at c1 ⊢
  simp only [encT, encP] at c1
  by_cases h1 : n.has ⟨i, 0⟩ = true
  · by_cases h2 : q.s = 0
    · simp only [h1, if_true, encP] at c1
      simp only [F47, encT, c1, p1, h1, h2, fxa, fxc, fxE, fxL, fxI, nxE, evO, evR, cellsT, ldCells, mkT, lenA, binPV, Env.init, resV, resT, frT, klT, ownT, intT, O.adds, ownA, rowsA, over, wrOk, keysT, keysA, ne_eq, if_true, if_false, ite_self, Nat.reduceLT, Nat.reduceSub, Nat.reduceBEq, Nat.reduceEqDiff, Nat.reduceAdd, Nat.reduceLeDiff, reduceCtorEq, Nat.reduceMul]
    · simp only [h1, if_true, encP] at c1
      simp only [F47, encT, c1, p1, h1, h2, fxa, fxc, fxE, fxL, fxI, nxE, evO, evR, cellsT, ldCells, mkT, lenA, binPV, Env.init, resV, resT, frT, klT, ownT, intT, O.adds, ownA, rowsA, over, wrOk, keysT, keysA, ne_eq, if_true, if_false, ite_self, Nat.reduceLT, Nat.reduceSub, Nat.reduceBEq, Nat.reduceEqDiff, Nat.reduceAdd, Nat.reduceLeDiff, reduceCtorEq, Nat.reduceMul]
  · simp only [h1, Bool.false_eq_true, if_false, zP, encP] at c1
    simp only [F47, encT, c1, p1, h1, Int.reduceEq, fxa, fxc, fxE, fxL, fxI, nxE, evO, evR, cellsT, ldCells, mkT, lenA, binPV, Env.init, resV, resT, frT, klT, ownT, intT, O.adds, ownA, rowsA, over, wrOk, keysT, keysA, ne_eq, if_true, if_false, ite_self, Nat.reduceLT, Nat.reduceSub, Nat.reduceBEq, Nat.reduceEqDiff, Nat.reduceAdd, Nat.reduceLeDiff, reduceCtorEq, Nat.reduceMul]

def encD (x : Nt × Pl × Int) : PT := .t [(true, encT x.1), (true, encL x.2.1), (false, [.i .i64 x.2.2])]

theorem meetR_meet {n : Nt} {i : Int} (hn : n.Ok) (hG : n.Good) (h : ¬ meetR n i < 0) : Meet n i (meetR n i) := by
  unfold meetR at h ⊢
  by_cases hc : n.has ⟨i, 0⟩ = true ∧ (n.lk ⟨i, 0⟩).s = 0
  · rw [if_pos hc]
    refine Meet.of hn hG hc.1 ?_
    obtain ⟨q, hq⟩ : ∃ q, n.lk ⟨i, 0⟩ = q := ⟨_, rfl⟩
    rw [hq] at hc ⊢
    obtain ⟨u, v⟩ := q
    simp only at hc
    rw [hc.2]
  · rw [if_neg hc] at h; omega

theorem need_room {n : Nt} {a b : Int} {p : Pl} (hM : Meet n a b) (hp : PlanX (n.nd a) (n.nd b) p) : 0 ≤ needX p (n.nd a) (n.nd b) ∧ needX p (n.nd a) (n.nd b) ≤ 30 := by
  have ta := to10 hM.ma hM.pa
  have tb := to10 hM.mb hM.pb
  have la := hM.lenA
  have lb := hM.lenB
  have oa : oth (n.nd a) = (n.nd a).to.length - 1 := by rw [oth_in (by omega)]; omega
  have ob : oth (n.nd b) = (n.nd b).to.length - 1 := by rw [oth_in (by omega)]; omega
  have hal := hM.ma.al8
  have w1 : ∀ z : Int, -1000 ≤ z → z ≤ 1000 → wr z = z := fun z h1 h2 => wr_in (by omega)
  unfold needX
  rw [oa, ob]
  split
  · split
    · omega
    · rename_i h2 h3
      cases hp with
      | pick i A h1 hx hy g2 g3 g4 =>
        have hil := (List.getElem?_eq_some_iff.1 g3).1
        have hA2 : (n.nd a).al.getD p.alt.toNat zA = A := by rw [g2, Int.toNat_natCast, List.getD_eq_getElem?_getD, g3]; rfl
        have := hM.ma.alt i A g3
        rw [hA2, w1 (A.n + (n.nd a).al.length) (by omega) (by omega), w1 _ (by omega) (by omega)]; omega
      | _ => omega
  split
  · omega
  split
  · rw [w1 ((n.nd a).to.length - 1 - 1) (by omega) (by omega), w1 (1 + max _ _) (by omega) (by omega), w1 _ (by omega) (by omega)]; omega
  split
  · split
    · rw [w1 _ (by omega) (by omega)]; omega
    · rw [w1 _ (by omega) (by omega)]; omega
  split
  · omega
  · omega

theorem Do_ok {n : Nt} {i : Int} (hn : n.Ok) : eP S 26 [.g (encT n), .a (.i .i64 i)] = some (encD (doR n i)) := by
  refine x_fn (orcS (by decide)) (fc := F26) rfl rfl ?_
  have c1 := sCheck_ok hn
  have c2 := meets_ok n i
  by_cases hG : n.Good
  case neg =>
    have hd : doR n i = (n, p0, 120) := by unfold doR; rw [bool_f hG]; rfl
    rw [hd]
    rw [bool_f hG] at c1
    simp only [Bool.false_eq_true, if_false, encT] at c1
    simp only [F26, c1, encD, encT, encL, p0, zN, Int.reduceEq, List.map_nil, fxa, fxc, fxE, fxL, fxI, nxE, evO, evR, cellsT, ldCells, mkT, lenA, binPV, Env.init, resV, resT, frT, klT, ownT, intT, O.adds, ownA, rowsA, over, wrOk, keysT, keysA, ne_eq, if_true, if_false, ite_self, Nat.reduceLT, Nat.reduceSub, Nat.reduceBEq, Nat.reduceEqDiff, Nat.reduceAdd, Nat.reduceLeDiff, reduceCtorEq, Nat.reduceMul]
  rw [bool_t hG] at c1
  simp only [if_true, encT] at c1
  simp only [encT] at c2
  by_cases hm : meetR n i < 0
  · have hd : doR n i = (n, p0, 122) := by unfold doR; rw [bool_t hG]; simp [hm]
    rw [hd]
    simp only [F26, c1, c2, hm, encD, encT, encL, p0, zN, Int.reduceEq, List.map_nil, fxa, fxc, fxE, fxL, fxI, nxE, evO, evR, cellsT, ldCells, mkT, lenA, binPV, Env.init, resV, resT, frT, klT, ownT, intT, O.adds, ownA, rowsA, over, wrOk, keysT, keysA, ne_eq, if_true, if_false, ite_self, Nat.reduceLT, Nat.reduceSub, Nat.reduceBEq, Nat.reduceEqDiff, Nat.reduceAdd, Nat.reduceLeDiff, reduceCtorEq, Nat.reduceMul]
  have hM := meetR_meet hn hG hm
  obtain ⟨k, hk⟩ : ∃ k, meetR n i = k := ⟨_, rfl⟩
  obtain ⟨⟨p, e⟩, hr⟩ : ∃ r, ofR (n.nd i) (n.nd k) = r := ⟨_, rfl⟩
  have hd : doR n i = if e ≠ 0 then (n, p0, e) else if wr (n.used + needR p (n.nd i) (n.nd k)) > n.cap then (n, p0, 121)
      else (stepR n p (if p.sw = true then k else i) (if p.sw = true then i else k), p, 0) := by
    unfold doR
    rw [bool_t hG]
    simp only [hk, hr]
    rw [if_neg (by simp), if_neg (by rw [← hk]; exact hm)]
  rw [hk] at hM hm c2
  have c3 := Of_ok hM.ka hM.kb
  have ga := getN (l := n.ns) hM.a0 hM.a1
  have gb := getN (l := n.ns) hM.b0 hM.b1
  have a0 := hM.a0
  have a1 := hM.a1
  have b0 := hM.b0
  have b1 := hM.b1
  have hX := of_plan hM.ma hM.mb hM.ka hM.kb hM.pa hM.pb
  have c4 := sUsed_ok hn
  have c5 := need_ok (p := p) (a := n.nd i) (b := n.nd k)
  have hna : n.ns.getD i.toNat zN = n.nd i := rfl
  have hnb : n.ns.getD k.toNat zN = n.nd k := rfl
  rw [hna] at ga
  rw [hnb] at gb
  rw [hr] at c3 hX
  have hpe : p.nd.Ok := by have := of_nd hM.ka hM.kb; rw [hr] at this; exact this
  simp only [encLE, encL, encN] at c3
  simp only [encT] at c4
  simp only [encL, encN] at c5
  simp only [encN] at ga gb
  by_cases he : e = 0
  case neg =>
    rw [if_pos he] at hd
    rw [hd]
    simp only [F26, c1, c2, c3, hm, he, ga, gb, a0, a1, b0, b1, allN, encD, encT, encL, p0, zN, Int.reduceEq, List.map_nil, List.length_map, fxa, fxc, fxE, fxL, fxI, nxE, evO, evR, cellsT, ldCells, mkT, lenA, binPV, Env.init, resV, resT, frT, klT, ownT, intT, O.adds, ownA, rowsA, over, wrOk, keysT, keysA, ne_eq, if_true, if_false, ite_self, Nat.reduceLT, Nat.reduceSub, Nat.reduceBEq, Nat.reduceEqDiff, Nat.reduceAdd, Nat.reduceLeDiff, reduceCtorEq, Nat.reduceMul]
  subst he
  rw [if_neg (by simp)] at hd
  have hX := hX rfl
  by_cases hu : wr (n.used + needR p (n.nd i) (n.nd k)) > n.cap
  · rw [if_pos hu] at hd
    rw [hd]
    unfold wr at hu
    simp only [F26, c1, c2, c3, c4, c5, hm, hu, ga, gb, a0, a1, b0, b1, allN, encD, encT, encL, p0, zN, Int.reduceEq, List.map_nil, List.length_map, fxa, fxc, fxE, fxL, fxI, nxE, evO, evR, cellsT, ldCells, mkT, lenA, binPV, Env.init, resV, resT, frT, klT, ownT, intT, O.adds, ownA, rowsA, over, wrOk, keysT, keysA, ne_eq, if_true, if_false, ite_self, Nat.reduceLT, Nat.reduceSub, Nat.reduceBEq, Nat.reduceEqDiff, Nat.reduceAdd, Nat.reduceLeDiff, reduceCtorEq, Nat.reduceMul]
  rw [if_neg hu] at hd
  rw [hd]
  have hub := good_used hG
  have hgb := hG.cap2
  have hu0 : 0 ≤ n.used := (usedL_le n.ns).1
  have hu' := hu
  unfold wr at hu'
  obtain ⟨τ, hτ⟩ : ∃ τ, τ = ((((St.empty.add 2 (Blk.var [AV.p (PV.l (n.ns.map encN)), AV.p (PV.i .i64 n.cap)])).add 4 (Blk.var [AV.nil, AV.p (PV.i .i64 0)])).add 5
    (Blk.var [AV.p (PV.i .i64 0), AV.p (PV.b false), AV.p (PV.i .i64 0), AV.p (PV.i .i64 0), AV.p (PV.i .i64 0), AV.p (PV.i .i64 0), AV.p (PV.i .i64 0), AV.p (PV.s []), AV.nil, AV.nil])).add 9
    (Blk.var [AV.p (PV.i .i64 0), AV.p (PV.b false), AV.p (PV.i .i64 0), AV.p (PV.i .i64 0), AV.p (PV.i .i64 0), AV.p (PV.i .i64 0), AV.p (PV.i .i64 0), AV.p (PV.s []), AV.nil, AV.nil])).put (9, 3)
    (Blk.var [AV.p (PV.i .i64 p.k), AV.p (PV.b p.sw), AV.p (PV.i .i64 p.lv), AV.p (PV.i .i64 p.alt), AV.p (PV.i .i64 p.nd.k), AV.p (PV.i .i64 p.nd.lv), AV.p (PV.i .i64 p.nd.n), AV.p (PV.s p.nd.s), AV.p (PV.l (p.nd.al.map encA)), AV.p (PV.l (p.nd.to.map encP))]) := ⟨_, rfl⟩
  have tc : τ.clk = 4 := by rw [hτ]; rfl
  have t2 : τ.bs (2, 0) = some (Blk.var [AV.p (PV.l (n.ns.map encN)), AV.p (PV.i .i64 n.cap)]) := by rw [hτ]; rfl
  have t4 : τ.bs (4, 1) = some (Blk.var [AV.nil, AV.p (PV.i .i64 0)]) := by rw [hτ]; rfl
  have t5 : τ.bs (5, 2) = some (Blk.var [AV.p (PV.i .i64 0), AV.p (PV.b false), AV.p (PV.i .i64 0), AV.p (PV.i .i64 0), AV.p (PV.i .i64 0), AV.p (PV.i .i64 0), AV.p (PV.i .i64 0), AV.p (PV.s []), AV.nil, AV.nil]) := by rw [hτ]; rfl
  have t9 : τ.bs (9, 3) = some (Blk.var [AV.p (PV.i .i64 p.k), AV.p (PV.b p.sw), AV.p (PV.i .i64 p.lv), AV.p (PV.i .i64 p.alt), AV.p (PV.i .i64 p.nd.k), AV.p (PV.i .i64 p.nd.lv), AV.p (PV.i .i64 p.nd.n), AV.p (PV.s p.nd.s), AV.p (PV.l (p.nd.al.map encA)), AV.p (PV.l (p.nd.to.map encP))]) := by rw [hτ]; rfl
  cases hsw : p.sw with
  | false =>
    have hnr : needR p (n.nd i) (n.nd k) = needX p (n.nd i) (n.nd k) := by unfold needR; rw [hsw]; rfl
    rw [hnr] at hu
    rw [hsw] at hX
    simp only [Bool.false_eq_true, if_false] at hX ⊢
    obtain ⟨n0, n1⟩ := need_room hM hX
    rw [wr_in (by omega)] at hu
    obtain ⟨σ1, hσ1⟩ : ∃ σ1, σ1 = τ.add 72 (.var ((stg n p i k).map .p)) := ⟨_, rfl⟩
    have hS1 : SG (72, 4) n p i k σ1 := ⟨by rw [hσ1]; simp [add_bs, tc], by rw [hσ1]; simp [add_clk, tc]⟩
    obtain ⟨σ2, q2, hS2, hF2⟩ := aDo_ok hM hX (by omega) hS1
    have hc1 : σ1.clk = 5 := by rw [hσ1]; simp [add_clk, tc]
    have gk : ∀ q : Key, q.2 < 4 → σ2.bs q = τ.bs q := fun q hq => by
      have h1 : ¬ q = (72, 4) := by rintro rfl; simp at hq
      refine (hF2.bs q (by omega) h1).trans ?_
      rw [hσ1]; simp only [add_bs, tc, h1, if_false]
    have v4 := (gk (4, 1) (by decide)).trans t4
    have v5 := (gk (5, 2) (by decide)).trans t5
    have v9 := (gk (9, 3) (by decide)).trans t9
    have w9 : σ1.bs (9, 3) = τ.bs (9, 3) := by rw [hσ1]; simp [add_bs, tc]
    rw [t9] at w9
    have vk := hS2.bs
    simp only [stg, List.map_cons, List.map_nil] at vk hσ1
    rw [hsw] at c3 c5 hτ v9 vk hσ1 t9 w9
    simp only [F26, c1, c2, c3, c4, c5, hm, hu', hsw, ga, gb, a0, a1, b0, b1, ← hτ, tc, t2, t4, t5, t9, ← hσ1, w9, q2, v4, v5, v9, vk, allN, encD, encT, encL, p0, zN, Int.reduceEq, List.map_nil, List.length_map, frA_ptr, fxa, fxc, fxE, fxL, fxI, nxE, evO, evR, cellsT, ldCells, mkT, lenA, binPV, Env.init, resV, resT, frT, klT, ownT, intT, O.adds, ownA, rowsA, over, wrOk, keysT, keysA, ne_eq, if_true, if_false, ite_self, Nat.reduceLT, Nat.reduceSub, Nat.reduceBEq, Nat.reduceEqDiff, Nat.reduceAdd, Nat.reduceLeDiff, reduceCtorEq, Nat.reduceMul]
  | true =>
    have hnr : needR p (n.nd i) (n.nd k) = needX p (n.nd k) (n.nd i) := by unfold needR; rw [hsw]; rfl
    rw [hnr] at hu
    rw [hsw] at hX
    simp only [if_true] at hX ⊢
    have hM' := hM.swap
    obtain ⟨n0, n1⟩ := need_room hM' hX
    rw [wr_in (by omega)] at hu
    obtain ⟨σ0, hσ0⟩ : ∃ σ0, σ0 = τ.add 72 (.var ((stg n p i k).map .p)) := ⟨_, rfl⟩
    have hk0 : σ0.bs (72, 4) = some (.var ((stg n p i k).map .p)) := by rw [hσ0]; simp [add_bs, tc]
    obtain ⟨σ1, hσ1⟩ : ∃ σ1, σ1 = (σ0.put (72, 4) (.var ((stg n p k k).map .p))).put (72, 4) (.var ((stg n p k i).map .p)) := ⟨_, rfl⟩
    have hS1 : SG (72, 4) n p k i σ1 := ⟨by rw [hσ1]; simp [put_bs], by rw [hσ1, hσ0]; simp [put_clk, add_clk, tc]⟩
    obtain ⟨σ2, q2, hS2, hF2⟩ := aDo_ok hM' hX (by omega) hS1
    have hc1 : σ1.clk = 5 := by rw [hσ1, hσ0]; simp [put_clk, add_clk, tc]
    have gk1 : ∀ q : Key, q.2 < 4 → σ1.bs q = τ.bs q ∧ σ0.bs q = τ.bs q := fun q hq => by
      have h1 : ¬ q = (72, 4) := by rintro rfl; simp at hq
      rw [hσ1, hσ0]
      simp only [put_bs, add_bs, tc, h1, if_false, and_self]
    have gk : ∀ q : Key, q.2 < 4 → σ2.bs q = τ.bs q := fun q hq => by
      have h1 : ¬ q = (72, 4) := by rintro rfl; simp at hq
      exact (hF2.bs q (by omega) h1).trans (gk1 q hq).1
    have v4 := (gk (4, 1) (by decide)).trans t4
    have v5 := (gk (5, 2) (by decide)).trans t5
    have v9 := (gk (9, 3) (by decide)).trans t9
    have w9 := (gk1 (9, 3) (by decide)).2.trans t9
    have vk := hS2.bs
    simp only [stg, List.map_cons, List.map_nil] at vk hσ1 hσ0 hk0
    rw [hsw] at c3 c5 hτ v9 vk hσ1 hσ0 hk0 t9 w9
    simp only [F26, c1, c2, c3, c4, c5, hm, hu', hsw, ga, gb, a0, a1, b0, b1, ← hτ, tc, t2, t4, t5, t9, ← hσ0, hk0, ← hσ1, w9, q2, v4, v5, v9, vk, allN, encD, encT, encL, p0, zN, Int.reduceEq, List.map_nil, List.length_map, frA_ptr, fxa, fxc, fxE, fxL, fxI, nxE, evO, evR, cellsT, ldCells, mkT, lenA, binPV, Env.init, resV, resT, frT, klT, ownT, intT, O.adds, ownA, rowsA, over, wrOk, keysT, keysA, ne_eq, if_true, if_false, ite_self, Nat.reduceLT, Nat.reduceSub, Nat.reduceBEq, Nat.reduceEqDiff, Nat.reduceAdd, Nat.reduceLeDiff, reduceCtorEq, Nat.reduceMul]
end Go.Proofs.Ytomcceambpneiaa
