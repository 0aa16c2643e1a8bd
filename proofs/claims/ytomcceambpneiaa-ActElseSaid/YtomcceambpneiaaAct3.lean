/- The stage: joins, halves, what fails, what drops. -/
import Derived.Test.YtomcceambpneiaaAct2
import Derived.Test.YtomcceambpneiaaActD
set_option linter.unusedSimpArgs false
set_option linter.unusedVariables false
set_option maxHeartbeats 4000000
set_option maxRecDepth 10000
namespace Go.Proofs.Ytomcceambpneiaa
open Go.Fx

theorem wf_small {i : Int} (h0 : 0 ≤ i) (h1 : i ≤ 1000000000000000000) : wf i := by unfold wf; omega
theorem wf_place {n : Nt} (hn : n.Ok) {i : Int} (h0 : 0 ≤ i) (h1 : i < n.ns.length) : wf i := by have := hn.ns; unfold wf; omega

theorem wf_0 : wf 0 := by decide
theorem wf_1 : wf 1 := by decide
theorem makeR_wf {n : Nt} {x : Nd} (hb : n.ns.length ≤ 100000) : wf (makeR n x).2.1 := by
  unfold makeR
  split
  · exact wf_0
  · split
    · exact wf_0
    · refine wf_small (by simp only; omega) ?_
      have : n.at ≤ n.ns.length := by
        unfold Nt.at
        split
        · rename_i i hi; have := (List.findIdx?_eq_some_iff_getElem.1 hi).1; omega
        · exact Nat.le_refl _
      simp only; omega
/-- two nodes of a net, small enough -/
structure Two (n : Nt) (a b : Int) (B : Nat) : Prop where
  ok : n.Ok
  big : n.ns.length ≤ B
  a0 : 0 ≤ a
  a1 : a < n.ns.length
  b0 : 0 ≤ b
  b1 : b < n.ns.length
  ta : (n.nd a).to.length ≤ 100
  tb : (n.nd b).to.length ≤ 100
  ka : (n.nd a).k ≠ 0
  kb : (n.nd b).k ≠ 0
theorem Two.pa {n : Nt} {a b : Int} {B : Nat} (h : Two n a b B) {s : Int} (h0 : 0 ≤ s) (h1 : s ≤ 1000) : wfP ⟨a, s⟩ := ⟨wf_place h.ok h.a0 h.a1, wf_small h0 (by simp only; omega)⟩
theorem Two.pb {n : Nt} {a b : Int} {B : Nat} (h : Two n a b B) {s : Int} (h0 : 0 ≤ s) (h1 : s ≤ 1000) : wfP ⟨b, s⟩ := ⟨wf_place h.ok h.b0 h.b1, wf_small h0 (by simp only; omega)⟩
theorem Two.xa {n : Nt} {a b : Int} {B : Nat} (h : Two n a b B) : (n.nd a).Ok := h.ok.nd _ (nd_mem h.a0 h.a1)
theorem Two.xb {n : Nt} {a b : Int} {B : Nat} (h : Two n a b B) : (n.nd b).Ok := h.ok.nd _ (nd_mem h.b0 h.b1)
theorem make_nd {n : Nt} {x : Nd} {i : Int} (h0 : 0 ≤ i) (h1 : i < n.ns.length) (hk : (n.nd i).k ≠ 0) : (n.make x).nd i = n.nd i ∧ n.ns.length ≤ (n.make x).ns.length := by
  unfold Nt.make
  have g := get_nd (n := n) h0 h1
  cases hf : n.ns.findIdx? isFree with
  | some j =>
    obtain ⟨hi, hfi, hbef⟩ := List.findIdx?_eq_some_iff_getElem.1 hf
    refine ⟨?_, by simp⟩
    have hne : j ≠ i.toNat := by
      rintro rfl
      obtain ⟨_, g2⟩ := List.getElem?_eq_some_iff.1 g
      rw [g2] at hfi
      simp only [isFree, decide_eq_true_eq] at hfi
      exact hk hfi
    unfold Nt.nd
    simp only
    rw [List.getD_eq_getElem?_getD, List.getD_eq_getElem?_getD, List.getElem?_set_ne hne]
  | none =>
    refine ⟨?_, by simp⟩
    unfold Nt.nd
    simp only
    rw [List.getD_eq_getElem?_getD, List.getD_eq_getElem?_getD, List.getElem?_append_left (by omega)]
theorem makeR_nd {n : Nt} (x : Nd) {i : Int} (h0 : 0 ≤ i) (h1 : i < n.ns.length) (hk : (n.nd i).k ≠ 0) : (makeR n x).1.nd i = n.nd i ∧ n.ns.length ≤ (makeR n x).1.ns.length := by
  unfold makeR
  split
  · exact ⟨rfl, Nat.le_refl _⟩
  · split
    · exact ⟨rfl, Nat.le_refl _⟩
    · exact make_nd h0 h1 hk
theorem Two.make {n : Nt} {a b : Int} {B : Nat} (h : Two n a b B) {x : Nd} (hx : x.Ok) (hB : B ≤ 100000) : Two (makeR n x).1 a b (B + 1) ∧ (makeR n x).1.nd a = n.nd a ∧ (makeR n x).1.nd b = n.nd b := by
  obtain ⟨e1, e2⟩ := makeR_nd x h.a0 h.a1 h.ka
  obtain ⟨e3, _⟩ := makeR_nd x h.b0 h.b1 h.kb
  have hb := h.big
  obtain ⟨g1, g2⟩ := makeR_Ok h.ok hx (by omega)
  have h1 := h.a1
  have h2 := h.b1
  exact ⟨⟨g1, by omega, h.a0, by omega, h.b0, by omega, by rw [e1]; exact h.ta, by rw [e3]; exact h.tb, by rw [e1]; exact h.ka, by rw [e3]; exact h.kb⟩, e1, e3⟩
theorem Two.like {n : Nt} {a b : Int} {B : Nat} (h : Two n a b B) {x : Nd} (hx : x.Ok) : ∀ k : Nat, B + k ≤ 100000 → Two (likeR n x k).1 a b (B + k) ∧ (likeR n x k).1.nd a = n.nd a ∧ (likeR n x k).1.nd b = n.nd b
  | 0, _ => ⟨h, rfl, rfl⟩
  | k + 1, hB => by
    obtain ⟨h1, h2, h3⟩ := Two.like h hx k (by omega)
    obtain ⟨g1, g2, g3⟩ := h1.make hx (by omega)
    exact ⟨g1, g2.trans h2, g3.trans h3⟩
theorem likeR_wf {n : Nt} {x : Nd} (hn : n.Ok) (hx : x.Ok) : ∀ k : Nat, n.ns.length + k ≤ 100000 → ∀ d ∈ (likeR n x k).2, wf d
  | 0, _, d, hd => by simp [likeR] at hd
  | k + 1, hB, d, hd => by
    simp only [likeR, List.mem_append, List.mem_cons, List.not_mem_nil, or_false] at hd
    rcases hd with hd | rfl
    · exact likeR_wf hn hx k (by omega) d hd
    · exact makeR_wf (by have := (likeR_Ok hn hx k (by omega)).2.1; omega)

theorem aJoinAll_ok {ks : Key} {n : Nt} {pl : Pl} {a b : Int} {B : Nat} {σ : St} (hT : Two n a b B) (hB : B ≤ 90000) (h : SG ks n pl a b σ) :
    ∃ σ', eS S (.f 68) [.a (.ptr ks 0 0)] σ = some (.u, σ') ∧ SG ks (joinD n a b) pl a b σ' ∧ Fr ks σ σ' := by
  have hn := hT.ok
  obtain ⟨σ1, v, q1, hS1, hF1, hL⟩ := aOthers_ok (j := 1) (jz := 1) rfl (by omega) hT.a0 hT.a1 (hn.nd _ (nd_mem hT.a0 hT.a1)).to h
  have hta := hT.ta
  obtain ⟨m, hm⟩ : ∃ m, (n.nd a).to.length - 1 = m := ⟨_, rfl⟩
  have hpl : (portsR a 1 (n.nd a).to.length).length = m := by rw [portsR_len, hm]
  have hJ : joinD n a b = runs n (joinOps a b (List.range' 1 m)) := by unfold joinD; rw [hm]
  rw [hJ]
  refine x_fnR (fc := F68) rfl rfl ?_
  have s1 := h.bs
  simp only [stg, List.map_cons, List.map_nil] at s1
  have go : ∀ (e : Env), e 0 = .a (.ptr ks 0 0) → e 9 = .a (.p (.i .i64 (m : Nat))) → e 10 = .a (.p (.i .i64 0)) →
      wp S false (.loop F68b0) e σ1 (fun x e' σ' => x = .exit 0 ∧ SG ks (runs n (joinOps a b (List.range' 1 m))) pl a b σ' ∧ Fr ks σ σ') := by
    intro e e0 e9 e10
    refine loop_nat m (fun k e τ => e 0 = .a (.ptr ks 0 0) ∧ e 9 = .a (.p (.i .i64 (m : Nat))) ∧ e 10 = .a (.p (.i .i64 (k : Nat))) ∧ SG ks (runs n (joinOps a b (List.range' 1 k))) pl a b τ ∧ Fr ks σ τ) (i0 := 0) (Nat.zero_le _) ⟨e0, e9, e10, hS1, hF1⟩ ?_ ?_
    · rintro k e τ hk ⟨e0, e9, e10, hS, hF⟩
      have hlt : ((k : Nat) : Int) < (m : Int) := by omega
      have hw : IntKind.i64.wrap ((k : Int) + 1) = (k : Int) + 1 := wrap_in _ (by omega)
      have t1 := hS.bs
      simp only [stg, List.map_cons, List.map_nil] at t1
      have wo : ∀ o ∈ joinOps a b (List.range' 1 k), o.wf := by
        intro o ho
        unfold joinOps at ho
        obtain ⟨s, hs, rfl⟩ := List.mem_map.1 ho
        rw [List.mem_range'_1] at hs
        exact ⟨hT.pa (by omega) (by omega), hT.pb (by omega) (by omega)⟩
      have hsu : joinOps a b (List.range' 1 (k + 1)) = joinOps a b (List.range' 1 k) ++ [.jn ⟨a, (k : Int) + 1⟩ ⟨b, (k : Int) + 1⟩] := by
        unfold joinOps
        rw [List.range'_concat, List.map_append]
        simp only [List.map_cons, List.map_nil, Nat.one_mul]
        rw [show ((1 + k : Nat) : Int) = (k : Int) + 1 by omega]
      rw [hsu, runs_one]
      obtain ⟨τ', c1, hS', hF'⟩ := aJoin_ok (p := ⟨a, (k : Int) + 1⟩) (q := ⟨b, (k : Int) + 1⟩) (runs_Ok hn wo) (hT.pa (by omega) (by omega)) (hT.pb (by omega) (by omega)) hS
      have p1 := port_ok a ((k : Int) + 1)
      have p2 := port_ok b ((k : Int) + 1)
      simp only [F68b0, e0, e9, e10, t1, hlt, hw, p1, p2, c1, evI_cl, clOk, ldKeeps, ldKeeps1, iasKeeps, rowK, nwKeeps, sameC, sameL, sameA, sameP, decide_true, frA_ptr, capsOf, fxa, fxc, fxE, fxL, fxI, nxE, evO, evR, cellsT, ldCells, mkT, lenA, binPV, Env.init, resV, resT, frT, klT, ownT, intT, O.adds, ownA, rowsA, over, wrOk, keysT, keysA, ne_eq, if_true, if_false, ite_self, Nat.reduceLT, Nat.reduceSub, Nat.reduceBEq, Nat.reduceEqDiff, Nat.reduceAdd, Nat.reduceLeDiff, reduceCtorEq, Nat.reduceMul]
      exact ⟨rfl, hS', hF.trans hF'⟩
    · rintro e τ ⟨e0, e9, e10, hS, hF⟩
      have hlt : ¬ ((m : Nat) : Int) < (m : Int) := by omega
      simp only [F68b0, e0, e9, e10, hlt, fxa, fxc, fxE, fxL, fxI, nxE, evO, evR, cellsT, ldCells, mkT, lenA, binPV, Env.init, resV, resT, frT, klT, ownT, intT, O.adds, ownA, rowsA, over, wrOk, keysT, keysA, ne_eq, if_true, if_false, ite_self, Nat.reduceLT, Nat.reduceSub, Nat.reduceBEq, Nat.reduceEqDiff, Nat.reduceAdd, Nat.reduceLeDiff, reduceCtorEq, Nat.reduceMul]
      exact ⟨hS, hF⟩
  rcases hL with ⟨rfl, hr⟩ | ⟨q, rfl, r2, r3, r4⟩
  · have hr2 : portsR a 1 (n.nd a).to.length = [] := List.map_eq_nil_iff.1 hr
    rw [hr2] at hpl
    have hm0 : m = 0 := by rw [← hpl]; rfl
    subst hm0
    simp only [F68, s1, q1, evI_cl, clOk, ldKeeps, ldKeeps1, iasKeeps, rowK, nwKeeps, sameC, sameL, sameA, sameP, decide_true, frA_ptr, capsOf, fxa, fxc, fxE, fxL, fxI, nxE, evO, evR, cellsT, ldCells, mkT, lenA, binPV, Env.init, resV, resT, frT, klT, ownT, intT, O.adds, ownA, rowsA, over, wrOk, keysT, keysA, ne_eq, if_true, if_false, ite_self, Nat.reduceLT, Nat.reduceSub, Nat.reduceBEq, Nat.reduceEqDiff, Nat.reduceAdd, Nat.reduceLeDiff, reduceCtorEq, Nat.reduceMul]
    refine Go.Fx.wp_mono (go _ ?_ ?_ ?_) ?_
    all_goals first
      | (simp only [fxa, fxc, fxE, fxL, fxI, nxE, evO, evR, cellsT, ldCells, mkT, lenA, binPV, Env.init, resV, resT, frT, klT, ownT, intT, O.adds, ownA, rowsA, over, wrOk, keysT, keysA, ne_eq, if_true, if_false, ite_self, Nat.reduceLT, Nat.reduceSub, Nat.reduceBEq, Nat.reduceEqDiff, Nat.reduceAdd, Nat.reduceLeDiff, reduceCtorEq, Nat.reduceMul]; done)
      | (rintro x e' σ' ⟨rfl, g1, g2⟩; simp only [fxa, fxc, fxE, fxL, fxI, nxE, evO, evR, cellsT, ldCells, mkT, lenA, binPV, Env.init, resV, resT, frT, klT, ownT, intT, O.adds, ownA, rowsA, over, wrOk, keysT, keysA, ne_eq, if_true, if_false, ite_self, Nat.reduceLT, Nat.reduceSub, Nat.reduceBEq, Nat.reduceEqDiff, Nat.reduceAdd, Nat.reduceLeDiff, reduceCtorEq, Nat.reduceMul]; exact ⟨g1, g2⟩)
  · rw [List.length_map, hpl] at q1
    simp only [F68, s1, q1, evI_cl, clOk, ldKeeps, ldKeeps1, iasKeeps, rowK, nwKeeps, sameC, sameL, sameA, sameP, decide_true, frA_ptr, capsOf, fxa, fxc, fxE, fxL, fxI, nxE, evO, evR, cellsT, ldCells, mkT, lenA, binPV, Env.init, resV, resT, frT, klT, ownT, intT, O.adds, ownA, rowsA, over, wrOk, keysT, keysA, ne_eq, if_true, if_false, ite_self, Nat.reduceLT, Nat.reduceSub, Nat.reduceBEq, Nat.reduceEqDiff, Nat.reduceAdd, Nat.reduceLeDiff, reduceCtorEq, Nat.reduceMul]
    refine Go.Fx.wp_mono (go _ ?_ ?_ ?_) ?_
    all_goals first
      | (simp only [fxa, fxc, fxE, fxL, fxI, nxE, evO, evR, cellsT, ldCells, mkT, lenA, binPV, Env.init, resV, resT, frT, klT, ownT, intT, O.adds, ownA, rowsA, over, wrOk, keysT, keysA, ne_eq, if_true, if_false, ite_self, Nat.reduceLT, Nat.reduceSub, Nat.reduceBEq, Nat.reduceEqDiff, Nat.reduceAdd, Nat.reduceLeDiff, reduceCtorEq, Nat.reduceMul]; done)
      | (rintro x e' σ' ⟨rfl, g1, g2⟩; simp only [fxa, fxc, fxE, fxL, fxI, nxE, evO, evR, cellsT, ldCells, mkT, lenA, binPV, Env.init, resV, resT, frT, klT, ownT, intT, O.adds, ownA, rowsA, over, wrOk, keysT, keysA, ne_eq, if_true, if_false, ite_self, Nat.reduceLT, Nat.reduceSub, Nat.reduceBEq, Nat.reduceEqDiff, Nat.reduceAdd, Nat.reduceLeDiff, reduceCtorEq, Nat.reduceMul]; exact ⟨g1, g2⟩)

theorem aHalf_ok {ks : Key} {n : Nt} {pl : Pl} {a b : Int} {B : Nat} {σ : St} (hT : Two n a b B) (hB : B ≤ 90000) (h : SG ks n pl a b σ) :
    ∃ σ', eS S (.f 70) [.a (.ptr ks 0 0)] σ = some (.u, σ') ∧ SG ks (halfD n a b) pl a b σ' ∧ Fr ks σ σ' := by
  have hn := hT.ok
  have hbg : n.ns.length ≤ 100000 := by have := hT.big; omega
  obtain ⟨x, hx0⟩ : ∃ x, n.nd a = x := ⟨_, rfl⟩
  obtain ⟨y, hy0⟩ : ∃ y, n.nd b = y := ⟨_, rfl⟩
  have hx := hn.nd _ (nd_mem hT.a0 hT.a1)
  have hy := hn.nd _ (nd_mem hT.b0 hT.b1)
  rw [hx0] at hx
  rw [hy0] at hy
  have s0 := h.bs
  simp only [stg, List.map_cons, List.map_nil] at s0
  obtain ⟨σ1, q1, hS1, hF1⟩ := aNode_ok hT.a0 hT.a1 h
  rw [hx0] at q1
  obtain ⟨c1, hc1⟩ : ∃ c, σ1.clk = c := ⟨_, rfl⟩
  -- the first one's cells, held
  obtain ⟨σ2, hσ2⟩ : ∃ σ2, σ2 = (σ1.add 2 (.var [.p (.i .i64 0), .p (.i .i64 0), .p (.i .i64 0), .p (.s []), .nil, .nil])).put (2, c1) (.var ((encN x).map .p)) := ⟨_, rfl⟩
  have hlt := h.lt
  have hcl1 := hF1.clk
  have nk : ∀ d, ¬ ks = (d, c1) := by rintro d rfl; simp at hlt; omega
  have hS2 : SG ks n pl a b σ2 := by rw [hσ2]; exact (hS1.add _ _).put (nk 2) _
  have hF2 : Fr ks σ σ2 := by rw [hσ2]; exact (hF1.add _ _).put (.inr (by simp only; omega)) _
  have hcl2 : σ2.clk = c1 + 1 := by rw [hσ2]; simp only [put_clk, add_clk]; omega
  have b2 : σ2.bs (2, c1) = some (.var ((encN x).map .p)) := by rw [hσ2]; simp only [put_bs, if_true]
  obtain ⟨σ3, q3, hS3, hF3⟩ := aNode_ok hT.b0 hT.b1 hS2
  rw [hy0] at q3
  have b2' : σ3.bs (2, c1) = some (.var ((encN x).map .p)) := (hF3.bs (2, c1) (by simp only; omega) (fun e => nk 2 e.symm)).trans b2
  obtain ⟨σ4, q4, hS4, hF4⟩ := aMade_ok (x := halfN x y) hn (by omega) ⟨by show wf 12; decide, hx.lv, hy.n, hx.s, by simp [halfN], by simp [halfN], by simp [halfN], by simp [halfN]⟩ NC.nil NC.nil hS3
  have hD : halfD n a b = (moveR (moveR (makeR n (halfN x y)).1 ⟨a, 2⟩ ⟨(makeR n (halfN x y)).2.1, 0⟩).1 ⟨a, 1⟩ ⟨(makeR n (halfN x y)).2.1, 1⟩).1 := by unfold halfD; simp only [hx0, hy0]
  have hOk := (makeR_Ok (x := halfN x y) hn ⟨by show wf 12; decide, hx.lv, hy.n, hx.s, by simp [halfN], by simp [halfN], by simp [halfN], by simp [halfN]⟩ (by omega)).1
  have hti := makeR_wf (x := halfN x y) hbg
  obtain ⟨⟨m, t, ee⟩, hmk⟩ : ∃ r, makeR n (halfN x y) = r := ⟨_, rfl⟩
  rw [hD]
  rw [hmk] at q4 hS4 hOk hti ⊢
  simp only at q4 hS4 hOk hti ⊢
  obtain ⟨σ5, q5, hS5, hF5⟩ := aMove_ok (p := ⟨a, 2⟩) (q := ⟨t, 0⟩) hOk (hT.pa (by omega) (by omega)) ⟨hti, wf_0⟩ hS4
  obtain ⟨σ6, q6, hS6, hF6⟩ := aMove_ok (p := ⟨a, 1⟩) (q := ⟨t, 1⟩) (moveR_Ok (q := ⟨t, 0⟩) hOk (hT.pa (s := 2) (by omega) (by omega)) ⟨hti, wf_0⟩) (hT.pa (by omega) (by omega)) ⟨hti, wf_1⟩ hS5
  have p1 := port_ok a 1
  have p2 := port_ok a 2
  have p3 := port_ok t 0
  have p4 := port_ok t 1
  have u2 := hS2.bs
  have u3 := hS3.bs
  have u4 := hS4.bs
  have u5 := hS5.bs
  simp only [stg, List.map_cons, List.map_nil] at u2 u3 u4 u5
  simp only [encN, List.map_cons, List.map_nil] at q1 q3 b2 b2' hσ2
  simp only [halfN] at q4
  refine x_fnR (fc := F70) rfl rfl ?_
  simp only [F70, s0, q1, ← hσ2, hc1, b2, b2', u2, q3, u3, q4, u4, q5, u5, q6, p1, p2, p3, p4, evI_cl, clOk, ldKeeps, ldKeeps1, iasKeeps, rowK, nwKeeps, sameC, sameL, sameA, sameP, decide_true, frA_ptr, capsOf, fxa, fxc, fxE, fxL, fxI, nxE, evO, evR, cellsT, ldCells, mkT, lenA, binPV, Env.init, resV, resT, frT, klT, ownT, intT, O.adds, ownA, rowsA, over, wrOk, keysT, keysA, ne_eq, if_true, if_false, ite_self, Nat.reduceLT, Nat.reduceSub, Nat.reduceBEq, Nat.reduceEqDiff, Nat.reduceAdd, Nat.reduceLeDiff, reduceCtorEq, Nat.reduceMul]
  exact ⟨hS6, (((hF2.trans hF3).trans hF4).trans hF5).trans hF6⟩

theorem portsR_wf {n : Nt} {a b : Int} {B : Nat} (h : Two n a b B) {j k : Nat} (hk : k ≤ 1000) : (∀ p ∈ portsR a j k, wfP p) ∧ (∀ p ∈ portsR b j k, wfP p) := by
  constructor
  · intro p hp
    unfold portsR at hp
    obtain ⟨s, hs, rfl⟩ := List.mem_map.1 hp
    rw [List.mem_range'_1] at hs
    exact h.pa (by omega) (by omega)
  · intro p hp
    unfold portsR at hp
    obtain ⟨s, hs, rfl⟩ := List.mem_map.1 hp
    rw [List.mem_range'_1] at hs
    exact h.pb (by omega) (by omega)

/-- what moves ports to what drops, called -/
theorem aCall_ok {ks : Key} {n : Nt} {pl : Pl} {a b : Int} {l : List Pt} {ds : List Int} {f : AV} {σ : St} (hn : n.Ok) (hl : ∀ p ∈ l, wfP p) (hd : ∀ d ∈ ds, wf d) (hld : l.length ≤ ds.length) (hlb : l.length ≤ 1000000000) (h : SG ks n pl a b σ) (hD : DropC ks l ds f σ) :
    ∃ k0 k1 k2 σ', f = .fn 97 [k0, k1, k2] ∧ eS S (.f 97) [.a (.ptr k0 0 0), .a (.ptr k1 0 0), .a (.ptr k2 0 0)] σ = some (.u, σ') ∧ SG ks (runs n (dropOps l ds)) pl a b σ' ∧ Fr ks σ σ' := by
  obtain ⟨k0, k1, k2, lv, dv, e1, e2, e3, e4, e5, e6, e7, e8, e9⟩ := hD.ex
  obtain ⟨σ', g1, g2, g3⟩ := aDrops_ok hn hl hd hld hlb h e2 e3 e4 e5 e6 e7 e8 e9
  exact ⟨k0, k1, k2, σ', e1, g1, g2, g3⟩

theorem SL.fa {c0 w : Nat} {t : TypeId} {rows : List (List PV)} {v : AV} {σ : St} (h : SL c0 w t rows v σ) : frA σ v = some (.l rows) := by
  rcases h with ⟨rfl, rfl⟩ | ⟨q, rfl, h2, _, _⟩
  · rfl
  · rw [frA_own, h2]; simp

theorem aFail_ok {ks : Key} {n : Nt} {pl : Pl} {a b : Int} {B : Nat} {σ : St} (hT : Two n a b B) (hB : B ≤ 90000) (h : SG ks n pl a b σ) :
    ∃ σ', eS S (.f 73) [.a (.ptr ks 0 0)] σ = some (.u, σ') ∧ SG ks (failD n a b) pl a b σ' ∧ Fr ks σ σ' := by
  have hn := hT.ok
  have hbg : n.ns.length ≤ 100000 := by have := hT.big; omega
  have hfx : (fail1 (n.nd a).lv).Ok := ⟨by show wf 13; decide, hT.xa.lv, by show wf 0; decide, by simp [fail1], by simp [fail1], by simp [fail1], by simp [fail1], by simp [fail1]⟩
  obtain ⟨σ1, q1, hS1, hF1⟩ := aLevel_ok hT.a0 hT.a1 h
  obtain ⟨σ2, q2, hS2, hF2⟩ := aMade_ok (x := fail1 (n.nd a).lv) hn (by omega) hfx NC.nil NC.nil hS1
  obtain ⟨hT2, ea, eb⟩ := hT.make hfx (by omega)
  have hti := makeR_wf (x := fail1 (n.nd a).lv) hbg
  have hD : failD n a b = (let r := makeR n (fail1 (n.nd a).lv)
    let l := portsR a 2 (r.1.nd a).to.length ++ portsR b 1 (r.1.nd b).to.length
    let r2 := likeR r.1 (dropN (r.1.nd a).lv) l.length
    runs (moveR r2.1 ⟨a, 1⟩ ⟨r.2.1, 0⟩).1 (dropOps l r2.2)) := rfl
  obtain ⟨⟨m, t, ee⟩, hmk⟩ : ∃ r, makeR n (fail1 (n.nd a).lv) = r := ⟨_, rfl⟩
  rw [hmk] at q2 hS2 hT2 hti ea eb hD
  simp only at q2 hS2 hT2 hti ea eb hD
  obtain ⟨σ3, v1, q3, hS3, hF3, hL3⟩ := aOthers_ok (j := 2) (jz := 2) rfl (by omega) hT2.a0 hT2.a1 hT2.xa.to hS2
  obtain ⟨σ4, v2, q4, hS4, hF4, hL4⟩ := aOthers_ok (j := 1) (jz := 1) rfl (by omega) hT2.b0 hT2.b1 hT2.xb.to hS3
  have hL3' := hL3.fr hS3 hF4
  have fa2 := hL4.fa
  obtain ⟨l1, hl1⟩ : ∃ l, portsR a 2 (m.nd a).to.length = l := ⟨_, rfl⟩
  obtain ⟨l2, hl2⟩ : ∃ l, portsR b 1 (m.nd b).to.length = l := ⟨_, rfl⟩
  have w1 : ∀ p ∈ l1 ++ l2, wfP p := by
    intro p hp
    have := hT2.ta
    have := hT2.tb
    rcases List.mem_append.1 hp with hp | hp
    · rw [← hl1] at hp; exact (portsR_wf hT2 (by omega)).1 p hp
    · rw [← hl2] at hp; exact (portsR_wf hT2 (by omega)).2 p hp
  have n1 : l1.length ≤ 100 := by rw [← hl1, portsR_len]; have := hT2.ta; omega
  have n2 : l2.length ≤ 100 := by rw [← hl2, portsR_len]; have := hT2.tb; omega
  rw [hl1, hl2] at hD
  rw [hl1] at hL3'
  rw [hl2] at fa2
  -- behind the append
  have key : ∀ σ5, SG ks m pl a b σ5 → Fr ks σ σ5 → SL 0 2 58 ((l1 ++ l2).map encP) (.own (22, σ4.clk) 0 (l1.length + l2.length)) σ5 →
      ∃ k0 k1 k2 σ6 σ7 σ8, eS S (.f 75) [.a (.ptr ks 0 0), .a (.own (22, σ4.clk) 0 (l1.length + l2.length))] σ5 = some (.a (.fn 97 [k0, k1, k2]), σ6) ∧
        σ6.bs ks = some (.var ((stg (likeR m (dropN (m.nd a).lv) (l1 ++ l2).length).1 pl a b).map .p)) ∧
        eS S (.f 71) [.a (.ptr ks 0 0), .g [.p (.i .i64 a), .p (.i .i64 1)], .g [.p (.i .i64 t), .p (.i .i64 0)]] σ6 = some (.u, σ7) ∧
        eS S (.f 97) [.a (.ptr k0 0 0), .a (.ptr k1 0 0), .a (.ptr k2 0 0)] σ7 = some (.u, σ8) ∧ SG ks (failD n a b) pl a b σ8 ∧ Fr ks σ σ8 := by
    intro σ5 hS5 hF5 hL5
    have hb2 := hT2.big
    obtain ⟨σ6, f, g1, hS6, hF6, hDC⟩ := aDrop_ok (l := l1 ++ l2) (c0 := 0) hT2.ok (by rw [List.length_append]; omega) hT2.a0 hT2.a1 hS5 hL5
    have hdx := dropN_Ok hT2.xa.lv
    obtain ⟨o1, o2, o3⟩ := likeR_Ok hT2.ok hdx (l1 ++ l2).length (by rw [List.length_append]; omega)
    obtain ⟨σ7, g2, hS7, hF7⟩ := aMove_ok (p := ⟨a, 1⟩) (q := ⟨t, 0⟩) o1 (hT.pa (by omega) (by omega)) ⟨hti, wf_0⟩ hS6
    obtain ⟨k0, k1, k2, σ8, rfl, g3, hS8, hF8⟩ := aCall_ok (moveR_Ok (p := ⟨a, 1⟩) (q := ⟨t, 0⟩) o1 (hT.pa (by omega) (by omega)) ⟨hti, wf_0⟩) w1 (likeR_wf hT2.ok hdx _ (by rw [List.length_append]; omega)) (by rw [o3]; exact Nat.le_refl _) (by rw [List.length_append]; omega) hS7 (hDC.fr hS6 hF7)
    exact ⟨k0, k1, k2, σ6, σ7, σ8, g1, hS6.bs, g2, g3, by rw [hD]; exact hS8, ((hF5.trans hF6).trans hF7).trans hF8⟩
  have s0 := h.bs
  have u2 := hS2.bs
  have u3 := hS3.bs
  have hF04 := ((hF1.trans hF2).trans hF3).trans hF4
  have hcl4 := hS4.lt
  have n4 : ∀ d, ¬ ks = (d, σ4.clk) := by rintro d rfl; simp at hcl4
  have p1 := port_ok a 1
  have p3 := port_ok t 0
  refine x_fnR (fc := F73) rfl rfl ?_
  simp only [fail1] at q2
  simp only [stg, List.map_cons, List.map_nil] at s0 u2 u3
  rcases hL3' with ⟨rfl, hr⟩ | ⟨q, rfl, r2, r3, r4⟩
  · have hl0 : l1 = [] := List.map_eq_nil_iff.1 hr
    subst hl0
    obtain ⟨k0, k1, k2, σ6, σ7, σ8, g1, g2, g3, g4, g5, g6⟩ := key (σ4.add 22 (.row 2 58 (l2.map encP))) (hS4.add _ _) (hF04.add _ _) (.inr ⟨(22, σ4.clk), by simp, by simp only [add_bs, if_true]; simp, Nat.zero_le _, by simp only [add_clk]; omega⟩)
    simp only [List.length_nil, Nat.zero_add] at g1
    simp only [stg, List.map_cons, List.map_nil] at g2
    have hbb : l2.length * 16 ≤ 140737488355328 := by omega
    simp only [F73, s0, q1, q2, u2, q3, u3, q4, fa2, hbb, allP, g1, g2, g3, g4, p1, p3, List.length_map, evI_cl, clOk, ldKeeps, ldKeeps1, iasKeeps, rowK, nwKeeps, sameC, sameL, sameA, sameP, decide_true, frA_ptr, capsOf, fxa, fxc, fxE, fxL, fxI, nxE, evO, evR, cellsT, ldCells, mkT, lenA, binPV, Env.init, resV, resT, frT, klT, ownT, intT, O.adds, ownA, rowsA, over, wrOk, keysT, keysA, ne_eq, if_true, if_false, ite_self, Nat.reduceLT, Nat.reduceSub, Nat.reduceBEq, Nat.reduceEqDiff, Nat.reduceAdd, Nat.reduceLeDiff, reduceCtorEq, Nat.reduceMul]
    exact ⟨g5, g6⟩
  · have n5 : ¬ ks = q := by rintro rfl; rw [hS4.bs] at r2; cases r2
    rw [List.length_map] at q3
    obtain ⟨k0, k1, k2, σ6, σ7, σ8, g1, g2, g3, g4, g5, g6⟩ := key ((σ4.kill q).add 22 (.row 2 58 (l1.map encP ++ l2.map encP))) ((hS4.kill n5).add _ _) ((hF04.kill (by have := (hF1.trans hF2).clk; omega)).add _ _) (.inr ⟨(22, σ4.clk), by simp, by simp only [add_bs, kill_clk, if_true, List.map_append], Nat.zero_le _, by simp only [add_clk, kill_clk]; omega⟩)
    simp only [stg, List.map_cons, List.map_nil] at g2
    have htk : List.take l1.length (l1.map encP) = l1.map encP := List.take_of_length_le (by simp)
    have hbb : (l1.length + l2.length) * 16 ≤ 140737488355328 := by omega
    simp only [F73, s0, q1, q2, u2, q3, u3, q4, r2, fa2, hbb, htk, allP, g1, g2, g3, g4, p1, p3, List.length_map, evI_cl, clOk, ldKeeps, ldKeeps1, iasKeeps, rowK, nwKeeps, sameC, sameL, sameA, sameP, decide_true, frA_ptr, capsOf, fxa, fxc, fxE, fxL, fxI, nxE, evO, evR, cellsT, ldCells, mkT, lenA, binPV, Env.init, resV, resT, frT, klT, ownT, intT, O.adds, ownA, rowsA, over, wrOk, keysT, keysA, ne_eq, if_true, if_false, ite_self, Nat.reduceLT, Nat.reduceSub, Nat.reduceBEq, Nat.reduceEqDiff, Nat.reduceAdd, Nat.reduceLeDiff, reduceCtorEq, Nat.reduceMul]
    exact ⟨g5, g6⟩
end Go.Proofs.Ytomcceambpneiaa
