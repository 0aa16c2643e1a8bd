/- The law SweepPairs, as the evaluator has it. -/
import Derived.Test.YtkpfjolcmkikeaaLawY
import Derived.Test.YtkpfjolcmkikeaaLawV
import Derived.Test.YtkpfjolcmkikeaaSweepP
set_option linter.unusedSimpArgs false
set_option linter.unusedVariables false
set_option maxHeartbeats 4000000
set_option maxRecDepth 10000
namespace Go.Proofs.Ytkpfjolcmkikeaa
open Go.Fx

theorem nd_nat (n : Nt) (i : Nat) : n.nd i = (n.ns[i]?).getD zN := by
  unfold Nt.nd
  rw [List.getD_eq_getElem?_getD]; rfl
theorem swept_nd {n : Nt} (hG : n.Good) {i : Nat} (hR : Rch n i) : n.swept.nd i = n.nd i := by
  rw [nd_nat, nd_nat]
  obtain ⟨y, hy, _⟩ := rch_k hG hR
  rw [hy, swept_in hG hR hy]
theorem swept_has {n : Nt} (hG : n.Good) {i : Nat} : n.swept.has ⟨i, 0⟩ = true ↔ Rch n i ∧ n.has ⟨i, 0⟩ = true := by
  constructor
  · intro h
    have h1 := has_iff.1 h
    simp only at h1
    obtain ⟨z, hz⟩ : ∃ z, n.swept.ns[i]? = some z := ⟨_, List.getElem?_eq_getElem (by omega)⟩
    rcases swept_get hz with ⟨hR, hx⟩ | ⟨hR, rfl⟩
    · refine ⟨hR, has_iff.2 ?_⟩
      have h2 := (List.getElem?_eq_some_iff.1 hx).1
      rw [swept_nd hG hR] at h1
      simp only; omega
    · rw [nd_nat, hz] at h1
      have h3 := h1.2.2.2
      exact absurd h3 (by decide)
  · rintro ⟨hR, h⟩
    have h1 := has_iff.1 h
    simp only at h1
    obtain ⟨y, hy, _⟩ := rch_k hG hR
    have h2 := (List.getElem?_eq_some_iff.1 (swept_in hG hR hy)).1
    refine has_iff.2 ?_
    rw [swept_nd hG hR]
    simp only; omega
theorem swept_pr {n : Nt} (hG : n.Good) (i : Nat) : n.swept.pr i = if Fx.bool (Rch n i) then n.pr i else none := by
  by_cases hR : Rch n i
  · rw [bool_t hR, if_pos rfl]
    have hl : n.swept.lk ⟨i, 0⟩ = n.lk ⟨i, 0⟩ := by unfold Nt.lk; rw [swept_nd hG hR]
    have hh : n.swept.has ⟨i, 0⟩ = n.has ⟨i, 0⟩ := Bool.eq_iff_iff.2 ((swept_has hG).trans ⟨fun h => h.2, fun h => ⟨hR, h⟩⟩)
    unfold Nt.pr
    rw [hl, hh]
  · rw [bool_f hR]
    unfold Nt.pr
    rw [if_neg (fun h => hR ((swept_has hG).1 h.1).1)]
    rfl
theorem pr_none {n : Nt} {i : Nat} (h : n.ns.length ≤ i) : n.pr i = none := by
  unfold Nt.pr
  rw [if_neg (fun h2 => by have := has_iff.1 h2.1; simp only at this; omega)]
theorem prsTo_far (n : Nt) : ∀ d, prsTo n (n.ns.length + d) = n.prs
  | 0 => rfl
  | d + 1 => by
    show prsTo n (n.ns.length + d + 1) = _
    rw [prsTo_succ, prsTo_far n d, pr_none (by omega)]; simp
noncomputable def lvB (n : Nt) (p : Pt) : Bool := n.live.any fun x => decide (x = p.n)
theorem swept_prs {n : Nt} (hG : n.Good) : n.swept.prs = n.prs.filter (lvB n) := by
  have h1 := prsTo_far n.swept (n.ns.length - n.swept.ns.length)
  have h2 := swept_len n
  rw [show n.swept.ns.length + (n.ns.length - n.swept.ns.length) = n.ns.length by omega] at h1
  rw [← h1]
  unfold Nt.prs
  have : ∀ k, k ≤ n.ns.length → prsTo n.swept k = (prsTo n k).filter (lvB n) := by
    intro k hk
    induction k with
    | zero => rfl
    | succ k ih =>
      rw [prsTo_succ, prsTo_succ, ih (by omega), List.filter_append, swept_pr hG]
      congr 1
      cases hp : n.pr k with
      | none => cases Fx.bool (Rch n k) <;> rfl
      | some p =>
        have hpn := (pr_spec hp).1
        have : lvB n p = Fx.bool (Rch n k) := by unfold lvB; rw [hpn]; exact in_live (by omega)
        simp only [Option.toList_some, List.filter_cons, List.filter_nil, this]
        cases Fx.bool (Rch n k) <;> rfl
  exact this _ (Nat.le_refl _)
theorem swept_rds {n : Nt} (hG : n.Good) : n.swept.rds = n.rds.filter (lvB n) := by
  unfold Nt.rds
  rw [bool_t hG, bool_t (swept_good hG), if_pos rfl, if_pos rfl, swept_prs hG, List.filter_filter, List.filter_filter]
  refine List.filter_congr fun p hp => ?_
  cases hl : lvB n p with
  | false => simp
  | true =>
    obtain ⟨i, hi, hpi⟩ := prs_mem.1 hp
    obtain ⟨e1, e2, e3, e4⟩ := pr_spec hpi
    have hR : Rch n i := by
      have : lvB n p = Fx.bool (Rch n i) := by unfold lvB; rw [e1]; exact in_live hi
      rw [hl] at this; exact bool_iff.1 this.symm
    have h5 := prs_in hG hp
    obtain ⟨j, hj⟩ : ∃ j : Nat, p.s = j := ⟨p.s.toNat, by omega⟩
    have hx : n.ns[i]? = some (n.nd i) := get_nd (n := n) (i := (i : Int)) (by omega) (by omega)
    have hh := has_iff.1 e2
    simp only at hh
    have hq : (n.nd i).to[0]? = some ((n.nd i).tt 0) := get_tt (x := n.nd i) (j := 0) (by omega) (by omega)
    have hq2 : (n.nd i).tt 0 = ⟨p.s, 0⟩ := e3
    have hRj : Rch n j := (rch_link hG hx hq (by rw [hq2]; exact hj)).2 hR
    have : rdy n.swept p = rdy n p := by unfold rdy; rw [e1, hj, swept_nd hG hR, swept_nd hG hRj]
    rw [this]; simp

theorem sweepPairs_law {n : Nt} (hn : n.Ok) : eP S 14 [.g (encT n)] = some (.a (.b true)) := by
  have f0 := fixed18_ok
  have a1 := Small_ok hn 150
  have a2 := RCheck_ok hn
  refine x_fn (orcS (by decide)) (fc := F14) rfl rfl ?_
  by_cases h1 : n.small 150
  case neg =>
    rw [bool_f h1] at a1
    simp only [encT] at a1
    simp only [F14, f0, a1, fxa, fxc, fxE, fxL, fxI, nxE, evO, evR, cellsT, ldCells, mkT, lenA, binPV, Env.init, resV, resT, frT, klT, ownT, intT, O.adds, ownA, rowsA, over, wrOk, keysT, keysA, ne_eq, if_true, if_false, ite_self, Nat.reduceLT, Nat.reduceSub, Nat.reduceBEq, Nat.reduceEqDiff, Nat.reduceAdd, Nat.reduceLeDiff, reduceCtorEq, Nat.reduceMul]
  rw [bool_t h1] at a1
  by_cases hG : n.Good
  case neg =>
    rw [bool_f hG] at a2
    simp only [Bool.false_eq_true, if_false, encT] at a1 a2
    simp only [F14, f0, a1, a2, Int.reduceEq, fxa, fxc, fxE, fxL, fxI, nxE, evO, evR, cellsT, ldCells, mkT, lenA, binPV, Env.init, resV, resT, frT, klT, ownT, intT, O.adds, ownA, rowsA, over, wrOk, keysT, keysA, ne_eq, if_true, if_false, ite_self, Nat.reduceLT, Nat.reduceSub, Nat.reduceBEq, Nat.reduceEqDiff, Nat.reduceAdd, Nat.reduceLeDiff, reduceCtorEq, Nat.reduceMul]
  rw [bool_t hG] at a2
  have hns := hn.ns
  have b1 := sLive_ok hn
  have b2 := sSweep_ok hn
  have b3 := Ready_ok hn
  have b4 := Ready_ok (swept_Ok hn)
  rw [bool_t hG] at b1 b2
  rw [swept_rds hG] at b4
  have hpl := rds_len n
  have hls : n.live.length * 8 ≤ 140737488355328 := live_small hn
  have hIn := fun i : Int => In_ok (l := n.live) hls i
  have hfl : (n.rds.filter (lvB n)).length ≤ n.rds.length := List.length_filter_le _ _
  have b5 := Same17_ok (a := n.rds.filter (lvB n)) (b := n.rds.filter (lvB n)) (by omega)
  rw [bool_t rfl] at b5
  obtain ⟨m, hm⟩ : ∃ m, n.swept = m := ⟨_, rfl⟩
  obtain ⟨L, hL⟩ : ∃ L, n.rds = L := ⟨_, rfl⟩
  rw [hm] at b2 b4
  rw [hL] at b3 b4 b5 hpl hfl
  simp only [if_true, encT] at a1 a2 b1 b2 b3 b4
  simp only [F14, f0, a1, a2, b1, b3, Int.reduceEq, fxa, fxc, fxE, fxL, fxI, nxE, evO, evR, cellsT, ldCells, mkT, lenA, binPV, Env.init, resV, resT, frT, klT, ownT, intT, O.adds, ownA, rowsA, over, wrOk, keysT, keysA, ne_eq, if_true, if_false, ite_self, Nat.reduceLT, Nat.reduceSub, Nat.reduceBEq, Nat.reduceEqDiff, Nat.reduceAdd, Nat.reduceLeDiff, reduceCtorEq, Nat.reduceMul]
  refine loop_nat L.length (fun i e σ => e 1 = .a (.ptr (1, 0) 0 0) ∧ e 3 = .a (.p (.l (n.live.map encI))) ∧ e 4 = .a (.p (.l (L.map encP))) ∧ e 6 = .a (.p (.i .i64 (i : Nat))) ∧ σ.bs (1, 0) = some (.var [.p (.l (n.ns.map encN)), .p (.i .i64 n.cap)]) ∧
    ∃ k : Key, k.2 < σ.clk ∧ e 5 = .a (.own k 0 ((L.take i).filter (lvB n)).length) ∧ σ.bs k = some (.row 2 60 (((L.take i).filter (lvB n)).map encP))) (i0 := 0) (Nat.zero_le _) ?_ ?_ ?_
  · refine ⟨?_, ?_, ?_, ?_, ?_, (24, 1), ?_, ?_, ?_⟩ <;> simp only [fxa, fxc, fxE, fxL, fxI, nxE, evO, evR, cellsT, ldCells, mkT, lenA, binPV, Env.init, resV, resT, frT, klT, ownT, intT, O.adds, ownA, rowsA, over, wrOk, keysT, keysA, ne_eq, if_true, if_false, ite_self, Nat.reduceLT, Nat.reduceSub, Nat.reduceBEq, Nat.reduceEqDiff, Nat.reduceAdd, Nat.reduceLeDiff, reduceCtorEq, Nat.reduceMul]
    all_goals first | rfl | omega | skip
  · rintro i e σ hi ⟨e1, e3, e4, e6, s1, k, hk, e5, s5⟩
    obtain ⟨x, hx⟩ : ∃ x, L[i]? = some x := ⟨_, List.getElem?_eq_getElem hi⟩
    have hx' := mapGet encP hx
    have hlt : ((i : Nat) : Int) < (L.length : Int) := by omega
    have hge : (0 : Int) ≤ ((i : Nat) : Int) := by omega
    have hra : ((L.map encP).all fun r => decide (r.length = 2)) = true := by simp [encP]
    have c := hIn x.n
    have hc : (n.live.any fun y => decide (y = x.n)) = lvB n x := rfl
    rw [hc] at c
    have htk2 : (L.take (i + 1)).filter (lvB n) = (L.take i).filter (lvB n) ++ (if lvB n x then [x] else []) := by
      rw [List.take_add_one, hx, List.filter_append]
      cases h : lvB n x <;> simp [h]
    rw [htk2]
    have hFl : ((L.take i).filter (lvB n)).length ≤ n.ns.length := by
      have h8 := List.length_filter_le (lvB n) (L.take i)
      rw [List.length_take] at h8; omega
    obtain ⟨M, hM⟩ : ∃ M, (L.take i).filter (lvB n) = M := ⟨_, rfl⟩
    rw [hM] at e5 s5 hFl ⊢
    simp only [encP] at hx' hra
    cases hb : lvB n x with
    | false =>
      rw [hb] at c
      simp only [F14b0, e1, e3, e4, e6, s1, hlt, hge, hx', hra, c, encP, fxa, fxc, fxE, fxL, fxI, nxE, evO, evR, cellsT, ldCells, mkT, lenA, binPV, Env.init, resV, resT, frT, klT, ownT, intT, O.adds, ownA, rowsA, over, wrOk, keysT, keysA, ne_eq, if_true, if_false, ite_self, Nat.reduceLT, Nat.reduceSub, Nat.reduceBEq, Nat.reduceEqDiff, Nat.reduceAdd, Nat.reduceLeDiff, reduceCtorEq, Nat.reduceMul]
      rw [wrap_succ i (by omega)]
      exact ⟨rfl, k, hk, by simpa using e5, by simpa using s5⟩
    | true =>
      rw [hb] at c
      have n1 : ∀ d, ¬ k = (d, σ.clk) := by rintro d rfl; simp at hk
      have n2 : ¬ (1, 0) = k := by rintro rfl; rw [s1] at s5; cases s5
      have htk : List.take M.length (M.map encP) = M.map encP := List.take_of_length_le (by simp)
      have hbb : (M.length + 1) * 16 ≤ 140737488355328 := by omega
      simp only [F14b0, e1, e3, e4, e5, e6, s1, s5, hlt, hge, hx', hra, c, n1, n2, htk, hbb, encP, List.length_map, Nat.le_refl, Nat.zero_add, Nat.one_mul, Nat.reduceLeDiff, Nat.zero_lt_one, fxa, fxc, fxE, fxL, fxI, nxE, evO, evR, cellsT, ldCells, mkT, lenA, binPV, Env.init, resV, resT, frT, klT, ownT, intT, O.adds, ownA, rowsA, over, wrOk, keysT, keysA, ne_eq, if_true, if_false, ite_self, Nat.reduceLT, Nat.reduceSub, Nat.reduceBEq, Nat.reduceEqDiff, Nat.reduceAdd, Nat.reduceLeDiff, reduceCtorEq, Nat.reduceMul]
      rw [wrap_succ i (by omega)]
      refine ⟨rfl, (44, σ.clk + 1), by simp, ?_, ?_⟩
      · simp
      · simp [encP]
  · rintro e σ ⟨e1, e3, e4, e6, s1, k, hk, e5, s5⟩
    have hlt : ¬ ((L.length : Nat) : Int) < (L.length : Int) := by omega
    rw [List.take_length] at e5 s5
    have htk : List.take (L.filter (lvB n)).length ((L.filter (lvB n)).map encP) = (L.filter (lvB n)).map encP := List.take_of_length_le (by simp)
    simp only [F14b0, e1, e3, e4, e5, e6, s1, s5, hlt, b2, b4, b5, htk, List.length_map, Nat.le_refl, Nat.zero_add, fxa, fxc, fxE, fxL, fxI, nxE, evO, evR, cellsT, ldCells, mkT, lenA, binPV, Env.init, resV, resT, frT, klT, ownT, intT, O.adds, ownA, rowsA, over, wrOk, keysT, keysA, ne_eq, if_true, if_false, ite_self, Nat.reduceLT, Nat.reduceSub, Nat.reduceBEq, Nat.reduceEqDiff, Nat.reduceAdd, Nat.reduceLeDiff, reduceCtorEq, Nat.reduceMul]
end Go.Proofs.Ytkpfjolcmkikeaa
