/- Whether a net may be: the document's function. -/
import Derived.Test.YtomcceambpneiaaNet2
set_option linter.unusedSimpArgs false
set_option linter.unusedVariables false
set_option maxHeartbeats 4000000
set_option maxRecDepth 10000
namespace Go.Proofs.Ytomcceambpneiaa
open Go.Fx

/-- a net may be -/
structure Nt.Good (n : Nt) : Prop where
  cap1 : 1 ≤ n.cap
  cap2 : n.cap ≤ 4000
  ln1 : 1 ≤ (n.ns.length : Int)
  ln2 : (n.ns.length : Int) ≤ n.cap
  last : (n.nd (n.ns.length - 1)).k ≠ 0
  nds : ∀ (i : Nat) (x : Nd), n.ns[i]? = some x → x.may ∧ (x.to.length : Int) = x.ports ∧ ((i : Int) = 0 ↔ x.k = 1) ∧
    ∀ (j : Nat) (q : Pt), x.to[j]? = some q → q ≠ ⟨i, j⟩ ∧ n.has q = true ∧ n.lk q = ⟨i, j⟩

/-- an error's number, told of whether P -/
def RE (P : Prop) (r : PT) : Prop := r = .a (.i .i64 (if bool P = true then 0 else 120))
theorem RE_0 (P : Prop) : RE P (.a (.i .i64 0)) = P := by
  unfold RE
  by_cases h : P
  · rw [bool_t h]; simp [h]
  · rw [bool_f h]; simp [h]
theorem RE_120 (P : Prop) : RE P (.a (.i .i64 120)) = ¬ P := by
  unfold RE
  by_cases h : P
  · rw [bool_t h]; simp [h]
  · rw [bool_f h]; simp [h]

theorem RCheck_ok {n : Nt} (hn : n.Ok) : eP S 25 [.g (encT n)] = some (.a (.i .i64 (if bool n.Good = true then 0 else 120))) := by
  obtain ⟨r, h1, h2⟩ := x_fnE (S := S) (g := 25) (orcS (by decide)) (fc := F25) rfl (ps := [.g (encT n)]) rfl (K := RE n.Good) (by
    have hns := hn.ns
    by_cases h1 : n.cap < 1
    · simp only [F25, h1, RE_120, fxa, fxc, fxE, fxL, fxI, nxE, evO, evR, cellsT, ldCells, mkT, lenA, binPV, Env.init, resV, resT, frT, klT, ownT, intT, O.adds, ownA, rowsA, over, wrOk, keysT, keysA, ne_eq, if_true, if_false, ite_self, Nat.reduceLT, Nat.reduceSub, Nat.reduceBEq, Nat.reduceEqDiff, Nat.reduceAdd, Nat.reduceLeDiff, reduceCtorEq, Nat.reduceMul]; intro hG; have := hG.cap1; omega
    by_cases h2 : n.cap > 4000
    · simp only [F25, h1, h2, RE_120, fxa, fxc, fxE, fxL, fxI, nxE, evO, evR, cellsT, ldCells, mkT, lenA, binPV, Env.init, resV, resT, frT, klT, ownT, intT, O.adds, ownA, rowsA, over, wrOk, keysT, keysA, ne_eq, if_true, if_false, ite_self, Nat.reduceLT, Nat.reduceSub, Nat.reduceBEq, Nat.reduceEqDiff, Nat.reduceAdd, Nat.reduceLeDiff, reduceCtorEq, Nat.reduceMul]; intro hG; have := hG.cap2; omega
    by_cases h3 : (n.ns.length : Int) < 1
    · simp only [F25, h1, h2, h3, RE_120, fxa, fxc, fxE, fxL, fxI, nxE, evO, evR, cellsT, ldCells, mkT, lenA, binPV, Env.init, resV, resT, frT, klT, ownT, intT, O.adds, ownA, rowsA, over, wrOk, keysT, keysA, ne_eq, if_true, if_false, ite_self, Nat.reduceLT, Nat.reduceSub, Nat.reduceBEq, Nat.reduceEqDiff, Nat.reduceAdd, Nat.reduceLeDiff, reduceCtorEq, Nat.reduceMul]; intro hG; have := hG.ln1; omega
    by_cases h4 : (n.ns.length : Int) > n.cap
    · simp only [F25, h1, h2, h3, h4, RE_120, fxa, fxc, fxE, fxL, fxI, nxE, evO, evR, cellsT, ldCells, mkT, lenA, binPV, Env.init, resV, resT, frT, klT, ownT, intT, O.adds, ownA, rowsA, over, wrOk, keysT, keysA, ne_eq, if_true, if_false, ite_self, Nat.reduceLT, Nat.reduceSub, Nat.reduceBEq, Nat.reduceEqDiff, Nat.reduceAdd, Nat.reduceLeDiff, reduceCtorEq, Nat.reduceMul]; intro hG; have := hG.ln2; omega
    have hw : IntKind.i64.wrap ((n.ns.length : Int) - 1) = n.ns.length - 1 := wrap_in _ (by omega)
    have g := getN (l := n.ns) (i := (n.ns.length : Int) - 1) (by omega) (by omega)
    have hge0 : 0 ≤ (n.ns.length : Int) - 1 := by omega
    have hlt0 : (n.ns.length : Int) - 1 < n.ns.length := by omega
    by_cases h5 : (n.nd (n.ns.length - 1)).k = 0
    · unfold Nt.nd at h5
      simp only [F25, h1, h2, h3, h4, h5, hw, g, hge0, hlt0, RE_120, fxa, fxc, fxE, fxL, fxI, nxE, evO, evR, cellsT, ldCells, mkT, lenA, binPV, Env.init, resV, resT, frT, klT, ownT, intT, O.adds, ownA, rowsA, over, wrOk, keysT, keysA, ne_eq, if_true, if_false, ite_self, Nat.reduceLT, Nat.reduceSub, Nat.reduceBEq, Nat.reduceEqDiff, Nat.reduceAdd, Nat.reduceLeDiff, reduceCtorEq, Nat.reduceMul]; intro hG; exact hG.last h5
    have h5' := h5
    unfold Nt.nd at h5'
    simp only [F25, h1, h2, h3, h4, h5', hw, g, hge0, hlt0, fxa, fxc, fxE, fxL, fxI, nxE, evO, evR, cellsT, ldCells, mkT, lenA, binPV, Env.init, resV, resT, frT, klT, ownT, intT, O.adds, ownA, rowsA, over, wrOk, keysT, keysA, ne_eq, if_true, if_false, ite_self, Nat.reduceLT, Nat.reduceSub, Nat.reduceBEq, Nat.reduceEqDiff, Nat.reduceAdd, Nat.reduceLeDiff, reduceCtorEq, Nat.reduceMul]
    refine loop_nat n.ns.length (fun i e σ => e 1 = .a (.ptr (1, 0) 0 0) ∧ e 3 = .a (.p (.i .i64 (i : Nat))) ∧ σ.bs (1, 0) = some (.var ((encT n).map .p)) ∧
      ∀ (m : Nat) (x : Nd), m < i → n.ns[m]? = some x → x.may ∧ (x.to.length : Int) = x.ports ∧ ((m : Int) = 0 ↔ x.k = 1) ∧ ∀ (j : Nat) (q : Pt), x.to[j]? = some q → q ≠ ⟨m, j⟩ ∧ n.has q = true ∧ n.lk q = ⟨m, j⟩) (i0 := 0) (Nat.zero_le _) ?_ ?_ ?_
    · refine ⟨?_, ?_, ?_, fun m x hm => by omega⟩ <;> simp only [fxa, fxc, fxE, fxL, fxI, nxE, evO, evR, cellsT, ldCells, mkT, lenA, binPV, Env.init, resV, resT, frT, klT, ownT, intT, O.adds, ownA, rowsA, over, wrOk, keysT, keysA, ne_eq, if_true, if_false, ite_self, Nat.reduceLT, Nat.reduceSub, Nat.reduceBEq, Nat.reduceEqDiff, Nat.reduceAdd, Nat.reduceLeDiff, reduceCtorEq, Nat.reduceMul]
      rfl
    · rintro i e σ hi ⟨e1, e3, s1, hall⟩
      obtain ⟨x, hx⟩ : ∃ x, n.ns[i]? = some x := ⟨_, List.getElem?_eq_getElem hi⟩
      have hx' := mapGet encN hx
      have hlt : ((i : Nat) : Int) < (n.ns.length : Int) := by omega
      have hge : (0 : Int) ≤ ((i : Nat) : Int) := by omega
      have hxo := hn.nd x (List.mem_of_getElem? hx)
      have hto := hxo.to
      have c1 := RNode_ok hxo
      have c2 := RPorts_ok hxo
      simp only [encN] at c1 c2
      simp only [encT, List.map_cons, List.map_nil] at s1
      by_cases k1 : x.may
      case neg =>
        rw [bool_f k1] at c1
        simp only [F25b0, e1, e3, s1, hlt, hge, hx', c1, RE_120, fxa, fxc, fxE, fxL, fxI, nxE, evO, evR, cellsT, ldCells, mkT, lenA, binPV, Env.init, resV, resT, frT, klT, ownT, intT, O.adds, ownA, rowsA, over, wrOk, keysT, keysA, ne_eq, if_true, if_false, ite_self, Nat.reduceLT, Nat.reduceSub, Nat.reduceBEq, Nat.reduceEqDiff, Nat.reduceAdd, Nat.reduceLeDiff, reduceCtorEq, Nat.reduceMul]
        intro hG; exact k1 (hG.nds i x hx).1
      rw [bool_t k1] at c1
      by_cases k2 : (x.to.length : Int) = x.ports
      case neg =>
        simp only [F25b0, e1, e3, s1, hlt, hge, hx', c1, c2, k2, RE_120, fxa, fxc, fxE, fxL, fxI, nxE, evO, evR, cellsT, ldCells, mkT, lenA, binPV, Env.init, resV, resT, frT, klT, ownT, intT, O.adds, ownA, rowsA, over, wrOk, keysT, keysA, ne_eq, if_true, if_false, ite_self, Nat.reduceLT, Nat.reduceSub, Nat.reduceBEq, Nat.reduceEqDiff, Nat.reduceAdd, Nat.reduceLeDiff, reduceCtorEq, Nat.reduceMul]
        intro hG; exact k2 (hG.nds i x hx).2.1
      by_cases k3 : (((i : Nat) : Int) = 0 ↔ x.k = 1)
      case neg =>
        have hd : (decide (((i : Nat) : Int) = 0) = decide (x.k = 1)) = False := by simp only [decide_eq_decide, eq_iff_iff, iff_false]; exact k3
        simp only [F25b0, e1, e3, s1, hlt, hge, hx', c1, c2, k2, hd, RE_120, fxa, fxc, fxE, fxL, fxI, nxE, evO, evR, cellsT, ldCells, mkT, lenA, binPV, Env.init, resV, resT, frT, klT, ownT, intT, O.adds, ownA, rowsA, over, wrOk, keysT, keysA, ne_eq, if_true, if_false, ite_self, Nat.reduceLT, Nat.reduceSub, Nat.reduceBEq, Nat.reduceEqDiff, Nat.reduceAdd, Nat.reduceLeDiff, reduceCtorEq, Nat.reduceMul]
        intro hG; exact k3 (hG.nds i x hx).2.2.1
      have hd : (decide (((i : Nat) : Int) = 0) = decide (x.k = 1)) = True := by simp only [decide_eq_decide, eq_iff_iff, iff_true]; exact k3
      simp only [F25b0, e1, e3, s1, hlt, hge, hx', c1, c2, k2, hd, fxa, fxc, fxE, fxL, fxI, nxE, evO, evR, cellsT, ldCells, mkT, lenA, binPV, Env.init, resV, resT, frT, klT, ownT, intT, O.adds, ownA, rowsA, over, wrOk, keysT, keysA, ne_eq, if_true, if_false, ite_self, Nat.reduceLT, Nat.reduceSub, Nat.reduceBEq, Nat.reduceEqDiff, Nat.reduceAdd, Nat.reduceLeDiff, reduceCtorEq, Nat.reduceMul]
      refine loop_nat x.to.length (fun j e σ' => e 1 = .a (.ptr (1, 0) 0 0) ∧ e 3 = .a (.p (.i .i64 (i : Nat))) ∧ e 4 = .a (.ptr (4, σ.clk) 0 0) ∧ e 5 = .a (.p (.i .i64 (j : Nat))) ∧ σ'.bs (1, 0) = some (.var ((encT n).map .p)) ∧ σ'.bs (4, σ.clk) = some (.var ((encN x).map .p)) ∧
        ∀ (m : Nat) (q : Pt), m < j → x.to[m]? = some q → q ≠ ⟨i, m⟩ ∧ n.has q = true ∧ n.lk q = ⟨i, m⟩) (i0 := 0) (Nat.zero_le _) ?_ ?_ ?_
      · refine ⟨?_, ?_, ?_, ?_, ?_, ?_, fun m x hm => by omega⟩ <;> simp only [e1, e3, s1, fxa, fxc, fxE, fxL, fxI, nxE, evO, evR, cellsT, ldCells, mkT, lenA, binPV, Env.init, resV, resT, frT, klT, ownT, intT, O.adds, ownA, rowsA, over, wrOk, keysT, keysA, ne_eq, if_true, if_false, ite_self, Nat.reduceLT, Nat.reduceSub, Nat.reduceBEq, Nat.reduceEqDiff, Nat.reduceAdd, Nat.reduceLeDiff, reduceCtorEq, Nat.reduceMul]
        rfl
      · rintro j e σ' hj ⟨e1, e3, e4, e5, s1, s4, hall2⟩
        obtain ⟨q, hq⟩ : ∃ q, x.to[j]? = some q := ⟨_, List.getElem?_eq_getElem hj⟩
        have hq' := mapGet encP hq
        have hlt2 : ((j : Nat) : Int) < (x.to.length : Int) := by omega
        have hge2 : (0 : Int) ≤ ((j : Nat) : Int) := by omega
        have c3 := Has_ok n q
        simp only [encT, encN, encP, List.map_cons, List.map_nil] at s1 s4 c3
        by_cases m1 : q = ⟨i, j⟩
        · have hd : (decide (q.n = (i : Int)) && decide (q.s = (j : Int))) = true := by rw [m1]; simp
          simp only [F25b1, e1, e3, e4, e5, s1, s4, hlt2, hge2, hq', hd, RE_120, fxa, fxc, fxE, fxL, fxI, nxE, evO, evR, cellsT, ldCells, mkT, lenA, binPV, Env.init, resV, resT, frT, klT, ownT, intT, O.adds, ownA, rowsA, over, wrOk, keysT, keysA, ne_eq, if_true, if_false, ite_self, Nat.reduceLT, Nat.reduceSub, Nat.reduceBEq, Nat.reduceEqDiff, Nat.reduceAdd, Nat.reduceLeDiff, reduceCtorEq, Nat.reduceMul]
          intro hG; exact ((hG.nds i x hx).2.2.2 j q hq).1 m1
        have hd : (decide (q.n = (i : Int)) && decide (q.s = (j : Int))) = false := by
          have := ptEq q ⟨i, j⟩; rw [this]; simpa using m1
        by_cases m2 : n.has q = true
        case neg =>
          have m2' : n.has q = false := by simpa using m2
          rw [m2'] at c3
          simp only [F25b1, e1, e3, e4, e5, s1, s4, hlt2, hge2, hq', hd, c3, RE_120, fxa, fxc, fxE, fxL, fxI, nxE, evO, evR, cellsT, ldCells, mkT, lenA, binPV, Env.init, resV, resT, frT, klT, ownT, intT, O.adds, ownA, rowsA, over, wrOk, keysT, keysA, ne_eq, if_true, if_false, ite_self, Nat.reduceLT, Nat.reduceSub, Nat.reduceBEq, Nat.reduceEqDiff, Nat.reduceAdd, Nat.reduceLeDiff, reduceCtorEq, Nat.reduceMul]
          intro hG; exact m2 ((hG.nds i x hx).2.2.2 j q hq).2.1
        rw [m2] at c3
        have m2' := has_iff.1 m2
        have g1 := getN (l := n.ns) m2'.1 m2'.2.1
        have g2 := getP (l := (n.nd q.n).to) m2'.2.2.1 m2'.2.2.2
        have g3 := m2'.2.2.2
        obtain ⟨y, hy⟩ : ∃ y, n.lk q = y := ⟨_, rfl⟩
        have hy2 : (n.ns.getD q.n.toNat zN).to.getD q.s.toNat zP = y := hy
        unfold Nt.nd at g2 g3
        rw [hy2] at g2
        by_cases m3 : n.lk q = ⟨i, j⟩
        case neg =>
          have hd2 : (decide (y.n = (i : Int)) && decide (y.s = (j : Int))) = false := by
            have := ptEq y ⟨i, j⟩; rw [this, ← hy]; simpa using m3
          simp only [F25b1, e1, e3, e4, e5, s1, s4, hlt2, hge2, hq', hd, hd2, c3, g1, g2, g3, m2'.1, m2'.2.1, m2'.2.2.1, RE_120, fxa, fxc, fxE, fxL, fxI, nxE, evO, evR, cellsT, ldCells, mkT, lenA, binPV, Env.init, resV, resT, frT, klT, ownT, intT, O.adds, ownA, rowsA, over, wrOk, keysT, keysA, ne_eq, if_true, if_false, ite_self, Nat.reduceLT, Nat.reduceSub, Nat.reduceBEq, Nat.reduceEqDiff, Nat.reduceAdd, Nat.reduceLeDiff, reduceCtorEq, Nat.reduceMul]
          intro hG; exact m3 ((hG.nds i x hx).2.2.2 j q hq).2.2
        have hd2 : (decide (y.n = (i : Int)) && decide (y.s = (j : Int))) = true := by
          rw [← hy, m3]; simp
        simp only [F25b1, e1, e3, e4, e5, s1, s4, hlt2, hge2, hq', hd, hd2, c3, g1, g2, g3, m2'.1, m2'.2.1, m2'.2.2.1, fxa, fxc, fxE, fxL, fxI, nxE, evO, evR, cellsT, ldCells, mkT, lenA, binPV, Env.init, resV, resT, frT, klT, ownT, intT, O.adds, ownA, rowsA, over, wrOk, keysT, keysA, ne_eq, if_true, if_false, ite_self, Nat.reduceLT, Nat.reduceSub, Nat.reduceBEq, Nat.reduceEqDiff, Nat.reduceAdd, Nat.reduceLeDiff, reduceCtorEq, Nat.reduceMul]
        refine ⟨by rw [wrap_succ j (by omega)], fun m c hm hc => ?_⟩
        by_cases e : m = j
        · subst e; rw [hq] at hc; rw [← Option.some.inj hc]; exact ⟨m1, m2, m3⟩
        · exact hall2 m c (by omega) hc
      · rintro e σ' ⟨e1, e3, e4, e5, s1, s4, hall2⟩
        have hlt2 : ¬ ((x.to.length : Nat) : Int) < (x.to.length : Int) := by omega
        simp only [encT, encN, encP, List.map_cons, List.map_nil] at s1 s4
        simp only [F25b1, e1, e3, e4, e5, s1, s4, hlt2, fxa, fxc, fxE, fxL, fxI, nxE, evO, evR, cellsT, ldCells, mkT, lenA, binPV, Env.init, resV, resT, frT, klT, ownT, intT, O.adds, ownA, rowsA, over, wrOk, keysT, keysA, ne_eq, if_true, if_false, ite_self, Nat.reduceLT, Nat.reduceSub, Nat.reduceBEq, Nat.reduceEqDiff, Nat.reduceAdd, Nat.reduceLeDiff, reduceCtorEq, Nat.reduceMul]
        refine ⟨by rw [wrap_succ i (by omega)], fun m y hm hy => ?_⟩
        by_cases e : m = i
        · subst e; rw [hx] at hy; rw [← Option.some.inj hy]
          exact ⟨k1, k2, k3, fun j q hq => hall2 j q (List.getElem?_eq_some_iff.1 hq).1 hq⟩
        · exact hall m y (by omega) hy
    · rintro e σ ⟨e1, e3, s1, hall⟩
      have hlt : ¬ ((n.ns.length : Nat) : Int) < (n.ns.length : Int) := by omega
      simp only [encT, List.map_cons, List.map_nil] at s1
      simp only [F25b0, e1, e3, s1, hlt, RE_0, fxa, fxc, fxE, fxL, fxI, nxE, evO, evR, cellsT, ldCells, mkT, lenA, binPV, Env.init, resV, resT, frT, klT, ownT, intT, O.adds, ownA, rowsA, over, wrOk, keysT, keysA, ne_eq, if_true, if_false, ite_self, Nat.reduceLT, Nat.reduceSub, Nat.reduceBEq, Nat.reduceEqDiff, Nat.reduceAdd, Nat.reduceLeDiff, reduceCtorEq, Nat.reduceMul]
      exact ⟨by omega, by omega, by omega, by omega, h5, fun i x hi => hall i x (List.getElem?_eq_some_iff.1 hi).1 hi⟩)
  rw [h1, h2]

end Go.Proofs.Ytomcceambpneiaa
