/- Whether a net may be: the program's function. -/
import Derived.Test.YtomcceambpneiaaStore4
set_option linter.unusedSimpArgs false
set_option linter.unusedVariables false
set_option maxHeartbeats 4000000
set_option maxRecDepth 10000
namespace Go.Proofs.Ytomcceambpneiaa
open Go.Fx

theorem linked_ok {n : Nt} (hn : n.Ok) {i j : Nat} {x : Nd} (hx : n.ns[i]? = some x) {q : Pt} (hq : x.to[j]? = some q) :
    eP S 64 [.g (encT n), .g [.i .i64 (i : Nat), .i .i64 (j : Nat)]] = some (.a (.b (bool (q ≠ ⟨i, j⟩ ∧ n.has q = true ∧ n.lk q = ⟨i, j⟩)))) := by
  obtain ⟨p, hp⟩ : ∃ p : Prop, (q ≠ ⟨i, j⟩ ∧ n.has q = true ∧ n.lk q = ⟨i, j⟩) = p := ⟨_, rfl⟩
  rw [hp]
  refine x_fnB (orcS (by decide)) (fc := F64) rfl rfl ?_
  have hns := hn.ns
  have hx' := mapGet encN hx
  have hq' := mapGet encP hq
  have hi := (List.getElem?_eq_some_iff.1 hx).1
  have hj := (List.getElem?_eq_some_iff.1 hq).1
  have hlt1 : ((i : Nat) : Int) < (n.ns.length : Int) := by omega
  have hge1 : (0 : Int) ≤ ((i : Nat) : Int) := by omega
  have hlt2 : ((j : Nat) : Int) < (x.to.length : Int) := by omega
  have hge2 : (0 : Int) ≤ ((j : Nat) : Int) := by omega
  have hw0 : IntKind.i64.wrap ((n.ns.length : Int) - 1) = (n.ns.length : Int) - 1 := wrap_in _ (by omega)
  by_cases m1 : q = ⟨i, j⟩
  · have hd : (decide (q.n = (i : Int)) && decide (q.s = (j : Int))) = true := by rw [m1]; simp
    simp only [F64, hlt1, hge1, hx', hlt2, hge2, hq', hd, fxa, fxc, fxE, fxL, fxI, nxE, evO, evR, cellsT, ldCells, mkT, lenA, binPV, Env.init, resV, resT, frT, klT, ownT, intT, O.adds, ownA, rowsA, over, wrOk, keysT, keysA, ne_eq, if_true, if_false, ite_self, Nat.reduceLT, Nat.reduceSub, Nat.reduceBEq, Nat.reduceEqDiff, Nat.reduceAdd, Nat.reduceLeDiff, reduceCtorEq, Nat.reduceMul]
    rw [← hp]; exact fun h => h.1 m1
  have hd : (decide (q.n = (i : Int)) && decide (q.s = (j : Int))) = false := by
    have := ptEq q ⟨i, j⟩; rw [this]; simpa using m1
  by_cases m2 : 0 ≤ q.n ∧ q.n ≤ (n.ns.length : Int) - 1
  case neg =>
    have c1 := in_no m2
    simp only [F64, hlt1, hge1, hx', hlt2, hge2, hq', hd, hw0, c1, fxa, fxc, fxE, fxL, fxI, nxE, evO, evR, cellsT, ldCells, mkT, lenA, binPV, Env.init, resV, resT, frT, klT, ownT, intT, O.adds, ownA, rowsA, over, wrOk, keysT, keysA, ne_eq, if_true, if_false, ite_self, Nat.reduceLT, Nat.reduceSub, Nat.reduceBEq, Nat.reduceEqDiff, Nat.reduceAdd, Nat.reduceLeDiff, reduceCtorEq, Nat.reduceMul]
    rw [← hp]; intro h; have := has_iff.1 h.2.1; omega
  have c1 := in_is m2
  have g1 := getN (l := n.ns) m2.1 (by omega)
  have hlt3 : q.n < (n.ns.length : Int) := by omega
  have hge3 := m2.1
  have hzo := hn.nd _ (nd_mem m2.1 hlt3)
  obtain ⟨z, hz⟩ : ∃ z, n.nd q.n = z := ⟨_, rfl⟩
  rw [hz] at hzo
  have hz2 : n.ns.getD q.n.toNat zN = z := hz
  rw [hz2] at g1
  have hzt := hzo.to
  have hw1 : IntKind.i64.wrap ((z.to.length : Int) - 1) = (z.to.length : Int) - 1 := wrap_in _ (by omega)
  by_cases m3 : 0 ≤ q.s ∧ q.s ≤ (z.to.length : Int) - 1
  case neg =>
    have c2 := in_no m3
    simp only [F64, hlt1, hge1, hx', hlt2, hge2, hq', hd, hw0, c1, hlt3, hge3, g1, hw1, c2, fxa, fxc, fxE, fxL, fxI, nxE, evO, evR, cellsT, ldCells, mkT, lenA, binPV, Env.init, resV, resT, frT, klT, ownT, intT, O.adds, ownA, rowsA, over, wrOk, keysT, keysA, ne_eq, if_true, if_false, ite_self, Nat.reduceLT, Nat.reduceSub, Nat.reduceBEq, Nat.reduceEqDiff, Nat.reduceAdd, Nat.reduceLeDiff, reduceCtorEq, Nat.reduceMul]
    rw [← hp]; intro h; have := has_iff.1 h.2.1; rw [hz] at this; omega
  have c2 := in_is m3
  have g2 := getP (l := z.to) m3.1 (by omega)
  have hlt4 : q.s < (z.to.length : Int) := by omega
  have hge4 := m3.1
  obtain ⟨y, hy⟩ : ∃ y, z.to.getD q.s.toNat zP = y := ⟨_, rfl⟩
  rw [hy] at g2
  have hlk : n.lk q = y := by unfold Nt.lk Nd.tt; rw [hz]; exact hy
  have hhas : n.has q = true := has_iff.2 ⟨hge3, hlt3, hge4, by rw [hz]; exact hlt4⟩
  have hP : (decide (y.n = (i : Int)) && decide (y.s = (j : Int))) = true ↔ p := by
    have := ptEq y ⟨i, j⟩
    rw [this, decide_eq_true_eq, ← hp, hlk]
    simp only [hhas, m1, ne_eq, not_false_eq_true, true_and]
  simp only [F64, hlt1, hge1, hx', hlt2, hge2, hq', hd, hw0, c1, hlt3, hge3, g1, hw1, c2, hlt4, hge4, g2, fxa, fxc, fxE, fxL, fxI, nxE, evO, evR, cellsT, ldCells, mkT, lenA, binPV, Env.init, resV, resT, frT, klT, ownT, intT, O.adds, ownA, rowsA, over, wrOk, keysT, keysA, ne_eq, if_true, if_false, ite_self, Nat.reduceLT, Nat.reduceSub, Nat.reduceBEq, Nat.reduceEqDiff, Nat.reduceAdd, Nat.reduceLeDiff, reduceCtorEq, Nat.reduceMul]
  exact hP

theorem sCheck_ok {n : Nt} (hn : n.Ok) : eP S 46 [.g (encT n)] = some (.a (.i .i64 (if bool n.Good = true then 0 else 120))) := by
  obtain ⟨r, h1, h2⟩ := x_fnE (S := S) (g := 46) (orcS (by decide)) (fc := F46) rfl (ps := [.g (encT n)]) rfl (K := RE n.Good) (by
    have hns := hn.ns
    have hw : IntKind.i64.wrap ((n.ns.length : Int) - 1) = n.ns.length - 1 := wrap_in _ (by omega)
    have hw1 : IntKind.i64.wrap ((n.ns.length : Int) - 1 + 1) = n.ns.length := by rw [wrap_in _ (by omega)]; omega
    by_cases h1 : 1 ≤ n.cap ∧ n.cap ≤ 4000
    case neg =>
      have c1 := in_no h1
      simp only [F46, hw, hw1, c1, RE_120, fxa, fxc, fxE, fxL, fxI, nxE, evO, evR, cellsT, ldCells, mkT, lenA, binPV, Env.init, resV, resT, frT, klT, ownT, intT, O.adds, ownA, rowsA, over, wrOk, keysT, keysA, ne_eq, if_true, if_false, ite_self, Nat.reduceLT, Nat.reduceSub, Nat.reduceBEq, Nat.reduceEqDiff, Nat.reduceAdd, Nat.reduceLeDiff, reduceCtorEq, Nat.reduceMul]; intro hG; exact h1 ⟨hG.cap1, hG.cap2⟩
    have c1 := in_is h1
    by_cases h3 : 1 ≤ (n.ns.length : Int) ∧ (n.ns.length : Int) ≤ n.cap
    case neg =>
      have c2 := in_no h3
      simp only [F46, hw, hw1, c1, c2, RE_120, fxa, fxc, fxE, fxL, fxI, nxE, evO, evR, cellsT, ldCells, mkT, lenA, binPV, Env.init, resV, resT, frT, klT, ownT, intT, O.adds, ownA, rowsA, over, wrOk, keysT, keysA, ne_eq, if_true, if_false, ite_self, Nat.reduceLT, Nat.reduceSub, Nat.reduceBEq, Nat.reduceEqDiff, Nat.reduceAdd, Nat.reduceLeDiff, reduceCtorEq, Nat.reduceMul]; intro hG; exact h3 ⟨hG.ln1, hG.ln2⟩
    have c2 := in_is h3
    have g := getN (l := n.ns) (i := (n.ns.length : Int) - 1) (by omega) (by omega)
    have hge0 : 0 ≤ (n.ns.length : Int) - 1 := by omega
    have hlt0 : (n.ns.length : Int) - 1 < n.ns.length := by omega
    by_cases h5 : (n.nd (n.ns.length - 1)).k = 0
    · unfold Nt.nd at h5
      simp only [F46, hw, hw1, c1, c2, h5, g, hge0, hlt0, RE_120, fxa, fxc, fxE, fxL, fxI, nxE, evO, evR, cellsT, ldCells, mkT, lenA, binPV, Env.init, resV, resT, frT, klT, ownT, intT, O.adds, ownA, rowsA, over, wrOk, keysT, keysA, ne_eq, if_true, if_false, ite_self, Nat.reduceLT, Nat.reduceSub, Nat.reduceBEq, Nat.reduceEqDiff, Nat.reduceAdd, Nat.reduceLeDiff, reduceCtorEq, Nat.reduceMul]; intro hG; exact hG.last h5
    have h5' := h5
    unfold Nt.nd at h5'
    simp only [F46, hw, hw1, c1, c2, h5', g, hge0, hlt0, fxa, fxc, fxE, fxL, fxI, nxE, evO, evR, cellsT, ldCells, mkT, lenA, binPV, Env.init, resV, resT, frT, klT, ownT, intT, O.adds, ownA, rowsA, over, wrOk, keysT, keysA, ne_eq, if_true, if_false, ite_self, Nat.reduceLT, Nat.reduceSub, Nat.reduceBEq, Nat.reduceEqDiff, Nat.reduceAdd, Nat.reduceLeDiff, reduceCtorEq, Nat.reduceMul]
    refine loop_nat n.ns.length (fun i e σ => e 1 = .a (.ptr (1, 0) 0 0) ∧ e 33 = .a (.p (.l (n.ns.map encN))) ∧ e 34 = .a (.p (.i .i64 n.ns.length)) ∧ e 35 = .a (.p (.i .i64 (i : Nat))) ∧ σ.bs (1, 0) = some (.var ((encT n).map .p)) ∧ 0 < σ.clk ∧
      ∀ (m : Nat) (x : Nd), m < i → n.ns[m]? = some x → x.may ∧ (x.to.length : Int) = x.ports ∧ ((m : Int) = 0 ↔ x.k = 1) ∧ ∀ (j : Nat) (q : Pt), x.to[j]? = some q → q ≠ ⟨m, j⟩ ∧ n.has q = true ∧ n.lk q = ⟨m, j⟩) (i0 := 0) (Nat.zero_le _) ?_ ?_ ?_
    · refine ⟨?_, ?_, ?_, ?_, ?_, ?_, fun m x hm => by omega⟩ <;> simp only [fxa, fxc, fxE, fxL, fxI, nxE, evO, evR, cellsT, ldCells, mkT, lenA, binPV, Env.init, resV, resT, frT, klT, ownT, intT, O.adds, ownA, rowsA, over, wrOk, keysT, keysA, ne_eq, if_true, if_false, ite_self, Nat.reduceLT, Nat.reduceSub, Nat.reduceBEq, Nat.reduceEqDiff, Nat.reduceAdd, Nat.reduceLeDiff, reduceCtorEq, Nat.reduceMul]
      all_goals first | rfl | omega
    · rintro i e σ hi ⟨e1, e33, e34, e35, s1, hc, hall⟩
      obtain ⟨x, hx⟩ : ∃ x, n.ns[i]? = some x := ⟨_, List.getElem?_eq_getElem hi⟩
      have hx' := mapGet encN hx
      have hlt : ((i : Nat) : Int) < (n.ns.length : Int) := by omega
      have hge : (0 : Int) ≤ ((i : Nat) : Int) := by omega
      have hxo := hn.nd x (List.mem_of_getElem? hx)
      have hto := hxo.to
      have c1 := sNode_ok hxo
      have c2 := sPorts_ok hxo
      have hne : ¬ ((1, 0) : Key) = (5, σ.clk) := by simp
      simp only [encN] at c1 c2
      simp only [encT, List.map_cons, List.map_nil] at s1
      by_cases k1 : x.may
      case neg =>
        rw [bool_f k1] at c1
        simp only [F46b0, e1, e33, e34, e35, s1, hlt, hge, hx', c1, RE_120, fxa, fxc, fxE, fxL, fxI, nxE, evO, evR, cellsT, ldCells, mkT, lenA, binPV, Env.init, resV, resT, frT, klT, ownT, intT, O.adds, ownA, rowsA, over, wrOk, keysT, keysA, ne_eq, if_true, if_false, ite_self, Nat.reduceLT, Nat.reduceSub, Nat.reduceBEq, Nat.reduceEqDiff, Nat.reduceAdd, Nat.reduceLeDiff, reduceCtorEq, Nat.reduceMul]
        intro hG; exact k1 (hG.nds i x hx).1
      rw [bool_t k1] at c1
      by_cases k2 : (x.to.length : Int) = x.ports
      case neg =>
        simp only [F46b0, e1, e33, e34, e35, s1, hlt, hge, hx', c1, c2, k2, RE_120, fxa, fxc, fxE, fxL, fxI, nxE, evO, evR, cellsT, ldCells, mkT, lenA, binPV, Env.init, resV, resT, frT, klT, ownT, intT, O.adds, ownA, rowsA, over, wrOk, keysT, keysA, ne_eq, if_true, if_false, ite_self, Nat.reduceLT, Nat.reduceSub, Nat.reduceBEq, Nat.reduceEqDiff, Nat.reduceAdd, Nat.reduceLeDiff, reduceCtorEq, Nat.reduceMul]
        intro hG; exact k2 (hG.nds i x hx).2.1
      by_cases k3 : (((i : Nat) : Int) = 0 ↔ x.k = 1)
      case neg =>
        have hd : (decide (x.k = 1) = decide (((i : Nat) : Int) = 0)) = False := by simp only [decide_eq_decide, eq_iff_iff, iff_false]; exact fun h => k3 h.symm
        simp only [F46b0, e1, e33, e34, e35, s1, hlt, hge, hx', c1, c2, k2, hd, RE_120, fxa, fxc, fxE, fxL, fxI, nxE, evO, evR, cellsT, ldCells, mkT, lenA, binPV, Env.init, resV, resT, frT, klT, ownT, intT, O.adds, ownA, rowsA, over, wrOk, keysT, keysA, ne_eq, if_true, if_false, ite_self, Nat.reduceLT, Nat.reduceSub, Nat.reduceBEq, Nat.reduceEqDiff, Nat.reduceAdd, Nat.reduceLeDiff, reduceCtorEq, Nat.reduceMul]
        intro hG; exact k3 (hG.nds i x hx).2.2.1
      have hd : (decide (x.k = 1) = decide (((i : Nat) : Int) = 0)) = True := by simp only [decide_eq_decide, eq_iff_iff, iff_true]; exact k3.symm
      simp only [F46b0, e1, e33, e34, e35, s1, hlt, hge, hx', c1, c2, k2, hd, fxa, fxc, fxE, fxL, fxI, nxE, evO, evR, cellsT, ldCells, mkT, lenA, binPV, Env.init, resV, resT, frT, klT, ownT, intT, O.adds, ownA, rowsA, over, wrOk, keysT, keysA, ne_eq, if_true, if_false, ite_self, Nat.reduceLT, Nat.reduceSub, Nat.reduceBEq, Nat.reduceEqDiff, Nat.reduceAdd, Nat.reduceLeDiff, reduceCtorEq, Nat.reduceMul]
      refine loop_nat x.to.length (fun j e σ' => e 1 = .a (.ptr (1, 0) 0 0) ∧ e 33 = .a (.p (.l (n.ns.map encN))) ∧ e 34 = .a (.p (.i .i64 n.ns.length)) ∧ e 35 = .a (.p (.i .i64 (i : Nat))) ∧ e 4 = .a (.p (.i .i64 (i : Nat))) ∧ e 61 = .a (.p (.i .i64 x.to.length)) ∧ e 62 = .a (.p (.i .i64 (j : Nat))) ∧ σ'.bs (1, 0) = some (.var ((encT n).map .p)) ∧ 0 < σ'.clk ∧
        ∀ (m : Nat) (q : Pt), m < j → x.to[m]? = some q → q ≠ ⟨i, m⟩ ∧ n.has q = true ∧ n.lk q = ⟨i, m⟩) (i0 := 0) (Nat.zero_le _) ?_ ?_ ?_
      · refine ⟨?_, ?_, ?_, ?_, ?_, ?_, ?_, ?_, ?_, fun m x hm => by omega⟩ <;> simp only [e1, e33, e34, e35, s1, k2, fxa, fxc, fxE, fxL, fxI, nxE, evO, evR, cellsT, ldCells, mkT, lenA, binPV, Env.init, resV, resT, frT, klT, ownT, intT, O.adds, ownA, rowsA, over, wrOk, keysT, keysA, ne_eq, if_true, if_false, ite_self, Nat.reduceLT, Nat.reduceSub, Nat.reduceBEq, Nat.reduceEqDiff, Nat.reduceAdd, Nat.reduceLeDiff, reduceCtorEq, Nat.reduceMul]
        all_goals first | rfl | omega
      · rintro j e σ' hj ⟨e1, e33, e34, e35, e4, e61, e62, s1, hc, hall2⟩
        obtain ⟨q, hq⟩ : ∃ q, x.to[j]? = some q := ⟨_, List.getElem?_eq_getElem hj⟩
        have hlt2 : ((j : Nat) : Int) < (x.to.length : Int) := by omega
        have hge2 : (0 : Int) ≤ ((j : Nat) : Int) := by omega
        have c3 := linked_ok hn hx hq
        simp only [encT, encN, encP, List.map_cons, List.map_nil] at s1 c3
        by_cases m1 : q ≠ ⟨i, j⟩ ∧ n.has q = true ∧ n.lk q = ⟨i, j⟩
        case neg =>
          rw [bool_f m1] at c3
          simp only [F46b1, e1, e33, e34, e35, e4, e61, e62, s1, hlt2, hge2, c3, RE_120, fxa, fxc, fxE, fxL, fxI, nxE, evO, evR, cellsT, ldCells, mkT, lenA, binPV, Env.init, resV, resT, frT, klT, ownT, intT, O.adds, ownA, rowsA, over, wrOk, keysT, keysA, ne_eq, if_true, if_false, ite_self, Nat.reduceLT, Nat.reduceSub, Nat.reduceBEq, Nat.reduceEqDiff, Nat.reduceAdd, Nat.reduceLeDiff, reduceCtorEq, Nat.reduceMul]
          intro hG; exact m1 ((hG.nds i x hx).2.2.2 j q hq)
        rw [bool_t m1] at c3
        simp only [F46b1, e1, e33, e34, e35, e4, e61, e62, s1, hlt2, hge2, c3, fxa, fxc, fxE, fxL, fxI, nxE, evO, evR, cellsT, ldCells, mkT, lenA, binPV, Env.init, resV, resT, frT, klT, ownT, intT, O.adds, ownA, rowsA, over, wrOk, keysT, keysA, ne_eq, if_true, if_false, ite_self, Nat.reduceLT, Nat.reduceSub, Nat.reduceBEq, Nat.reduceEqDiff, Nat.reduceAdd, Nat.reduceLeDiff, reduceCtorEq, Nat.reduceMul]
        refine ⟨by rw [wrap_succ j (by omega)], hc, fun m c hm hc => ?_⟩
        by_cases e : m = j
        · subst e; rw [hq] at hc; rw [← Option.some.inj hc]; exact m1
        · exact hall2 m c (by omega) hc
      · rintro e σ' ⟨e1, e33, e34, e35, e4, e61, e62, s1, hc, hall2⟩
        have hlt2 : ¬ ((x.to.length : Nat) : Int) < (x.to.length : Int) := by omega
        simp only [encT, encN, encP, List.map_cons, List.map_nil] at s1
        simp only [F46b1, e1, e33, e34, e35, e4, e61, e62, s1, hlt2, fxa, fxc, fxE, fxL, fxI, nxE, evO, evR, cellsT, ldCells, mkT, lenA, binPV, Env.init, resV, resT, frT, klT, ownT, intT, O.adds, ownA, rowsA, over, wrOk, keysT, keysA, ne_eq, if_true, if_false, ite_self, Nat.reduceLT, Nat.reduceSub, Nat.reduceBEq, Nat.reduceEqDiff, Nat.reduceAdd, Nat.reduceLeDiff, reduceCtorEq, Nat.reduceMul]
        refine ⟨by rw [wrap_succ i (by omega)], hc, fun m y hm hy => ?_⟩
        by_cases e : m = i
        · subst e; rw [hx] at hy; rw [← Option.some.inj hy]
          exact ⟨k1, k2, k3, fun j q hq => hall2 j q (List.getElem?_eq_some_iff.1 hq).1 hq⟩
        · exact hall m y (by omega) hy
    · rintro e σ ⟨e1, e33, e34, e35, s1, hc, hall⟩
      have hlt : ¬ ((n.ns.length : Nat) : Int) < (n.ns.length : Int) := by omega
      simp only [encT, List.map_cons, List.map_nil] at s1
      simp only [F46b0, e1, e33, e34, e35, s1, hlt, RE_0, fxa, fxc, fxE, fxL, fxI, nxE, evO, evR, cellsT, ldCells, mkT, lenA, binPV, Env.init, resV, resT, frT, klT, ownT, intT, O.adds, ownA, rowsA, over, wrOk, keysT, keysA, ne_eq, if_true, if_false, ite_self, Nat.reduceLT, Nat.reduceSub, Nat.reduceBEq, Nat.reduceEqDiff, Nat.reduceAdd, Nat.reduceLeDiff, reduceCtorEq, Nat.reduceMul]
      exact ⟨h1.1, h1.2, h3.1, h3.2, h5, fun i x hi => hall i x (List.getElem?_eq_some_iff.1 hi).1 hi⟩)
  rw [h1, h2]

end Go.Proofs.Ytomcceambpneiaa
