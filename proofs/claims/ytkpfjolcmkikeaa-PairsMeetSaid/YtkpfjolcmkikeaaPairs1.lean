/- Nodes that meet: the program's functions. -/
import Derived.Test.YtkpfjolcmkikeaaRule1
import Derived.Test.YtkpfjolcmkikeaaReach1
import Derived.Test.YtkpfjolcmkikeaaStoreP
import Derived.Test.YtkpfjolcmkikeaaFxR
set_option linter.unusedSimpArgs false
set_option linter.unusedVariables false
set_option maxHeartbeats 4000000
set_option maxRecDepth 10000
namespace Go.Proofs.Ytkpfjolcmkikeaa
open Go.Fx

/-- the pair of a node that meets another one, of a greater number -/
def Nt.pr (n : Nt) (i : Nat) : Option Pt := if n.has ⟨i, 0⟩ = true ∧ (n.lk ⟨i, 0⟩).s = 0 ∧ (i : Int) < (n.lk ⟨i, 0⟩).n then some ⟨i, (n.lk ⟨i, 0⟩).n⟩ else none
def prsTo (n : Nt) (k : Nat) : List Pt := (List.range k).filterMap n.pr
def Nt.prs (n : Nt) : List Pt := prsTo n n.ns.length
theorem prsTo_succ (n : Nt) (k : Nat) : prsTo n (k + 1) = prsTo n k ++ (n.pr k).toList := by
  unfold prsTo
  rw [List.range_succ, List.filterMap_append]
  cases h : n.pr k <;> simp [h]

theorem meetings_ok (n : Nt) (σ : St) : eS S (.f 65) [.g ((encT n).map .p)] σ = some (.a (.fn 90 [(1, σ.clk)]), σ.add 1 (.var ((encT n).map .p))) := by
  refine x_fnX (fc := F65) rfl rfl ?_
  simp only [F65, capsOf, fxa, fxc, fxE, fxL, fxI, nxE, evO, evR, cellsT, ldCells, mkT, lenA, binPV, Env.init, resV, resT, frT, klT, ownT, intT, O.adds, ownA, rowsA, over, wrOk, keysT, keysA, ne_eq, if_true, if_false, ite_self, Nat.reduceLT, Nat.reduceSub, Nat.reduceBEq, Nat.reduceEqDiff, Nat.reduceAdd, Nat.reduceLeDiff, reduceCtorEq, Nat.reduceMul]

/-- all pairs are handed on, one by one -/
theorem each_ok {n : Nt} (hn : n.Ok) (l : Nat) (kn : Key) (I : Nat → St → Prop) (hI : ∀ k σ, I k σ → σ.bs kn = some (.var ((encT n).map .p)) ∧ kn.2 < σ.clk)
    (hadd : ∀ k σ c b, I k σ → c = σ.clk → I k ((σ.add 4 (.var [.p (.i .i64 0), .p (.i .i64 0)])).put (4, c) b))
    (hy : n.Good → ∀ k σ p, I k σ → n.prs[k]? = some p → ∃ σ', eS S (.y l) [.g [.p (.i .i64 p.n), .p (.i .i64 p.s)]] σ = some (.a (.p (.b true)), σ') ∧ I (k + 1) σ') (σ : St) (h0 : I 0 σ) :
    ∃ σ', eS S (.f 90) [.a (.yl l), .a (.ptr kn 0 0)] σ = some (.u, σ') ∧ I (if bool n.Good then n.prs.length else 0) σ' := by
  refine x_fnR (fc := F90) rfl rfl ?_
  have c1 := sCheck_ok hn
  have hns := hn.ns
  obtain ⟨s1, hc⟩ := hI 0 σ h0
  by_cases hG : n.Good
  case neg =>
    rw [bool_f hG] at c1 ⊢
    simp only [Bool.false_eq_true, if_false, encT, List.map_cons, List.map_nil] at c1 s1
    simp only [F90, s1, c1, Int.reduceEq, fxa, fxc, fxE, fxL, fxI, nxE, evO, evR, cellsT, ldCells, mkT, lenA, binPV, Env.init, resV, resT, frT, klT, ownT, intT, O.adds, ownA, rowsA, over, wrOk, keysT, keysA, ne_eq, if_true, if_false, ite_self, Nat.reduceLT, Nat.reduceSub, Nat.reduceBEq, Nat.reduceEqDiff, Nat.reduceAdd, Nat.reduceLeDiff, reduceCtorEq, Nat.reduceMul]
    exact h0
  rw [bool_t hG] at c1 ⊢
  simp only [if_true, encT, List.map_cons, List.map_nil] at c1 s1
  simp only [F90, s1, c1, fxa, fxc, fxE, fxL, fxI, nxE, evO, evR, cellsT, ldCells, mkT, lenA, binPV, Env.init, resV, resT, frT, klT, ownT, intT, O.adds, ownA, rowsA, over, wrOk, keysT, keysA, ne_eq, if_true, if_false, ite_self, Nat.reduceLT, Nat.reduceSub, Nat.reduceBEq, Nat.reduceEqDiff, Nat.reduceAdd, Nat.reduceLeDiff, reduceCtorEq, Nat.reduceMul]
  refine loop_nat n.ns.length (fun i e σ => e 0 = .a (.yl l) ∧ e 1 = .a (.ptr kn 0 0) ∧ e 11 = .a (.p (.i .i64 n.ns.length)) ∧ e 12 = .a (.p (.i .i64 (i : Nat))) ∧ I (prsTo n i).length σ) (i0 := 0) (Nat.zero_le _) ?_ ?_ ?_
  · refine ⟨?_, ?_, ?_, ?_, h0⟩ <;> simp only [fxa, fxc, fxE, fxL, fxI, nxE, evO, evR, cellsT, ldCells, mkT, lenA, binPV, Env.init, resV, resT, frT, klT, ownT, intT, O.adds, ownA, rowsA, over, wrOk, keysT, keysA, ne_eq, if_true, if_false, ite_self, Nat.reduceLT, Nat.reduceSub, Nat.reduceBEq, Nat.reduceEqDiff, Nat.reduceAdd, Nat.reduceLeDiff, reduceCtorEq, Nat.reduceMul]
    rfl
  · rintro i e σ hi ⟨e0, e1, e11, e12, hIi⟩
    obtain ⟨s1, hc⟩ := hI _ σ hIi
    have hlt : ((i : Nat) : Int) < (n.ns.length : Int) := by omega
    have c2 := Peer_ok n ⟨i, 0⟩
    have hsuc := prsTo_succ n i
    have hkn : ¬ kn = (4, σ.clk) := by rintro rfl; simp at hc
    rw [hsuc]
    simp only [encT, encP, List.map_cons, List.map_nil] at s1 c2
    cases hh : n.has ⟨i, 0⟩ with
    | false =>
      have hp : n.pr i = none := by unfold Nt.pr; rw [hh]; simp
      rw [hh] at c2
      simp only [Bool.false_eq_true, if_false, zP] at c2
      simp only [F90b0, e0, e1, e11, e12, s1, hlt, c2, hp, Option.toList_none, Int.reduceEq, fxa, fxc, fxE, fxL, fxI, nxE, evO, evR, cellsT, ldCells, mkT, lenA, binPV, Env.init, resV, resT, frT, klT, ownT, intT, O.adds, ownA, rowsA, over, wrOk, keysT, keysA, ne_eq, if_true, if_false, ite_self, Nat.reduceLT, Nat.reduceSub, Nat.reduceBEq, Nat.reduceEqDiff, Nat.reduceAdd, Nat.reduceLeDiff, reduceCtorEq, Nat.reduceMul]
      exact ⟨by rw [wrap_succ i (by omega)], hadd _ σ _ _ hIi rfl⟩
    | true =>
      rw [hh] at c2
      simp only [if_true] at c2
      obtain ⟨q, hq⟩ : ∃ q, n.lk ⟨i, 0⟩ = q := ⟨_, rfl⟩
      rw [hq] at c2
      by_cases h1 : q.s = 0
      case neg =>
        have hp : n.pr i = none := by unfold Nt.pr; rw [hq, if_neg (fun h => h1 h.2.1)]
        simp only [F90b0, e0, e1, e11, e12, s1, hlt, c2, h1, hp, Option.toList_none, Int.reduceEq, fxa, fxc, fxE, fxL, fxI, nxE, evO, evR, cellsT, ldCells, mkT, lenA, binPV, Env.init, resV, resT, frT, klT, ownT, intT, O.adds, ownA, rowsA, over, wrOk, keysT, keysA, ne_eq, if_true, if_false, ite_self, Nat.reduceLT, Nat.reduceSub, Nat.reduceBEq, Nat.reduceEqDiff, Nat.reduceAdd, Nat.reduceLeDiff, reduceCtorEq, Nat.reduceMul]
        exact ⟨by rw [wrap_succ i (by omega)], hadd _ σ _ _ hIi rfl⟩
      by_cases h2 : q.n ≤ (i : Int)
      · have hp : n.pr i = none := by unfold Nt.pr; rw [hq, if_neg (fun h => by have := h.2.2; omega)]
        rw [h1] at c2
        simp only [F90b0, e0, e1, e11, e12, s1, hlt, c2, h1, h2, hp, Option.toList_none, Int.reduceEq, fxa, fxc, fxE, fxL, fxI, nxE, evO, evR, cellsT, ldCells, mkT, lenA, binPV, Env.init, resV, resT, frT, klT, ownT, intT, O.adds, ownA, rowsA, over, wrOk, keysT, keysA, ne_eq, if_true, if_false, ite_self, Nat.reduceLT, Nat.reduceSub, Nat.reduceBEq, Nat.reduceEqDiff, Nat.reduceAdd, Nat.reduceLeDiff, reduceCtorEq, Nat.reduceMul]
        exact ⟨by rw [wrap_succ i (by omega)], hadd _ σ _ _ hIi rfl⟩
      · have hp : n.pr i = some ⟨i, q.n⟩ := by unfold Nt.pr; rw [hq, if_pos ⟨hh, h1, by omega⟩]
        have hget : n.prs[(prsTo n i).length]? = some ⟨i, q.n⟩ := by
          have : ∀ k, i + 1 ≤ k → (prsTo n k)[(prsTo n i).length]? = some ⟨i, q.n⟩ := by
            intro k hk
            induction hk with
            | refl => rw [hsuc, hp]; simp
            | step hk ih =>
              rw [prsTo_succ, List.getElem?_append_left]
              · exact ih
              · exact (List.getElem?_eq_some_iff.1 ih).1
          exact this n.ns.length (by omega)
        obtain ⟨σ', hcall, hI'⟩ := hy hG _ _ _ (hadd _ σ σ.clk (.var [.p (.i .i64 q.n), .p (.i .i64 q.s)]) hIi rfl) hget
        rw [h1] at c2 hcall
        simp only [F90b0, e0, e1, e11, e12, s1, hlt, c2, h1, h2, hp, hcall, Option.toList_some, List.length_append, Int.reduceEq, fxa, fxc, fxE, fxL, fxI, nxE, evO, evR, cellsT, ldCells, mkT, lenA, binPV, Env.init, resV, resT, frT, klT, ownT, intT, O.adds, ownA, rowsA, over, wrOk, keysT, keysA, ne_eq, if_true, if_false, ite_self, Nat.reduceLT, Nat.reduceSub, Nat.reduceBEq, Nat.reduceEqDiff, Nat.reduceAdd, Nat.reduceLeDiff, reduceCtorEq, Nat.reduceMul]
        exact ⟨by rw [wrap_succ i (by omega)], hI'⟩
  · rintro e σ ⟨e0, e1, e11, e12, hIi⟩
    have hlt : ¬ ((n.ns.length : Nat) : Int) < (n.ns.length : Int) := by omega
    simp only [F90b0, e0, e1, e11, e12, hlt, fxa, fxc, fxE, fxL, fxI, nxE, evO, evR, cellsT, ldCells, mkT, lenA, binPV, Env.init, resV, resT, frT, klT, ownT, intT, O.adds, ownA, rowsA, over, wrOk, keysT, keysA, ne_eq, if_true, if_false, ite_self, Nat.reduceLT, Nat.reduceSub, Nat.reduceBEq, Nat.reduceEqDiff, Nat.reduceAdd, Nat.reduceLeDiff, reduceCtorEq, Nat.reduceMul]
    exact hIi
end Go.Proofs.Ytkpfjolcmkikeaa
