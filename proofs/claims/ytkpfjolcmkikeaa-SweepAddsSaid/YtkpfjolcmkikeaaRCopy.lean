/- The document's copy of a net. -/
import Derived.Test.YtkpfjolcmkikeaaNet1
set_option linter.unusedSimpArgs false
set_option linter.unusedVariables false
set_option maxHeartbeats 4000000
set_option maxRecDepth 10000
namespace Go.Proofs.Ytkpfjolcmkikeaa
open Go.Fx

theorem RCopy_ok {n : Nt} (hn : n.ns.length * 88 ≤ 140737488355328) (hne : n.ns ≠ []) (σ : St) :
    ∃ v σ', eS S (.f 51) [.g ((encT n).map .p)] σ = some (v, σ') ∧ ∃ k : Key, v = .g [.own k 0 n.ns.length, .p (.i .i64 n.cap)] ∧
      σ'.bs k = some (.row 6 41 (n.ns.map encN)) ∧ σ.clk ≤ k.2 ∧ k.2 < σ'.clk ∧ σ'.ls = σ.ls ∧ ∀ s : Key, s.2 < σ.clk → σ'.bs s = σ.bs s := by
  refine x_fnS (fc := F51) rfl rfl ?_
  obtain ⟨c, hc⟩ : ∃ c, σ.clk = c := ⟨_, rfl⟩
  have hpos : 0 < n.ns.length := List.length_pos_iff.2 hne
  simp only [F51, hc, fxa, fxc, fxE, fxL, fxI, nxE, evO, evR, cellsT, ldCells, mkT, lenA, binPV, Env.init, resV, resT, frT, klT, ownT, intT, O.adds, ownA, rowsA, over, wrOk, keysT, keysA, ne_eq, if_true, if_false, ite_self, Nat.reduceLT, Nat.reduceSub, Nat.reduceBEq, Nat.reduceEqDiff, Nat.reduceAdd, Nat.reduceLeDiff, reduceCtorEq, Nat.reduceMul]
  have hold : ∀ {s : Key} {d k : Nat}, s.2 < c → ¬ s = (d, c + k) := by rintro s d k hs rfl; simp at hs; omega
  have hold0 : ∀ {s : Key} {d : Nat}, s.2 < c → ¬ s = (d, c) := by rintro s d hs rfl; simp at hs
  refine loop_nat n.ns.length (fun i e σ' => e 1 = .a (.ptr (1, c) 0 0) ∧ e 2 = .a (.ptr (2, c + 1) 0 0) ∧ e 3 = .a (.ptr (3, c + 1 + 1) 0 0) ∧ e 4 = .a (.p (.i .i64 (i : Nat))) ∧ σ'.bs (1, c) = some (.var [.p (.l (n.ns.map encN)), .p (.i .i64 n.cap)]) ∧ σ'.bs (2, c + 1) = some (.var [.nil, .p (.i .i64 0)]) ∧
    (∃ x, σ'.bs (3, c + 1 + 1) = some (.var [x, .p (.i .i64 n.cap)]) ∧ (i = 0 ∧ x = .nil ∨ ∃ q : Nat, x = .own (23, q) 0 i ∧ σ'.bs (23, q) = some (.row 6 41 ((n.ns.take i).map encN)) ∧ c + 2 < q ∧ q < σ'.clk)) ∧ c + 3 ≤ σ'.clk ∧ σ'.ls = σ.ls ∧ ∀ s : Key, s.2 < c → σ'.bs s = σ.bs s) (i0 := 0) (Nat.zero_le _) ?_ ?_ ?_
  · refine ⟨?_, ?_, ?_, ?_, ?_, ?_, ⟨.nil, ?_, .inl ⟨rfl, rfl⟩⟩, ?_, ?_, fun s hs => ?_⟩ <;> simp only [hc, fxa, fxc, fxE, fxL, fxI, nxE, evO, evR, cellsT, ldCells, mkT, lenA, binPV, Env.init, resV, resT, frT, klT, ownT, intT, O.adds, ownA, rowsA, over, wrOk, keysT, keysA, ne_eq, if_true, if_false, ite_self, Nat.reduceLT, Nat.reduceSub, Nat.reduceBEq, Nat.reduceEqDiff, Nat.reduceAdd, Nat.reduceLeDiff, reduceCtorEq, Nat.reduceMul]
    all_goals first | rfl | omega | skip
    simp only [hold hs, hold0 hs, Nat.add_assoc, if_false]
  · rintro i e σ' hi ⟨e1, e2, e3, e4, s1, s2, ⟨x, s3, hx⟩, hclk, hls, hs⟩
    obtain ⟨y, hy⟩ : ∃ y, n.ns[i]? = some y := ⟨_, List.getElem?_eq_getElem hi⟩
    have hy' := mapGet encN hy
    have hlt : ((i : Nat) : Int) < (n.ns.length : Int) := by omega
    have hge : (0 : Int) ≤ ((i : Nat) : Int) := by omega
    have htk : (n.ns.take (i + 1)).map encN = (n.ns.take i).map encN ++ [encN y] := by rw [List.take_add_one, hy]; simp
    have hb : (i + 1) * 88 ≤ 140737488355328 := by omega
    have hlen : (List.take i n.ns).length = i := by rw [List.length_take]; omega
    have hold' : ∀ {s : Key} {d : Nat}, s.2 < c → ¬ s = (d, σ'.clk) ∧ ¬ s = (d, σ'.clk + 1) := by rintro s d hs; exact ⟨by rintro rfl; simp at hs; omega, by rintro rfl; simp at hs; omega⟩
    have hne1 : ∀ d : Nat, ¬ c = σ'.clk ∧ ¬ c = σ'.clk + 1 ∧ ¬ c + 1 = σ'.clk ∧ ¬ c + 1 = σ'.clk + 1 ∧ ¬ c + 1 + 1 = σ'.clk ∧ ¬ c + 1 + 1 = σ'.clk + 1 := by intro d; omega
    rcases hx with ⟨rfl, rfl⟩ | ⟨q, rfl, hq, hq1, hq2⟩
    · simp only [F51b0, e1, e2, e3, e4, s1, s2, s3, hlt, hge, hy', Int.toNat_natCast, Nat.zero_add, Nat.one_mul, Nat.reduceLeDiff, fxa, fxc, fxE, fxL, fxI, nxE, evO, evR, cellsT, ldCells, mkT, lenA, binPV, Env.init, resV, resT, frT, klT, ownT, intT, O.adds, ownA, rowsA, over, wrOk, keysT, keysA, ne_eq, if_true, if_false, ite_self, Nat.reduceLT, Nat.reduceSub, Nat.reduceBEq, Nat.reduceEqDiff, Nat.reduceAdd, Nat.reduceLeDiff, reduceCtorEq, Nat.reduceMul]
      refine ⟨by rw [wrap_succ 0 (by omega)], ⟨.own (23, σ'.clk + 1) 0 1, rfl, .inr ⟨σ'.clk + 1, rfl, ?_, by omega, by omega⟩⟩, by omega, hls, fun s h => ?_⟩
      · rw [htk]; simp [encN]
      · have h3 : ¬ s = (3, c + 1 + 1) := by rintro rfl; simp at h; omega
        simp only [(hold' (d := 22) h).1, (hold' (d := 23) h).2, h3, if_false]; exact hs s h
    · have h1 : ¬ q = σ'.clk := by omega
      have h2 : ¬ q = σ'.clk + 1 := by omega
      have hle : i ≤ ((n.ns.take i).map encN).length := by simp; omega
      have htk2 : List.take i ((n.ns.take i).map encN) = (n.ns.take i).map encN := List.take_of_length_le (by simp; omega)
      simp only [F51b0, e1, e2, e3, e4, s1, s2, s3, hq, hlt, hge, hy', hb, hlen, h1, h2, htk2, List.length_map, Nat.le_refl, Int.toNat_natCast, Nat.zero_add, Nat.one_mul, Nat.reduceLeDiff, fxa, fxc, fxE, fxL, fxI, nxE, evO, evR, cellsT, ldCells, mkT, lenA, binPV, Env.init, resV, resT, frT, klT, ownT, intT, O.adds, ownA, rowsA, over, wrOk, keysT, keysA, ne_eq, if_true, if_false, ite_self, Nat.reduceLT, Nat.reduceSub, Nat.reduceBEq, Nat.reduceEqDiff, Nat.reduceAdd, Nat.reduceLeDiff, reduceCtorEq, Nat.reduceMul]
      refine ⟨by rw [wrap_succ i (by omega)], ⟨.own (23, σ'.clk + 1) 0 (i + 1), rfl, .inr ⟨σ'.clk + 1, rfl, ?_, by omega, by omega⟩⟩, by omega, hls, fun s h => ?_⟩
      · rw [htk]; simp [encN]
      · have h3 : ¬ s = (3, c + 1 + 1) := by rintro rfl; simp at h; omega
        have h4 : ¬ s = (23, q) := by rintro rfl; simp at h; omega
        simp only [(hold' (d := 22) h).1, (hold' (d := 23) h).2, h3, h4, if_false]; exact hs s h
  · rintro e σ' ⟨e1, e2, e3, e4, s1, s2, ⟨x, s3, hx⟩, hclk, hls, hs⟩
    have hlt : ¬ ((n.ns.length : Nat) : Int) < (n.ns.length : Int) := by omega
    rcases hx with ⟨h0, _⟩ | ⟨q, rfl, hq, hq1, hq2⟩
    · omega
    · rw [List.take_length] at hq
      simp only [F51b0, e1, e2, e3, e4, s1, s2, s3, hq, hlt, fxa, fxc, fxE, fxL, fxI, nxE, evO, evR, cellsT, ldCells, mkT, lenA, binPV, Env.init, resV, resT, frT, klT, ownT, intT, O.adds, ownA, rowsA, over, wrOk, keysT, keysA, ne_eq, if_true, if_false, ite_self, Nat.reduceLT, Nat.reduceSub, Nat.reduceBEq, Nat.reduceEqDiff, Nat.reduceAdd, Nat.reduceLeDiff, reduceCtorEq, Nat.reduceMul]
      refine ⟨(23, q), rfl, ?_, by simp; omega, by simpa using hq2, hls, fun s h => ?_⟩
      · rw [if_neg (by simp)]; exact hq
      · have h2 : ¬ s = (2, c + 1) := by rintro rfl; simp at h; omega
        simp only [h2, if_false]; exact hs s h

end Go.Proofs.Ytkpfjolcmkikeaa
