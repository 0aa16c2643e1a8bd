/- What the root comes to: the program's function and the document's. -/
import Derived.Test.YtkpfjolcmkikeaaStore5
import Derived.Test.YtkpfjolcmkikeaaEnc
import Derived.Test.YtkpfjolcmkikeaaFb
set_option linter.unusedSimpArgs false
set_option linter.unusedVariables false
set_option maxHeartbeats 4000000
set_option maxRecDepth 10000
namespace Go.Proofs.Ytkpfjolcmkikeaa
open Go.Fx


/-- a node has a link to another one -/
def Nt.step (n : Nt) (i j : Nat) : Prop := ∃ x q, n.ns[i]? = some x ∧ q ∈ x.to ∧ q.n = (j : Int)
/-- the root comes to a node -/
inductive Rch (n : Nt) : Nat → Prop
  | root : Rch n 0
  | step {i j : Nat} : Rch n i → n.step i j → Rch n j

def cntF (l : List Bool) : Nat := l.countP fun b => !b
theorem cntF_set : ∀ {l : List Bool} {i : Nat}, l[i]? = some false → cntF (l.set i true) + 1 = cntF l
  | [], i, h => by simp at h
  | b :: l, 0, h => by
    simp only [List.getElem?_cons_zero, Option.some.injEq] at h; subst h
    simp [cntF, List.countP_cons]
  | b :: l, i + 1, h => by
    simp only [List.getElem?_cons_succ] at h
    have := cntF_set h
    simp only [cntF, List.set_cons_succ, List.countP_cons] at this ⊢
    omega
theorem cntF_le (l : List Bool) : cntF l ≤ l.length := List.countP_le_length

/-- the marker's memory -/
def MS (rows : List (List PV)) (km ks : Key) (W : List Int) (seen : List Bool) (σ : St) : Prop :=
  km.2 < σ.clk ∧ ks.2 < σ.clk ∧ km ≠ ks ∧ σ.bs ks = some (.row 1 4 (seen.map encB)) ∧
  ∃ wv, σ.bs km = some (.var [.p (.l rows), .own ks 0 seen.length, wv]) ∧
    (wv = .nil ∧ W = [] ∨ ∃ (kw : Key) (full : List Int), wv = .own kw 0 W.length ∧ σ.bs kw = some (.row 1 3 (full.map encI)) ∧ full.take W.length = W ∧ W.length ≤ full.length ∧ kw ≠ km ∧ kw ≠ ks ∧ kw.2 < σ.clk)
theorem MS_add {rows : List (List PV)} {km ks : Key} {W : List Int} {seen : List Bool} {σ : St} (h : MS rows km ks W seen σ) (d : Nat) (b : Blk) : MS rows km ks W seen (σ.add d b) := by
  obtain ⟨h1, h2, h3, h4, wv, h5, h6⟩ := h
  have ne : ∀ s : Key, s.2 < σ.clk → ¬ s = (d, σ.clk) := by rintro s hs rfl; exact Nat.lt_irrefl _ hs
  refine ⟨by simp only [add_clk]; omega, by simp only [add_clk]; omega, h3, by simp only [add_bs, ne ks h2, if_false]; exact h4, wv, by simp only [add_bs, ne km h1, if_false]; exact h5, ?_⟩
  rcases h6 with h6 | ⟨kw, full, e1, e2, e3, e4, e5, e6, e7⟩
  · exact .inl h6
  · exact .inr ⟨kw, full, e1, by simp only [add_bs, ne kw e7, if_false]; exact e2, e3, e4, e5, e6, by simp only [add_clk]; omega⟩
theorem MS_put {rows : List (List PV)} {km ks : Key} {W : List Int} {seen : List Bool} {σ : St} (h : MS rows km ks W seen σ) (d : Nat) (k : Nat) (b b' : Blk) (hk : k = σ.clk) : MS rows km ks W seen ((σ.add d b).put (d, k) b') := by
  subst hk
  obtain ⟨h1, h2, h3, h4, wv, h5, h6⟩ := h
  have ne : ∀ s : Key, s.2 < σ.clk → ¬ s = (d, σ.clk) := by rintro s hs rfl; exact Nat.lt_irrefl _ hs
  refine ⟨by simp only [put_clk, add_clk]; omega, by simp only [put_clk, add_clk]; omega, h3, by simp only [put_bs, add_bs, ne ks h2, if_false]; exact h4, wv, by simp only [put_bs, add_bs, ne km h1, if_false]; exact h5, ?_⟩
  rcases h6 with h6 | ⟨kw, full, e1, e2, e3, e4, e5, e6, e7⟩
  · exact .inl h6
  · exact .inr ⟨kw, full, e1, by simp only [put_bs, add_bs, ne kw e7, if_false]; exact e2, e3, e4, e5, e6, by simp only [put_clk, add_clk]; omega⟩

theorem mark_ok {rows : List (List PV)} {km ks : Key} {W : List Int} {seen : List Bool} {σ : St} {i : Nat} {b : Bool} (h : MS rows km ks W seen σ) (hi : seen[i]? = some b) (hb : W.length * 8 + 8 ≤ 140737488355328) :
    ∃ v σ', eS S (.f 115) [.a (.ptr km 0 0), .a (.p (.i .i64 (i : Nat)))] σ = some (v, σ') ∧ v = .u ∧ MS rows km ks (if b then W else W ++ [(i : Int)]) (if b then seen else seen.set i true) σ' := by
  have h0 := h
  obtain ⟨h1, h2, h3, h4, wv, h5, h6⟩ := h
  have hil := (List.getElem?_eq_some_iff.1 hi).1
  have hi' := mapGet encB hi
  have hlt : ((i : Nat) : Int) < (seen.length : Int) := by omega
  have hge : (0 : Int) ≤ ((i : Nat) : Int) := by omega
  have ne1 : ∀ s : Key, s.2 < σ.clk → ∀ d j, ¬ s = (d, σ.clk + j) := by rintro s hs d j rfl; simp at hs; omega
  have ne0 : ∀ s : Key, s.2 < σ.clk → ∀ d, ¬ s = (d, σ.clk) := by rintro s hs d rfl; simp at hs
  have h3' : ¬ ks = km := fun e => h3 e.symm
  refine x_fnS (fc := F115) rfl rfl ?_
  cases b with
  | true =>
    simp only [encB] at hi'
    simp only [F115, h5, h4, hlt, hge, hi', rowK, encB, fxa, fxc, fxE, fxL, fxI, nxE, evO, evR, cellsT, ldCells, mkT, lenA, binPV, Env.init, resV, resT, frT, klT, ownT, intT, O.adds, ownA, rowsA, over, wrOk, keysT, keysA, ne_eq, if_true, if_false, ite_self, Nat.reduceLT, Nat.reduceSub, Nat.reduceBEq, Nat.reduceEqDiff, Nat.reduceAdd, Nat.reduceLeDiff, reduceCtorEq, Nat.reduceMul]
    exact h0
  | false =>
    simp only [encB] at hi'
    have hset : (seen.map encB).set i [.b true] = (seen.set i true).map encB := by rw [List.map_set]; rfl
    have hl : (seen.set i true).length = seen.length := by simp
    rcases h6 with ⟨rfl, rfl⟩ | ⟨kw, full, rfl, e2, e3, e4, e5, e6, e7⟩
    · simp only [F115, h5, h4, hlt, hge, hi', hset, h3, h3', ne0 km h1, ne0 ks h2, ne1 km h1, ne1 ks h2, rowK, encB, Nat.zero_add, Nat.one_mul, Nat.reduceLeDiff, Nat.zero_lt_one, Bool.false_eq_true, Int.toNat_natCast, fxa, fxc, fxE, fxL, fxI, nxE, evO, evR, cellsT, ldCells, mkT, lenA, binPV, Env.init, resV, resT, frT, klT, ownT, intT, O.adds, ownA, rowsA, over, wrOk, keysT, keysA, ne_eq, if_true, if_false, ite_self, Nat.reduceLT, Nat.reduceSub, Nat.reduceBEq, Nat.reduceEqDiff, Nat.reduceAdd, Nat.reduceLeDiff, reduceCtorEq, Nat.reduceMul]
      refine ⟨by simp only [put_clk, add_clk]; omega, by simp only [put_clk, add_clk]; omega, h3, by simp only [put_bs, add_bs, kill_bs, add_clk, put_clk, h3', ne0 ks h2, ne1 ks h2, kill_clk, if_false, if_true], .own (24, σ.clk + 1) 0 1, by simp only [put_bs, if_true, hl], .inr ⟨(24, σ.clk + 1), [(i : Int)], rfl, ?_, rfl, by simp, ?_, ?_, by simp only [put_clk, add_clk]; omega⟩⟩
      · simp only [put_bs, add_bs, add_clk, put_clk, if_true, encI, List.map_cons, List.map_nil]
        rw [if_neg (fun e => ne1 km h1 24 1 e.symm)]
      · exact fun e => ne1 km h1 24 1 e.symm
      · exact fun e => ne1 ks h2 24 1 e.symm
    · have htk : List.take W.length (full.map encI) = W.map encI := by rw [← List.map_take, e3]
      have hb2 : (W.length + 1) * 8 ≤ 140737488355328 := by omega
      have e6' : ¬ ks = kw := fun e => e6 e.symm
      have e5' : ¬ km = kw := fun e => e5 e.symm
      simp only [F115, h5, h4, e2, e4, htk, hb2, hlt, hge, hi', hset, h3, h3', e5, e6, e5', e6', ne0 km h1, ne0 ks h2, ne0 kw e7, ne1 km h1, ne1 ks h2, ne1 kw e7, rowK, encB, List.length_map, Nat.zero_add, Nat.one_mul, Nat.reduceLeDiff, Nat.zero_lt_one, Bool.false_eq_true, Int.toNat_natCast, fxa, fxc, fxE, fxL, fxI, nxE, evO, evR, cellsT, ldCells, mkT, lenA, binPV, Env.init, resV, resT, frT, klT, ownT, intT, O.adds, ownA, rowsA, over, wrOk, keysT, keysA, ne_eq, if_true, if_false, ite_self, Nat.reduceLT, Nat.reduceSub, Nat.reduceBEq, Nat.reduceEqDiff, Nat.reduceAdd, Nat.reduceLeDiff, reduceCtorEq, Nat.reduceMul]
      refine ⟨by simp only [put_clk, add_clk, kill_clk]; omega, by simp only [put_clk, add_clk, kill_clk]; omega, h3, by simp only [put_bs, add_bs, kill_bs, add_clk, put_clk, kill_clk, h3', e6', ne0 ks h2, ne1 ks h2, if_false, if_true], .own (24, σ.clk + 1) 0 (W.length + 1), by simp only [put_bs, if_true, hl], .inr ⟨(24, σ.clk + 1), W ++ [(i : Int)], by simp, ?_, List.take_of_length_le (by simp), by simp, ?_, ?_, by simp only [put_clk, add_clk, kill_clk]; omega⟩⟩
      · simp only [put_bs, add_bs, add_clk, put_clk, kill_clk, kill_bs, if_true, encI, List.map_cons, List.map_nil, List.map_append]
        rw [if_neg (fun e => ne1 km h1 24 1 e.symm)]
      · exact fun e => ne1 km h1 24 1 e.symm
      · exact fun e => ne1 ks h2 24 1 e.symm
end Go.Proofs.Ytkpfjolcmkikeaa
