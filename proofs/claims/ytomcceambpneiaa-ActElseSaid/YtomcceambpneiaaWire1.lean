/- Ports that there are, and links: what the program's functions tell. -/
import Derived.Test.YtomcceambpneiaaNetS
set_option linter.unusedSimpArgs false
set_option linter.unusedVariables false
set_option maxHeartbeats 4000000
set_option maxRecDepth 10000
namespace Go.Proofs.Ytomcceambpneiaa
open Go.Fx

theorem Has_ok (n : Nt) (p : Pt) : eP S 45 [.g (encT n), .g (encP p)] = some (.a (.b (n.has p))) := by
  refine x_fn (orcS (by decide)) (fc := F45) rfl rfl ?_
  by_cases h1 : p.n ≥ 0
  · by_cases h2 : p.n < n.ns.length
    · have g := getN (l := n.ns) h1 h2
      have h1' : 0 ≤ p.n := h1
      by_cases h3 : p.s ≥ 0
      · simp only [F45, Nt.has, Nt.nd, h1, h1', h2, h3, g, fxa, fxc, fxE, fxL, fxI, nxE, evO, evR, cellsT, ldCells, mkT, lenA, binPV, Env.init, resV, resT, frT, klT, ownT, intT, O.adds, ownA, rowsA, over, wrOk, keysT, keysA, ne_eq, if_true, if_false, ite_self, Nat.reduceLT, Nat.reduceSub, Nat.reduceBEq, Nat.reduceEqDiff, Nat.reduceAdd, Nat.reduceLeDiff, reduceCtorEq, Nat.reduceMul]
        rfl
      · simp only [F45, Nt.has, Nt.nd, h1, h1', h2, h3, g, fxa, fxc, fxE, fxL, fxI, nxE, evO, evR, cellsT, ldCells, mkT, lenA, binPV, Env.init, resV, resT, frT, klT, ownT, intT, O.adds, ownA, rowsA, over, wrOk, keysT, keysA, ne_eq, if_true, if_false, ite_self, Nat.reduceLT, Nat.reduceSub, Nat.reduceBEq, Nat.reduceEqDiff, Nat.reduceAdd, Nat.reduceLeDiff, reduceCtorEq, Nat.reduceMul]
    · simp only [F45, Nt.has, h1, h2, fxa, fxc, fxE, fxL, fxI, nxE, evO, evR, cellsT, ldCells, mkT, lenA, binPV, Env.init, resV, resT, frT, klT, ownT, intT, O.adds, ownA, rowsA, over, wrOk, keysT, keysA, ne_eq, if_true, if_false, ite_self, Nat.reduceLT, Nat.reduceSub, Nat.reduceBEq, Nat.reduceEqDiff, Nat.reduceAdd, Nat.reduceLeDiff, reduceCtorEq, Nat.reduceMul]
  · simp only [F45, Nt.has, h1, fxa, fxc, fxE, fxL, fxI, nxE, evO, evR, cellsT, ldCells, mkT, lenA, binPV, Env.init, resV, resT, frT, klT, ownT, intT, O.adds, ownA, rowsA, over, wrOk, keysT, keysA, ne_eq, if_true, if_false, ite_self, Nat.reduceLT, Nat.reduceSub, Nat.reduceBEq, Nat.reduceEqDiff, Nat.reduceAdd, Nat.reduceLeDiff, reduceCtorEq, Nat.reduceMul]

/-- the port is not there -/
theorem there1_ok (n : Nt) (p : Pt) (k : Key) (σ : St) (hk : σ.bs k = some (.var ((encT n).map .p))) (hlt : k.2 < σ.clk) :
    eS S (.f 106) [.g ((encP p).map .p), .a (.ptr k 0 0)] σ = some (.a (.p (.b (!n.has p))), σ.add 2 (.var ((encP p).map .p))) := by
  have hne : ¬ k = (2, σ.clk) := by rintro rfl; exact Nat.lt_irrefl _ hlt
  simp only [encT, List.map_cons, List.map_nil] at hk
  refine x_fnX (fc := F106) rfl rfl ?_
  by_cases h1 : p.n < 0
  · have h1' : ¬ p.n ≥ 0 := by omega
    simp only [F106, Nt.has, h1, h1', hk, hne, fxa, fxc, fxE, fxL, fxI, nxE, evO, evR, cellsT, ldCells, mkT, lenA, binPV, Env.init, resV, resT, frT, klT, ownT, intT, O.adds, ownA, rowsA, over, wrOk, keysT, keysA, ne_eq, if_true, if_false, ite_self, Nat.reduceLT, Nat.reduceSub, Nat.reduceBEq, Nat.reduceEqDiff, Nat.reduceAdd, Nat.reduceLeDiff, reduceCtorEq, Nat.reduceMul]
  · have h1' : p.n ≥ 0 := by omega
    have h1'' : 0 ≤ p.n := by omega
    by_cases h2 : p.n ≥ n.ns.length
    · have h2' : ¬ p.n < n.ns.length := by omega
      simp only [F106, Nt.has, h1, h1', h2, h2', hk, hne, fxa, fxc, fxE, fxL, fxI, nxE, evO, evR, cellsT, ldCells, mkT, lenA, binPV, Env.init, resV, resT, frT, klT, ownT, intT, O.adds, ownA, rowsA, over, wrOk, keysT, keysA, ne_eq, if_true, if_false, ite_self, Nat.reduceLT, Nat.reduceSub, Nat.reduceBEq, Nat.reduceEqDiff, Nat.reduceAdd, Nat.reduceLeDiff, reduceCtorEq, Nat.reduceMul]
    · have h2' : p.n < n.ns.length := by omega
      have g := getN (l := n.ns) h1'' h2'
      by_cases h3 : p.s < 0
      · have h3' : ¬ p.s ≥ 0 := by omega
        simp only [F106, Nt.has, h1, h1', h1'', h2, h2', h3, h3', g, hk, hne, fxa, fxc, fxE, fxL, fxI, nxE, evO, evR, cellsT, ldCells, mkT, lenA, binPV, Env.init, resV, resT, frT, klT, ownT, intT, O.adds, ownA, rowsA, over, wrOk, keysT, keysA, ne_eq, if_true, if_false, ite_self, Nat.reduceLT, Nat.reduceSub, Nat.reduceBEq, Nat.reduceEqDiff, Nat.reduceAdd, Nat.reduceLeDiff, reduceCtorEq, Nat.reduceMul]
      · have h3' : p.s ≥ 0 := by omega
        by_cases h4 : p.s ≥ (n.nd p.n).to.length
        · have h4' : ¬ p.s < (n.nd p.n).to.length := by omega
          simp only [Nt.nd] at h4 h4'
          simp only [F106, Nt.has, Nt.nd, h1, h1', h1'', h2, h2', h3, h3', h4, h4', g, hk, hne, fxa, fxc, fxE, fxL, fxI, nxE, evO, evR, cellsT, ldCells, mkT, lenA, binPV, Env.init, resV, resT, frT, klT, ownT, intT, O.adds, ownA, rowsA, over, wrOk, keysT, keysA, ne_eq, if_true, if_false, ite_self, Nat.reduceLT, Nat.reduceSub, Nat.reduceBEq, Nat.reduceEqDiff, Nat.reduceAdd, Nat.reduceLeDiff, reduceCtorEq, Nat.reduceMul]
        · have h4' : p.s < (n.nd p.n).to.length := by omega
          simp only [Nt.nd] at h4 h4'
          simp only [F106, Nt.has, Nt.nd, h1, h1', h1'', h2, h2', h3, h3', h4, h4', g, hk, hne, fxa, fxc, fxE, fxL, fxI, nxE, evO, evR, cellsT, ldCells, mkT, lenA, binPV, Env.init, resV, resT, frT, klT, ownT, intT, O.adds, ownA, rowsA, over, wrOk, keysT, keysA, ne_eq, if_true, if_false, ite_self, Nat.reduceLT, Nat.reduceSub, Nat.reduceBEq, Nat.reduceEqDiff, Nat.reduceAdd, Nat.reduceLeDiff, reduceCtorEq, Nat.reduceMul]

/-- where the first one is of which something holds; -1: nowhere -/
def idx {α : Type} (f : α → Bool) (l : List α) : Int := match l.findIdx? f with | some i => (i : Int) | none => -1

/-- slices.IndexFunc over ports -/
theorem indexP_ok (l : List Pt) (hl : l.length * 16 ≤ 140737488355328) (g : FuncId) (caps : List Key) (hc : caps ≠ []) (hsp : spN g = false) (f : Pt → Bool) (R : St → Prop)
    (hR : ∀ p σ, R σ → ∃ σ', eS S (.f g) ([.g ((encP p).map .p)] ++ caps.map fun s => .a (.ptr s 0 0)) σ = some (.a (.p (.b (f p))), σ') ∧ R σ') (σ : St) (h0 : R σ) :
    ∃ σ', eS S (.f 113) [.a (.p (.l (l.map encP))), .a (.fn g caps)] σ = some (.a (.p (.i .i64 (idx f l))), σ') ∧ R σ' := by
  obtain ⟨c1, cr, rfl⟩ : ∃ c1 cr, caps = c1 :: cr := by
    cases caps with
    | nil => exact absurd rfl hc
    | cons c1 cr => exact ⟨c1, cr, rfl⟩
  refine x_fnR (fc := F113) rfl rfl ?_
  simp only [F113, fxa, fxc, fxE, fxL, fxI, nxE, evO, evR, cellsT, ldCells, mkT, lenA, binPV, Env.init, resV, resT, frT, klT, ownT, intT, O.adds, ownA, rowsA, over, wrOk, keysT, keysA, ne_eq, if_true, if_false, ite_self, Nat.reduceLT, Nat.reduceSub, Nat.reduceBEq, Nat.reduceEqDiff, Nat.reduceAdd, Nat.reduceLeDiff, reduceCtorEq, Nat.reduceMul]
  refine loop_nat l.length (fun i e σ => e 0 = .a (.p (.l (l.map encP))) ∧ e 1 = .a (.fn g (c1 :: cr)) ∧ e 7 = .a (.p (.i .i64 l.length)) ∧ e 8 = .a (.p (.i .i64 (i : Nat))) ∧ R σ ∧ ∀ j x, j < i → l[j]? = some x → f x = false) (i0 := 0) (Nat.zero_le _) ?_ ?_ ?_
  · refine ⟨?_, ?_, ?_, ?_, h0, fun j x hj => by omega⟩ <;> simp only [fxa, fxc, fxE, fxL, fxI, nxE, evO, evR, cellsT, ldCells, mkT, lenA, binPV, Env.init, resV, resT, frT, klT, ownT, intT, O.adds, ownA, rowsA, over, wrOk, keysT, keysA, ne_eq, if_true, if_false, ite_self, Nat.reduceLT, Nat.reduceSub, Nat.reduceBEq, Nat.reduceEqDiff, Nat.reduceAdd, Nat.reduceLeDiff, reduceCtorEq, Nat.reduceMul]
    rfl
  · rintro i e σ hi ⟨e0, e1, e7, e8, hRσ, hall⟩
    have hlt : ((i : Nat) : Int) < (l.length : Int) := by omega
    have hge : (0 : Int) ≤ ((i : Nat) : Int) := by omega
    obtain ⟨x, hx⟩ : ∃ x, l[i]? = some x := ⟨_, List.getElem?_eq_getElem hi⟩
    have hx' : (l.map encP)[i]? = some (encP x) := by simp only [List.getElem?_map, hx, Option.map_some]
    obtain ⟨σ2, hcall, hR2⟩ := hR x σ hRσ
    simp only [encP, List.map_cons, List.map_nil, List.cons_append, List.nil_append] at hcall
    simp only [F113b0, e0, e1, e7, e8, hlt, hge, hx', hsp, hcall, Bool.false_eq_true, fxa, fxc, fxE, fxL, fxI, nxE, evO, evR, cellsT, ldCells, mkT, lenA, binPV, Env.init, resV, resT, frT, klT, ownT, intT, O.adds, ownA, rowsA, over, wrOk, keysT, keysA, ne_eq, if_true, if_false, ite_self, Nat.reduceLT, Nat.reduceSub, Nat.reduceBEq, Nat.reduceEqDiff, Nat.reduceAdd, Nat.reduceLeDiff, reduceCtorEq, Nat.reduceMul]
    refine wpC_split (fun hf => ?_) (fun hf => ?_)
    · simp only [fxa, fxc, fxE, fxL, fxI, nxE, evO, evR, cellsT, ldCells, mkT, lenA, binPV, Env.init, resV, resT, frT, klT, ownT, intT, O.adds, ownA, rowsA, over, wrOk, keysT, keysA, ne_eq, if_true, if_false, ite_self, Nat.reduceLT, Nat.reduceSub, Nat.reduceBEq, Nat.reduceEqDiff, Nat.reduceAdd, Nat.reduceLeDiff, reduceCtorEq, Nat.reduceMul]
      refine ⟨?_, hR2⟩
      have : l.findIdx? f = some i := by
        rw [List.findIdx?_eq_some_iff_getElem]
        refine ⟨hi, ?_, fun j hj => ?_⟩
        · rw [List.getElem?_eq_getElem hi] at hx; rw [Option.some.inj hx]; exact hf
        · rw [hall j _ hj (List.getElem?_eq_getElem (by omega))]; simp
      simp only [idx, this]
    · simp only [e0, e1, e7, e8, fxa, fxc, fxE, fxL, fxI, nxE, evO, evR, cellsT, ldCells, mkT, lenA, binPV, Env.init, resV, resT, frT, klT, ownT, intT, O.adds, ownA, rowsA, over, wrOk, keysT, keysA, ne_eq, if_true, if_false, ite_self, Nat.reduceLT, Nat.reduceSub, Nat.reduceBEq, Nat.reduceEqDiff, Nat.reduceAdd, Nat.reduceLeDiff, reduceCtorEq, Nat.reduceMul]
      refine ⟨by rw [wrap_succ i (by omega)], hR2, fun j y hj hy => ?_⟩
      by_cases e : j = i
      · subst e; rw [hx] at hy; rw [← Option.some.inj hy]; exact hf
      · exact hall j y (by omega) hy
  · rintro e σ ⟨e0, e1, e7, e8, hRσ, hall⟩
    have hlt : ¬ ((l.length : Nat) : Int) < (l.length : Int) := by omega
    simp only [F113b0, e0, e1, e7, e8, hlt, fxa, fxc, fxE, fxL, fxI, nxE, evO, evR, cellsT, ldCells, mkT, lenA, binPV, Env.init, resV, resT, frT, klT, ownT, intT, O.adds, ownA, rowsA, over, wrOk, keysT, keysA, ne_eq, if_true, if_false, ite_self, Nat.reduceLT, Nat.reduceSub, Nat.reduceBEq, Nat.reduceEqDiff, Nat.reduceAdd, Nat.reduceLeDiff, reduceCtorEq, Nat.reduceMul]
    refine ⟨?_, hRσ⟩
    have : l.findIdx? f = none := by
      rw [List.findIdx?_eq_none_iff]
      intro x hx
      obtain ⟨j, hj⟩ := List.getElem?_of_mem hx
      exact hall j x (List.getElem?_eq_some_iff.1 hj).1 hj
    simp only [idx, this]

theorem idx_any {α : Type} (f : α → Bool) (l : List α) : decide (idx f l ≥ 0) = l.any f := by
  unfold idx
  cases h : l.findIdx? f with
  | none =>
    rw [List.findIdx?_eq_none_iff] at h
    have : l.any f = false := by rw [List.any_eq_false]; intro x hx; simp [h x hx]
    rw [this]; rfl
  | some i =>
    rw [List.findIdx?_eq_some_iff_getElem] at h
    obtain ⟨hi, hf, _⟩ := h
    have : l.any f = true := by rw [List.any_eq_true]; exact ⟨_, List.getElem_mem hi, hf⟩
    rw [this]; simp

theorem there_ok (n : Nt) (l : List Pt) (hl : l.length * 16 ≤ 140737488355328) : eP S 88 [.g (encT n), .a (.l (l.map encP))] = some (.a (.b (l.all n.has))) := by
  refine x_fn (orcS (by decide)) (fc := F88) rfl rfl ?_
  have key : ∀ σ : St, σ.bs (2, 0) = some (.var ((encT n).map .p)) → 1 ≤ σ.clk → ∃ σ', eS S (.f 105) [.a (.p (.l (l.map encP))), .a (.fn 106 [(2, 0)])] σ = some (.a (.p (.b (l.any fun p => !n.has p))), σ') := by
    intro σ h2 hc
    obtain ⟨σ', h, _⟩ := indexP_ok l hl 106 [(2, 0)] (by simp) (by decide) (fun p => !n.has p) (fun σ => σ.bs (2, 0) = some (.var ((encT n).map .p)) ∧ 1 ≤ σ.clk) (fun p σ hσ => ⟨_, there1_ok n p (2, 0) σ hσ.1 (by have := hσ.2; simp; omega), by
      refine ⟨?_, ?_⟩
      · simp only [add_bs]; rw [if_neg (by rintro h; have := hσ.2; simp at h; omega)]; exact hσ.1
      · simp only [add_clk]; omega⟩) σ ⟨h2, hc⟩
    obtain ⟨v, σ2, h2, rfl, _⟩ := x_fnS (S := S) (g := 105) (fc := F105) rfl (args := [.a (.p (.l (l.map encP))), .a (.fn 106 [(2, 0)])]) rfl (σ := σ) (K := fun v σ2 => v = .a (.p (.b (l.any fun p => !n.has p))) ∧ True) (by
      simp only [F105, h, idx_any, fxa, fxc, fxE, fxL, fxI, nxE, evO, evR, cellsT, ldCells, mkT, lenA, binPV, Env.init, resV, resT, frT, klT, ownT, intT, O.adds, ownA, rowsA, over, wrOk, keysT, keysA, ne_eq, if_true, if_false, ite_self, Nat.reduceLT, Nat.reduceSub, Nat.reduceBEq, Nat.reduceEqDiff, Nat.reduceAdd, Nat.reduceLeDiff, reduceCtorEq, Nat.reduceMul])
    exact ⟨σ2, h2⟩
  obtain ⟨σ', hcall⟩ := key (((St.empty.add 2 (.var ((encT n).map .p))))) (by simp [add_bs, empty_clk]) (by simp [add_clk, empty_clk])
  have hall : (!l.any fun p => !n.has p) = l.all n.has := by simp [List.all_eq_not_any_not]
  simp only [encT, List.map_cons, List.map_nil] at hcall
  simp only [F88, capsOf, hcall, hall, fxa, fxc, fxE, fxL, fxI, nxE, evO, evR, cellsT, ldCells, mkT, lenA, binPV, Env.init, resV, resT, frT, klT, ownT, intT, O.adds, ownA, rowsA, over, wrOk, keysT, keysA, ne_eq, if_true, if_false, ite_self, Nat.reduceLT, Nat.reduceSub, Nat.reduceBEq, Nat.reduceEqDiff, Nat.reduceAdd, Nat.reduceLeDiff, reduceCtorEq, Nat.reduceMul]

theorem peer_ok {n : Nt} {p : Pt} (h : n.has p = true) : eP S 89 [.g (encT n), .g (encP p)] = some (.g (encP (n.lk p))) := by
  simp only [Nt.has, Bool.and_eq_true, decide_eq_true_eq] at h
  obtain ⟨⟨⟨h1, h2⟩, h3⟩, h4⟩ := h
  have g := getN (l := n.ns) h1 h2
  have g2 := getP (l := (n.nd p.n).to) h3 h4
  have h1' : 0 ≤ p.n := h1
  have h3' : 0 ≤ p.s := h3
  simp only [Nt.nd] at h4 g2
  refine x_fn (orcS (by decide)) (fc := F89) rfl rfl ?_
  simp only [F89, Nt.lk, Nt.nd, Nd.tt, h1', h2, h3', h4, g, g2, fxa, fxc, fxE, fxL, fxI, nxE, evO, evR, cellsT, ldCells, mkT, lenA, binPV, Env.init, resV, resT, frT, klT, ownT, intT, O.adds, ownA, rowsA, over, wrOk, keysT, keysA, ne_eq, if_true, if_false, ite_self, Nat.reduceLT, Nat.reduceSub, Nat.reduceBEq, Nat.reduceEqDiff, Nat.reduceAdd, Nat.reduceLeDiff, reduceCtorEq, Nat.reduceMul]

/-! ### a port is linked to another one -/
def Nt.set (n : Nt) (p q : Pt) : Nt := { n with ns := n.ns.set p.n.toNat { n.nd p.n with to := (n.nd p.n).to.set p.s.toNat q } }

theorem cloneP_ok (rows : List (List PV)) (hne : rows ≠ []) (hl : rows.length * 16 ≤ 140737488355328) (h2 : (rows.all fun r => decide (r.length = 2)) = true) (σ : St) :
    eS S (.f 120) [.a (.p (.l rows))] σ = some (.a (.own (7, σ.clk + 1) 0 rows.length), ((σ.add 5 (.row 2 58 [])).kill (5, σ.clk)).add 7 (.row 2 58 rows)) := by
  cases rows with
  | nil => exact absurd rfl hne
  | cons r rows =>
    refine x_fnX (fc := F120) rfl rfl ?_
    have hl' : (rows.length + 1) * 16 ≤ 140737488355328 := hl
    simp only [List.all_cons] at h2
    simp only [F120, nilA, hl', h2, fxa, fxc, fxE, fxL, fxI, nxE, evO, evR, cellsT, ldCells, mkT, lenA, binPV, Env.init, resV, resT, frT, klT, ownT, intT, O.adds, ownA, rowsA, over, wrOk, keysT, keysA, ne_eq, if_true, if_false, ite_self, Nat.reduceLT, Nat.reduceSub, Nat.reduceBEq, Nat.reduceEqDiff, Nat.reduceAdd, Nat.reduceLeDiff, reduceCtorEq, Nat.reduceMul]
theorem cloneN_ok (rows : List (List PV)) (hne : rows ≠ []) (hl : rows.length * 88 ≤ 140737488355328) (h2 : (rows.all fun r => decide (r.length = 6)) = true) (σ : St) :
    eS S (.f 121) [.a (.p (.l rows))] σ = some (.a (.own (7, σ.clk + 1) 0 rows.length), ((σ.add 5 (.row 6 25 [])).kill (5, σ.clk)).add 7 (.row 6 25 rows)) := by
  cases rows with
  | nil => exact absurd rfl hne
  | cons r rows =>
    refine x_fnX (fc := F121) rfl rfl ?_
    have hl' : (rows.length + 1) * 88 ≤ 140737488355328 := hl
    simp only [List.all_cons] at h2
    simp only [F121, nilA, hl', h2, fxa, fxc, fxE, fxL, fxI, nxE, evO, evR, cellsT, ldCells, mkT, lenA, binPV, Env.init, resV, resT, frT, klT, ownT, intT, O.adds, ownA, rowsA, over, wrOk, keysT, keysA, ne_eq, if_true, if_false, ite_self, Nat.reduceLT, Nat.reduceSub, Nat.reduceBEq, Nat.reduceEqDiff, Nat.reduceAdd, Nat.reduceLeDiff, reduceCtorEq, Nat.reduceMul]

theorem take_map {α : Type} (l : List α) (f : α → List PV) : List.take l.length (l.map f) = l.map f := List.take_of_length_le (by simp)
theorem take_mapset {α : Type} (l : List α) (f : α → List PV) (j : Nat) (z : List PV) : List.take l.length ((l.map f).set j z) = (l.map f).set j z := List.take_of_length_le (by simp)

theorem with_ok {n : Nt} {p : Pt} (q : Pt) (hn : n.Ok) (h : n.has p = true) : eP S 114 [.g (encT n), .g (encP p), .g (encP q)] = some (.g (encT (n.set p q))) := by
  simp only [Nt.has, Bool.and_eq_true, decide_eq_true_eq] at h
  obtain ⟨⟨⟨h1, h2⟩, h3⟩, h4⟩ := h
  have g := getN (l := n.ns) h1 h2
  have h1' : 0 ≤ p.n := h1
  have h3' : 0 ≤ p.s := h3
  have hx : (n.nd p.n).Ok := hn.nd _ (by unfold Nt.nd; rw [List.getD_eq_getElem?_getD, List.getElem?_eq_getElem (by omega)]; exact List.getElem_mem _)
  have hto := hx.to
  have hns := hn.ns
  have g2 := getP (l := (n.nd p.n).to) h3 h4
  have c1 := cloneP_ok ((n.nd p.n).to.map encP) (by intro h; simp at h; rw [h] at h4; simp at h4; omega) (by simpa using hto) (allP _)
  have c2 := cloneN_ok (n.ns.map encN) (by intro h; simp at h; rw [h] at h2; simp at h2; omega) (by simpa using hns) (allN _)
  obtain ⟨x, hxe⟩ : ∃ x, n.ns.getD p.n.toNat zN = x := ⟨_, rfl⟩
  simp only [Nt.nd, hxe, List.length_map] at h4 g g2 c1 c2
  refine x_fn (orcS (by decide)) (fc := F114) rfl rfl ?_
  simp only [F114, h1', h2, h3', h4, g, g2, c1, c2, rowK, take_mapset, List.length_set, ne_eq, not_false_eq_true, fxa, fxc, fxE, fxL, fxI, nxE, evO, evR, cellsT, ldCells, mkT, lenA, binPV, Env.init, resV, resT, frT, klT, ownT, intT, O.adds, ownA, rowsA, over, wrOk, keysT, keysA, ne_eq, if_true, if_false, ite_self, Nat.reduceLT, Nat.reduceSub, Nat.reduceBEq, Nat.reduceEqDiff, Nat.reduceAdd, Nat.reduceLeDiff, reduceCtorEq, Nat.reduceMul]
  simp only [Nt.set, Nt.nd, hxe, List.map_set, encN, encP]

end Go.Proofs.Ytomcceambpneiaa
