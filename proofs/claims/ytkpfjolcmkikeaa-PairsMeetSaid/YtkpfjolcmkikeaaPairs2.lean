/- All pairs, those of which something comes, and one that is picked: the program's functions. -/
import Derived.Test.YtkpfjolcmkikeaaPairs1
set_option linter.unusedSimpArgs false
set_option linter.unusedVariables false
set_option maxHeartbeats 4000000
set_option maxRecDepth 10000
namespace Go.Proofs.Ytkpfjolcmkikeaa
open Go.Fx

theorem prsTo_len (n : Nt) (k : Nat) : (prsTo n k).length ≤ k := by
  unfold prsTo
  have := List.length_filterMap_le n.pr (List.range k)
  simpa using this

theorem All_ok {n : Nt} (hn : n.Ok) : eP S 43 [.g (encT n)] = some (.a (.l ((if bool n.Good then n.prs else []).map encP))) := by
  refine x_fn (orcS (by decide)) (fc := F43) rfl rfl ?_
  have hns := hn.ns
  have hpl := prsTo_len n n.ns.length
  have hpl2 : n.prs.length ≤ n.ns.length := hpl
  -- the collector
  have app : ∀ (σ : St) (kn : Key), σ.ls = [] → σ.bs kn = some (.var ((encT n).map .p)) → kn.2 < σ.clk →
      ∃ v σ', eS S (.f 89) [.a .nil, .a (.fn 90 [kn])] σ = some (v, σ') ∧ ∃ x, v = .a x ∧ frA σ' x = some (.l ((if bool n.Good then n.prs else []).map encP)) := by
    intro σ kn hls hkn hkl
    refine x_fnS (fc := F89) rfl rfl ?_
    obtain ⟨c0, hc0⟩ : ∃ c, σ.clk = c := ⟨_, rfl⟩
    have hknc : ¬ kn = (2, c0) := by rintro rfl; simp at hkl; omega
    simp only [F89, hc0, fxa, fxc, fxE, fxL, fxI, nxE, evO, evR, cellsT, ldCells, mkT, lenA, binPV, Env.init, resV, resT, frT, klT, ownT, intT, O.adds, ownA, rowsA, over, wrOk, keysT, keysA, ne_eq, if_true, if_false, ite_self, Nat.reduceLT, Nat.reduceSub, Nat.reduceBEq, Nat.reduceEqDiff, Nat.reduceAdd, Nat.reduceLeDiff, reduceCtorEq, Nat.reduceMul]
    obtain ⟨E, hE⟩ : ∃ E : Env, E = (((Env.init [TV.a .nil, .a (.fn 90 [kn])]).put 2 (.a (.ptr (2, c0) 0 0))).put 4 (.a .nil)).put 6 (.a (.fn 90 [kn])) := ⟨_, rfl⟩
    have E2 : E 2 = .a (.ptr (2, c0) 0 0) := by rw [hE]; rfl
    obtain ⟨r0, hr0⟩ : ∃ r0 : LRec, r0 = { env := E, params := [7], assign := (.reg [ia 5 (.new [(.p (.i .i64 0)), (.p (.i .i64 0))]), io (.st 2 (.t 5) (.t 7))]), body := (.block 1 (.reg [ia 8 (.ld 1 false (.t 2)), ia 9 (.ld 2 true (.t 5)), ia 10 (.bsl 2 60 [(.p (.i .i64 0)), (.p (.i .i64 0))] 1 [(0, (.t 9))]), ia 11 (.app 2 60 16 (.t 8) (.t 10)), io (.st 1 (.t 2) (.t 11))])), st := .ready, pend := none } := ⟨_, rfl⟩
    have hcall := each_ok hn 0 kn (fun k σ' => (σ'.bs kn = some (.var ((encT n).map .p)) ∧ kn.2 < σ'.clk) ∧ c0 < σ'.clk ∧ σ'.ls = [r0] ∧ ∃ x, σ'.bs (2, c0) = some (.var [x]) ∧ (k = 0 ∧ x = .nil ∨ ∃ q : Nat, x = .own (11, q) 0 k ∧ σ'.bs (11, q) = some (.row 2 60 ((n.prs.take k).map encP)) ∧ q < σ'.clk ∧ k ≤ n.prs.length))
      (fun k σ' h => h.1) (by
        rintro k σ' c b ⟨⟨h1, h2⟩, h3, h4, x, h5, h6⟩ rfl
        have n1 : ¬ kn = (4, σ'.clk) := by rintro rfl; simp at h2
        refine ⟨⟨by simp only [put_bs, add_bs, n1, if_false]; exact h1, by simp only [put_clk, add_clk]; omega⟩, by simp only [put_clk, add_clk]; omega, h4, x, by simp only [put_bs, add_bs, Prod.mk.injEq, Nat.reduceEqDiff, false_and, if_false]; exact h5, ?_⟩
        rcases h6 with h6 | ⟨q, e1, e2, e3, e4⟩
        · exact .inl h6
        · exact .inr ⟨q, e1, by simp only [put_bs, add_bs, Prod.mk.injEq, Nat.reduceEqDiff, false_and, if_false]; exact e2, by simp only [put_clk, add_clk]; omega, e4⟩) (by
        rintro _ k σ' p ⟨⟨h1, h2⟩, h3, h4, x, h5, h6⟩ hp
        obtain ⟨v, σ2, g1, g2⟩ := y_round (S := S) (l := 0) (args := [.g [.p (.i .i64 p.n), .p (.i .i64 p.s)]]) (σ := σ') (r := r0) (by rw [h4]; rfl) (by rw [hr0]; rfl) (K := fun v σ2 => v = .a (.p (.b true)) ∧ (σ2.bs kn = some (.var ((encT n).map .p)) ∧ kn.2 < σ2.clk) ∧ c0 < σ2.clk ∧ σ2.ls = [r0] ∧ ∃ x, σ2.bs (2, c0) = some (.var [x]) ∧ (k + 1 = 0 ∧ x = .nil ∨ ∃ q : Nat, x = .own (11, q) 0 (k + 1) ∧ σ2.bs (11, q) = some (.row 2 60 ((n.prs.take (k + 1)).map encP)) ∧ q < σ2.clk ∧ k + 1 ≤ n.prs.length)) (by
          have hkl := (List.getElem?_eq_some_iff.1 hp).1
          have ne1 : ∀ d j, ¬ kn = (d, σ'.clk + j) := by rintro d j rfl; simp at h2; omega
          have ne0 : ∀ d, ¬ kn = (d, σ'.clk) := by rintro d rfl; simp at h2
          have ne1s : ∀ d, ¬ kn = (d, σ'.clk + 1) := fun d => ne1 d 1
          have ne2 : ∀ d, ¬ kn = (d, σ'.clk + 1 + 1) := fun d => ne1 d 2
          have nc : ¬ c0 = σ'.clk ∧ ¬ c0 = σ'.clk + 1 ∧ ¬ c0 = σ'.clk + 1 + 1 := by omega
          have hset : [r0].set 0 { r0 with st := .busy } = [{ r0 with st := .busy }] := rfl
          have hback : [{ r0 with st := LSt.busy }].set 0 { ({ r0 with st := LSt.busy } : LRec) with st := .ready, pend := none } = [r0] := by rw [hr0]; rfl
          have htk : (n.prs.take (k + 1)).map encP = (n.prs.take k).map encP ++ [encP p] := by rw [List.take_add_one, hp]; simp
          have hbb : (k + 1) * 16 ≤ 140737488355328 := by omega
          have hlen : (n.prs.take k).length = k := by rw [List.length_take]; omega
          have htk2 : List.take k ((n.prs.take k).map encP) = (n.prs.take k).map encP := List.take_of_length_le (by simp; omega)
          have ra : r0.assign = (.reg [ia 5 (.new [(.p (.i .i64 0)), (.p (.i .i64 0))]), io (.st 2 (.t 5) (.t 7))]) := by rw [hr0]
          have rb : r0.body = (.block 1 (.reg [ia 8 (.ld 1 false (.t 2)), ia 9 (.ld 2 true (.t 5)), ia 10 (.bsl 2 60 [(.p (.i .i64 0)), (.p (.i .i64 0))] 1 [(0, (.t 9))]), ia 11 (.app 2 60 16 (.t 8) (.t 10)), io (.st 1 (.t 2) (.t 11))])) := by rw [hr0]
          have re : r0.env = E := by rw [hr0]
          have rp : r0.params = [7] := by rw [hr0]
          have rs : r0.st = .ready := by rw [hr0]
          have h1' := h1
          simp only [encT, List.map_cons, List.map_nil] at h1'
          simp only [ra, rb, re, rp, putAll, fxa, fxc, fxE, fxL, fxI, nxE, evO, evR, cellsT, ldCells, mkT, lenA, binPV, Env.init, resV, resT, frT, klT, ownT, intT, O.adds, ownA, rowsA, over, wrOk, keysT, keysA, ne_eq, if_true, if_false, ite_self, Nat.reduceLT, Nat.reduceSub, Nat.reduceBEq, Nat.reduceEqDiff, Nat.reduceAdd, Nat.reduceLeDiff, reduceCtorEq, Nat.reduceMul]
          refine ⟨r0, by rw [h4]; rfl, rs, ?_⟩
          rcases h6 with ⟨rfl, rfl⟩ | ⟨q, rfl, e2, e3, e4⟩
          · simp only [setL_bs, setL_clk, setL_ls, E2, h4, h5, hset, nc, Nat.zero_add, Nat.one_mul, Nat.reduceLeDiff, Nat.zero_lt_one, List.getElem?_cons_zero, fxa, fxc, fxE, fxL, fxI, nxE, evO, evR, cellsT, ldCells, mkT, lenA, binPV, Env.init, resV, resT, frT, klT, ownT, intT, O.adds, ownA, rowsA, over, wrOk, keysT, keysA, ne_eq, if_true, if_false, ite_self, Nat.reduceLT, Nat.reduceSub, Nat.reduceBEq, Nat.reduceEqDiff, Nat.reduceAdd, Nat.reduceLeDiff, reduceCtorEq, Nat.reduceMul]
            refine ⟨_, rfl, ⟨by simp only [hknc, ne0, ne1s, ne2, if_false]; exact h1', by omega⟩, by omega, hback, _, rfl, .inr ⟨σ'.clk + 1 + 1, rfl, ?_, by omega, by omega⟩⟩
            rw [htk]; simp [encP]
          · have hknq : ¬ kn = (11, q) := by rintro rfl; rw [h1] at e2; cases e2
            have nq : ¬ q = σ'.clk ∧ ¬ q = σ'.clk + 1 ∧ ¬ q = σ'.clk + 1 + 1 := by omega
            simp only [setL_bs, setL_clk, setL_ls, E2, h4, h5, e2, hset, nc, nq, hlen, htk2, hbb, List.length_map, Nat.le_refl, Nat.zero_add, Nat.one_mul, Nat.reduceLeDiff, Nat.zero_lt_one, List.getElem?_cons_zero, fxa, fxc, fxE, fxL, fxI, nxE, evO, evR, cellsT, ldCells, mkT, lenA, binPV, Env.init, resV, resT, frT, klT, ownT, intT, O.adds, ownA, rowsA, over, wrOk, keysT, keysA, ne_eq, if_true, if_false, ite_self, Nat.reduceLT, Nat.reduceSub, Nat.reduceBEq, Nat.reduceEqDiff, Nat.reduceAdd, Nat.reduceLeDiff, reduceCtorEq, Nat.reduceMul]
            refine ⟨_, rfl, ⟨by simp only [hknc, hknq, ne0, ne1s, ne2, if_false]; exact h1', by omega⟩, by omega, hback, _, rfl, .inr ⟨σ'.clk + 1 + 1, rfl, ?_, by omega, by omega⟩⟩
            rw [htk]; simp [encP])
        obtain ⟨rfl, g2⟩ := g2
        exact ⟨σ2, g1, g2⟩)
    refine wp_rng (g := 90) (caps := [kn]) (by simp only [fxa, fxc, fxE, fxL, fxI, nxE, evO, evR, cellsT, ldCells, mkT, lenA, binPV, Env.init, resV, resT, frT, klT, ownT, intT, O.adds, ownA, rowsA, over, wrOk, keysT, keysA, ne_eq, if_true, if_false, ite_self, Nat.reduceLT, Nat.reduceSub, Nat.reduceBEq, Nat.reduceEqDiff, Nat.reduceAdd, Nat.reduceLeDiff, reduceCtorEq, Nat.reduceMul]) ?_
    have hls0 : (σ.add 2 (.var [.nil])).ls = [] := hls
    rw [hls0]
    simp only [List.length_nil, List.nil_append, List.map_cons, List.map_nil]
    rw [← hE, ← hr0]
    obtain ⟨σ1, hc, hI⟩ := hcall { (σ.add 2 (.var [.nil])) with ls := [r0] } ⟨⟨by
      show (if kn = (2, σ.clk) then _ else σ.bs kn) = _
      rw [hc0, if_neg hknc]; exact hkn, by show kn.2 < σ.clk + 1; omega⟩, by show c0 < σ.clk + 1; omega, rfl, .nil, by
      show (if (2, c0) = (2, σ.clk) then _ else _) = _
      rw [hc0, if_pos rfl], .inl ⟨rfl, rfl⟩⟩
    obtain ⟨_, h3, h4, x, h5, h6⟩ := hI
    refine ⟨_, σ1, hc, r0, by rw [h4]; rfl, by rw [hr0]; simp, ?_⟩
    have hp0 : r0.pend = none := by rw [hr0]
    rw [hp0]
    simp only [Option.getD_none, setL_bs, setL_clk, setL_ls, E2, h5, fxa, fxc, fxE, fxL, fxI, nxE, evO, evR, cellsT, ldCells, mkT, lenA, binPV, Env.init, resV, resT, frT, klT, ownT, intT, O.adds, ownA, rowsA, over, wrOk, keysT, keysA, ne_eq, if_true, if_false, ite_self, Nat.reduceLT, Nat.reduceSub, Nat.reduceBEq, Nat.reduceEqDiff, Nat.reduceAdd, Nat.reduceLeDiff, reduceCtorEq, Nat.reduceMul]
    by_cases hG : n.Good
    · rw [bool_t hG] at h6 ⊢
      simp only [if_true] at h6 ⊢
      rcases h6 with ⟨h0, rfl⟩ | ⟨q, rfl, e2, e3, e4⟩
      · have : n.prs = [] := List.eq_nil_of_length_eq_zero h0
        rw [this]; exact ⟨_, rfl, rfl⟩
      · rw [List.take_length] at e2
        have htk2 : List.take n.prs.length (n.prs.map encP) = n.prs.map encP := List.take_of_length_le (by simp)
        refine ⟨_, rfl, ?_⟩
        simp only [frA, setL_bs, e2, List.length_map, Nat.zero_add, Nat.le_refl, if_true, List.drop_zero, htk2]
    · rw [bool_f hG] at h6 ⊢
      simp only [Bool.false_eq_true, if_false] at h6 ⊢
      rcases h6 with ⟨_, rfl⟩ | ⟨q, rfl, e2, e3, e4⟩
      · exact ⟨_, rfl, rfl⟩
      · refine ⟨_, rfl, ?_⟩
        simp only [frA, setL_bs, e2, List.take_zero, List.map_nil, List.length_nil, Nat.zero_add, Nat.le_refl, if_true, List.drop_zero]
  have col : ∀ (σ : St) (kn : Key), σ.ls = [] → σ.bs kn = some (.var ((encT n).map .p)) → kn.2 < σ.clk →
      ∃ v σ', eS S (.f 64) [.a (.fn 90 [kn])] σ = some (v, σ') ∧ ∃ x, v = .a x ∧ frA σ' x = some (.l ((if bool n.Good then n.prs else []).map encP)) := by
    intro σ kn h1 h2 h3
    obtain ⟨v, σ', hc, x, rfl, hx⟩ := app σ kn h1 h2 h3
    refine x_fnS (fc := F64) rfl rfl ?_
    simp only [F64, hc, fxa, fxc, fxE, fxL, fxI, nxE, evO, evR, cellsT, ldCells, mkT, lenA, binPV, Env.init, resV, resT, frT, klT, ownT, intT, O.adds, ownA, rowsA, over, wrOk, keysT, keysA, ne_eq, if_true, if_false, ite_self, Nat.reduceLT, Nat.reduceSub, Nat.reduceBEq, Nat.reduceEqDiff, Nat.reduceAdd, Nat.reduceLeDiff, reduceCtorEq, Nat.reduceMul]
    exact ⟨x, rfl, hx⟩
  obtain ⟨σ0, hσ0⟩ : ∃ σ0, σ0 = (St.empty.add 1 (.var ((encT n).map .p))).add 1 (.var ((encT n).map .p)) := ⟨_, rfl⟩
  obtain ⟨v, σ1, hc, x, rfl, hx⟩ := col σ0 (1, 1) (by rw [hσ0]; rfl) (by rw [hσ0]; simp [add_bs, add_clk, empty_clk]) (by rw [hσ0]; simp [add_clk, empty_clk])
  have hm := meetings_ok n (St.empty.add 1 (.var ((encT n).map .p)))
  rw [hσ0] at hc
  simp only [encT, List.map_cons, List.map_nil, add_clk, empty_clk, Nat.zero_add] at hm hc
  simp only [F43, hm, hc, hx, fxa, fxc, fxE, fxL, fxI, nxE, evO, evR, cellsT, ldCells, mkT, lenA, binPV, Env.init, resV, resT, frT, klT, ownT, intT, O.adds, ownA, rowsA, over, wrOk, keysT, keysA, ne_eq, if_true, if_false, ite_self, Nat.reduceLT, Nat.reduceSub, Nat.reduceBEq, Nat.reduceEqDiff, Nat.reduceAdd, Nat.reduceLeDiff, reduceCtorEq, Nat.reduceMul]

/-- does something come of a pair? -/
def rdy (n : Nt) (p : Pt) : Bool := decide ((ofR (n.nd p.n) (n.nd p.s)).2 = 0)
theorem pr_spec {n : Nt} {i : Nat} {p : Pt} (h : n.pr i = some p) : p.n = i ∧ n.has ⟨i, 0⟩ = true ∧ n.lk ⟨i, 0⟩ = ⟨p.s, 0⟩ ∧ (i : Int) < p.s := by
  unfold Nt.pr at h
  split at h
  · rename_i h1
    rw [← Option.some.inj h]
    refine ⟨rfl, h1.1, ?_, h1.2.2⟩
    obtain ⟨q, hq⟩ : ∃ q, n.lk ⟨i, 0⟩ = q := ⟨_, rfl⟩
    rw [hq] at h1 ⊢
    obtain ⟨a, b⟩ := q
    have h2 : b = 0 := h1.2.1
    rw [h2]
  · cases h
theorem prs_mem {n : Nt} {p : Pt} : p ∈ n.prs ↔ ∃ i, i < n.ns.length ∧ n.pr i = some p := by
  unfold Nt.prs prsTo
  rw [List.mem_filterMap]
  constructor
  · rintro ⟨i, h1, h2⟩; exact ⟨i, List.mem_range.1 h1, h2⟩
  · rintro ⟨i, h1, h2⟩; exact ⟨i, List.mem_range.2 h1, h2⟩
theorem prs_in {n : Nt} (hG : n.Good) {p : Pt} (h : p ∈ n.prs) : 0 ≤ p.n ∧ p.n < n.ns.length ∧ 0 ≤ p.s ∧ p.s < n.ns.length ∧ p.n < p.s := by
  obtain ⟨i, h1, h2⟩ := prs_mem.1 h
  obtain ⟨e1, e2, e3, e4⟩ := pr_spec h2
  have h3 := has_iff.1 (good_link hG e2).2.1
  rw [e3] at h3
  simp only at h3
  omega

theorem ready_ok {n : Nt} (hn : n.Ok) {p : Pt} (hp : 0 ≤ p.n ∧ p.n < n.ns.length ∧ 0 ≤ p.s ∧ p.s < n.ns.length) : eP S 67 [.g (encT n), .g (encP p)] = some (.a (.b (rdy n p))) := by
  refine x_fn (orcS (by decide)) (fc := F67) rfl rfl ?_
  have g1 := getN (l := n.ns) hp.1 hp.2.1
  have g2 := getN (l := n.ns) hp.2.2.1 hp.2.2.2
  have c1 := Of_ok (hn.nd _ (nd_mem hp.1 hp.2.1)) (hn.nd _ (nd_mem hp.2.2.1 hp.2.2.2))
  obtain ⟨a, ha⟩ : ∃ a, n.nd p.n = a := ⟨_, rfl⟩
  obtain ⟨b, hb⟩ : ∃ b, n.nd p.s = b := ⟨_, rfl⟩
  have ha2 : n.ns.getD p.n.toNat zN = a := ha
  have hb2 : n.ns.getD p.s.toNat zN = b := hb
  unfold rdy
  rw [ha, hb] at c1 ⊢
  rw [ha2] at g1
  rw [hb2] at g2
  obtain ⟨⟨r, e⟩, hr⟩ : ∃ r, ofR a b = r := ⟨_, rfl⟩
  rw [hr] at c1 ⊢
  simp only [encLE, encL, encN] at c1
  simp only [F67, g1, g2, hp.1, hp.2.1, hp.2.2.1, hp.2.2.2, c1, fxa, fxc, fxE, fxL, fxI, nxE, evO, evR, cellsT, ldCells, mkT, lenA, binPV, Env.init, resV, resT, frT, klT, ownT, intT, O.adds, ownA, rowsA, over, wrOk, keysT, keysA, ne_eq, if_true, if_false, ite_self, Nat.reduceLT, Nat.reduceSub, Nat.reduceBEq, Nat.reduceEqDiff, Nat.reduceAdd, Nat.reduceLeDiff, reduceCtorEq, Nat.reduceMul]

noncomputable def Nt.rds (n : Nt) : List Pt := if bool n.Good then n.prs.filter (rdy n) else []
theorem Ready_ok {n : Nt} (hn : n.Ok) : eP S 45 [.g (encT n)] = some (.a (.l (n.rds.map encP))) := by
  refine x_fn (orcS (by decide)) (fc := F45) rfl rfl ?_
  have hns := hn.ns
  have hpl2 : n.prs.length ≤ n.ns.length := prsTo_len n n.ns.length
  have hm := meetings_ok n ((St.empty.add 1 (.var ((encT n).map .p))).add 3 (.var [.nil]))
  simp only [encT, List.map_cons, List.map_nil, add_clk, empty_clk, Nat.zero_add, Nat.reduceAdd] at hm
  simp only [F45, hm, fxa, fxc, fxE, fxL, fxI, nxE, evO, evR, cellsT, ldCells, mkT, lenA, binPV, Env.init, resV, resT, frT, klT, ownT, intT, O.adds, ownA, rowsA, over, wrOk, keysT, keysA, ne_eq, if_true, if_false, ite_self, Nat.reduceLT, Nat.reduceSub, Nat.reduceBEq, Nat.reduceEqDiff, Nat.reduceAdd, Nat.reduceLeDiff, reduceCtorEq, Nat.reduceMul]
  obtain ⟨E, hE⟩ : ∃ E : Env, E = ((((((Env.init [TV.g [.p (.l (n.ns.map encN)), .p (.i .i64 n.cap)]]).put 1 (.a (.ptr (1, 0) 0 0))).put 2 (.a .nil)).put 3 (.a (.ptr (3, 1) 0 0))).put 5 (.g [.p (.l (n.ns.map encN)), .p (.i .i64 n.cap)])).put 6 (.a (.fn 90 [(1, 2)]))) := ⟨_, rfl⟩
  have E1 : E 1 = .a (.ptr (1, 0) 0 0) := by rw [hE]; rfl
  have E3 : E 3 = .a (.ptr (3, 1) 0 0) := by rw [hE]; rfl
  refine wp_rng (g := 90) (caps := [(1, 2)]) (by simp only [fxa, fxc, fxE, fxL, fxI, nxE, evO, evR, cellsT, ldCells, mkT, lenA, binPV, Env.init, resV, resT, frT, klT, ownT, intT, O.adds, ownA, rowsA, over, wrOk, keysT, keysA, ne_eq, if_true, if_false, ite_self, Nat.reduceLT, Nat.reduceSub, Nat.reduceBEq, Nat.reduceEqDiff, Nat.reduceAdd, Nat.reduceLeDiff, reduceCtorEq, Nat.reduceMul]) ?_
  rw [← hE]
  obtain ⟨r0, hr0⟩ : ∃ r0 : LRec, r0 = { env := E, params := [7], assign := (.reg [ia 4 (.new [(.p (.i .i64 0)), (.p (.i .i64 0))]), io (.st 2 (.t 4) (.t 7))]), body := (.block 1 (.seq (.reg [ia 8 (.ld 2 true (.t 1)), ia 9 (.ld 2 true (.t 4)), ia 10 (.call (.f 67) [(.t 8), (.t 9)])]) (.cond (.t 10) (.reg [ia 11 (.ld 1 false (.t 3)), ia 12 (.ld 2 true (.t 4)), ia 13 (.bsl 2 60 [(.p (.i .i64 0)), (.p (.i .i64 0))] 1 [(0, (.t 12))]), ia 14 (.app 2 60 16 (.t 11) (.t 13)), io (.st 1 (.t 3) (.t 14))]) .skip))), st := .ready, pend := none } := ⟨_, rfl⟩
  have hls0 : (((St.empty.add 1 (.var [.p (.l (n.ns.map encN)), .p (.i .i64 n.cap)])).add 3 (.var [.nil])).add 1 (.var [.p (.l (n.ns.map encN)), .p (.i .i64 n.cap)])).ls = [] := rfl
  rw [hls0]
  simp only [List.length_nil, List.nil_append, List.map_cons, List.map_nil]
  rw [← hr0]
  have hcall := each_ok hn 0 (1, 2) (fun k σ' => (σ'.bs (1, 2) = some (.var ((encT n).map .p)) ∧ (1, 2).2 < σ'.clk) ∧ σ'.bs (1, 0) = some (.var ((encT n).map .p)) ∧ σ'.ls = [r0] ∧ ∃ x, σ'.bs (3, 1) = some (.var [x]) ∧ (((n.prs.take k).filter (rdy n)) = [] ∧ x = .nil ∨ ∃ q : Nat, x = .own (14, q) 0 ((n.prs.take k).filter (rdy n)).length ∧ σ'.bs (14, q) = some (.row 2 60 (((n.prs.take k).filter (rdy n)).map encP)) ∧ q < σ'.clk))
    (fun k σ' h => h.1) (by
      rintro k σ' c b ⟨⟨h1, h2⟩, h3, h4, x, h5, h6⟩ rfl
      refine ⟨⟨by simp only [put_bs, add_bs, Prod.mk.injEq, Nat.reduceEqDiff, false_and, if_false]; exact h1, by simp only [put_clk, add_clk]; omega⟩, by simp only [put_bs, add_bs, Prod.mk.injEq, Nat.reduceEqDiff, false_and, if_false]; exact h3, h4, x, by simp only [put_bs, add_bs, Prod.mk.injEq, Nat.reduceEqDiff, false_and, if_false]; exact h5, ?_⟩
      rcases h6 with h6 | ⟨q, e1, e2, e3⟩
      · exact .inl h6
      · exact .inr ⟨q, e1, by simp only [put_bs, add_bs, Prod.mk.injEq, Nat.reduceEqDiff, false_and, if_false]; exact e2, by simp only [put_clk, add_clk]; omega⟩)
  specialize hcall (by
      rintro hG k σ' p ⟨⟨h1, h2⟩, h3, h4, x, h5, h6⟩ hp
      have hpm := prs_in hG (List.mem_of_getElem? hp)
      have c1 := ready_ok hn (p := p) ⟨hpm.1, hpm.2.1, hpm.2.2.1, hpm.2.2.2.1⟩
      obtain ⟨v, σ2, g1, g2⟩ := y_round (S := S) (l := 0) (args := [.g [.p (.i .i64 p.n), .p (.i .i64 p.s)]]) (σ := σ') (r := r0) (by rw [h4]; rfl) (by rw [hr0]; rfl) (K := fun v σ2 => v = .a (.p (.b true)) ∧ (σ2.bs (1, 2) = some (.var ((encT n).map .p)) ∧ 2 < σ2.clk) ∧ σ2.bs (1, 0) = some (.var ((encT n).map .p)) ∧ σ2.ls = [r0] ∧ ∃ x, σ2.bs (3, 1) = some (.var [x]) ∧ (((n.prs.take (k + 1)).filter (rdy n)) = [] ∧ x = .nil ∨ ∃ q : Nat, x = .own (14, q) 0 ((n.prs.take (k + 1)).filter (rdy n)).length ∧ σ2.bs (14, q) = some (.row 2 60 (((n.prs.take (k + 1)).filter (rdy n)).map encP)) ∧ q < σ2.clk)) (by
        have hset : [r0].set 0 { r0 with st := .busy } = [{ r0 with st := .busy }] := rfl
        have hback : [{ r0 with st := LSt.busy }].set 0 { ({ r0 with st := LSt.busy } : LRec) with st := .ready, pend := none } = [r0] := by rw [hr0]; rfl
        have ra : r0.assign = (.reg [ia 4 (.new [(.p (.i .i64 0)), (.p (.i .i64 0))]), io (.st 2 (.t 4) (.t 7))]) := by rw [hr0]
        have rb : r0.body = (.block 1 (.seq (.reg [ia 8 (.ld 2 true (.t 1)), ia 9 (.ld 2 true (.t 4)), ia 10 (.call (.f 67) [(.t 8), (.t 9)])]) (.cond (.t 10) (.reg [ia 11 (.ld 1 false (.t 3)), ia 12 (.ld 2 true (.t 4)), ia 13 (.bsl 2 60 [(.p (.i .i64 0)), (.p (.i .i64 0))] 1 [(0, (.t 12))]), ia 14 (.app 2 60 16 (.t 11) (.t 13)), io (.st 1 (.t 3) (.t 14))]) .skip))) := by rw [hr0]
        have re : r0.env = E := by rw [hr0]
        have rp : r0.params = [7] := by rw [hr0]
        have rs : r0.st = .ready := by rw [hr0]
        obtain ⟨L, hL⟩ : ∃ L, (n.prs.take k).filter (rdy n) = L := ⟨_, rfl⟩
        have hLl : L.length ≤ n.ns.length := by
          have h8 := List.length_filter_le (rdy n) (n.prs.take k)
          rw [hL] at h8
          have h9 := List.length_take_le k n.prs
          rw [List.length_take] at h8; omega
        have hL2 : (n.prs.take (k + 1)).filter (rdy n) = L ++ (if rdy n p then [p] else []) := by
          rw [List.take_add_one, hp, List.filter_append, hL]
          cases h : rdy n p <;> simp [h]
        rw [hL] at h6
        rw [hL2]
        have hbb : (L.length + 1) * 16 ≤ 140737488355328 := by omega
        have htk2 : List.take L.length (L.map encP) = L.map encP := List.take_of_length_le (by simp)
        simp only [encT, encP, List.map_cons, List.map_nil] at c1
        have h1' := h1
        have h3' := h3
        simp only [encT, List.map_cons, List.map_nil] at h1' h3'
        have nc : ¬ 0 = σ'.clk ∧ ¬ 0 = σ'.clk + 1 ∧ ¬ 1 = σ'.clk := by omega
        simp only [ra, rb, re, rp, putAll, fxa, fxc, fxE, fxL, fxI, nxE, evO, evR, cellsT, ldCells, mkT, lenA, binPV, Env.init, resV, resT, frT, klT, ownT, intT, O.adds, ownA, rowsA, over, wrOk, keysT, keysA, ne_eq, if_true, if_false, ite_self, Nat.reduceLT, Nat.reduceSub, Nat.reduceBEq, Nat.reduceEqDiff, Nat.reduceAdd, Nat.reduceLeDiff, reduceCtorEq, Nat.reduceMul]
        refine ⟨r0, by rw [h4]; rfl, rs, ?_⟩
        cases hrd : rdy n p with
        | false =>
          rw [hrd] at c1
          simp only [setL_bs, setL_clk, setL_ls, E1, E3, h1', h3', h4, h5, c1, hset, List.getElem?_cons_zero, List.append_nil, Bool.false_eq_true, fxa, fxc, fxE, fxL, fxI, nxE, evO, evR, cellsT, ldCells, mkT, lenA, binPV, Env.init, resV, resT, frT, klT, ownT, intT, O.adds, ownA, rowsA, over, wrOk, keysT, keysA, ne_eq, if_true, if_false, ite_self, Nat.reduceLT, Nat.reduceSub, Nat.reduceBEq, Nat.reduceEqDiff, Nat.reduceAdd, Nat.reduceLeDiff, reduceCtorEq, Nat.reduceMul]
          refine ⟨_, rfl, by omega, hback, ?_⟩
          rcases h6 with ⟨rfl, rfl⟩ | ⟨q, rfl, e2, e3⟩
          · exact ⟨_, rfl, .inl ⟨rfl, rfl⟩⟩
          · exact ⟨_, rfl, .inr ⟨q, rfl, e2, by omega⟩⟩
        | true =>
          rw [hrd] at c1
          rcases h6 with ⟨rfl, rfl⟩ | ⟨q, rfl, e2, e3⟩
          · simp only [setL_bs, setL_clk, setL_ls, E1, E3, h1', h3', h4, h5, c1, hset, List.getElem?_cons_zero, Nat.zero_add, Nat.one_mul, Nat.reduceLeDiff, Nat.zero_lt_one, fxa, fxc, fxE, fxL, fxI, nxE, evO, evR, cellsT, ldCells, mkT, lenA, binPV, Env.init, resV, resT, frT, klT, ownT, intT, O.adds, ownA, rowsA, over, wrOk, keysT, keysA, ne_eq, if_true, if_false, ite_self, Nat.reduceLT, Nat.reduceSub, Nat.reduceBEq, Nat.reduceEqDiff, Nat.reduceAdd, Nat.reduceLeDiff, reduceCtorEq, Nat.reduceMul]
            refine ⟨_, rfl, by omega, hback, _, rfl, .inr ⟨σ'.clk + 1 + 1, rfl, ?_, by omega⟩⟩
            simp [encP]
          · have nq : ¬ q = σ'.clk ∧ ¬ q = σ'.clk + 1 ∧ ¬ q = σ'.clk + 1 + 1 := by omega
            simp only [setL_bs, setL_clk, setL_ls, E1, E3, h1', h3', h4, h5, e2, c1, nq, hset, htk2, hbb, List.length_map, Nat.le_refl, List.getElem?_cons_zero, Nat.zero_add, Nat.one_mul, Nat.reduceLeDiff, Nat.zero_lt_one, fxa, fxc, fxE, fxL, fxI, nxE, evO, evR, cellsT, ldCells, mkT, lenA, binPV, Env.init, resV, resT, frT, klT, ownT, intT, O.adds, ownA, rowsA, over, wrOk, keysT, keysA, ne_eq, if_true, if_false, ite_self, Nat.reduceLT, Nat.reduceSub, Nat.reduceBEq, Nat.reduceEqDiff, Nat.reduceAdd, Nat.reduceLeDiff, reduceCtorEq, Nat.reduceMul]
            refine ⟨_, rfl, by omega, hback, _, rfl, .inr ⟨σ'.clk + 1 + 1, by simp, ?_, by omega⟩⟩
            simp [encP])
      obtain ⟨rfl, g2, g3, g4, g5⟩ := g2
      exact ⟨σ2, g1, g2, g3, g4, g5⟩)
  obtain ⟨σ1, hc, hI⟩ := hcall { (((St.empty.add 1 (.var [.p (.l (n.ns.map encN)), .p (.i .i64 n.cap)])).add 3 (.var [.nil])).add 1 (.var [.p (.l (n.ns.map encN)), .p (.i .i64 n.cap)])) with ls := [r0] } ⟨⟨rfl, by show 2 < 3; omega⟩, rfl, rfl, .nil, rfl, .inl ⟨by simp, rfl⟩⟩
  obtain ⟨_, _, h4, x, h5, h6⟩ := hI
  refine ⟨_, σ1, hc, r0, by rw [h4]; rfl, by rw [hr0]; simp, ?_⟩
  have hp0 : r0.pend = none := by rw [hr0]
  rw [hp0]
  have hfin : ∃ L, n.rds = L ∧ (L = [] ∧ x = .nil ∨ ∃ q : Nat, x = .own (14, q) 0 L.length ∧ σ1.bs (14, q) = some (.row 2 60 (L.map encP))) := by
    unfold Nt.rds
    by_cases hG : n.Good
    · rw [bool_t hG] at h6 ⊢
      simp only [if_true, List.take_length] at h6 ⊢
      refine ⟨_, rfl, ?_⟩
      rcases h6 with h6 | ⟨q, e1, e2, e3⟩
      · exact .inl h6
      · exact .inr ⟨q, e1, e2⟩
    · rw [bool_f hG] at h6 ⊢
      simp only [Bool.false_eq_true, if_false, List.take_zero, List.filter_nil] at h6 ⊢
      refine ⟨_, rfl, ?_⟩
      rcases h6 with h6 | ⟨q, e1, e2, e3⟩
      · exact .inl ⟨rfl, h6.2⟩
      · exact .inr ⟨q, e1, e2⟩
  obtain ⟨L, hL, hx⟩ := hfin
  rw [hL]
  rcases hx with ⟨rfl, rfl⟩ | ⟨q, rfl, e2⟩
  · simp only [Option.getD_none, setL_bs, setL_clk, setL_ls, E3, h5, fxa, fxc, fxE, fxL, fxI, nxE, evO, evR, cellsT, ldCells, mkT, lenA, binPV, Env.init, resV, resT, frT, klT, ownT, intT, O.adds, ownA, rowsA, over, wrOk, keysT, keysA, ne_eq, if_true, if_false, ite_self, Nat.reduceLT, Nat.reduceSub, Nat.reduceBEq, Nat.reduceEqDiff, Nat.reduceAdd, Nat.reduceLeDiff, reduceCtorEq, Nat.reduceMul]
  · have htk2 : List.take L.length (L.map encP) = L.map encP := List.take_of_length_le (by simp)
    simp only [Option.getD_none, setL_bs, setL_clk, setL_ls, E3, h5, e2, htk2, List.length_map, Nat.zero_add, Nat.le_refl, fxa, fxc, fxE, fxL, fxI, nxE, evO, evR, cellsT, ldCells, mkT, lenA, binPV, Env.init, resV, resT, frT, klT, ownT, intT, O.adds, ownA, rowsA, over, wrOk, keysT, keysA, ne_eq, if_true, if_false, ite_self, Nat.reduceLT, Nat.reduceSub, Nat.reduceBEq, Nat.reduceEqDiff, Nat.reduceAdd, Nat.reduceLeDiff, reduceCtorEq, Nat.reduceMul]

def pickI (i : Int) (m : Nat) : Nat := ((i.tmod m + m).tmod m).toNat
theorem Pick_ok {n : Nt} (hn : n.Ok) {i : Int} (hi : wf i) : eP S 40 [.g (encT n), .a (.i .i64 i)] =
    some (.t [(true, encP (if n.rds.length = 0 then zP else n.rds.getD (pickI i n.rds.length) zP)), (false, [.b (decide (n.rds.length ≠ 0))])]) := by
  refine x_fn (orcS (by decide)) (fc := F40) rfl rfl ?_
  have hns := hn.ns
  have c1 := Ready_ok hn
  obtain ⟨L, hL⟩ : ∃ L, n.rds = L := ⟨_, rfl⟩
  have hLl : L.length ≤ n.ns.length := by
    rw [← hL]; unfold Nt.rds
    split
    · have h8 := List.length_filter_le (rdy n) n.prs
      have h9 : n.prs.length ≤ n.ns.length := prsTo_len n n.ns.length
      omega
    · simp
  rw [hL] at c1 ⊢
  simp only [encT] at c1
  by_cases h0 : L.length = 0
  · have : L = [] := List.eq_nil_of_length_eq_zero h0
    subst this
    simp only [List.map_nil] at c1
    simp only [F40, c1, zP, Int.cast_ofNat_Int, Int.reduceEq, not_true_eq_false, fxa, fxc, fxE, fxL, fxI, nxE, evO, evR, cellsT, ldCells, mkT, lenA, binPV, Env.init, resV, resT, frT, klT, ownT, intT, O.adds, ownA, rowsA, over, wrOk, keysT, keysA, ne_eq, if_true, if_false, ite_self, Nat.reduceLT, Nat.reduceSub, Nat.reduceBEq, Nat.reduceEqDiff, Nat.reduceAdd, Nat.reduceLeDiff, reduceCtorEq, Nat.reduceMul]
  · have hm0 : ¬ (L.length : Int) = 0 := by omega
    obtain ⟨M, hM⟩ : ∃ M : Int, (L.length : Int) = M := ⟨_, rfl⟩
    have hMp : 0 < M := by omega
    have b1 := Int.tmod_lt_of_pos i hMp
    have b0 := Int.lt_tmod_of_pos i hMp
    have hw : IntKind.i64.wrap (i.tmod M + M) = i.tmod M + M := wrap_in _ (by omega)
    have b2 := Int.tmod_lt_of_pos (i.tmod M + M) hMp
    have b3 : 0 ≤ (i.tmod M + M).tmod M := Int.tmod_nonneg _ (by omega)
    have g := getP (l := L) (i := (i.tmod M + M).tmod M) b3 (by omega)
    have hpk : pickI i L.length = ((i.tmod M + M).tmod M).toNat := by unfold pickI; rw [hM]
    rw [hM] at hm0
    have hM2 : ¬ M = 0 := by omega
    simp only [F40, c1, hm0, hM, hM2, hw, b2, b3, g, h0, hpk, ne_eq, not_false_eq_true, fxa, fxc, fxE, fxL, fxI, nxE, evO, evR, cellsT, ldCells, mkT, lenA, binPV, Env.init, resV, resT, frT, klT, ownT, intT, O.adds, ownA, rowsA, over, wrOk, keysT, keysA, ne_eq, if_true, if_false, ite_self, Nat.reduceLT, Nat.reduceSub, Nat.reduceBEq, Nat.reduceEqDiff, Nat.reduceAdd, Nat.reduceLeDiff, reduceCtorEq, Nat.reduceMul]
end Go.Proofs.Ytkpfjolcmkikeaa
