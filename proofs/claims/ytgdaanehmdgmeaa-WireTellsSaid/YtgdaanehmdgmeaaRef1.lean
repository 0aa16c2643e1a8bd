/- The document's copy of a net; a port that has another one; linking, moving, joining. -/
import Derived.Test.YtgdaanehmdgmeaaNet1
set_option linter.unusedSimpArgs false
set_option linter.unusedVariables false
set_option maxHeartbeats 4000000
set_option maxRecDepth 10000
namespace Go.Proofs.Ytgdaanehmdgmeaa
open Go.Fx

theorem RCopy_ok {n : Nt} (hn : n.ns.length * 88 ≤ 140737488355328) (hne : n.ns ≠ []) (σ : St) :
    ∃ v σ', eS S (.f 36) [.g ((encT n).map .p)] σ = some (v, σ') ∧ ∃ k : Key, v = .g [.own k 0 n.ns.length, .p (.i .i64 n.cap)] ∧
      σ'.bs k = some (.row 6 43 (n.ns.map encN)) ∧ σ.clk ≤ k.2 ∧ k.2 < σ'.clk ∧ σ'.ls = σ.ls ∧ ∀ s : Key, s.2 < σ.clk → σ'.bs s = σ.bs s := by
  refine x_fnS (fc := F36) rfl rfl ?_
  obtain ⟨c, hc⟩ : ∃ c, σ.clk = c := ⟨_, rfl⟩
  have hpos : 0 < n.ns.length := List.length_pos_iff.2 hne
  simp only [F36, hc, false_iff, true_iff, RB_t, RB_f, RB_b, List.getElem?_cons_zero, List.getElem?_cons_succ, List.set_cons_succ, frV, klV, Nat.reduceLT, Nat.reduceSub, eqCells, encT, encN, encP, encA, allP, allA, allN, spN, Nat.reduceBEq, Int.toNat_natCast, evI_wr, wrOk, keysT, keysA, ne_eq, not_false_eq_true, fxa, fxc, if_true, if_false, ite_self, spS, LQ_norm, LQ_exit, LQ_ret, evO, evR, cellsT, ldCells, mkT, lenA, binPV, Env.init, resVs, resV, resT, Nat.reduceEqDiff, Nat.reduceAdd, Nat.reduceLeDiff, reduceCtorEq, frTs, frT, klTs, klT, frL, ownT, intT, O.adds, ownA, evO.bslRows, rowsA, over, fillA, Nat.reduceMul, klL]
  have hold : ∀ {s : Key} {d k : Nat}, s.2 < c → ¬ s = (d, c + k) := by rintro s d k hs rfl; simp at hs; omega
  have hold0 : ∀ {s : Key} {d : Nat}, s.2 < c → ¬ s = (d, c) := by rintro s d hs rfl; simp at hs
  refine loop_nat n.ns.length (fun i e σ' => e 1 = .a (.ptr (1, c) 0 0) ∧ e 2 = .a (.ptr (2, c + 1) 0 0) ∧ e 3 = .a (.ptr (3, c + 1 + 1) 0 0) ∧ e 4 = .a (.p (.i .i64 (i : Nat))) ∧ σ'.bs (1, c) = some (.var [.p (.l (n.ns.map encN)), .p (.i .i64 n.cap)]) ∧ σ'.bs (2, c + 1) = some (.var [.nil, .p (.i .i64 0)]) ∧
    (∃ x, σ'.bs (3, c + 1 + 1) = some (.var [x, .p (.i .i64 n.cap)]) ∧ (i = 0 ∧ x = .nil ∨ ∃ q : Nat, x = .own (23, q) 0 i ∧ σ'.bs (23, q) = some (.row 6 43 ((n.ns.take i).map encN)) ∧ c + 2 < q ∧ q < σ'.clk)) ∧ c + 3 ≤ σ'.clk ∧ σ'.ls = σ.ls ∧ ∀ s : Key, s.2 < c → σ'.bs s = σ.bs s) (i0 := 0) (Nat.zero_le _) ?_ ?_ ?_
  · refine ⟨?_, ?_, ?_, ?_, ?_, ?_, ⟨.nil, ?_, .inl ⟨rfl, rfl⟩⟩, ?_, ?_, fun s hs => ?_⟩ <;> simp only [hc, false_iff, true_iff, RB_t, RB_f, RB_b, List.getElem?_cons_zero, List.getElem?_cons_succ, List.set_cons_succ, frV, klV, Nat.reduceLT, Nat.reduceSub, eqCells, encT, encN, encP, encA, allP, allA, allN, spN, Nat.reduceBEq, Int.toNat_natCast, evI_wr, wrOk, keysT, keysA, ne_eq, not_false_eq_true, fxa, fxc, if_true, if_false, ite_self, spS, LQ_norm, LQ_exit, LQ_ret, evO, evR, cellsT, ldCells, mkT, lenA, binPV, Env.init, resVs, resV, resT, Nat.reduceEqDiff, Nat.reduceAdd, Nat.reduceLeDiff, reduceCtorEq, frTs, frT, klTs, klT, frL, ownT, intT, O.adds, ownA, evO.bslRows, rowsA, over, fillA, Nat.reduceMul, klL]
    all_goals first | rfl | omega | skip
    simp only [hold hs, hold0 hs, Nat.add_assoc, if_false]
  · rintro i e σ' hi ⟨e1, e2, e3, e4, s1, s2, ⟨x, s3, hx⟩, hclk, hls, hs⟩
    obtain ⟨y, hy⟩ : ∃ y, n.ns[i]? = some y := ⟨_, List.getElem?_eq_getElem hi⟩
    have hy' := mapGet encN hy
    have hlt : ((i : Nat) : Int) < (n.ns.length : Int) := by omega
    have hge : (0 : Int) ≤ ((i : Nat) : Int) := by omega
    have htk : (n.ns.take (i + 1)).map encN = (n.ns.take i).map encN ++ [encN y] := by rw [List.take_add_one, hy]; simp
    have hb : (i + 1) * 88 ≤ 140737488355328 := by omega
    have hlen : (List.take i n.ns).length = i := by rw [List.length_take]; omega
    have hold' : ∀ {s : Key} {d : Nat}, s.2 < c → ¬ s = (d, σ'.clk) ∧ ¬ s = (d, σ'.clk + 1) := by rintro s d hs; exact ⟨by rintro rfl; simp at hs; omega, by rintro rfl; simp at hs; omega⟩
    have hne1 : ∀ d : Nat, ¬ c = σ'.clk ∧ ¬ c = σ'.clk + 1 ∧ ¬ c + 1 = σ'.clk ∧ ¬ c + 1 = σ'.clk + 1 ∧ ¬ c + 1 + 1 = σ'.clk ∧ ¬ c + 1 + 1 = σ'.clk + 1 := by intro d; omega
    rcases hx with ⟨rfl, rfl⟩ | ⟨q, rfl, hq, hq1, hq2⟩
    · simp only [F36b0, e1, e2, e3, e4, s1, s2, s3, hlt, hge, hy', Int.toNat_natCast, Nat.zero_add, Nat.one_mul, Nat.reduceLeDiff, false_iff, true_iff, RB_t, RB_f, RB_b, List.getElem?_cons_zero, List.getElem?_cons_succ, List.set_cons_succ, frV, klV, Nat.reduceLT, Nat.reduceSub, eqCells, encT, encN, encP, encA, allP, allA, allN, spN, Nat.reduceBEq, Int.toNat_natCast, evI_wr, wrOk, keysT, keysA, ne_eq, not_false_eq_true, fxa, fxc, if_true, if_false, ite_self, spS, LQ_norm, LQ_exit, LQ_ret, evO, evR, cellsT, ldCells, mkT, lenA, binPV, Env.init, resVs, resV, resT, Nat.reduceEqDiff, Nat.reduceAdd, Nat.reduceLeDiff, reduceCtorEq, frTs, frT, klTs, klT, frL, ownT, intT, O.adds, ownA, evO.bslRows, rowsA, over, fillA, Nat.reduceMul, klL]
      refine ⟨by rw [wrap_succ 0 (by omega)], ⟨.own (23, σ'.clk + 1) 0 1, rfl, .inr ⟨σ'.clk + 1, rfl, ?_, by omega, by omega⟩⟩, by omega, hls, fun s h => ?_⟩
      · rw [htk]; simp [encN]
      · have h3 : ¬ s = (3, c + 1 + 1) := by rintro rfl; simp at h; omega
        simp only [(hold' (d := 22) h).1, (hold' (d := 23) h).2, h3, if_false]; exact hs s h
    · have h1 : ¬ q = σ'.clk := by omega
      have h2 : ¬ q = σ'.clk + 1 := by omega
      have hle : i ≤ ((n.ns.take i).map encN).length := by simp; omega
      have htk2 : List.take i ((n.ns.take i).map encN) = (n.ns.take i).map encN := List.take_of_length_le (by simp; omega)
      simp only [F36b0, e1, e2, e3, e4, s1, s2, s3, hq, hlt, hge, hy', hb, hlen, h1, h2, htk2, List.length_map, Nat.le_refl, Int.toNat_natCast, Nat.zero_add, Nat.one_mul, Nat.reduceLeDiff, false_iff, true_iff, RB_t, RB_f, RB_b, List.getElem?_cons_zero, List.getElem?_cons_succ, List.set_cons_succ, frV, klV, Nat.reduceLT, Nat.reduceSub, eqCells, encT, encN, encP, encA, allP, allA, allN, spN, Nat.reduceBEq, Int.toNat_natCast, evI_wr, wrOk, keysT, keysA, ne_eq, not_false_eq_true, fxa, fxc, if_true, if_false, ite_self, spS, LQ_norm, LQ_exit, LQ_ret, evO, evR, cellsT, ldCells, mkT, lenA, binPV, Env.init, resVs, resV, resT, Nat.reduceEqDiff, Nat.reduceAdd, Nat.reduceLeDiff, reduceCtorEq, frTs, frT, klTs, klT, frL, ownT, intT, O.adds, ownA, evO.bslRows, rowsA, over, fillA, Nat.reduceMul, klL]
      refine ⟨by rw [wrap_succ i (by omega)], ⟨.own (23, σ'.clk + 1) 0 (i + 1), rfl, .inr ⟨σ'.clk + 1, rfl, ?_, by omega, by omega⟩⟩, by omega, hls, fun s h => ?_⟩
      · rw [htk]; simp [encN]
      · have h3 : ¬ s = (3, c + 1 + 1) := by rintro rfl; simp at h; omega
        have h4 : ¬ s = (23, q) := by rintro rfl; simp at h; omega
        simp only [(hold' (d := 22) h).1, (hold' (d := 23) h).2, h3, h4, if_false]; exact hs s h
  · rintro e σ' ⟨e1, e2, e3, e4, s1, s2, ⟨x, s3, hx⟩, hclk, hls, hs⟩
    have hlt : ¬ ((n.ns.length : Nat) : Int) < (n.ns.length : Int) := by omega
    rcases hx with ⟨h0, _⟩ | ⟨q, rfl, hq, hq1, hq2⟩
    · omega
    · rw [List.take_length] at hq
      simp only [F36b0, e1, e2, e3, e4, s1, s2, s3, hq, hlt, false_iff, true_iff, RB_t, RB_f, RB_b, List.getElem?_cons_zero, List.getElem?_cons_succ, List.set_cons_succ, frV, klV, Nat.reduceLT, Nat.reduceSub, eqCells, encT, encN, encP, encA, allP, allA, allN, spN, Nat.reduceBEq, Int.toNat_natCast, evI_wr, wrOk, keysT, keysA, ne_eq, not_false_eq_true, fxa, fxc, if_true, if_false, ite_self, spS, LQ_norm, LQ_exit, LQ_ret, evO, evR, cellsT, ldCells, mkT, lenA, binPV, Env.init, resVs, resV, resT, Nat.reduceEqDiff, Nat.reduceAdd, Nat.reduceLeDiff, reduceCtorEq, frTs, frT, klTs, klT, frL, ownT, intT, O.adds, ownA, evO.bslRows, rowsA, over, fillA, Nat.reduceMul, klL]
      refine ⟨(23, q), rfl, ?_, by simp; omega, by simpa using hq2, hls, fun s h => ?_⟩
      · rw [if_neg (by simp)]; exact hq
      · have h2 : ¬ s = (2, c + 1) := by rintro rfl; simp at h; omega
        simp only [h2, if_false]; exact hs s h

theorem Rto_ok {n : Nt} {p : Pt} (h : n.has p = true) : eP S 43 [.g (encT n), .g (encP p)] = some (.g (encP (n.lk p))) := by
  have hp := has_iff.1 h
  have g := getN (l := n.ns) hp.1 hp.2.1
  have g2 := getP (l := (n.nd p.n).to) hp.2.2.1 hp.2.2.2
  have h4 := hp.2.2.2
  simp only [Nt.nd] at h4 g2
  refine x_fn (orcS (by decide)) (fc := F43) rfl rfl ?_
  simp only [F43, Nt.lk, Nt.nd, Nd.tt, hp.1, hp.2.1, hp.2.2.1, h4, g, g2, false_iff, true_iff, RB_t, RB_f, RB_b, List.getElem?_cons_zero, List.getElem?_cons_succ, List.set_cons_succ, frV, klV, Nat.reduceLT, Nat.reduceSub, eqCells, encT, encN, encP, encA, allP, allA, allN, spN, Nat.reduceBEq, Int.toNat_natCast, evI_wr, wrOk, keysT, keysA, ne_eq, not_false_eq_true, fxa, fxc, if_true, if_false, ite_self, spS, LQ_norm, LQ_exit, LQ_ret, evO, evR, cellsT, ldCells, mkT, lenA, binPV, Env.init, resVs, resV, resT, Nat.reduceEqDiff, Nat.reduceAdd, Nat.reduceLeDiff, reduceCtorEq, frTs, frT, klTs, klT, frL, ownT, intT, O.adds, ownA, evO.bslRows, rowsA, over, fillA, Nat.reduceMul, klL]

theorem RPeer_ok (n : Nt) (p : Pt) : eP S 16 [.g (encT n), .g (encP p)] = some (.t [(true, encP (if n.has p then n.lk p else zP)), (false, [.i .i64 (if n.has p then 0 else 130)])]) := by
  have a1 := Has_ok n p
  refine x_fn (orcS (by decide)) (fc := F16) rfl rfl ?_
  simp only [encT, encP] at a1
  cases h1 : n.has p with
  | false =>
    rw [h1] at a1
    simp only [F16, a1, zP, Bool.false_eq_true, false_iff, true_iff, RB_t, RB_f, RB_b, List.getElem?_cons_zero, List.getElem?_cons_succ, List.set_cons_succ, frV, klV, Nat.reduceLT, Nat.reduceSub, eqCells, encT, encN, encP, encA, allP, allA, allN, spN, Nat.reduceBEq, Int.toNat_natCast, evI_wr, wrOk, keysT, keysA, ne_eq, not_false_eq_true, fxa, fxc, if_true, if_false, ite_self, spS, LQ_norm, LQ_exit, LQ_ret, evO, evR, cellsT, ldCells, mkT, lenA, binPV, Env.init, resVs, resV, resT, Nat.reduceEqDiff, Nat.reduceAdd, Nat.reduceLeDiff, reduceCtorEq, frTs, frT, klTs, klT, frL, ownT, intT, O.adds, ownA, evO.bslRows, rowsA, over, fillA, Nat.reduceMul, klL]
  | true =>
    have a2 := Rto_ok h1
    rw [h1] at a1
    simp only [encT, encP] at a2
    simp only [F16, a1, a2, false_iff, true_iff, RB_t, RB_f, RB_b, List.getElem?_cons_zero, List.getElem?_cons_succ, List.set_cons_succ, frV, klV, Nat.reduceLT, Nat.reduceSub, eqCells, encT, encN, encP, encA, allP, allA, allN, spN, Nat.reduceBEq, Int.toNat_natCast, evI_wr, wrOk, keysT, keysA, ne_eq, not_false_eq_true, fxa, fxc, if_true, if_false, ite_self, spS, LQ_norm, LQ_exit, LQ_ret, evO, evR, cellsT, ldCells, mkT, lenA, binPV, Env.init, resVs, resV, resT, Nat.reduceEqDiff, Nat.reduceAdd, Nat.reduceLeDiff, reduceCtorEq, frTs, frT, klTs, klT, frL, ownT, intT, O.adds, ownA, evO.bslRows, rowsA, over, fillA, Nat.reduceMul, klL]

theorem Rset_ok {n : Nt} {p : Pt} (q : Pt) (hn : n.Ok) (h : n.has p = true) : eP S 45 [.g (encT n), .g (encP p), .g (encP q)] = some (.g (encT (n.set p q))) := by
  have hp := has_iff.1 h
  have g := getN (l := n.ns) hp.1 hp.2.1
  have hx : (n.nd p.n).Ok := hn.nd _ (nd_mem hp.1 hp.2.1)
  have hto := hx.to
  have hns := hn.ns
  have h4 := hp.2.2.2
  have g2 := getP (l := (n.nd p.n).to) hp.2.2.1 h4
  obtain ⟨σ0, hσ0⟩ : ∃ σ0, σ0 = (((St.empty.add 3 (.var ((encT n).map .p))).add 4 (.var ((encP p).map .p))).add 5 (.var ((encP q).map .p))).add 6 (.var [.nil, .p (.i .i64 0)]) := ⟨_, rfl⟩
  obtain ⟨v, σ1, hcall, k, rfl, sk, hk1, hk2, hls, hold⟩ := RCopy_ok (n := n) (by simpa using hns) (by intro h; rw [h] at hp; simp at hp; omega) σ0
  have hclk : σ0.clk = 4 := by rw [hσ0]; rfl
  rw [hclk] at hk1 hold
  have s3 : σ1.bs (3, 0) = some (.var ((encT n).map .p)) := by rw [hold _ (by simp), hσ0]; simp [add_bs, add_clk, empty_clk]
  have s4 : σ1.bs (4, 1) = some (.var ((encP p).map .p)) := by rw [hold _ (by simp), hσ0]; simp [add_bs, add_clk, empty_clk]
  have s5 : σ1.bs (5, 2) = some (.var ((encP q).map .p)) := by rw [hold _ (by simp), hσ0]; simp [add_bs, add_clk, empty_clk]
  have s6 : σ1.bs (6, 3) = some (.var [.nil, .p (.i .i64 0)]) := by rw [hold _ (by simp), hσ0]; simp [add_bs, add_clk, empty_clk]
  rw [hσ0] at hcall
  obtain ⟨x, hxe⟩ : ∃ x, n.ns.getD p.n.toNat zN = x := ⟨_, rfl⟩
  simp only [Nt.nd, hxe] at h4 g g2 hto
  simp only [encT, encP, List.map_cons, List.map_nil, List.length_map] at hcall s3 s4 s5 s6
  obtain ⟨c, hc⟩ : ∃ c, σ1.clk = c := ⟨_, rfl⟩
  have n1 : ∀ d j : Nat, ¬ k = (d, c + j) := by rintro d j rfl; simp at hk2; omega
  have n1' : ∀ d i j : Nat, ¬ k = (d, c + i + j) := by rintro d i j rfl; simp at hk2; omega
  have n5' : ∀ d i j : Nat, ¬ (d, c + i + j) = k := fun d i j e => n1' d i j e.symm
  have n2 : ∀ d : Nat, ¬ k = (d, c) := by rintro d rfl; simp at hk2; omega
  have n3 : ¬ k = (3, 0) ∧ ¬ k = (4, 1) ∧ ¬ k = (5, 2) ∧ ¬ k = (6, 3) := by refine ⟨?_, ?_, ?_, ?_⟩ <;> (rintro rfl; simp at hk1)
  have n7 : ¬ (3, 0) = k ∧ ¬ (4, 1) = k ∧ ¬ (5, 2) = k ∧ ¬ (6, 3) = k := ⟨fun e => n3.1 e.symm, fun e => n3.2.1 e.symm, fun e => n3.2.2.1 e.symm, fun e => n3.2.2.2 e.symm⟩
  have n4 : ¬ 0 = c ∧ ¬ 1 = c ∧ ¬ 2 = c ∧ ¬ 3 = c := by omega
  have n5 : ∀ d j : Nat, ¬ (d, c + j) = k := fun d j e => n1 d j e.symm
  have n6 : ∀ d : Nat, ¬ (d, c) = k := fun d e => n2 d e.symm
  have hlt0 : p.n.toNat < n.ns.length := by omega
  have htk : List.take x.to.length (x.to.map encP) = x.to.map encP := List.take_of_length_le (by simp)
  have hset : ∀ r : List PV, List.take x.to.length ((x.to.map encP).set p.s.toNat r) = (x.to.map encP).set p.s.toNat r := fun r => List.take_of_length_le (by simp)
  have hset2 : ∀ r : List PV, List.take n.ns.length ((n.ns.map encN).set p.n.toNat r) = (n.ns.map encN).set p.n.toNat r := fun r => List.take_of_length_le (by simp)
  have htk0 : List.take n.ns.length (n.ns.map encN) = n.ns.map encN := List.take_of_length_le (by simp)
  refine x_fn (orcS (by decide)) (fc := F45) rfl rfl ?_
  simp only [F45, hcall, hc, sk, s3, s4, s5, s6, hp.1, hp.2.1, hp.2.2.1, h4, g, g2, n1, n1', n5', n2, n3.1, n3.2.1, n3.2.2.1, n3.2.2.2, n7.1, n7.2.1, n7.2.2.1, n7.2.2.2, n4.1, n4.2.1, n4.2.2.1, n4.2.2.2, n5, n6, htk, hset, hset2, htk0, rowK, hto, hlt0, List.length_set, List.length_map, Nat.le_refl, Nat.zero_add, Nat.zero_le, Nat.zero_mul, List.all_nil, ne_eq, not_false_eq_true, false_iff, true_iff, RB_t, RB_f, RB_b, List.getElem?_cons_zero, List.getElem?_cons_succ, List.set_cons_succ, frV, klV, Nat.reduceLT, Nat.reduceSub, eqCells, encT, encN, encP, encA, allP, allA, allN, spN, Nat.reduceBEq, Int.toNat_natCast, evI_wr, wrOk, keysT, keysA, ne_eq, not_false_eq_true, fxa, fxc, if_true, if_false, ite_self, spS, LQ_norm, LQ_exit, LQ_ret, evO, evR, cellsT, ldCells, mkT, lenA, binPV, Env.init, resVs, resV, resT, Nat.reduceEqDiff, Nat.reduceAdd, Nat.reduceLeDiff, reduceCtorEq, frTs, frT, klTs, klT, frL, ownT, intT, O.adds, ownA, evO.bslRows, rowsA, over, fillA, Nat.reduceMul, klL]
  simp only [Nt.set, Nt.nd, hxe, List.map_set, encN, encP]

theorem RLink_ok {n : Nt} {p q : Pt} (hn : n.Ok) (hp : wf p.n ∧ wf p.s) (hq : wf q.n ∧ wf q.s) : eP S 18 [.g (encT n), .g (encP p), .g (encP q)] = some (encTE (linkR n p q)) := by
  have a1 := Has_ok n p
  have a1' := Has_ok n q
  refine x_fn (orcS (by decide)) (fc := F18) rfl rfl ?_
  simp only [encT, encP] at a1 a1'
  unfold linkR
  cases h1 : n.has p with
  | false => rw [h1] at a1; simp only [F18, a1, encTE, Bool.false_eq_true, false_iff, true_iff, RB_t, RB_f, RB_b, List.getElem?_cons_zero, List.getElem?_cons_succ, List.set_cons_succ, frV, klV, Nat.reduceLT, Nat.reduceSub, eqCells, encT, encN, encP, encA, allP, allA, allN, spN, Nat.reduceBEq, Int.toNat_natCast, evI_wr, wrOk, keysT, keysA, ne_eq, not_false_eq_true, fxa, fxc, if_true, if_false, ite_self, spS, LQ_norm, LQ_exit, LQ_ret, evO, evR, cellsT, ldCells, mkT, lenA, binPV, Env.init, resVs, resV, resT, Nat.reduceEqDiff, Nat.reduceAdd, Nat.reduceLeDiff, reduceCtorEq, frTs, frT, klTs, klT, frL, ownT, intT, O.adds, ownA, evO.bslRows, rowsA, over, fillA, Nat.reduceMul, klL]
  | true =>
  cases h1' : n.has q with
  | false => rw [h1] at a1; rw [h1'] at a1'; simp only [F18, a1, a1', encTE, Bool.false_eq_true, false_iff, true_iff, RB_t, RB_f, RB_b, List.getElem?_cons_zero, List.getElem?_cons_succ, List.set_cons_succ, frV, klV, Nat.reduceLT, Nat.reduceSub, eqCells, encT, encN, encP, encA, allP, allA, allN, spN, Nat.reduceBEq, Int.toNat_natCast, evI_wr, wrOk, keysT, keysA, ne_eq, not_false_eq_true, fxa, fxc, if_true, if_false, ite_self, spS, LQ_norm, LQ_exit, LQ_ret, evO, evR, cellsT, ldCells, mkT, lenA, binPV, Env.init, resVs, resV, resT, Nat.reduceEqDiff, Nat.reduceAdd, Nat.reduceLeDiff, reduceCtorEq, frTs, frT, klTs, klT, frL, ownT, intT, O.adds, ownA, evO.bslRows, rowsA, over, fillA, Nat.reduceMul, klL]
  | true =>
    rw [h1] at a1
    rw [h1'] at a1'
    by_cases h2 : p = q
    · subst h2
      simp only [F18, a1, encTE, ptEq, Bool.false_eq_true, Bool.not_true, false_iff, true_iff, RB_t, RB_f, RB_b, List.getElem?_cons_zero, List.getElem?_cons_succ, List.set_cons_succ, frV, klV, Nat.reduceLT, Nat.reduceSub, eqCells, encT, encN, encP, encA, allP, allA, allN, spN, Nat.reduceBEq, Int.toNat_natCast, evI_wr, wrOk, keysT, keysA, ne_eq, not_false_eq_true, fxa, fxc, if_true, if_false, ite_self, spS, LQ_norm, LQ_exit, LQ_ret, evO, evR, cellsT, ldCells, mkT, lenA, binPV, Env.init, resVs, resV, resT, Nat.reduceEqDiff, Nat.reduceAdd, Nat.reduceLeDiff, reduceCtorEq, frTs, frT, klTs, klT, frL, ownT, intT, O.adds, ownA, evO.bslRows, rowsA, over, fillA, Nat.reduceMul, klL]
    · have a2 := Rset_ok q hn h1
      have a3 := Rset_ok p (Ok_set hn h1 hq) (by rw [has_set q q h1]; exact h1')
      simp only [encT, encP] at a2 a3
      simp only [F18, a1, a1', a2, a3, h2, encTE, ptEq, false_iff, true_iff, RB_t, RB_f, RB_b, List.getElem?_cons_zero, List.getElem?_cons_succ, List.set_cons_succ, frV, klV, Nat.reduceLT, Nat.reduceSub, eqCells, encT, encN, encP, encA, allP, allA, allN, spN, Nat.reduceBEq, Int.toNat_natCast, evI_wr, wrOk, keysT, keysA, ne_eq, not_false_eq_true, fxa, fxc, if_true, if_false, ite_self, spS, LQ_norm, LQ_exit, LQ_ret, evO, evR, cellsT, ldCells, mkT, lenA, binPV, Env.init, resVs, resV, resT, Nat.reduceEqDiff, Nat.reduceAdd, Nat.reduceLeDiff, reduceCtorEq, frTs, frT, klTs, klT, frL, ownT, intT, O.adds, ownA, evO.bslRows, rowsA, over, fillA, Nat.reduceMul, klL]

theorem RMove_ok {n : Nt} {p q : Pt} (hn : n.Ok) (hp : wf p.n ∧ wf p.s) (hq : wf q.n ∧ wf q.s) : eP S 20 [.g (encT n), .g (encP p), .g (encP q)] = some (encTE (moveR n p q)) := by
  have a0 := RPeer_ok n p
  have a1' := Has_ok n q
  refine x_fn (orcS (by decide)) (fc := F20) rfl rfl ?_
  unfold moveR
  cases h1 : n.has p with
  | false =>
    rw [h1] at a0
    simp only [encT, encP, Bool.false_eq_true, if_false] at a0
    simp only [F20, a0, encTE, Int.reduceEq, Bool.false_eq_true, false_iff, true_iff, RB_t, RB_f, RB_b, List.getElem?_cons_zero, List.getElem?_cons_succ, List.set_cons_succ, frV, klV, Nat.reduceLT, Nat.reduceSub, eqCells, encT, encN, encP, encA, allP, allA, allN, spN, Nat.reduceBEq, Int.toNat_natCast, evI_wr, wrOk, keysT, keysA, ne_eq, not_false_eq_true, fxa, fxc, if_true, if_false, ite_self, spS, LQ_norm, LQ_exit, LQ_ret, evO, evR, cellsT, ldCells, mkT, lenA, binPV, Env.init, resVs, resV, resT, Nat.reduceEqDiff, Nat.reduceAdd, Nat.reduceLeDiff, reduceCtorEq, frTs, frT, klTs, klT, frL, ownT, intT, O.adds, ownA, evO.bslRows, rowsA, over, fillA, Nat.reduceMul, klL]
  | true =>
  rw [h1] at a0
  simp only [encT, encP, if_true] at a0 a1'
  cases h1' : n.has q with
  | false => rw [h1'] at a1'; simp only [F20, a0, a1', encTE, Bool.false_eq_true, false_iff, true_iff, RB_t, RB_f, RB_b, List.getElem?_cons_zero, List.getElem?_cons_succ, List.set_cons_succ, frV, klV, Nat.reduceLT, Nat.reduceSub, eqCells, encT, encN, encP, encA, allP, allA, allN, spN, Nat.reduceBEq, Int.toNat_natCast, evI_wr, wrOk, keysT, keysA, ne_eq, not_false_eq_true, fxa, fxc, if_true, if_false, ite_self, spS, LQ_norm, LQ_exit, LQ_ret, evO, evR, cellsT, ldCells, mkT, lenA, binPV, Env.init, resVs, resV, resT, Nat.reduceEqDiff, Nat.reduceAdd, Nat.reduceLeDiff, reduceCtorEq, frTs, frT, klTs, klT, frL, ownT, intT, O.adds, ownA, evO.bslRows, rowsA, over, fillA, Nat.reduceMul, klL]
  | true =>
  rw [h1'] at a1'
  by_cases h2 : p = q
  · subst h2
    simp only [F20, a0, a1', encTE, ptEq, Bool.false_eq_true, Bool.not_true, false_iff, true_iff, RB_t, RB_f, RB_b, List.getElem?_cons_zero, List.getElem?_cons_succ, List.set_cons_succ, frV, klV, Nat.reduceLT, Nat.reduceSub, eqCells, encT, encN, encP, encA, allP, allA, allN, spN, Nat.reduceBEq, Int.toNat_natCast, evI_wr, wrOk, keysT, keysA, ne_eq, not_false_eq_true, fxa, fxc, if_true, if_false, ite_self, spS, LQ_norm, LQ_exit, LQ_ret, evO, evR, cellsT, ldCells, mkT, lenA, binPV, Env.init, resVs, resV, resT, Nat.reduceEqDiff, Nat.reduceAdd, Nat.reduceLeDiff, reduceCtorEq, frTs, frT, klTs, klT, frL, ownT, intT, O.adds, ownA, evO.bslRows, rowsA, over, fillA, Nat.reduceMul, klL]
  · have a3 := Has_ok n (n.lk p)
    simp only [encT, encP] at a3
    cases h3 : n.has (n.lk p) with
    | false => rw [h3] at a3; simp only [F20, a0, a1', a3, h2, encTE, ptEq, Bool.false_eq_true, false_iff, true_iff, RB_t, RB_f, RB_b, List.getElem?_cons_zero, List.getElem?_cons_succ, List.set_cons_succ, frV, klV, Nat.reduceLT, Nat.reduceSub, eqCells, encT, encN, encP, encA, allP, allA, allN, spN, Nat.reduceBEq, Int.toNat_natCast, evI_wr, wrOk, keysT, keysA, ne_eq, not_false_eq_true, fxa, fxc, if_true, if_false, ite_self, spS, LQ_norm, LQ_exit, LQ_ret, evO, evR, cellsT, ldCells, mkT, lenA, binPV, Env.init, resVs, resV, resT, Nat.reduceEqDiff, Nat.reduceAdd, Nat.reduceLeDiff, reduceCtorEq, frTs, frT, klTs, klT, frL, ownT, intT, O.adds, ownA, evO.bslRows, rowsA, over, fillA, Nat.reduceMul, klL]
    | true =>
      rw [h3] at a3
      by_cases h4 : n.lk p = q
      · subst h4
        simp only [F20, a0, a1', a3, h2, encTE, ptEq, Bool.false_eq_true, false_iff, true_iff, RB_t, RB_f, RB_b, List.getElem?_cons_zero, List.getElem?_cons_succ, List.set_cons_succ, frV, klV, Nat.reduceLT, Nat.reduceSub, eqCells, encT, encN, encP, encA, allP, allA, allN, spN, Nat.reduceBEq, Int.toNat_natCast, evI_wr, wrOk, keysT, keysA, ne_eq, not_false_eq_true, fxa, fxc, if_true, if_false, ite_self, spS, LQ_norm, LQ_exit, LQ_ret, evO, evR, cellsT, ldCells, mkT, lenA, binPV, Env.init, resVs, resV, resT, Nat.reduceEqDiff, Nat.reduceAdd, Nat.reduceLeDiff, reduceCtorEq, frTs, frT, klTs, klT, frL, ownT, intT, O.adds, ownA, evO.bslRows, rowsA, over, fillA, Nat.reduceMul, klL]
      · have a4 := RLink_ok hn hq (lk_wf hn h1)
        obtain ⟨m, hm⟩ : ∃ m, linkR n q (n.lk p) = m := ⟨_, rfl⟩
        obtain ⟨⟨ms, mc⟩, me⟩ := m
        rw [hm] at a4 ⊢
        simp only [encTE, encT, encP] at a4
        simp only [F20, a0, a1', a3, a4, h2, h4, encTE, ptEq, Bool.false_eq_true, false_iff, true_iff, RB_t, RB_f, RB_b, List.getElem?_cons_zero, List.getElem?_cons_succ, List.set_cons_succ, frV, klV, Nat.reduceLT, Nat.reduceSub, eqCells, encT, encN, encP, encA, allP, allA, allN, spN, Nat.reduceBEq, Int.toNat_natCast, evI_wr, wrOk, keysT, keysA, ne_eq, not_false_eq_true, fxa, fxc, if_true, if_false, ite_self, spS, LQ_norm, LQ_exit, LQ_ret, evO, evR, cellsT, ldCells, mkT, lenA, binPV, Env.init, resVs, resV, resT, Nat.reduceEqDiff, Nat.reduceAdd, Nat.reduceLeDiff, reduceCtorEq, frTs, frT, klTs, klT, frL, ownT, intT, O.adds, ownA, evO.bslRows, rowsA, over, fillA, Nat.reduceMul, klL]

theorem RJoin_ok {n : Nt} {p q : Pt} (hn : n.Ok) (hp : wf p.n ∧ wf p.s) (hq : wf q.n ∧ wf q.s) : eP S 22 [.g (encT n), .g (encP p), .g (encP q)] = some (encTE (joinR n p q)) := by
  have a0 := RPeer_ok n p
  have b0 := RPeer_ok n q
  refine x_fn (orcS (by decide)) (fc := F22) rfl rfl ?_
  unfold joinR
  cases h1 : n.has p with
  | false =>
    rw [h1] at a0
    cases h1' : n.has q with
    | false =>
      rw [h1'] at b0
      simp only [encT, encP, Bool.false_eq_true, if_false] at a0 b0
      simp only [F22, a0, b0, encTE, Int.reduceEq, Bool.false_eq_true, false_iff, true_iff, RB_t, RB_f, RB_b, List.getElem?_cons_zero, List.getElem?_cons_succ, List.set_cons_succ, frV, klV, Nat.reduceLT, Nat.reduceSub, eqCells, encT, encN, encP, encA, allP, allA, allN, spN, Nat.reduceBEq, Int.toNat_natCast, evI_wr, wrOk, keysT, keysA, ne_eq, not_false_eq_true, fxa, fxc, if_true, if_false, ite_self, spS, LQ_norm, LQ_exit, LQ_ret, evO, evR, cellsT, ldCells, mkT, lenA, binPV, Env.init, resVs, resV, resT, Nat.reduceEqDiff, Nat.reduceAdd, Nat.reduceLeDiff, reduceCtorEq, frTs, frT, klTs, klT, frL, ownT, intT, O.adds, ownA, evO.bslRows, rowsA, over, fillA, Nat.reduceMul, klL]
    | true =>
      rw [h1'] at b0
      simp only [encT, encP, Bool.false_eq_true, if_false, if_true] at a0 b0
      simp only [F22, a0, b0, encTE, Int.reduceEq, Bool.false_eq_true, false_iff, true_iff, RB_t, RB_f, RB_b, List.getElem?_cons_zero, List.getElem?_cons_succ, List.set_cons_succ, frV, klV, Nat.reduceLT, Nat.reduceSub, eqCells, encT, encN, encP, encA, allP, allA, allN, spN, Nat.reduceBEq, Int.toNat_natCast, evI_wr, wrOk, keysT, keysA, ne_eq, not_false_eq_true, fxa, fxc, if_true, if_false, ite_self, spS, LQ_norm, LQ_exit, LQ_ret, evO, evR, cellsT, ldCells, mkT, lenA, binPV, Env.init, resVs, resV, resT, Nat.reduceEqDiff, Nat.reduceAdd, Nat.reduceLeDiff, reduceCtorEq, frTs, frT, klTs, klT, frL, ownT, intT, O.adds, ownA, evO.bslRows, rowsA, over, fillA, Nat.reduceMul, klL]
  | true =>
  rw [h1] at a0
  cases h1' : n.has q with
  | false =>
    rw [h1'] at b0
    simp only [encT, encP, Bool.false_eq_true, if_false, if_true] at a0 b0
    simp only [F22, a0, b0, encTE, Int.reduceEq, Bool.false_eq_true, false_iff, true_iff, RB_t, RB_f, RB_b, List.getElem?_cons_zero, List.getElem?_cons_succ, List.set_cons_succ, frV, klV, Nat.reduceLT, Nat.reduceSub, eqCells, encT, encN, encP, encA, allP, allA, allN, spN, Nat.reduceBEq, Int.toNat_natCast, evI_wr, wrOk, keysT, keysA, ne_eq, not_false_eq_true, fxa, fxc, if_true, if_false, ite_self, spS, LQ_norm, LQ_exit, LQ_ret, evO, evR, cellsT, ldCells, mkT, lenA, binPV, Env.init, resVs, resV, resT, Nat.reduceEqDiff, Nat.reduceAdd, Nat.reduceLeDiff, reduceCtorEq, frTs, frT, klTs, klT, frL, ownT, intT, O.adds, ownA, evO.bslRows, rowsA, over, fillA, Nat.reduceMul, klL]
  | true =>
  rw [h1'] at b0
  simp only [encT, encP, if_true] at a0 b0
  by_cases h2 : p = q
  · subst h2
    simp only [F22, a0, b0, encTE, ptEq, Bool.false_eq_true, Bool.not_true, false_iff, true_iff, RB_t, RB_f, RB_b, List.getElem?_cons_zero, List.getElem?_cons_succ, List.set_cons_succ, frV, klV, Nat.reduceLT, Nat.reduceSub, eqCells, encT, encN, encP, encA, allP, allA, allN, spN, Nat.reduceBEq, Int.toNat_natCast, evI_wr, wrOk, keysT, keysA, ne_eq, not_false_eq_true, fxa, fxc, if_true, if_false, ite_self, spS, LQ_norm, LQ_exit, LQ_ret, evO, evR, cellsT, ldCells, mkT, lenA, binPV, Env.init, resVs, resV, resT, Nat.reduceEqDiff, Nat.reduceAdd, Nat.reduceLeDiff, reduceCtorEq, frTs, frT, klTs, klT, frL, ownT, intT, O.adds, ownA, evO.bslRows, rowsA, over, fillA, Nat.reduceMul, klL]
  · have a3 := Has_ok n (n.lk p)
    have b3 := Has_ok n (n.lk q)
    simp only [encT, encP] at a3 b3
    cases h3 : n.has (n.lk p) with
    | false => rw [h3] at a3; simp only [F22, a0, b0, a3, h2, encTE, ptEq, Bool.false_eq_true, false_iff, true_iff, RB_t, RB_f, RB_b, List.getElem?_cons_zero, List.getElem?_cons_succ, List.set_cons_succ, frV, klV, Nat.reduceLT, Nat.reduceSub, eqCells, encT, encN, encP, encA, allP, allA, allN, spN, Nat.reduceBEq, Int.toNat_natCast, evI_wr, wrOk, keysT, keysA, ne_eq, not_false_eq_true, fxa, fxc, if_true, if_false, ite_self, spS, LQ_norm, LQ_exit, LQ_ret, evO, evR, cellsT, ldCells, mkT, lenA, binPV, Env.init, resVs, resV, resT, Nat.reduceEqDiff, Nat.reduceAdd, Nat.reduceLeDiff, reduceCtorEq, frTs, frT, klTs, klT, frL, ownT, intT, O.adds, ownA, evO.bslRows, rowsA, over, fillA, Nat.reduceMul, klL]
    | true =>
    rw [h3] at a3
    cases h3' : n.has (n.lk q) with
    | false => rw [h3'] at b3; simp only [F22, a0, b0, a3, b3, h2, encTE, ptEq, Bool.false_eq_true, false_iff, true_iff, RB_t, RB_f, RB_b, List.getElem?_cons_zero, List.getElem?_cons_succ, List.set_cons_succ, frV, klV, Nat.reduceLT, Nat.reduceSub, eqCells, encT, encN, encP, encA, allP, allA, allN, spN, Nat.reduceBEq, Int.toNat_natCast, evI_wr, wrOk, keysT, keysA, ne_eq, not_false_eq_true, fxa, fxc, if_true, if_false, ite_self, spS, LQ_norm, LQ_exit, LQ_ret, evO, evR, cellsT, ldCells, mkT, lenA, binPV, Env.init, resVs, resV, resT, Nat.reduceEqDiff, Nat.reduceAdd, Nat.reduceLeDiff, reduceCtorEq, frTs, frT, klTs, klT, frL, ownT, intT, O.adds, ownA, evO.bslRows, rowsA, over, fillA, Nat.reduceMul, klL]
    | true =>
      rw [h3'] at b3
      by_cases h4 : n.lk p = q
      · subst h4
        simp only [F22, a0, b0, a3, b3, h2, encTE, ptEq, Bool.false_eq_true, false_iff, true_iff, RB_t, RB_f, RB_b, List.getElem?_cons_zero, List.getElem?_cons_succ, List.set_cons_succ, frV, klV, Nat.reduceLT, Nat.reduceSub, eqCells, encT, encN, encP, encA, allP, allA, allN, spN, Nat.reduceBEq, Int.toNat_natCast, evI_wr, wrOk, keysT, keysA, ne_eq, not_false_eq_true, fxa, fxc, if_true, if_false, ite_self, spS, LQ_norm, LQ_exit, LQ_ret, evO, evR, cellsT, ldCells, mkT, lenA, binPV, Env.init, resVs, resV, resT, Nat.reduceEqDiff, Nat.reduceAdd, Nat.reduceLeDiff, reduceCtorEq, frTs, frT, klTs, klT, frL, ownT, intT, O.adds, ownA, evO.bslRows, rowsA, over, fillA, Nat.reduceMul, klL]
      · have a4 := RLink_ok hn (lk_wf hn h1) (lk_wf hn h1')
        obtain ⟨m, hm⟩ : ∃ m, linkR n (n.lk p) (n.lk q) = m := ⟨_, rfl⟩
        obtain ⟨⟨ms, mc⟩, me⟩ := m
        rw [hm] at a4 ⊢
        simp only [encTE, encT, encP] at a4
        simp only [F22, a0, b0, a3, b3, a4, h2, h4, encTE, ptEq, Bool.false_eq_true, false_iff, true_iff, RB_t, RB_f, RB_b, List.getElem?_cons_zero, List.getElem?_cons_succ, List.set_cons_succ, frV, klV, Nat.reduceLT, Nat.reduceSub, eqCells, encT, encN, encP, encA, allP, allA, allN, spN, Nat.reduceBEq, Int.toNat_natCast, evI_wr, wrOk, keysT, keysA, ne_eq, not_false_eq_true, fxa, fxc, if_true, if_false, ite_self, spS, LQ_norm, LQ_exit, LQ_ret, evO, evR, cellsT, ldCells, mkT, lenA, binPV, Env.init, resVs, resV, resT, Nat.reduceEqDiff, Nat.reduceAdd, Nat.reduceLeDiff, reduceCtorEq, frTs, frT, klTs, klT, frL, ownT, intT, O.adds, ownA, evO.bslRows, rowsA, over, fillA, Nat.reduceMul, klL]
end Go.Proofs.Ytgdaanehmdgmeaa
