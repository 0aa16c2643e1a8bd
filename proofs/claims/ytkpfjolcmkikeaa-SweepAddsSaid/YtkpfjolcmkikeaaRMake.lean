/- The document's making of a node (without alternatives). -/
import Derived.Test.YtkpfjolcmkikeaaRCopy
import Derived.Test.YtkpfjolcmkikeaaStoreP
import Derived.Test.YtkpfjolcmkikeaaNet3
import Derived.Test.YtkpfjolcmkikeaaFb
set_option linter.unusedSimpArgs false
set_option linter.unusedVariables false
set_option maxHeartbeats 4000000
set_option maxRecDepth 10000
namespace Go.Proofs.Ytkpfjolcmkikeaa
open Go.Fx

theorem RMake_ok {n : Nt} {x : Nd} (hn : n.Ok) (hb : (n.ns.length + 1) * 88 ≤ 140737488355328) (hne : n.ns ≠ []) (hx : x.Ok) (hal : x.al = []) (hto : x.to = []) (hk : ¬ x.k < 2) (hmay : x.may) (hfull : ¬ n.used ≥ n.cap) (σ : St) :
    ∃ v σ', eS S (.f 33) [.g ((encT n).map .p), .g [.p (.i .i64 x.k), .p (.i .i64 x.lv), .p (.i .i64 x.n), .p (.s x.s), .nil, .nil]] σ = some (v, σ') ∧ ∃ k : Key, v = .t [(true, [.own k 0 (n.make x).ns.length, .p (.i .i64 n.cap)]), (false, [.p (.i .i64 (n.at : Nat))]), (false, [.p (.i .i64 0)])] ∧
      σ'.bs k = some (.row 6 41 ((n.make x).ns.map encN)) ∧ σ.clk ≤ k.2 ∧ k.2 < σ'.clk ∧ σ'.ls = σ.ls ∧ ∀ s : Key, s.2 < σ.clk → σ'.bs s = σ.bs s := by
  refine x_fnS (fc := F33) rfl rfl ?_
  obtain ⟨c, hc⟩ : ∃ c, σ.clk = c := ⟨_, rfl⟩
  have c1 := RNode_ok hx
  have c2 := RUsed_ok hn
  have c3 := RPorts_ok hx
  rw [bool_t hmay] at c1
  have hpb := ports_b hx
  obtain ⟨σ0, hσ0⟩ : ∃ σ0, σ0 = ((σ.add 2 (.var ((encT n).map .p))).add 3 (.var [.p (.i .i64 x.k), .p (.i .i64 x.lv), .p (.i .i64 x.n), .p (.s x.s), .nil, .nil])).add 4 (.var [.nil, .p (.i .i64 0)]) := ⟨_, rfl⟩
  obtain ⟨_, σ1, c4, k, rfl, hk1, hk2, hk3, hk4, hk5⟩ := RCopy_ok (n := n) (by omega) hne σ0
  have hcl0 : σ0.clk = c + 3 := by rw [hσ0]; simp only [add_clk]; omega
  have b2 := hk5 (2, c) (by simp only; omega)
  have b3 := hk5 (3, c + 1) (by simp only; omega)
  have b4 := hk5 (4, c + 2) (by simp only; omega)
  have b0 : ∀ s : Key, s.2 < c → σ1.bs s = σ.bs s := by
    intro s hs
    rw [hk5 s (by omega), hσ0]
    have h2 : ¬ s = (2, σ.clk) := by rintro rfl; simp at hs; omega
    have h3 : ¬ s = (3, σ.clk + 1) := by rintro rfl; simp at hs; omega
    have h4 : ¬ s = (4, σ.clk + 1 + 1) := by rintro rfl; simp at hs; omega
    simp only [add_bs, add_clk, h2, h3, h4, if_false]
  have d2 : σ0.bs (2, c) = some (.var ((encT n).map .p)) := by rw [hσ0]; simp [add_bs, add_clk, hc]
  have d3 : σ0.bs (3, c + 1) = some (.var [.p (.i .i64 x.k), .p (.i .i64 x.lv), .p (.i .i64 x.n), .p (.s x.s), .nil, .nil]) := by rw [hσ0]; simp [add_bs, add_clk, hc]
  have b2' : σ1.bs (2, c) = some (.var ((encT n).map .p)) := by rw [b2, hσ0]; simp [add_bs, add_clk, hc]
  have b3' : σ1.bs (3, c + 1) = some (.var [.p (.i .i64 x.k), .p (.i .i64 x.lv), .p (.i .i64 x.n), .p (.s x.s), .nil, .nil]) := by rw [b3, hσ0]; simp [add_bs, add_clk, hc]
  have b4' : σ1.bs (4, c + 2) = some (.var [.nil, .p (.i .i64 0)]) := by rw [b4, hσ0]; simp [add_bs, add_clk, hc]
  have hls1 : σ1.ls = σ.ls := by rw [hk4, hσ0]; rfl
  obtain ⟨c5, hc5⟩ : ∃ c5, σ1.clk = c5 := ⟨_, rfl⟩
  rw [hcl0] at hk2
  rw [hc5] at hk3
  obtain ⟨kd, kc⟩ := k
  simp only at hk2 hk3
  simp only [encT, encN, hal, hto, List.map_cons, List.map_nil] at c1 c2 c3 c4 b2' b3' d2 d3 hσ0
  have hfr : x.fresh = { x with to := List.replicate x.ports.toNat zP } := rfl
  have hrep : List.replicate x.ports.toNat [PV.i IntKind.i64 0, PV.i IntKind.i64 0] = (List.replicate x.ports.toNat zP).map encP := by simp [encP, zP]
  have hpr : (0 ≤ x.ports ∧ x.ports ≤ x.ports ∧ x.ports * ((16 : Nat) : Int) ≤ 140737488355328) = True := by simp; omega
  simp only [F33, encT, encN, hal, hto, hc, List.map_cons, List.map_nil, hk, c1, c2, hfull, ← hσ0, c4, hc5, d2, d3, b2', b3', b4', c3, hpr, hrep, Nat.zero_add, Nat.one_mul, Nat.reduceLeDiff, fxa, fxc, fxE, fxL, fxI, nxE, evO, evR, cellsT, ldCells, mkT, lenA, binPV, Env.init, resV, resT, frT, klT, ownT, intT, O.adds, ownA, rowsA, over, wrOk, keysT, keysA, ne_eq, if_true, if_false, ite_self, Nat.reduceLT, Nat.reduceSub, Nat.reduceBEq, Nat.reduceEqDiff, Nat.reduceAdd, Nat.reduceLeDiff, reduceCtorEq, Nat.reduceMul]
  obtain ⟨R, hR⟩ : ∃ R, R = (List.replicate x.ports.toNat zP).map encP := ⟨_, rfl⟩
  have hencf : encN x.fresh = [.i .i64 x.k, .i .i64 x.lv, .i .i64 x.n, .s x.s, .l [], .l R] := by rw [hfr, hR]; simp only [encN, hal, hto, List.map_nil]
  rw [← hR]
  have nk : ¬ kc = c5 + 1 ∧ ¬ kc = c5 + 1 + 1 ∧ ¬ kc = c5 + 1 + 1 + 1 := by omega
  have nk0 : ¬ kc = c5 := by omega
  have nc : ¬ c + 1 = c5 + 1 ∧ ¬ c + 1 + 1 = c5 + 1 ∧ ¬ c + 1 = c5 + 1 + 1 ∧ ¬ c + 1 + 1 = c5 + 1 + 1 ∧ ¬ c + 1 = c5 + 1 + 1 + 1 ∧ ¬ c + 1 + 1 = c5 + 1 + 1 + 1 := by omega
  have nc0 : ¬ c + 1 = c5 ∧ ¬ c + 1 + 1 = c5 := by omega
  have nkc : ¬ c5 + 1 + 1 + 1 = kc ∧ ¬ kc = c + 1 ∧ ¬ kc = c + 1 + 1 ∧ ¬ c + 1 = kc ∧ ¬ c + 1 + 1 = kc ∧ ¬ c5 = kc := by omega
  refine loop_nat n.ns.length (fun i e τ => e 2 = .a (.ptr (2, c) 0 0) ∧ e 3 = .a (.ptr (3, c + 1) 0 0) ∧ e 4 = .a (.ptr (4, c + 1 + 1) 0 0) ∧ e 7 = .a (.ptr (7, c5) 0 0) ∧ e 8 = .a (.p (.i .i64 (i : Nat))) ∧
    τ.bs (3, c + 1) = some (.var [.p (.i .i64 x.k), .p (.i .i64 x.lv), .p (.i .i64 x.n), .p (.s x.s), .own (33, c5 + 1 + 1 + 1) 0 0, .p (.l R)]) ∧ τ.bs (33, c5 + 1 + 1 + 1) = some (.row 2 79 []) ∧
    τ.bs (7, c5) = some (.var [.own (kd, kc) 0 n.ns.length, .p (.i .i64 n.cap)]) ∧ τ.bs (kd, kc) = some (.row 6 41 (n.ns.map encN)) ∧ τ.bs (4, c + 1 + 1) = some (.var [.nil, .p (.i .i64 0)]) ∧
    c5 + 4 ≤ τ.clk ∧ τ.ls = σ.ls ∧ (∀ s : Key, s.2 < c → τ.bs s = σ.bs s) ∧ ∀ j, j < i → ∀ y, n.ns[j]? = some y → isFree y = false) (i0 := 0) (Nat.zero_le _) ?_ ?_ ?_
  · refine ⟨?_, ?_, ?_, ?_, ?_, ?_, ?_, ?_, ?_, ?_, ?_, ?_, fun s hs => ?_, fun j hj => by omega⟩
    all_goals first
      | (simp only [hc5, nk, nk0, nc, nc0, nkc, b2', b3', b4', hk1, hls1, fxa, fxc, fxE, fxL, fxI, nxE, evO, evR, cellsT, ldCells, mkT, lenA, binPV, Env.init, resV, resT, frT, klT, ownT, intT, O.adds, ownA, rowsA, over, wrOk, keysT, keysA, ne_eq, if_true, if_false, ite_self, Nat.reduceLT, Nat.reduceSub, Nat.reduceBEq, Nat.reduceEqDiff, Nat.reduceAdd, Nat.reduceLeDiff, reduceCtorEq, Nat.reduceMul]; done)
      | (simp only [hc5, nk, nk0, nc, nc0, nkc, b2', b3', b4', hk1, hls1, fxa, fxc, fxE, fxL, fxI, nxE, evO, evR, cellsT, ldCells, mkT, lenA, binPV, Env.init, resV, resT, frT, klT, ownT, intT, O.adds, ownA, rowsA, over, wrOk, keysT, keysA, ne_eq, if_true, if_false, ite_self, Nat.reduceLT, Nat.reduceSub, Nat.reduceBEq, Nat.reduceEqDiff, Nat.reduceAdd, Nat.reduceLeDiff, reduceCtorEq, Nat.reduceMul]; rfl)
      | (simp only [hc5, nk, nk0, nc, nc0, nkc, b2', b3', b4', hk1, hls1, fxa, fxc, fxE, fxL, fxI, nxE, evO, evR, cellsT, ldCells, mkT, lenA, binPV, Env.init, resV, resT, frT, klT, ownT, intT, O.adds, ownA, rowsA, over, wrOk, keysT, keysA, ne_eq, if_true, if_false, ite_self, Nat.reduceLT, Nat.reduceSub, Nat.reduceBEq, Nat.reduceEqDiff, Nat.reduceAdd, Nat.reduceLeDiff, reduceCtorEq, Nat.reduceMul]; omega)
      | skip
    have n1 : ∀ d, ¬ s = (d, c5) ∧ ¬ s = (d, c5 + 1) ∧ ¬ s = (d, c5 + 1 + 1) ∧ ¬ s = (d, c5 + 1 + 1 + 1) ∧ ¬ s = (d, c + 1) := by
      intro d; refine ⟨?_, ?_, ?_, ?_, ?_⟩ <;> (rintro rfl; simp at hs; omega)
    simp only [hc5, (n1 _).1, (n1 _).2.1, (n1 _).2.2.1, (n1 _).2.2.2.1, (n1 _).2.2.2.2, b0 s hs, fxa, fxc, fxE, fxL, fxI, nxE, evO, evR, cellsT, ldCells, mkT, lenA, binPV, Env.init, resV, resT, frT, klT, ownT, intT, O.adds, ownA, rowsA, over, wrOk, keysT, keysA, ne_eq, if_true, if_false, ite_self, Nat.reduceLT, Nat.reduceSub, Nat.reduceBEq, Nat.reduceEqDiff, Nat.reduceAdd, Nat.reduceLeDiff, reduceCtorEq, Nat.reduceMul]
  · rintro i e τ hi ⟨e2, e3, e4, e7, e8, t3, t33, t7, tk, t4, hcl, hls, hs, hfree⟩
    obtain ⟨y, hy⟩ : ∃ y, n.ns[i]? = some y := ⟨_, List.getElem?_eq_getElem hi⟩
    have hy' := mapGet encN hy
    have hlt : ((i : Nat) : Int) < (n.ns.length : Int) := by omega
    have hge : (0 : Int) ≤ ((i : Nat) : Int) := by omega
    by_cases hyk : y.k = 0
    · have hfi : n.ns.findIdx? isFree = some i := by
        rw [List.findIdx?_eq_some_iff_getElem]
        refine ⟨hi, ?_, fun j hj => ?_⟩
        · rw [(List.getElem?_eq_some_iff.1 hy).2]; simp [isFree, hyk]
        · rw [hfree j hj _ (List.getElem?_eq_getElem (by omega))]; simp
      have e1 : n.at = i := by unfold Nt.at; rw [hfi]
      have e2' : (n.make x).ns = n.ns.set i x.fresh := by unfold Nt.make; rw [hfi]
      have hsx : (n.ns.map encN).set i [.i .i64 x.k, .i .i64 x.lv, .i .i64 x.n, .s x.s, .l [], .l R] = (n.ns.set i x.fresh).map encN := by rw [List.map_set, hencf]
      rw [e1, e2']
      simp only [F33b0, e2, e3, e4, e7, e8, t3, t33, t7, tk, t4, hlt, hge, hy', hyk, nk, nk0, nc, nc0, nkc, hsx, rowK, encN, List.length_map, List.length_set, Int.toNat_natCast, Nat.zero_add, Nat.le_refl, fxa, fxc, fxE, fxL, fxI, nxE, evO, evR, cellsT, ldCells, mkT, lenA, binPV, Env.init, resV, resT, frT, klT, ownT, intT, O.adds, ownA, rowsA, over, wrOk, keysT, keysA, ne_eq, if_true, if_false, ite_self, Nat.reduceLT, Nat.reduceSub, Nat.reduceBEq, Nat.reduceEqDiff, Nat.reduceAdd, Nat.reduceLeDiff, reduceCtorEq, Nat.reduceMul]
      refine ⟨(kd, kc), rfl, ?_, by simp only; omega, by simp only; omega, hls, fun s h => ?_⟩
      · rw [if_neg (by intro e; rw [Prod.mk.injEq] at e; omega), if_pos rfl]
      · rw [if_neg (by rintro rfl; simp at h; omega), if_neg (by rintro rfl; simp at h; omega), if_neg (by rintro rfl; simp at h; omega)]; exact hs s h
    · have hyf : isFree y = false := by simp [isFree, hyk]
      simp only [F33b0, e2, e3, e4, e7, e8, t3, t33, t7, tk, t4, hlt, hge, hy', hyk, rowK, encN, List.length_map, Int.toNat_natCast, Nat.zero_add, fxa, fxc, fxE, fxL, fxI, nxE, evO, evR, cellsT, ldCells, mkT, lenA, binPV, Env.init, resV, resT, frT, klT, ownT, intT, O.adds, ownA, rowsA, over, wrOk, keysT, keysA, ne_eq, if_true, if_false, ite_self, Nat.reduceLT, Nat.reduceSub, Nat.reduceBEq, Nat.reduceEqDiff, Nat.reduceAdd, Nat.reduceLeDiff, reduceCtorEq, Nat.reduceMul]
      refine ⟨by rw [wrap_succ i (by omega)], hcl, hls, hs, fun j hj z hz => ?_⟩
      by_cases e : j = i
      · rw [e, hy] at hz; rw [← Option.some.inj hz]; exact hyf
      · exact hfree j (by omega) z hz
  · rintro e τ ⟨e2, e3, e4, e7, e8, t3, t33, t7, tk, t4, hcl, hls, hs, hfree⟩
    have hlt : ¬ ((n.ns.length : Nat) : Int) < (n.ns.length : Int) := by omega
    have hfi : n.ns.findIdx? isFree = none := by
      rw [List.findIdx?_eq_none_iff]
      intro y hy
      obtain ⟨j, hj⟩ := List.getElem?_of_mem hy
      exact hfree j (List.getElem?_eq_some_iff.1 hj).1 y hj
    have e1 : n.at = n.ns.length := by unfold Nt.at; rw [hfi]
    have e2' : (n.make x).ns = n.ns ++ [x.fresh] := by unfold Nt.make; rw [hfi]
    have htk : List.take n.ns.length (n.ns.map encN) = n.ns.map encN := List.take_of_length_le (by simp)
    have hsx : n.ns.map encN ++ [[.i .i64 x.k, .i .i64 x.lv, .i .i64 x.n, .s x.s, .l [], .l R]] = (n.ns ++ [x.fresh]).map encN := by rw [List.map_append, ← hencf]; rfl
    have nkt : ¬ kc = τ.clk ∧ ¬ kc = τ.clk + 1 ∧ ¬ c5 = τ.clk ∧ ¬ c5 = τ.clk + 1 ∧ ¬ c + 1 + 1 = τ.clk ∧ ¬ c + 1 + 1 = τ.clk + 1 := by omega
    rw [e1, e2']
    have hw : IntKind.i64.wrap (((n.ns.length + 1 : Nat) : Int) - 1) = (n.ns.length : Int) := by rw [wrap_in _ (by omega)]; omega
    simp only [F33b0, e2, e3, e4, e7, e8, t3, t33, t7, tk, t4, hlt, hb, htk, hsx, hw, nkt, nk, nk0, nc, nc0, nkc, rowK, encN, List.length_map, List.length_append, List.length_cons, List.length_nil, Int.toNat_natCast, Nat.zero_add, Nat.one_mul, Nat.le_refl, fxa, fxc, fxE, fxL, fxI, nxE, evO, evR, cellsT, ldCells, mkT, lenA, binPV, Env.init, resV, resT, frT, klT, ownT, intT, O.adds, ownA, rowsA, over, wrOk, keysT, keysA, ne_eq, if_true, if_false, ite_self, Nat.reduceLT, Nat.reduceSub, Nat.reduceBEq, Nat.reduceEqDiff, Nat.reduceAdd, Nat.reduceLeDiff, reduceCtorEq, Nat.reduceMul]
    refine ⟨(60, τ.clk + 1), rfl, ?_, by simp only; omega, by simp only; omega, hls, fun s h => ?_⟩
    · rw [if_neg (by intro e; rw [Prod.mk.injEq] at e; omega), if_neg (by intro e; rw [Prod.mk.injEq] at e; omega), if_pos rfl]
    · rw [if_neg (by rintro rfl; simp at h; omega), if_neg (by rintro rfl; simp at h; omega), if_neg (by rintro rfl; simp at h; omega), if_neg (by rintro rfl; simp at h; omega), if_neg (by rintro rfl; simp at h; omega), if_neg (by rintro rfl; simp at h; omega)]; exact hs s h
end Go.Proofs.Ytkpfjolcmkikeaa
