/- The law ActElse, as the evaluator has it. -/
import Derived.Test.YtomcceambpneiaaLawK
set_option linter.unusedSimpArgs false
set_option linter.unusedVariables false
set_option maxHeartbeats 4000000
set_option maxRecDepth 10000
namespace Go.Proofs.Ytomcceambpneiaa
open Go.Fx

def nearL (i k : Int) (l : List Pt) : Bool := l.any fun q => decide (q.n = i) || decide (q.n = k)
theorem else_node {n m : Nt} {i k c : Int} (hs : Stepped n i k c m) {j : Nat} {x : Nd} (hx : n.ns[j]? = some x) (hk : x.k ≠ 0) (hi : (j : Int) ≠ i) (hj : (j : Int) ≠ k) :
    ∃ y, m.ns[j]? = some y ∧ y.k = x.k ∧ (nearL i k x.to = false → y = x) := by
  obtain ⟨y, h1, h2, h3⟩ := hs.old j x hx hk hi hj
  refine ⟨y, h1, by rw [h2], fun hn => ?_⟩
  have ht : y.to = x.to := by
    refine list_ext h3 fun s hsl => ?_
    obtain ⟨q, hq⟩ : ∃ q, x.to[s]? = some q := ⟨_, List.getElem?_eq_getElem (by omega)⟩
    obtain ⟨q', hq'⟩ : ∃ q', y.to[s]? = some q' := ⟨_, List.getElem?_eq_getElem hsl⟩
    have hh := has_get hx (j := s) (by omega)
    have hl := lk_get hx hq
    have hm := lk_get h1 hq'
    unfold nearL at hn
    rw [List.any_eq_false] at hn
    have hqn := hn q (List.mem_of_getElem? hq)
    simp only [Bool.or_eq_true, decide_eq_true_eq, not_or] at hqn
    have := (hs.keep ⟨j, s⟩ hh hi hj (by rw [hl]; exact hqn.1) (by rw [hl]; exact hqn.2)).2
    rw [hl, hm] at this
    rw [hq, hq', this]
  rw [h2, ht]

theorem nearLoop {n : Nt} {i k : Int} {j : Nat} {x : Nd} {k2 : Key} (hn : n.Ok) (hx : n.ns[j]? = some x) {σ : St} (s2 : σ.bs k2 = some (.var ((encT n).map .p))) (e : Env)
    (e1 : e 1 = .a (.p (.i .i64 i))) (e2 : e 2 = .a (.ptr k2 0 0)) (e8 : e 8 = .a (.p (.i .i64 k))) (e9 : e 9 = .a (.p (.i .i64 (j : Nat)))) (e10 : e 10 = .a (.p (.b false))) (e11 : e 11 = .a (.p (.i .i64 0))) :
    wp S false (.loop F10b1) e σ (fun z e' σ' => z = .exit 2 ∧ σ' = σ ∧ e' 10 = .a (.p (.b (nearL i k x.to))) ∧ e' 1 = e 1 ∧ e' 2 = e 2 ∧ e' 5 = e 5 ∧ e' 8 = e 8 ∧ e' 9 = e 9) := by
  have hb := hn.ns
  have hxo := hn.nd x (List.mem_of_getElem? hx)
  have hxt := hxo.to
  have hj := (List.getElem?_eq_some_iff.1 hx).1
  have gx := mapGet encN hx
  obtain ⟨u5, hu5⟩ : ∃ z, e 5 = z := ⟨_, rfl⟩
  rw [e1, e2, e8, e9, hu5]
  refine loop_nat x.to.length (fun t e τ => τ = σ ∧ e 1 = .a (.p (.i .i64 i)) ∧ e 2 = .a (.ptr k2 0 0) ∧ e 5 = u5 ∧ e 8 = .a (.p (.i .i64 k)) ∧ e 9 = .a (.p (.i .i64 (j : Nat))) ∧ e 10 = .a (.p (.b (nearL i k (x.to.take t)))) ∧ e 11 = .a (.p (.i .i64 (t : Nat)))) (i0 := 0) (Nat.zero_le _) ⟨rfl, e1, e2, hu5, e8, e9, e10, e11⟩ ?_ ?_
  · rintro t e τ ht ⟨rfl, e1, e2, e5, e8, e9, e10, e11⟩
    obtain ⟨q, hq⟩ : ∃ q, x.to[t]? = some q := ⟨_, List.getElem?_eq_getElem ht⟩
    have gq := mapGet encP hq
    have hlt : ((t : Nat) : Int) < (x.to.length : Int) := by omega
    have hge : (0 : Int) ≤ ((t : Nat) : Int) := by omega
    have hjlt : ((j : Nat) : Int) < (n.ns.length : Int) := by omega
    have hjge : (0 : Int) ≤ ((j : Nat) : Int) := by omega
    have hw : IntKind.i64.wrap ((t : Int) + 1) = ((t + 1 : Nat) : Int) := wrap_succ t (by omega)
    have hsu : nearL i k (x.to.take (t + 1)) = (nearL i k (x.to.take t) || (decide (q.n = i) || decide (q.n = k))) := by
      unfold nearL; rw [List.take_add_one, hq, List.any_append]; simp
    rw [hsu]
    obtain ⟨b, hb0⟩ : ∃ b, nearL i k (x.to.take t) = b := ⟨_, rfl⟩
    rw [hb0] at e10 ⊢
    simp only [encT, List.map_cons, List.map_nil] at s2
    simp only [encN] at gx
    simp only [encP] at gq
    cases b with
    | true =>
      simp only [F10b1, e1, e2, e5, e8, e9, e10, e11, s2, gx, gq, hlt, hge, hjlt, hjge, hw, allN, allP, Int.toNat_natCast, List.length_map, fxa, fxc, fxE, fxL, fxI, nxE, evO, evR, cellsT, ldCells, mkT, lenA, binPV, Env.init, resV, resT, frT, klT, ownT, intT, O.adds, ownA, rowsA, over, wrOk, keysT, keysA, ne_eq, if_true, if_false, ite_self, Nat.reduceLT, Nat.reduceSub, Nat.reduceBEq, Nat.reduceEqDiff, Nat.reduceAdd, Nat.reduceLeDiff, reduceCtorEq, Nat.reduceMul]
    | false =>
      by_cases h1 : q.n = i
      · simp only [F10b1, e1, e2, e5, e8, e9, e10, e11, s2, gx, gq, hlt, hge, hjlt, hjge, hw, h1, allN, allP, Int.toNat_natCast, List.length_map, fxa, fxc, fxE, fxL, fxI, nxE, evO, evR, cellsT, ldCells, mkT, lenA, binPV, Env.init, resV, resT, frT, klT, ownT, intT, O.adds, ownA, rowsA, over, wrOk, keysT, keysA, ne_eq, if_true, if_false, ite_self, Nat.reduceLT, Nat.reduceSub, Nat.reduceBEq, Nat.reduceEqDiff, Nat.reduceAdd, Nat.reduceLeDiff, reduceCtorEq, Nat.reduceMul]
      · simp only [F10b1, e1, e2, e5, e8, e9, e10, e11, s2, gx, gq, hlt, hge, hjlt, hjge, hw, h1, allN, allP, Int.toNat_natCast, List.length_map, fxa, fxc, fxE, fxL, fxI, nxE, evO, evR, cellsT, ldCells, mkT, lenA, binPV, Env.init, resV, resT, frT, klT, ownT, intT, O.adds, ownA, rowsA, over, wrOk, keysT, keysA, ne_eq, if_true, if_false, ite_self, Nat.reduceLT, Nat.reduceSub, Nat.reduceBEq, Nat.reduceEqDiff, Nat.reduceAdd, Nat.reduceLeDiff, reduceCtorEq, Nat.reduceMul]
  · rintro e τ ⟨rfl, e1, e2, e5, e8, e9, e10, e11⟩
    have hlt : ¬ ((x.to.length : Nat) : Int) < (x.to.length : Int) := by omega
    have hjlt : ((j : Nat) : Int) < (n.ns.length : Int) := by omega
    have hjge : (0 : Int) ≤ ((j : Nat) : Int) := by omega
    rw [List.take_length] at e10
    simp only [encT, List.map_cons, List.map_nil] at s2
    simp only [encN] at gx
    simp only [F10b1, e1, e2, e5, e8, e9, e10, e11, s2, gx, hlt, hjlt, hjge, allN, Int.toNat_natCast, List.length_map, fxa, fxc, fxE, fxL, fxI, nxE, evO, evR, cellsT, ldCells, mkT, lenA, binPV, Env.init, resV, resT, frT, klT, ownT, intT, O.adds, ownA, rowsA, over, wrOk, keysT, keysA, ne_eq, if_true, if_false, ite_self, Nat.reduceLT, Nat.reduceSub, Nat.reduceBEq, Nat.reduceEqDiff, Nat.reduceAdd, Nat.reduceLeDiff, reduceCtorEq, Nat.reduceMul]

theorem elseLoop {n m : Nt} {i k c : Int} {k2 k5 : Key} (hn : n.Ok) (hm : m.Ok) (hs : Stepped n i k c m) {σ : St} (s2 : σ.bs k2 = some (.var ((encT n).map .p))) (s5 : σ.bs k5 = some (.var ((encT m).map .p))) (e : Env)
    (e1 : e 1 = .a (.p (.i .i64 i))) (e2 : e 2 = .a (.ptr k2 0 0)) (e5 : e 5 = .a (.ptr k5 0 0)) (e8 : e 8 = .a (.p (.i .i64 k))) (e9 : e 9 = .a (.p (.i .i64 0))) :
    wp S false (.loop F10b0) e σ (fun z e' σ' => z = .exit 0 ∧ σ' = σ) := by
  have hb := hn.ns
  have hbm := hm.ns
  refine loop_nat n.ns.length (fun j e τ => τ = σ ∧ e 1 = .a (.p (.i .i64 i)) ∧ e 2 = .a (.ptr k2 0 0) ∧ e 5 = .a (.ptr k5 0 0) ∧ e 8 = .a (.p (.i .i64 k)) ∧ e 9 = .a (.p (.i .i64 (j : Nat)))) (i0 := 0) (Nat.zero_le _) ⟨rfl, e1, e2, e5, e8, e9⟩ ?_ ?_
  · rintro j e τ hj ⟨rfl, e1, e2, e5, e8, e9⟩
    obtain ⟨x, hx⟩ : ∃ x, n.ns[j]? = some x := ⟨_, List.getElem?_eq_getElem hj⟩
    have gx := mapGet encN hx
    have hjlt : ((j : Nat) : Int) < (n.ns.length : Int) := by omega
    have hjge : (0 : Int) ≤ ((j : Nat) : Int) := by omega
    have hw : IntKind.i64.wrap ((j : Int) + 1) = ((j + 1 : Nat) : Int) := wrap_succ j (by omega)
    have s2' := s2
    have s5' := s5
    simp only [encT, List.map_cons, List.map_nil] at s2' s5'
    simp only [encN] at gx
    by_cases hji : (j : Int) = i
    · subst hji
      simp only [F10b0, e1, e2, e5, e8, e9, s2', s5', hjlt, hw, allN, List.length_map, fxa, fxc, fxE, fxL, fxI, nxE, evO, evR, cellsT, ldCells, mkT, lenA, binPV, Env.init, resV, resT, frT, klT, ownT, intT, O.adds, ownA, rowsA, over, wrOk, keysT, keysA, ne_eq, if_true, if_false, ite_self, Nat.reduceLT, Nat.reduceSub, Nat.reduceBEq, Nat.reduceEqDiff, Nat.reduceAdd, Nat.reduceLeDiff, reduceCtorEq, Nat.reduceMul]
    by_cases hjk : (j : Int) = k
    · subst hjk
      simp only [F10b0, e1, e2, e5, e8, e9, s2', s5', hjlt, hji, hw, allN, List.length_map, fxa, fxc, fxE, fxL, fxI, nxE, evO, evR, cellsT, ldCells, mkT, lenA, binPV, Env.init, resV, resT, frT, klT, ownT, intT, O.adds, ownA, rowsA, over, wrOk, keysT, keysA, ne_eq, if_true, if_false, ite_self, Nat.reduceLT, Nat.reduceSub, Nat.reduceBEq, Nat.reduceEqDiff, Nat.reduceAdd, Nat.reduceLeDiff, reduceCtorEq, Nat.reduceMul]
    by_cases hk0 : x.k = 0
    · simp only [F10b0, e1, e2, e5, e8, e9, s2', s5', gx, hjlt, hjge, hji, hjk, hk0, hw, allN, Int.toNat_natCast, List.length_map, fxa, fxc, fxE, fxL, fxI, nxE, evO, evR, cellsT, ldCells, mkT, lenA, binPV, Env.init, resV, resT, frT, klT, ownT, intT, O.adds, ownA, rowsA, over, wrOk, keysT, keysA, ne_eq, if_true, if_false, ite_self, Nat.reduceLT, Nat.reduceSub, Nat.reduceBEq, Nat.reduceEqDiff, Nat.reduceAdd, Nat.reduceLeDiff, reduceCtorEq, Nat.reduceMul]
    obtain ⟨y, hy, hyk, hyx⟩ := else_node hs hx hk0 hji hjk
    have gy := mapGet encN hy
    have hjm := (List.getElem?_eq_some_iff.1 hy).1
    have hjmlt : ¬ ((j : Nat) : Int) ≥ (m.ns.length : Int) := by omega
    have hjmlt2 : ((j : Nat) : Int) < (m.ns.length : Int) := by omega
    have c1 := One_ok (b := x) (hm.nd y (List.mem_of_getElem? hy))
    simp only [encN] at gy c1
    simp only [F10b0, e1, e2, e5, e8, e9, s2', s5', gx, hjlt, hjge, hji, hjk, hk0, hw, allN, Int.toNat_natCast, List.length_map, fxa, fxc, fxE, fxL, fxI, nxE, evO, evR, cellsT, ldCells, mkT, lenA, binPV, Env.init, resV, resT, frT, klT, ownT, intT, O.adds, ownA, rowsA, over, wrOk, keysT, keysA, ne_eq, if_true, if_false, ite_self, Nat.reduceLT, Nat.reduceSub, Nat.reduceBEq, Nat.reduceEqDiff, Nat.reduceAdd, Nat.reduceLeDiff, reduceCtorEq, Nat.reduceMul]
    refine Go.Fx.wp_mono (nearLoop (i := i) (k := k) hn hx s2 _ ?_ ?_ ?_ ?_ ?_ ?_) ?_
    all_goals first
      | (simp only [e1, e2, e5, e8, e9, fxa, fxc, fxE, fxL, fxI, nxE, evO, evR, cellsT, ldCells, mkT, lenA, binPV, Env.init, resV, resT, frT, klT, ownT, intT, O.adds, ownA, rowsA, over, wrOk, keysT, keysA, ne_eq, if_true, if_false, ite_self, Nat.reduceLT, Nat.reduceSub, Nat.reduceBEq, Nat.reduceEqDiff, Nat.reduceAdd, Nat.reduceLeDiff, reduceCtorEq, Nat.reduceMul]; done)
      | skip
    rintro z e' σ' ⟨rfl, rfl, g10, g1, g2, g5, g8, g9⟩
    simp only [e1, e2, e5, e8, e9, fxa, fxc, fxE, fxL, fxI, nxE, evO, evR, cellsT, ldCells, mkT, lenA, binPV, Env.init, resV, resT, frT, klT, ownT, intT, O.adds, ownA, rowsA, over, wrOk, keysT, keysA, ne_eq, if_true, if_false, ite_self, Nat.reduceLT, Nat.reduceSub, Nat.reduceBEq, Nat.reduceEqDiff, Nat.reduceAdd, Nat.reduceLeDiff, reduceCtorEq, Nat.reduceMul] at g1 g2 g5 g8 g9
    obtain ⟨b, hb0⟩ : ∃ b, nearL i k x.to = b := ⟨_, rfl⟩
    rw [hb0] at g10 hyx
    cases b with
    | true =>
      simp only [g1, g2, g5, g8, g9, g10, s2', s5', gx, gy, hyk, hjlt, hjge, hjmlt, hjmlt2, hw, allN, Int.toNat_natCast, List.length_map, fxa, fxc, fxE, fxL, fxI, nxE, evO, evR, cellsT, ldCells, mkT, lenA, binPV, Env.init, resV, resT, frT, klT, ownT, intT, O.adds, ownA, rowsA, over, wrOk, keysT, keysA, ne_eq, if_true, if_false, ite_self, Nat.reduceLT, Nat.reduceSub, Nat.reduceBEq, Nat.reduceEqDiff, Nat.reduceAdd, Nat.reduceLeDiff, reduceCtorEq, Nat.reduceMul]
    | false =>
      rw [bool_t (hyx rfl)] at c1
      rw [hyk] at c1
      simp only [g1, g2, g5, g8, g9, g10, s2', s5', gx, gy, c1, hyk, hjlt, hjge, hjmlt, hjmlt2, hw, allN, Int.toNat_natCast, List.length_map, fxa, fxc, fxE, fxL, fxI, nxE, evO, evR, cellsT, ldCells, mkT, lenA, binPV, Env.init, resV, resT, frT, klT, ownT, intT, O.adds, ownA, rowsA, over, wrOk, keysT, keysA, ne_eq, if_true, if_false, ite_self, Nat.reduceLT, Nat.reduceSub, Nat.reduceBEq, Nat.reduceEqDiff, Nat.reduceAdd, Nat.reduceLeDiff, reduceCtorEq, Nat.reduceMul]
  · rintro e τ ⟨rfl, e1, e2, e5, e8, e9⟩
    have hlt : ¬ ((n.ns.length : Nat) : Int) < (n.ns.length : Int) := by omega
    simp only [encT, List.map_cons, List.map_nil] at s2 s5
    simp only [F10b0, e1, e2, e5, e8, e9, s2, s5, hlt, allN, List.length_map, fxa, fxc, fxE, fxL, fxI, nxE, evO, evR, cellsT, ldCells, mkT, lenA, binPV, Env.init, resV, resT, frT, klT, ownT, intT, O.adds, ownA, rowsA, over, wrOk, keysT, keysA, ne_eq, if_true, if_false, ite_self, Nat.reduceLT, Nat.reduceSub, Nat.reduceBEq, Nat.reduceEqDiff, Nat.reduceAdd, Nat.reduceLeDiff, reduceCtorEq, Nat.reduceMul]

theorem actElse_law {n : Nt} {i : Int} (hn : n.Ok) : eP S 10 [.g (encT n), .a (.i .i64 i)] = some (.a (.b true)) := by
  have f0 := fixed15_ok
  have a1 := Small_ok hn 150
  have a2 := RCheck_ok hn
  have a3 := Do_ok (i := i) hn
  have a4 := RMeets_ok n i
  refine x_fn (orcS (by decide)) (fc := F10) rfl rfl ?_
  by_cases h1 : n.small 150
  case neg =>
    rw [bool_f h1] at a1
    simp only [encT] at a1
    simp only [F10, f0, a1, encT, fxa, fxc, fxE, fxL, fxI, nxE, evO, evR, cellsT, ldCells, mkT, lenA, binPV, Env.init, resV, resT, frT, klT, ownT, intT, O.adds, ownA, rowsA, over, wrOk, keysT, keysA, ne_eq, if_true, if_false, ite_self, Nat.reduceLT, Nat.reduceSub, Nat.reduceBEq, Nat.reduceEqDiff, Nat.reduceAdd, Nat.reduceLeDiff, reduceCtorEq, Nat.reduceMul]
  rw [bool_t h1] at a1
  by_cases h2 : n.Good
  case neg =>
    rw [bool_f h2] at a2
    simp only [Bool.false_eq_true, if_false, encT] at a1 a2
    simp only [F10, f0, a1, a2, Int.reduceEq, encT, fxa, fxc, fxE, fxL, fxI, nxE, evO, evR, cellsT, ldCells, mkT, lenA, binPV, Env.init, resV, resT, frT, klT, ownT, intT, O.adds, ownA, rowsA, over, wrOk, keysT, keysA, ne_eq, if_true, if_false, ite_self, Nat.reduceLT, Nat.reduceSub, Nat.reduceBEq, Nat.reduceEqDiff, Nat.reduceAdd, Nat.reduceLeDiff, reduceCtorEq, Nat.reduceMul]
  rw [bool_t h2] at a2
  simp only [if_true, encT] at a1 a2 a4
  have D := do_case hn i
  obtain ⟨r, hr⟩ : ∃ r, doR n i = r := ⟨_, rfl⟩
  rw [hr] at a3 D
  cases D with
  | bad h => exact absurd h2 h
  | none h hm =>
    simp only [encD, encT, encL, encN, p0, zN, List.map_nil] at a3
    simp only [F10, f0, a1, a2, a3, Int.reduceEq, encT, fxa, fxc, fxE, fxL, fxI, nxE, evO, evR, cellsT, ldCells, mkT, lenA, binPV, Env.init, resV, resT, frT, klT, ownT, intT, O.adds, ownA, rowsA, over, wrOk, keysT, keysA, ne_eq, if_true, if_false, ite_self, Nat.reduceLT, Nat.reduceSub, Nat.reduceBEq, Nat.reduceEqDiff, Nat.reduceAdd, Nat.reduceLeDiff, reduceCtorEq, Nat.reduceMul]
  | pair h e hm he h0 =>
    simp only [encD, encT, encL, encN, p0, zN, List.map_nil] at a3
    simp only [F10, f0, a1, a2, a3, h0, Int.reduceEq, encT, fxa, fxc, fxE, fxL, fxI, nxE, evO, evR, cellsT, ldCells, mkT, lenA, binPV, Env.init, resV, resT, frT, klT, ownT, intT, O.adds, ownA, rowsA, over, wrOk, keysT, keysA, ne_eq, if_true, if_false, ite_self, Nat.reduceLT, Nat.reduceSub, Nat.reduceBEq, Nat.reduceEqDiff, Nat.reduceAdd, Nat.reduceLeDiff, reduceCtorEq, Nat.reduceMul]
  | full h p hm hp hu =>
    simp only [encD, encT, encL, encN, p0, zN, List.map_nil] at a3
    simp only [F10, f0, a1, a2, a3, Int.reduceEq, encT, fxa, fxc, fxE, fxL, fxI, nxE, evO, evR, cellsT, ldCells, mkT, lenA, binPV, Env.init, resV, resT, frT, klT, ownT, intT, O.adds, ownA, rowsA, over, wrOk, keysT, keysA, ne_eq, if_true, if_false, ite_self, Nat.reduceLT, Nat.reduceSub, Nat.reduceBEq, Nat.reduceEqDiff, Nat.reduceAdd, Nat.reduceLeDiff, reduceCtorEq, Nat.reduceMul]
  | done h p m hd =>
    have hs := hd.st
    simp only [encD, encT, encL, encN] at a3
    simp only [F10, f0, a1, a2, a3, a4, Int.reduceEq, encT, fxa, fxc, fxE, fxL, fxI, nxE, evO, evR, cellsT, ldCells, mkT, lenA, binPV, Env.init, resV, resT, frT, klT, ownT, intT, O.adds, ownA, rowsA, over, wrOk, keysT, keysA, ne_eq, if_true, if_false, ite_self, Nat.reduceLT, Nat.reduceSub, Nat.reduceBEq, Nat.reduceEqDiff, Nat.reduceAdd, Nat.reduceLeDiff, reduceCtorEq, Nat.reduceMul]
    refine Go.Fx.wp_mono (elseLoop (k2 := (2, 0)) (k5 := (5, 1)) hn hs.ok hs ?_ ?_ _ ?_ ?_ ?_ ?_ ?_) ?_
    all_goals first
      | (simp only [encT, List.map_cons, List.map_nil, fxa, fxc, fxE, fxL, fxI, nxE, evO, evR, cellsT, ldCells, mkT, lenA, binPV, Env.init, resV, resT, frT, klT, ownT, intT, O.adds, ownA, rowsA, over, wrOk, keysT, keysA, ne_eq, if_true, if_false, ite_self, Nat.reduceLT, Nat.reduceSub, Nat.reduceBEq, Nat.reduceEqDiff, Nat.reduceAdd, Nat.reduceLeDiff, reduceCtorEq, Nat.reduceMul]; done)
      | skip
    rintro z e' σ' ⟨rfl, rfl⟩
    simp only [fxa, fxc, fxE, fxL, fxI, nxE, evO, evR, cellsT, ldCells, mkT, lenA, binPV, Env.init, resV, resT, frT, klT, ownT, intT, O.adds, ownA, rowsA, over, wrOk, keysT, keysA, ne_eq, if_true, if_false, ite_self, Nat.reduceLT, Nat.reduceSub, Nat.reduceBEq, Nat.reduceEqDiff, Nat.reduceAdd, Nat.reduceLeDiff, reduceCtorEq, Nat.reduceMul]
end Go.Proofs.Ytomcceambpneiaa
