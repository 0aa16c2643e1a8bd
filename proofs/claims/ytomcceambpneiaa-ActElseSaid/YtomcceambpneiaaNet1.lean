/- Whether nodes and nets are the same, are small, and may be: the document's functions. -/
import Derived.Test.YtomcceambpneiaaWire2
set_option linter.unusedSimpArgs false
set_option linter.unusedVariables false
set_option maxHeartbeats 4000000
set_option maxRecDepth 10000
namespace Go.Proofs.Ytomcceambpneiaa
open Go.Fx

theorem arEq (p q : Ar) : (decide (p.s = q.s) && decide (p.n = q.n)) = decide (p = q) := by
  obtain ⟨a, b⟩ := p
  obtain ⟨c, d⟩ := q
  rw [Bool.eq_iff_iff]; simp
theorem mapGet {α : Type} {l : List α} {i : Nat} {x : α} (f : α → List PV) (h : l[i]? = some x) : (l.map f)[i]? = some (f x) := by rw [List.getElem?_map, h]; rfl
theorem list_ext {α : Type} {l l' : List α} (hl : l.length = l'.length) (h : ∀ j, j < l.length → l[j]? = l'[j]?) : l = l' := by
  apply List.ext_getElem?
  intro j
  by_cases hj : j < l.length
  · exact h j hj
  · rw [List.getElem?_eq_none (by omega), List.getElem?_eq_none (by omega)]

theorem One_ok {a b : Nd} (ha : a.Ok) : eP S 31 [.g (encN a), .g (encN b)] = some (.a (.b (bool (a = b)))) := by
  refine x_fnB (orcS (by decide)) (fc := F31) rfl rfl ?_
  have hal := ha.al
  have hto := ha.to
  by_cases h1 : a.k = b.k
  case neg => simp only [F31, h1, fxa, fxc, fxE, fxL, fxI, nxE, evO, evR, cellsT, ldCells, mkT, lenA, binPV, Env.init, resV, resT, frT, klT, ownT, intT, O.adds, ownA, rowsA, over, wrOk, keysT, keysA, ne_eq, if_true, if_false, ite_self, Nat.reduceLT, Nat.reduceSub, Nat.reduceBEq, Nat.reduceEqDiff, Nat.reduceAdd, Nat.reduceLeDiff, reduceCtorEq, Nat.reduceMul]; intro h; exact h1 (by rw [h])
  by_cases h2 : a.lv = b.lv
  case neg => simp only [F31, h1, h2, fxa, fxc, fxE, fxL, fxI, nxE, evO, evR, cellsT, ldCells, mkT, lenA, binPV, Env.init, resV, resT, frT, klT, ownT, intT, O.adds, ownA, rowsA, over, wrOk, keysT, keysA, ne_eq, if_true, if_false, ite_self, Nat.reduceLT, Nat.reduceSub, Nat.reduceBEq, Nat.reduceEqDiff, Nat.reduceAdd, Nat.reduceLeDiff, reduceCtorEq, Nat.reduceMul]; intro h; exact h2 (by rw [h])
  by_cases h3 : a.n = b.n
  case neg => simp only [F31, h1, h2, h3, fxa, fxc, fxE, fxL, fxI, nxE, evO, evR, cellsT, ldCells, mkT, lenA, binPV, Env.init, resV, resT, frT, klT, ownT, intT, O.adds, ownA, rowsA, over, wrOk, keysT, keysA, ne_eq, if_true, if_false, ite_self, Nat.reduceLT, Nat.reduceSub, Nat.reduceBEq, Nat.reduceEqDiff, Nat.reduceAdd, Nat.reduceLeDiff, reduceCtorEq, Nat.reduceMul]; intro h; exact h3 (by rw [h])
  by_cases h4 : a.s = b.s
  case neg => simp only [F31, h1, h2, h3, h4, fxa, fxc, fxE, fxL, fxI, nxE, evO, evR, cellsT, ldCells, mkT, lenA, binPV, Env.init, resV, resT, frT, klT, ownT, intT, O.adds, ownA, rowsA, over, wrOk, keysT, keysA, ne_eq, if_true, if_false, ite_self, Nat.reduceLT, Nat.reduceSub, Nat.reduceBEq, Nat.reduceEqDiff, Nat.reduceAdd, Nat.reduceLeDiff, reduceCtorEq, Nat.reduceMul]; intro h; exact h4 (by rw [h])
  by_cases h5 : a.al.length = b.al.length
  case neg =>
    have h5' : ¬ (a.al.length : Int) = b.al.length := by omega
    simp only [F31, h1, h2, h3, h4, h5', fxa, fxc, fxE, fxL, fxI, nxE, evO, evR, cellsT, ldCells, mkT, lenA, binPV, Env.init, resV, resT, frT, klT, ownT, intT, O.adds, ownA, rowsA, over, wrOk, keysT, keysA, ne_eq, if_true, if_false, ite_self, Nat.reduceLT, Nat.reduceSub, Nat.reduceBEq, Nat.reduceEqDiff, Nat.reduceAdd, Nat.reduceLeDiff, reduceCtorEq, Nat.reduceMul]; intro h; exact h5 (by rw [h])
  by_cases h6 : a.to.length = b.to.length
  case neg =>
    have h6' : ¬ (a.to.length : Int) = b.to.length := by omega
    simp only [F31, h1, h2, h3, h4, h5, h6', fxa, fxc, fxE, fxL, fxI, nxE, evO, evR, cellsT, ldCells, mkT, lenA, binPV, Env.init, resV, resT, frT, klT, ownT, intT, O.adds, ownA, rowsA, over, wrOk, keysT, keysA, ne_eq, if_true, if_false, ite_self, Nat.reduceLT, Nat.reduceSub, Nat.reduceBEq, Nat.reduceEqDiff, Nat.reduceAdd, Nat.reduceLeDiff, reduceCtorEq, Nat.reduceMul]; intro h; exact h6 (by rw [h])
  simp only [F31, h1, h2, h3, h4, h5, h6, fxa, fxc, fxE, fxL, fxI, nxE, evO, evR, cellsT, ldCells, mkT, lenA, binPV, Env.init, resV, resT, frT, klT, ownT, intT, O.adds, ownA, rowsA, over, wrOk, keysT, keysA, ne_eq, if_true, if_false, ite_self, Nat.reduceLT, Nat.reduceSub, Nat.reduceBEq, Nat.reduceEqDiff, Nat.reduceAdd, Nat.reduceLeDiff, reduceCtorEq, Nat.reduceMul]
  refine loop_nat b.al.length (fun i e σ => e 2 = .a (.ptr (2, 0) 0 0) ∧ e 3 = .a (.ptr (3, 1) 0 0) ∧ e 5 = .a (.p (.i .i64 (i : Nat))) ∧ σ.bs (2, 0) = some (.var ((encN a).map .p)) ∧ σ.bs (3, 1) = some (.var ((encN b).map .p)) ∧ ∀ j, j < i → a.al[j]? = b.al[j]?) (i0 := 0) (Nat.zero_le _) ?_ ?_ ?_
  · refine ⟨?_, ?_, ?_, ?_, ?_, fun j hj => by omega⟩ <;> simp only [h1, h2, h3, h4, fxa, fxc, fxE, fxL, fxI, nxE, evO, evR, cellsT, ldCells, mkT, lenA, binPV, Env.init, resV, resT, frT, klT, ownT, intT, O.adds, ownA, rowsA, over, wrOk, keysT, keysA, ne_eq, if_true, if_false, ite_self, Nat.reduceLT, Nat.reduceSub, Nat.reduceBEq, Nat.reduceEqDiff, Nat.reduceAdd, Nat.reduceLeDiff, reduceCtorEq, Nat.reduceMul]
    rfl
  · rintro i e σ hi ⟨e2, e3, e5, s2, s3, hall⟩
    obtain ⟨x, hx⟩ : ∃ x, a.al[i]? = some x := ⟨_, List.getElem?_eq_getElem (by omega)⟩
    obtain ⟨y, hy⟩ : ∃ y, b.al[i]? = some y := ⟨_, List.getElem?_eq_getElem (by omega)⟩
    have hx' := mapGet encA hx
    have hy' := mapGet encA hy
    have hlt : ((i : Nat) : Int) < (a.al.length : Int) := by omega
    have hlt' : ((i : Nat) : Int) < (b.al.length : Int) := by omega
    have hge : (0 : Int) ≤ ((i : Nat) : Int) := by omega
    simp only [encN, List.map_cons, List.map_nil] at s2 s3
    by_cases hxy : x = y
    · subst hxy
      simp only [F31b0, e2, e3, e5, s2, s3, hlt, hlt', hge, hx', hy', arEq, fxa, fxc, fxE, fxL, fxI, nxE, evO, evR, cellsT, ldCells, mkT, lenA, binPV, Env.init, resV, resT, frT, klT, ownT, intT, O.adds, ownA, rowsA, over, wrOk, keysT, keysA, ne_eq, if_true, if_false, ite_self, Nat.reduceLT, Nat.reduceSub, Nat.reduceBEq, Nat.reduceEqDiff, Nat.reduceAdd, Nat.reduceLeDiff, reduceCtorEq, Nat.reduceMul]
      refine ⟨by rw [wrap_succ i (by omega)], fun j hj => ?_⟩
      by_cases e : j = i
      · rw [e, hx, hy]
      · exact hall j (by omega)
    · simp only [F31b0, e2, e3, e5, s2, s3, hlt, hlt', hge, hx', hy', arEq, hxy, fxa, fxc, fxE, fxL, fxI, nxE, evO, evR, cellsT, ldCells, mkT, lenA, binPV, Env.init, resV, resT, frT, klT, ownT, intT, O.adds, ownA, rowsA, over, wrOk, keysT, keysA, ne_eq, if_true, if_false, ite_self, Nat.reduceLT, Nat.reduceSub, Nat.reduceBEq, Nat.reduceEqDiff, Nat.reduceAdd, Nat.reduceLeDiff, reduceCtorEq, Nat.reduceMul]
      intro h; subst h; rw [hx] at hy; exact hxy (Option.some.inj hy)
  · rintro e σ ⟨e2, e3, e5, s2, s3, hall⟩
    have hlt : ¬ ((b.al.length : Nat) : Int) < (a.al.length : Int) := by omega
    have hal2 : a.al = b.al := list_ext h5 fun j hj => hall j (by omega)
    simp only [encN, List.map_cons, List.map_nil] at s2 s3
    simp only [F31b0, e2, e3, e5, s2, s3, hlt, fxa, fxc, fxE, fxL, fxI, nxE, evO, evR, cellsT, ldCells, mkT, lenA, binPV, Env.init, resV, resT, frT, klT, ownT, intT, O.adds, ownA, rowsA, over, wrOk, keysT, keysA, ne_eq, if_true, if_false, ite_self, Nat.reduceLT, Nat.reduceSub, Nat.reduceBEq, Nat.reduceEqDiff, Nat.reduceAdd, Nat.reduceLeDiff, reduceCtorEq, Nat.reduceMul]
    refine loop_nat b.to.length (fun i e σ => e 2 = .a (.ptr (2, 0) 0 0) ∧ e 3 = .a (.ptr (3, 1) 0 0) ∧ e 6 = .a (.p (.i .i64 (i : Nat))) ∧ σ.bs (2, 0) = some (.var ((encN a).map .p)) ∧ σ.bs (3, 1) = some (.var ((encN b).map .p)) ∧ ∀ j, j < i → a.to[j]? = b.to[j]?) (i0 := 0) (Nat.zero_le _) ?_ ?_ ?_
    · refine ⟨?_, ?_, ?_, ?_, ?_, fun j hj => by omega⟩ <;> simp only [e2, e3, s2, s3, fxa, fxc, fxE, fxL, fxI, nxE, evO, evR, cellsT, ldCells, mkT, lenA, binPV, Env.init, resV, resT, frT, klT, ownT, intT, O.adds, ownA, rowsA, over, wrOk, keysT, keysA, ne_eq, if_true, if_false, ite_self, Nat.reduceLT, Nat.reduceSub, Nat.reduceBEq, Nat.reduceEqDiff, Nat.reduceAdd, Nat.reduceLeDiff, reduceCtorEq, Nat.reduceMul]
      rfl
    · rintro i e σ hi ⟨e2, e3, e6, s2, s3, hall⟩
      obtain ⟨x, hx⟩ : ∃ x, a.to[i]? = some x := ⟨_, List.getElem?_eq_getElem (by omega)⟩
      obtain ⟨y, hy⟩ : ∃ y, b.to[i]? = some y := ⟨_, List.getElem?_eq_getElem (by omega)⟩
      have hx' := mapGet encP hx
      have hy' := mapGet encP hy
      have hlt : ((i : Nat) : Int) < (a.to.length : Int) := by omega
      have hlt' : ((i : Nat) : Int) < (b.to.length : Int) := by omega
      have hge : (0 : Int) ≤ ((i : Nat) : Int) := by omega
      simp only [encN, List.map_cons, List.map_nil] at s2 s3
      by_cases hxy : x = y
      · subst hxy
        simp only [F31b1, e2, e3, e6, s2, s3, hlt, hlt', hge, hx', hy', ptEq, fxa, fxc, fxE, fxL, fxI, nxE, evO, evR, cellsT, ldCells, mkT, lenA, binPV, Env.init, resV, resT, frT, klT, ownT, intT, O.adds, ownA, rowsA, over, wrOk, keysT, keysA, ne_eq, if_true, if_false, ite_self, Nat.reduceLT, Nat.reduceSub, Nat.reduceBEq, Nat.reduceEqDiff, Nat.reduceAdd, Nat.reduceLeDiff, reduceCtorEq, Nat.reduceMul]
        refine ⟨by rw [wrap_succ i (by omega)], fun j hj => ?_⟩
        by_cases e : j = i
        · rw [e, hx, hy]
        · exact hall j (by omega)
      · simp only [F31b1, e2, e3, e6, s2, s3, hlt, hlt', hge, hx', hy', ptEq, hxy, fxa, fxc, fxE, fxL, fxI, nxE, evO, evR, cellsT, ldCells, mkT, lenA, binPV, Env.init, resV, resT, frT, klT, ownT, intT, O.adds, ownA, rowsA, over, wrOk, keysT, keysA, ne_eq, if_true, if_false, ite_self, Nat.reduceLT, Nat.reduceSub, Nat.reduceBEq, Nat.reduceEqDiff, Nat.reduceAdd, Nat.reduceLeDiff, reduceCtorEq, Nat.reduceMul]
        intro h; subst h; rw [hx] at hy; exact hxy (Option.some.inj hy)
    · rintro e σ ⟨e2, e3, e6, s2, s3, hall⟩
      have hlt : ¬ ((b.to.length : Nat) : Int) < (a.to.length : Int) := by omega
      have hto2 : a.to = b.to := list_ext h6 fun j hj => hall j (by omega)
      simp only [encN, List.map_cons, List.map_nil] at s2 s3
      simp only [F31b1, e2, e3, e6, s2, s3, hlt, fxa, fxc, fxE, fxL, fxI, nxE, evO, evR, cellsT, ldCells, mkT, lenA, binPV, Env.init, resV, resT, frT, klT, ownT, intT, O.adds, ownA, rowsA, over, wrOk, keysT, keysA, ne_eq, if_true, if_false, ite_self, Nat.reduceLT, Nat.reduceSub, Nat.reduceBEq, Nat.reduceEqDiff, Nat.reduceAdd, Nat.reduceLeDiff, reduceCtorEq, Nat.reduceMul]
      obtain ⟨ak, al, an, at0, aa, at1⟩ := a
      obtain ⟨bk, bl, bn, bt0, ba, bt1⟩ := b
      simp only at h1 h2 h3 h4 hal2 hto2
      subst h1 h2 h3 h4 hal2 hto2
      rfl

theorem Same_ok {a b : Nt} (ha : a.Ok) : eP S 27 [.g (encT a), .g (encT b)] = some (.a (.b (bool (a = b)))) := by
  refine x_fnB (orcS (by decide)) (fc := F27) rfl rfl ?_
  have hns := ha.ns
  by_cases h1 : a.cap = b.cap
  case neg => simp only [F27, h1, fxa, fxc, fxE, fxL, fxI, nxE, evO, evR, cellsT, ldCells, mkT, lenA, binPV, Env.init, resV, resT, frT, klT, ownT, intT, O.adds, ownA, rowsA, over, wrOk, keysT, keysA, ne_eq, if_true, if_false, ite_self, Nat.reduceLT, Nat.reduceSub, Nat.reduceBEq, Nat.reduceEqDiff, Nat.reduceAdd, Nat.reduceLeDiff, reduceCtorEq, Nat.reduceMul]; intro h; exact h1 (by rw [h])
  by_cases h2 : a.ns.length = b.ns.length
  case neg =>
    have h2' : ¬ (a.ns.length : Int) = b.ns.length := by omega
    simp only [F27, h1, h2', fxa, fxc, fxE, fxL, fxI, nxE, evO, evR, cellsT, ldCells, mkT, lenA, binPV, Env.init, resV, resT, frT, klT, ownT, intT, O.adds, ownA, rowsA, over, wrOk, keysT, keysA, ne_eq, if_true, if_false, ite_self, Nat.reduceLT, Nat.reduceSub, Nat.reduceBEq, Nat.reduceEqDiff, Nat.reduceAdd, Nat.reduceLeDiff, reduceCtorEq, Nat.reduceMul]; intro h; exact h2 (by rw [h])
  simp only [F27, h1, h2, fxa, fxc, fxE, fxL, fxI, nxE, evO, evR, cellsT, ldCells, mkT, lenA, binPV, Env.init, resV, resT, frT, klT, ownT, intT, O.adds, ownA, rowsA, over, wrOk, keysT, keysA, ne_eq, if_true, if_false, ite_self, Nat.reduceLT, Nat.reduceSub, Nat.reduceBEq, Nat.reduceEqDiff, Nat.reduceAdd, Nat.reduceLeDiff, reduceCtorEq, Nat.reduceMul]
  refine loop_nat b.ns.length (fun i e σ => e 2 = .a (.ptr (2, 0) 0 0) ∧ e 3 = .a (.ptr (3, 1) 0 0) ∧ e 5 = .a (.p (.i .i64 (i : Nat))) ∧ σ.bs (2, 0) = some (.var ((encT a).map .p)) ∧ σ.bs (3, 1) = some (.var ((encT b).map .p)) ∧ ∀ j, j < i → a.ns[j]? = b.ns[j]?) (i0 := 0) (Nat.zero_le _) ?_ ?_ ?_
  · refine ⟨?_, ?_, ?_, ?_, ?_, fun j hj => by omega⟩ <;> simp only [h1, fxa, fxc, fxE, fxL, fxI, nxE, evO, evR, cellsT, ldCells, mkT, lenA, binPV, Env.init, resV, resT, frT, klT, ownT, intT, O.adds, ownA, rowsA, over, wrOk, keysT, keysA, ne_eq, if_true, if_false, ite_self, Nat.reduceLT, Nat.reduceSub, Nat.reduceBEq, Nat.reduceEqDiff, Nat.reduceAdd, Nat.reduceLeDiff, reduceCtorEq, Nat.reduceMul]
    rfl
  · rintro i e σ hi ⟨e2, e3, e5, s2, s3, hall⟩
    obtain ⟨x, hx⟩ : ∃ x, a.ns[i]? = some x := ⟨_, List.getElem?_eq_getElem (by omega)⟩
    obtain ⟨y, hy⟩ : ∃ y, b.ns[i]? = some y := ⟨_, List.getElem?_eq_getElem (by omega)⟩
    have hx' := mapGet encN hx
    have hy' := mapGet encN hy
    have hlt : ((i : Nat) : Int) < (a.ns.length : Int) := by omega
    have hlt' : ((i : Nat) : Int) < (b.ns.length : Int) := by omega
    have hge : (0 : Int) ≤ ((i : Nat) : Int) := by omega
    have c1 := One_ok (b := y) (ha.nd x (List.mem_of_getElem? hx))
    simp only [encT, List.map_cons, List.map_nil] at s2 s3
    simp only [encN] at c1
    by_cases hxy : x = y
    · rw [bool_t hxy] at c1
      simp only [F27b0, e2, e3, e5, s2, s3, hlt, hlt', hge, hx', hy', c1, fxa, fxc, fxE, fxL, fxI, nxE, evO, evR, cellsT, ldCells, mkT, lenA, binPV, Env.init, resV, resT, frT, klT, ownT, intT, O.adds, ownA, rowsA, over, wrOk, keysT, keysA, ne_eq, if_true, if_false, ite_self, Nat.reduceLT, Nat.reduceSub, Nat.reduceBEq, Nat.reduceEqDiff, Nat.reduceAdd, Nat.reduceLeDiff, reduceCtorEq, Nat.reduceMul]
      refine ⟨by rw [wrap_succ i (by omega)], fun j hj => ?_⟩
      by_cases e : j = i
      · rw [e, hx, hy, hxy]
      · exact hall j (by omega)
    · rw [bool_f hxy] at c1
      simp only [F27b0, e2, e3, e5, s2, s3, hlt, hlt', hge, hx', hy', c1, fxa, fxc, fxE, fxL, fxI, nxE, evO, evR, cellsT, ldCells, mkT, lenA, binPV, Env.init, resV, resT, frT, klT, ownT, intT, O.adds, ownA, rowsA, over, wrOk, keysT, keysA, ne_eq, if_true, if_false, ite_self, Nat.reduceLT, Nat.reduceSub, Nat.reduceBEq, Nat.reduceEqDiff, Nat.reduceAdd, Nat.reduceLeDiff, reduceCtorEq, Nat.reduceMul]
      intro h; subst h; rw [hx] at hy; exact hxy (Option.some.inj hy)
  · rintro e σ ⟨e2, e3, e5, s2, s3, hall⟩
    have hlt : ¬ ((b.ns.length : Nat) : Int) < (a.ns.length : Int) := by omega
    have hns2 : a.ns = b.ns := list_ext h2 fun j hj => hall j (by omega)
    simp only [encT, List.map_cons, List.map_nil] at s2 s3
    simp only [F27b0, e2, e3, e5, s2, s3, hlt, fxa, fxc, fxE, fxL, fxI, nxE, evO, evR, cellsT, ldCells, mkT, lenA, binPV, Env.init, resV, resT, frT, klT, ownT, intT, O.adds, ownA, rowsA, over, wrOk, keysT, keysA, ne_eq, if_true, if_false, ite_self, Nat.reduceLT, Nat.reduceSub, Nat.reduceBEq, Nat.reduceEqDiff, Nat.reduceAdd, Nat.reduceLeDiff, reduceCtorEq, Nat.reduceMul]
    obtain ⟨an, ac⟩ := a
    obtain ⟨bn, bc⟩ := b
    simp only at h1 hns2
    subst h1 hns2
    rfl

/-- at most so many nodes, of at most 12 ports and alternatives -/
def Nt.small (n : Nt) (m : Int) : Prop := (∀ x, x ∈ n.ns → x.to.length ≤ 12 ∧ x.al.length ≤ 12) ∧ (n.ns.length : Int) ≤ m
theorem Small_ok {n : Nt} (hn : n.Ok) (m : Int) : eP S 24 [.g (encT n), .a (.i .i64 m)] = some (.a (.b (bool (n.small m)))) := by
  refine x_fnB (orcS (by decide)) (fc := F24) rfl rfl ?_
  have hns := hn.ns
  simp only [F24, fxa, fxc, fxE, fxL, fxI, nxE, evO, evR, cellsT, ldCells, mkT, lenA, binPV, Env.init, resV, resT, frT, klT, ownT, intT, O.adds, ownA, rowsA, over, wrOk, keysT, keysA, ne_eq, if_true, if_false, ite_self, Nat.reduceLT, Nat.reduceSub, Nat.reduceBEq, Nat.reduceEqDiff, Nat.reduceAdd, Nat.reduceLeDiff, reduceCtorEq, Nat.reduceMul]
  refine loop_nat n.ns.length (fun i e σ => e 1 = .a (.p (.i .i64 m)) ∧ e 2 = .a (.ptr (2, 0) 0 0) ∧ e 5 = .a (.p (.i .i64 (i : Nat))) ∧ σ.bs (2, 0) = some (.var ((encT n).map .p)) ∧ ∀ j x, j < i → n.ns[j]? = some x → x.to.length ≤ 12 ∧ x.al.length ≤ 12) (i0 := 0) (Nat.zero_le _) ?_ ?_ ?_
  · refine ⟨?_, ?_, ?_, ?_, fun j x hj => by omega⟩ <;> simp only [fxa, fxc, fxE, fxL, fxI, nxE, evO, evR, cellsT, ldCells, mkT, lenA, binPV, Env.init, resV, resT, frT, klT, ownT, intT, O.adds, ownA, rowsA, over, wrOk, keysT, keysA, ne_eq, if_true, if_false, ite_self, Nat.reduceLT, Nat.reduceSub, Nat.reduceBEq, Nat.reduceEqDiff, Nat.reduceAdd, Nat.reduceLeDiff, reduceCtorEq, Nat.reduceMul]
    rfl
  · rintro i e σ hi ⟨e1, e2, e5, s2, hall⟩
    obtain ⟨x, hx⟩ : ∃ x, n.ns[i]? = some x := ⟨_, List.getElem?_eq_getElem (by omega)⟩
    have hx' := mapGet encN hx
    have hlt : ((i : Nat) : Int) < (n.ns.length : Int) := by omega
    have hge : (0 : Int) ≤ ((i : Nat) : Int) := by omega
    simp only [encT, List.map_cons, List.map_nil] at s2
    by_cases h1 : (x.to.length : Int) > 12
    · simp only [F24b0, e1, e2, e5, s2, hlt, hge, hx', h1, fxa, fxc, fxE, fxL, fxI, nxE, evO, evR, cellsT, ldCells, mkT, lenA, binPV, Env.init, resV, resT, frT, klT, ownT, intT, O.adds, ownA, rowsA, over, wrOk, keysT, keysA, ne_eq, if_true, if_false, ite_self, Nat.reduceLT, Nat.reduceSub, Nat.reduceBEq, Nat.reduceEqDiff, Nat.reduceAdd, Nat.reduceLeDiff, reduceCtorEq, Nat.reduceMul]
      intro h; have := h.1 x (List.mem_of_getElem? hx); omega
    · by_cases h2 : (x.al.length : Int) > 12
      · simp only [F24b0, e1, e2, e5, s2, hlt, hge, hx', h1, h2, fxa, fxc, fxE, fxL, fxI, nxE, evO, evR, cellsT, ldCells, mkT, lenA, binPV, Env.init, resV, resT, frT, klT, ownT, intT, O.adds, ownA, rowsA, over, wrOk, keysT, keysA, ne_eq, if_true, if_false, ite_self, Nat.reduceLT, Nat.reduceSub, Nat.reduceBEq, Nat.reduceEqDiff, Nat.reduceAdd, Nat.reduceLeDiff, reduceCtorEq, Nat.reduceMul]
        intro h; have := h.1 x (List.mem_of_getElem? hx); omega
      · simp only [F24b0, e1, e2, e5, s2, hlt, hge, hx', h1, h2, fxa, fxc, fxE, fxL, fxI, nxE, evO, evR, cellsT, ldCells, mkT, lenA, binPV, Env.init, resV, resT, frT, klT, ownT, intT, O.adds, ownA, rowsA, over, wrOk, keysT, keysA, ne_eq, if_true, if_false, ite_self, Nat.reduceLT, Nat.reduceSub, Nat.reduceBEq, Nat.reduceEqDiff, Nat.reduceAdd, Nat.reduceLeDiff, reduceCtorEq, Nat.reduceMul]
        refine ⟨by rw [wrap_succ i (by omega)], fun j y hj hy => ?_⟩
        by_cases e : j = i
        · subst e; rw [hx] at hy; rw [← Option.some.inj hy]; omega
        · exact hall j y (by omega) hy
  · rintro e σ ⟨e1, e2, e5, s2, hall⟩
    have hlt : ¬ ((n.ns.length : Nat) : Int) < (n.ns.length : Int) := by omega
    simp only [encT, List.map_cons, List.map_nil] at s2
    simp only [F24b0, e1, e2, e5, s2, hlt, fxa, fxc, fxE, fxL, fxI, nxE, evO, evR, cellsT, ldCells, mkT, lenA, binPV, Env.init, resV, resT, frT, klT, ownT, intT, O.adds, ownA, rowsA, over, wrOk, keysT, keysA, ne_eq, if_true, if_false, ite_self, Nat.reduceLT, Nat.reduceSub, Nat.reduceBEq, Nat.reduceEqDiff, Nat.reduceAdd, Nat.reduceLeDiff, reduceCtorEq, Nat.reduceMul]
    rw [decide_eq_true_iff]
    refine ⟨fun h => ⟨fun x hx => ?_, h⟩, fun h => h.2⟩
    obtain ⟨j, hj⟩ := List.getElem?_of_mem hx
    exact hall j x (List.getElem?_eq_some_iff.1 hj).1 hj

end Go.Proofs.Ytomcceambpneiaa
