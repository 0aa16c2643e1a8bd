/- The way that is gone from a port: the program's function. -/
import Derived.Test.YtkpfjolcmkikeaaReach1
import Derived.Test.YtkpfjolcmkikeaaStoreP
set_option linter.unusedSimpArgs false
set_option linter.unusedVariables false
set_option maxHeartbeats 4000000
set_option maxRecDepth 10000
namespace Go.Proofs.Ytkpfjolcmkikeaa
open Go.Fx

theorem index_ok {l : List Int} (hl : l.length * 8 ≤ 140737488355328) (x : Int) : eP S 124 [.a (.l (l.map encI)), .a (.i .i64 x)] = some (.a (.i .i64 (idx (fun y => decide (y = x)) l))) := by
  refine x_fn (orcS (by decide)) (fc := F124) rfl rfl ?_
  simp only [F124, fxa, fxc, fxE, fxL, fxI, nxE, evO, evR, cellsT, ldCells, mkT, lenA, binPV, Env.init, resV, resT, frT, klT, ownT, intT, O.adds, ownA, rowsA, over, wrOk, keysT, keysA, ne_eq, if_true, if_false, ite_self, Nat.reduceLT, Nat.reduceSub, Nat.reduceBEq, Nat.reduceEqDiff, Nat.reduceAdd, Nat.reduceLeDiff, reduceCtorEq, Nat.reduceMul]
  refine loop_nat l.length (fun i e σ => e 0 = .a (.p (.l (l.map encI))) ∧ e 1 = .a (.p (.i .i64 x)) ∧ e 7 = .a (.p (.i .i64 l.length)) ∧ e 8 = .a (.p (.i .i64 (i : Nat))) ∧ ∀ j y, j < i → l[j]? = some y → decide (y = x) = false) (i0 := 0) (Nat.zero_le _) ?_ ?_ ?_
  · refine ⟨?_, ?_, ?_, ?_, fun j y hj => by omega⟩ <;> simp only [fxa, fxc, fxE, fxL, fxI, nxE, evO, evR, cellsT, ldCells, mkT, lenA, binPV, Env.init, resV, resT, frT, klT, ownT, intT, O.adds, ownA, rowsA, over, wrOk, keysT, keysA, ne_eq, if_true, if_false, ite_self, Nat.reduceLT, Nat.reduceSub, Nat.reduceBEq, Nat.reduceEqDiff, Nat.reduceAdd, Nat.reduceLeDiff, reduceCtorEq, Nat.reduceMul]
    rfl
  · rintro i e σ hi ⟨e0, e1, e7, e8, hall⟩
    obtain ⟨y, hy⟩ : ∃ y, l[i]? = some y := ⟨_, List.getElem?_eq_getElem hi⟩
    have hy' := mapGet encI hy
    have hlt : ((i : Nat) : Int) < (l.length : Int) := by omega
    have hge : (0 : Int) ≤ ((i : Nat) : Int) := by omega
    have hra : ((l.map encI).all fun r => decide (r.length = 1)) = true := by simp [encI]
    simp only [encI] at hy' hra
    by_cases e : x = y
    · subst e
      have : l.findIdx? (fun y => decide (y = x)) = some i := by
        rw [List.findIdx?_eq_some_iff_getElem]
        refine ⟨hi, ?_, fun j hj => ?_⟩
        · rw [List.getElem?_eq_getElem hi] at hy; rw [Option.some.inj hy]; simp
        · rw [hall j _ hj (List.getElem?_eq_getElem (by omega))]; simp
      simp only [F124b0, e0, e1, e7, e8, hlt, hge, hy', hra, encI, idx, this, fxa, fxc, fxE, fxL, fxI, nxE, evO, evR, cellsT, ldCells, mkT, lenA, binPV, Env.init, resV, resT, frT, klT, ownT, intT, O.adds, ownA, rowsA, over, wrOk, keysT, keysA, ne_eq, if_true, if_false, ite_self, Nat.reduceLT, Nat.reduceSub, Nat.reduceBEq, Nat.reduceEqDiff, Nat.reduceAdd, Nat.reduceLeDiff, reduceCtorEq, Nat.reduceMul]
    · simp only [F124b0, e0, e1, e7, e8, hlt, hge, hy', hra, e, encI, fxa, fxc, fxE, fxL, fxI, nxE, evO, evR, cellsT, ldCells, mkT, lenA, binPV, Env.init, resV, resT, frT, klT, ownT, intT, O.adds, ownA, rowsA, over, wrOk, keysT, keysA, ne_eq, if_true, if_false, ite_self, Nat.reduceLT, Nat.reduceSub, Nat.reduceBEq, Nat.reduceEqDiff, Nat.reduceAdd, Nat.reduceLeDiff, reduceCtorEq, Nat.reduceMul]
      refine ⟨by rw [wrap_succ i (by omega)], fun j z hj hz => ?_⟩
      by_cases e2 : j = i
      · subst e2; rw [hy] at hz; rw [← Option.some.inj hz]; simpa using fun h : y = x => e h.symm
      · exact hall j z (by omega) hz
  · rintro e σ ⟨e0, e1, e7, e8, hall⟩
    have hlt : ¬ ((l.length : Nat) : Int) < (l.length : Int) := by omega
    have : l.findIdx? (fun y => decide (y = x)) = none := by
      rw [List.findIdx?_eq_none_iff]
      intro y hy
      obtain ⟨j, hj⟩ := List.getElem?_of_mem hy
      exact hall j y (List.getElem?_eq_some_iff.1 hj).1 hj
    simp only [F124b0, e0, e1, e7, e8, hlt, idx, this, fxa, fxc, fxE, fxL, fxI, nxE, evO, evR, cellsT, ldCells, mkT, lenA, binPV, Env.init, resV, resT, frT, klT, ownT, intT, O.adds, ownA, rowsA, over, wrOk, keysT, keysA, ne_eq, if_true, if_false, ite_self, Nat.reduceLT, Nat.reduceSub, Nat.reduceBEq, Nat.reduceEqDiff, Nat.reduceAdd, Nat.reduceLeDiff, reduceCtorEq, Nat.reduceMul]
theorem contains_ok {l : List Int} (hl : l.length * 8 ≤ 140737488355328) (x : Int) : eP S 87 [.a (.l (l.map encI)), .a (.i .i64 x)] = some (.a (.b (l.any fun y => decide (y = x)))) := by
  refine x_fn (orcS (by decide)) (fc := F87) rfl rfl ?_
  have c1 := index_ok hl x
  simp only [F87, c1, idx_any, fxa, fxc, fxE, fxL, fxI, nxE, evO, evR, cellsT, ldCells, mkT, lenA, binPV, Env.init, resV, resT, frT, klT, ownT, intT, O.adds, ownA, rowsA, over, wrOk, keysT, keysA, ne_eq, if_true, if_false, ite_self, Nat.reduceLT, Nat.reduceSub, Nat.reduceBEq, Nat.reduceEqDiff, Nat.reduceAdd, Nat.reduceLeDiff, reduceCtorEq, Nat.reduceMul]

def tellsR (k s : Int) : Bool :=
  if k = 3 ∨ k = 9 ∨ k = 11 ∨ k = 12 ∨ k = 5 ∨ k = 6 then decide (s = 1) else if k = 4 then (decide (s = 1) || decide (s = 2)) else false
theorem tells_ok (x : Nd) (s : Int) : eP S 88 [.g (encN x), .a (.i .i64 s)] = some (.a (.b (tellsR x.k s))) := by
  refine x_fn (orcS (by decide)) (fc := F88) rfl rfl ?_
  unfold tellsR
  by_cases h1 : x.k = 3
  · simp only [F88, h1, Int.reduceEq, true_or, or_true, fxa, fxc, fxE, fxL, fxI, nxE, evO, evR, cellsT, ldCells, mkT, lenA, binPV, Env.init, resV, resT, frT, klT, ownT, intT, O.adds, ownA, rowsA, over, wrOk, keysT, keysA, ne_eq, if_true, if_false, ite_self, Nat.reduceLT, Nat.reduceSub, Nat.reduceBEq, Nat.reduceEqDiff, Nat.reduceAdd, Nat.reduceLeDiff, reduceCtorEq, Nat.reduceMul]
  by_cases h2 : x.k = 9
  · simp only [F88, h2, Int.reduceEq, true_or, or_true, fxa, fxc, fxE, fxL, fxI, nxE, evO, evR, cellsT, ldCells, mkT, lenA, binPV, Env.init, resV, resT, frT, klT, ownT, intT, O.adds, ownA, rowsA, over, wrOk, keysT, keysA, ne_eq, if_true, if_false, ite_self, Nat.reduceLT, Nat.reduceSub, Nat.reduceBEq, Nat.reduceEqDiff, Nat.reduceAdd, Nat.reduceLeDiff, reduceCtorEq, Nat.reduceMul]
  by_cases h3 : x.k = 11
  · simp only [F88, h3, Int.reduceEq, true_or, or_true, fxa, fxc, fxE, fxL, fxI, nxE, evO, evR, cellsT, ldCells, mkT, lenA, binPV, Env.init, resV, resT, frT, klT, ownT, intT, O.adds, ownA, rowsA, over, wrOk, keysT, keysA, ne_eq, if_true, if_false, ite_self, Nat.reduceLT, Nat.reduceSub, Nat.reduceBEq, Nat.reduceEqDiff, Nat.reduceAdd, Nat.reduceLeDiff, reduceCtorEq, Nat.reduceMul]
  by_cases h4 : x.k = 12
  · simp only [F88, h4, Int.reduceEq, true_or, or_true, fxa, fxc, fxE, fxL, fxI, nxE, evO, evR, cellsT, ldCells, mkT, lenA, binPV, Env.init, resV, resT, frT, klT, ownT, intT, O.adds, ownA, rowsA, over, wrOk, keysT, keysA, ne_eq, if_true, if_false, ite_self, Nat.reduceLT, Nat.reduceSub, Nat.reduceBEq, Nat.reduceEqDiff, Nat.reduceAdd, Nat.reduceLeDiff, reduceCtorEq, Nat.reduceMul]
  by_cases h5 : x.k = 5
  · simp only [F88, h5, Int.reduceEq, true_or, or_true, fxa, fxc, fxE, fxL, fxI, nxE, evO, evR, cellsT, ldCells, mkT, lenA, binPV, Env.init, resV, resT, frT, klT, ownT, intT, O.adds, ownA, rowsA, over, wrOk, keysT, keysA, ne_eq, if_true, if_false, ite_self, Nat.reduceLT, Nat.reduceSub, Nat.reduceBEq, Nat.reduceEqDiff, Nat.reduceAdd, Nat.reduceLeDiff, reduceCtorEq, Nat.reduceMul]
  by_cases h6 : x.k = 6
  · simp only [F88, h6, Int.reduceEq, true_or, or_true, fxa, fxc, fxE, fxL, fxI, nxE, evO, evR, cellsT, ldCells, mkT, lenA, binPV, Env.init, resV, resT, frT, klT, ownT, intT, O.adds, ownA, rowsA, over, wrOk, keysT, keysA, ne_eq, if_true, if_false, ite_self, Nat.reduceLT, Nat.reduceSub, Nat.reduceBEq, Nat.reduceEqDiff, Nat.reduceAdd, Nat.reduceLeDiff, reduceCtorEq, Nat.reduceMul]
  by_cases h7 : x.k = 4
  · cases h8 : decide (s = 1) with
    | true => simp only [F88, h7, h8, Int.reduceEq, or_self, fxa, fxc, fxE, fxL, fxI, nxE, evO, evR, cellsT, ldCells, mkT, lenA, binPV, Env.init, resV, resT, frT, klT, ownT, intT, O.adds, ownA, rowsA, over, wrOk, keysT, keysA, ne_eq, if_true, if_false, ite_self, Nat.reduceLT, Nat.reduceSub, Nat.reduceBEq, Nat.reduceEqDiff, Nat.reduceAdd, Nat.reduceLeDiff, reduceCtorEq, Nat.reduceMul]
    | false => simp only [F88, h7, h8, Int.reduceEq, or_self, fxa, fxc, fxE, fxL, fxI, nxE, evO, evR, cellsT, ldCells, mkT, lenA, binPV, Env.init, resV, resT, frT, klT, ownT, intT, O.adds, ownA, rowsA, over, wrOk, keysT, keysA, ne_eq, if_true, if_false, ite_self, Nat.reduceLT, Nat.reduceSub, Nat.reduceBEq, Nat.reduceEqDiff, Nat.reduceAdd, Nat.reduceLeDiff, reduceCtorEq, Nat.reduceMul]
  · simp only [F88, h1, h2, h3, h4, h5, h6, h7, or_self, fxa, fxc, fxE, fxL, fxI, nxE, evO, evR, cellsT, ldCells, mkT, lenA, binPV, Env.init, resV, resT, frT, klT, ownT, intT, O.adds, ownA, rowsA, over, wrOk, keysT, keysA, ne_eq, if_true, if_false, ite_self, Nat.reduceLT, Nat.reduceSub, Nat.reduceBEq, Nat.reduceEqDiff, Nat.reduceAdd, Nat.reduceLeDiff, reduceCtorEq, Nat.reduceMul]

structure Wy where
  l : List Int
  en : Int
  is : Bool
  e : Int
def encWy (w : Wy) : List PV := [.l (w.l.map encI), .i .i64 w.en, .b w.is, .i .i64 w.e]
/-- the way on, behind nodes that were passed -/
def walkF (n : Nt) : Nat → List Int → Pt → Wy
  | 0, l, p => ⟨l, p.n, false, 191⟩
  | k + 1, l, p =>
    if (l.any fun y => decide (y = p.n)) = true then ⟨l, p.n, false, 191⟩
    else if p.s = 0 then ⟨l ++ [p.n], p.n, false, 0⟩
    else if tellsR (n.nd p.n).k p.s = false then ⟨l ++ [p.n], p.n, false, 190⟩
    else if (n.lk ⟨p.n, 0⟩).s = 0 then ⟨l ++ [p.n], p.n, true, 0⟩
    else walkF n k (l ++ [p.n]) (n.lk ⟨p.n, 0⟩)
noncomputable def fromR (n : Nt) (p : Pt) : Wy := if bool n.Good then (if n.has p then walkF n (n.ns.length + 1) [] (n.lk p) else ⟨[], 0, false, 130⟩) else ⟨[], 0, false, 120⟩

/-- nodes that were passed: different ones, none of them free -/
structure Passed (n : Nt) (l : List Int) : Prop where
  nd : l.Nodup
  us : ∀ x, x ∈ l → ∃ (i : Nat) (y : Nd), x = (i : Int) ∧ n.ns[i]? = some y ∧ y.k ≠ 0

theorem nodup_one {l : List Int} (h : l.Nodup) (k : Int) : l.length ≤ (l.filter fun x => decide (x ≠ k)).length + 1 ∧ (k ∉ l → (l.filter fun x => decide (x ≠ k)) = l) := by
  refine ⟨?_, fun hk => List.filter_eq_self.2 fun x hx => by simp; rintro rfl; exact hk hx⟩
  induction l with
  | nil => simp
  | cons a l ih =>
    rw [List.nodup_cons] at h
    by_cases e : a = k
    · subst e
      have : (l.filter fun x => decide (x ≠ a)) = l := List.filter_eq_self.2 fun x hx => by simp; rintro rfl; exact h.1 hx
      rw [List.filter_cons, if_neg (by simp), this]; simp
    · have := ih h.2
      simp only [List.filter_cons]
      simp [e]; simpa using this
theorem passed_le {ns : List Nd} : ∀ (k : Nat), k ≤ ns.length → ∀ (l : List Int), l.Nodup → (∀ x, x ∈ l → ∃ (i : Nat) (y : Nd), x = (i : Int) ∧ i < k ∧ ns[i]? = some y ∧ y.k ≠ 0) → (l.length : Int) ≤ usedL (ns.take k)
  | 0, _, l, _, h => by
    cases l with
    | nil => simp [usedL]
    | cons a l => obtain ⟨i, y, _, hi, _⟩ := h a (by simp); omega
  | k + 1, hk, l, hn, h => by
    obtain ⟨z, hz⟩ : ∃ z, ns[k]? = some z := ⟨_, List.getElem?_eq_getElem (by omega)⟩
    have h1 := nodup_one hn (k : Int)
    have h2 := passed_le (ns := ns) k (by omega) (l.filter fun x => decide (x ≠ (k : Int))) (hn.filter _) (fun x hx => by
      rw [List.mem_filter] at hx
      obtain ⟨i, y, e, hi, hy⟩ := h x hx.1
      have h3 : x ≠ (k : Int) := by simpa using hx.2
      exact ⟨i, y, e, by omega, hy⟩)
    rw [usedL_take hz]
    by_cases hm : (k : Int) ∈ l
    · obtain ⟨i, y, e, hi, hy, hyk⟩ := h _ hm
      have : i = k := by omega
      subst this
      rw [hz] at hy
      rw [Option.some.inj hy, if_neg hyk]
      omega
    · rw [h1.2 hm] at h2
      split <;> omega
theorem Passed.le {n : Nt} {l : List Int} (h : Passed n l) : (l.length : Int) ≤ n.used := by
  have := passed_le (ns := n.ns) n.ns.length (Nat.le_refl _) l h.nd (fun x hx => by
    obtain ⟨i, y, e, hy, hk⟩ := h.us x hx
    exact ⟨i, y, e, (List.getElem?_eq_some_iff.1 hy).1, hy, hk⟩)
  rw [List.take_length] at this; exact this
theorem Passed.len {n : Nt} {l : List Int} (h : Passed n l) : l.length ≤ n.ns.length := by
  have h1 := h.le
  have h2 := usedL_le n.ns
  unfold Nt.used at h1; omega
theorem Passed.add {n : Nt} {l : List Int} (h : Passed n l) {p : Pt} (hG : n.Good) (hp : n.has p = true) (hno : ¬ (l.any fun y => decide (y = p.n)) = true) : Passed n (l ++ [p.n]) := by
  have hp' := has_iff.1 hp
  have hx := get_nd (n := n) hp'.1 hp'.2.1
  have hq := get_tt (x := n.nd p.n) hp'.2.2.1 hp'.2.2.2
  refine ⟨?_, fun x hx' => ?_⟩
  · rw [List.nodup_append]
    refine ⟨h.nd, by simp, fun a ha b hb => ?_⟩
    simp only [List.mem_cons, List.not_mem_nil, or_false] at hb
    rintro rfl
    apply hno
    rw [List.any_eq_true]; exact ⟨a, ha, by simp [hb]⟩
  · rcases List.mem_append.1 hx' with h1 | h1
    · exact h.us x h1
    · simp only [List.mem_cons, List.not_mem_nil, or_false] at h1
      exact ⟨p.n.toNat, _, by omega, hx, good_no_k hG hx hq⟩
theorem has_zero {n : Nt} {p : Pt} (hp : n.has p = true) : n.has ⟨p.n, 0⟩ = true := by
  rw [has_iff] at hp ⊢; simp only; omega

theorem from_ok {n : Nt} (hn : n.Ok) {p : Pt} (hp : wf p.n ∧ wf p.s) : eP S 63 [.g (encT n), .g (encP p)] = some (.g (encWy (fromR n p))) := by
  refine x_fn (orcS (by decide)) (fc := F63) rfl rfl ?_
  have c1 := sCheck_ok hn
  have hns := hn.ns
  unfold fromR
  by_cases hG : n.Good
  case neg =>
    rw [bool_f hG] at c1 ⊢
    simp only [Bool.false_eq_true, if_false, encT] at c1
    simp only [F63, c1, encWy, Int.reduceEq, fxa, fxc, fxE, fxL, fxI, nxE, evO, evR, cellsT, ldCells, mkT, lenA, binPV, Env.init, resV, resT, frT, klT, ownT, intT, O.adds, ownA, rowsA, over, wrOk, keysT, keysA, ne_eq, if_true, if_false, ite_self, Nat.reduceLT, Nat.reduceSub, Nat.reduceBEq, Nat.reduceEqDiff, Nat.reduceAdd, Nat.reduceLeDiff, reduceCtorEq, Nat.reduceMul]
  rw [bool_t hG] at c1 ⊢
  have c2 := Peer_ok n p
  have hb := good_big hG
  simp only [if_true, encT, encP] at c1 c2
  cases hh : n.has p with
  | false =>
    rw [hh] at c2
    simp only [Bool.false_eq_true, if_false, zP] at c2
    simp only [F63, c1, c2, encWy, Int.reduceEq, Bool.false_eq_true, fxa, fxc, fxE, fxL, fxI, nxE, evO, evR, cellsT, ldCells, mkT, lenA, binPV, Env.init, resV, resT, frT, klT, ownT, intT, O.adds, ownA, rowsA, over, wrOk, keysT, keysA, ne_eq, if_true, if_false, ite_self, Nat.reduceLT, Nat.reduceSub, Nat.reduceBEq, Nat.reduceEqDiff, Nat.reduceAdd, Nat.reduceLeDiff, reduceCtorEq, Nat.reduceMul]
  | true =>
  rw [hh] at c2
  simp only [if_true] at c2
  obtain ⟨g1, g2, g3⟩ := good_link hG hh
  obtain ⟨q, hq⟩ : ∃ q, n.lk p = q := ⟨_, rfl⟩
  rw [hq] at c2 g2
  rw [hq]
  obtain ⟨R, hR⟩ : ∃ R, walkF n (n.ns.length + 1) [] q = R := ⟨_, rfl⟩
  simp only [F63, c1, c2, fxa, fxc, fxE, fxL, fxI, nxE, evO, evR, cellsT, ldCells, mkT, lenA, binPV, Env.init, resV, resT, frT, klT, ownT, intT, O.adds, ownA, rowsA, over, wrOk, keysT, keysA, ne_eq, if_true, if_false, ite_self, Nat.reduceLT, Nat.reduceSub, Nat.reduceBEq, Nat.reduceEqDiff, Nat.reduceAdd, Nat.reduceLeDiff, reduceCtorEq, Nat.reduceMul]
  rw [hR]
  refine wp_loop_ind (fun k e σ => ∃ (l : List Int) (r : Pt) (x : AV) (w0 : Nat) (en : Int), e 2 = .a (.ptr (2, 0) 0 0) ∧ e 4 = .a (.ptr (4, 2) 0 0) ∧ e 5 = .a (.ptr (5, w0) 0 0) ∧ 3 ≤ w0 ∧ w0 < σ.clk ∧ σ.bs (2, 0) = some (.var [.p (.l (n.ns.map encN)), .p (.i .i64 n.cap)]) ∧
    σ.bs (5, w0) = some (.var [.p (.i .i64 r.n), .p (.i .i64 r.s)]) ∧ σ.bs (4, 2) = some (.var [x, .p (.i .i64 en), .p (.b false), .p (.i .i64 0)]) ∧ (l = [] ∧ x = .nil ∨ ∃ q : Nat, x = .own (40, q) 0 l.length ∧ σ.bs (40, q) = some (.row 1 3 (l.map encI)) ∧ q < σ.clk) ∧
    Passed n l ∧ n.has r = true ∧ k + l.length = n.ns.length + 1 ∧ walkF n k l r = R) ?_ (n.ns.length + 1) _ _ ⟨[], q, .nil, 3, 0, ?_, ?_, ?_, Nat.le_refl _, ?_, ?_, ?_, ?_, .inl ⟨rfl, rfl⟩, ⟨List.nodup_nil, fun x hx => by simp at hx⟩, g2, rfl, hR⟩
  · rintro k e σ ⟨l, r, x, w0, en, e2, e4, e5, hw3, hwc, s2, s5, s4, hx, hP, hr, hk, hW⟩
    have hl := hP.len
    obtain ⟨k, rfl⟩ : ∃ j, k = j + 1 := ⟨k - 1, by omega⟩
    rw [walkF] at hW
    have c3 := contains_ok (l := l) (by omega) r.n
    have hfr : frA σ x = some (.l (l.map encI)) := by
      rcases hx with ⟨rfl, rfl⟩ | ⟨w, rfl, hw, _⟩
      · rfl
      · simp only [frA, hw, List.length_map, Nat.zero_add, Nat.le_refl, if_true, List.drop_zero]
        rw [List.take_of_length_le (by simp)]
    have hr' := has_iff.1 hr
    have hx' := getN (l := n.ns) hr'.1 hr'.2.1
    obtain ⟨y, hy⟩ : ∃ y, n.nd r.n = y := ⟨_, rfl⟩
    have hy2 : n.ns.getD r.n.toNat zN = y := hy
    rw [hy2] at hx'
    have c4 := tells_ok y r.s
    have hz := has_zero hr
    have c5 := Peer_ok n ⟨r.n, 0⟩
    rw [hz] at c5
    obtain ⟨z1, z2, z3⟩ := good_link hG hz
    obtain ⟨t, ht⟩ : ∃ t, n.lk ⟨r.n, 0⟩ = t := ⟨_, rfl⟩
    rw [ht] at c5 z2 hW
    rw [hy] at hW
    simp only [if_true, encT, encN, encP] at c4 c5
    have ne4 : ¬ (5, w0) = (4, 2) := by simp
    have hw5 : ¬ 2 = σ.clk ∧ ¬ 2 = σ.clk + 1 ∧ ¬ w0 = σ.clk ∧ ¬ w0 = σ.clk + 1 := by omega
    by_cases hin : (l.any fun y => decide (y = r.n)) = true
    · rw [if_pos hin] at hW
      rw [hin] at c3
      subst hW
      rcases hx with ⟨rfl, rfl⟩ | ⟨w, rfl, hw, hwl⟩
      · simp at hin
      · have htk : List.take l.length (l.map encI) = l.map encI := List.take_of_length_le (by simp)
        simp only [F63b0, e2, e4, e5, s2, s4, s5, hw, c3, htk, encWy, List.length_map, Nat.le_refl, fxa, fxc, fxE, fxL, fxI, nxE, evO, evR, cellsT, ldCells, mkT, lenA, binPV, Env.init, resV, resT, frT, klT, ownT, intT, O.adds, ownA, rowsA, over, wrOk, keysT, keysA, ne_eq, if_true, if_false, ite_self, Nat.reduceLT, Nat.reduceSub, Nat.reduceBEq, Nat.reduceEqDiff, Nat.reduceAdd, Nat.reduceLeDiff, reduceCtorEq, Nat.reduceMul]
    rw [if_neg hin] at hW
    have hin' : (l.any fun y => decide (y = r.n)) = false := by
      cases h : l.any fun y => decide (y = r.n) with
      | true => exact absurd h hin
      | false => rfl
    rw [hin'] at c3
    have hP2 := hP.add hG hr hin
    have hbb : (l.length + 1) * 8 ≤ 140737488355328 := by omega
    by_cases h0 : r.s = 0
    · rw [if_pos h0] at hW
      subst hW
      rcases hx with ⟨rfl, rfl⟩ | ⟨w, rfl, hw, hwl⟩
      · rw [List.map_nil] at c3
        simp only [F63b0, e2, e4, e5, s2, s4, s5, h0, c3, encWy, encI, Nat.zero_add, Nat.one_mul, Nat.reduceLeDiff, Nat.zero_lt_one, List.map_nil, fxa, fxc, fxE, fxL, fxI, nxE, evO, evR, cellsT, ldCells, mkT, lenA, binPV, Env.init, resV, resT, frT, klT, ownT, intT, O.adds, ownA, rowsA, over, wrOk, keysT, keysA, ne_eq, if_true, if_false, ite_self, Nat.reduceLT, Nat.reduceSub, Nat.reduceBEq, Nat.reduceEqDiff, Nat.reduceAdd, Nat.reduceLeDiff, reduceCtorEq, Nat.reduceMul]
      · have htk : List.take l.length (l.map encI) = l.map encI := List.take_of_length_le (by simp)
        have hwn : ¬ w = σ.clk := by omega
        have htk2 : List.take (l.length + 1) (l.map encI ++ [[PV.i .i64 r.n]]) = (l ++ [r.n]).map encI := by rw [List.take_of_length_le (by simp)]; simp [encI]
        have hle2 : l.length + 1 ≤ (l.map encI ++ [[PV.i .i64 r.n]]).length := by simp
        simp only [F63b0, e2, e4, e5, s2, s4, s5, hw, h0, c3, htk, htk2, hle2, hbb, hwn, encWy, List.length_map, Nat.le_refl, Nat.zero_add, Nat.one_mul, Nat.reduceLeDiff, Nat.zero_lt_one, fxa, fxc, fxE, fxL, fxI, nxE, evO, evR, cellsT, ldCells, mkT, lenA, binPV, Env.init, resV, resT, frT, klT, ownT, intT, O.adds, ownA, rowsA, over, wrOk, keysT, keysA, ne_eq, if_true, if_false, ite_self, Nat.reduceLT, Nat.reduceSub, Nat.reduceBEq, Nat.reduceEqDiff, Nat.reduceAdd, Nat.reduceLeDiff, reduceCtorEq, Nat.reduceMul]
    rw [if_neg h0] at hW
    cases htl : tellsR y.k r.s with
    | false =>
      rw [htl] at c4 hW
      rw [if_pos rfl] at hW
      subst hW
      rcases hx with ⟨rfl, rfl⟩ | ⟨w, rfl, hw, hwl⟩
      · rw [List.map_nil] at c3
        simp only [F63b0, e2, e4, e5, s2, s4, s5, h0, hr'.1, hr'.2.1, hx', c3, c4, encWy, encI, Nat.zero_add, Nat.one_mul, Nat.reduceLeDiff, Nat.zero_lt_one, List.map_nil, fxa, fxc, fxE, fxL, fxI, nxE, evO, evR, cellsT, ldCells, mkT, lenA, binPV, Env.init, resV, resT, frT, klT, ownT, intT, O.adds, ownA, rowsA, over, wrOk, keysT, keysA, ne_eq, if_true, if_false, ite_self, Nat.reduceLT, Nat.reduceSub, Nat.reduceBEq, Nat.reduceEqDiff, Nat.reduceAdd, Nat.reduceLeDiff, reduceCtorEq, Nat.reduceMul]
      · have htk : List.take l.length (l.map encI) = l.map encI := List.take_of_length_le (by simp)
        have hwn : ¬ w = σ.clk := by omega
        have htk2 : List.take (l.length + 1) (l.map encI ++ [[PV.i .i64 r.n]]) = (l ++ [r.n]).map encI := by rw [List.take_of_length_le (by simp)]; simp [encI]
        have hle2 : l.length + 1 ≤ (l.map encI ++ [[PV.i .i64 r.n]]).length := by simp
        simp only [F63b0, e2, e4, e5, s2, s4, s5, hw, h0, hr'.1, hr'.2.1, hx', c3, c4, htk, htk2, hle2, hbb, hwn, encWy, List.length_map, Nat.le_refl, Nat.zero_add, Nat.one_mul, Nat.reduceLeDiff, Nat.zero_lt_one, fxa, fxc, fxE, fxL, fxI, nxE, evO, evR, cellsT, ldCells, mkT, lenA, binPV, Env.init, resV, resT, frT, klT, ownT, intT, O.adds, ownA, rowsA, over, wrOk, keysT, keysA, ne_eq, if_true, if_false, ite_self, Nat.reduceLT, Nat.reduceSub, Nat.reduceBEq, Nat.reduceEqDiff, Nat.reduceAdd, Nat.reduceLeDiff, reduceCtorEq, Nat.reduceMul]
    | true =>
      rw [htl] at c4 hW
      rw [if_neg (by simp)] at hW
      by_cases h1 : t.s = 0
      · rw [if_pos h1] at hW
        subst hW
        rcases hx with ⟨rfl, rfl⟩ | ⟨w, rfl, hw, hwl⟩
        · rw [List.map_nil] at c3
          simp only [F63b0, e2, e4, e5, s2, s4, s5, h0, h1, hr'.1, hr'.2.1, hx', c3, c4, c5, encWy, encI, Nat.zero_add, Nat.one_mul, Nat.reduceLeDiff, Nat.zero_lt_one, List.map_nil, fxa, fxc, fxE, fxL, fxI, nxE, evO, evR, cellsT, ldCells, mkT, lenA, binPV, Env.init, resV, resT, frT, klT, ownT, intT, O.adds, ownA, rowsA, over, wrOk, keysT, keysA, ne_eq, if_true, if_false, ite_self, Nat.reduceLT, Nat.reduceSub, Nat.reduceBEq, Nat.reduceEqDiff, Nat.reduceAdd, Nat.reduceLeDiff, reduceCtorEq, Nat.reduceMul]
        · have htk : List.take l.length (l.map encI) = l.map encI := List.take_of_length_le (by simp)
          have hwn : ¬ w = σ.clk := by omega
          have htk2 : List.take (l.length + 1) (l.map encI ++ [[PV.i .i64 r.n]]) = (l ++ [r.n]).map encI := by rw [List.take_of_length_le (by simp)]; simp [encI]
          have hle2 : l.length + 1 ≤ (l.map encI ++ [[PV.i .i64 r.n]]).length := by simp
          simp only [F63b0, e2, e4, e5, s2, s4, s5, hw, h0, h1, hr'.1, hr'.2.1, hx', c3, c4, c5, htk, htk2, hle2, hbb, hwn, encWy, List.length_map, Nat.le_refl, Nat.zero_add, Nat.one_mul, Nat.reduceLeDiff, Nat.zero_lt_one, fxa, fxc, fxE, fxL, fxI, nxE, evO, evR, cellsT, ldCells, mkT, lenA, binPV, Env.init, resV, resT, frT, klT, ownT, intT, O.adds, ownA, rowsA, over, wrOk, keysT, keysA, ne_eq, if_true, if_false, ite_self, Nat.reduceLT, Nat.reduceSub, Nat.reduceBEq, Nat.reduceEqDiff, Nat.reduceAdd, Nat.reduceLeDiff, reduceCtorEq, Nat.reduceMul]
      · rw [if_neg h1] at hW
        rcases hx with ⟨rfl, rfl⟩ | ⟨w, rfl, hw, hwl⟩
        · rw [List.map_nil] at c3
          simp only [F63b0, e2, e4, e5, s2, s4, s5, h0, h1, hr'.1, hr'.2.1, hx', c3, c4, c5, encI, Nat.zero_add, Nat.one_mul, Nat.reduceLeDiff, Nat.zero_lt_one, List.map_nil, fxa, fxc, fxE, fxL, fxI, nxE, evO, evR, cellsT, ldCells, mkT, lenA, binPV, Env.init, resV, resT, frT, klT, ownT, intT, O.adds, ownA, rowsA, over, wrOk, keysT, keysA, ne_eq, if_true, if_false, ite_self, Nat.reduceLT, Nat.reduceSub, Nat.reduceBEq, Nat.reduceEqDiff, Nat.reduceAdd, Nat.reduceLeDiff, reduceCtorEq, Nat.reduceMul]
          refine ⟨k, by omega, [r.n], t, .own (40, σ.clk + 1) 0 1, w0, r.n, rfl, hw3, by omega, ?_⟩
          refine ⟨by simp, rfl, .inr ⟨σ.clk + 1, rfl, by simp [encI], by omega⟩, hP2, z2, ?_, hW⟩
          simp only [List.length_nil, List.length_cons] at hk ⊢; omega
        · have htk : List.take l.length (l.map encI) = l.map encI := List.take_of_length_le (by simp)
          have hwn : ¬ w = σ.clk := by omega
          simp only [F63b0, e2, e4, e5, s2, s4, s5, hw, h0, h1, hr'.1, hr'.2.1, hx', c3, c4, c5, htk, hbb, hwn, List.length_map, Nat.le_refl, Nat.zero_add, Nat.one_mul, Nat.reduceLeDiff, Nat.zero_lt_one, fxa, fxc, fxE, fxL, fxI, nxE, evO, evR, cellsT, ldCells, mkT, lenA, binPV, Env.init, resV, resT, frT, klT, ownT, intT, O.adds, ownA, rowsA, over, wrOk, keysT, keysA, ne_eq, if_true, if_false, ite_self, Nat.reduceLT, Nat.reduceSub, Nat.reduceBEq, Nat.reduceEqDiff, Nat.reduceAdd, Nat.reduceLeDiff, reduceCtorEq, Nat.reduceMul]
          refine ⟨k, by omega, l ++ [r.n], t, .own (40, σ.clk + 1) 0 (l.length + 1), w0, r.n, rfl, hw3, by omega, ?_⟩
          refine ⟨by simp, rfl, .inr ⟨σ.clk + 1, by simp, by simp [encI], by omega⟩, hP2, z2, ?_, hW⟩
          simp only [List.length_append, List.length_cons, List.length_nil]; omega
  all_goals simp only [fxa, fxc, fxE, fxL, fxI, nxE, evO, evR, cellsT, ldCells, mkT, lenA, binPV, Env.init, resV, resT, frT, klT, ownT, intT, O.adds, ownA, rowsA, over, wrOk, keysT, keysA, ne_eq, if_true, if_false, ite_self, Nat.reduceLT, Nat.reduceSub, Nat.reduceBEq, Nat.reduceEqDiff, Nat.reduceAdd, Nat.reduceLeDiff, reduceCtorEq, Nat.reduceMul]
end Go.Proofs.Ytkpfjolcmkikeaa
