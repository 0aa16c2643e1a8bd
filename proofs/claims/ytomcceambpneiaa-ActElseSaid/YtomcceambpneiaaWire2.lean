/- Linking, moving, joining: what the program's functions tell. -/
import Derived.Test.YtomcceambpneiaaWire1
set_option linter.unusedSimpArgs false
set_option linter.unusedVariables false
set_option maxHeartbeats 4000000
set_option maxRecDepth 10000
namespace Go.Proofs.Ytomcceambpneiaa
open Go.Fx

theorem ptEq (p q : Pt) : (decide (p.n = q.n) && decide (p.s = q.s)) = decide (p = q) := by
  obtain ⟨a, b⟩ := p
  obtain ⟨c, d⟩ := q
  rw [Bool.eq_iff_iff]; simp

theorem has_iff {n : Nt} {p : Pt} : n.has p = true ↔ 0 ≤ p.n ∧ p.n < n.ns.length ∧ 0 ≤ p.s ∧ p.s < (n.nd p.n).to.length := by
  simp only [Nt.has, Bool.and_eq_true, decide_eq_true_eq, ge_iff_le, and_assoc]

theorem nd_set (n : Nt) (p q : Pt) (hp : n.has p = true) (i : Int) (hi : 0 ≤ i) : (n.set p q).nd i = if i = p.n then { n.nd p.n with to := (n.nd p.n).to.set p.s.toNat q } else n.nd i := by
  rw [has_iff] at hp
  unfold Nt.set Nt.nd
  simp only
  rw [List.getD_eq_getElem?_getD, List.getElem?_set, List.getD_eq_getElem?_getD, List.getD_eq_getElem?_getD]
  by_cases h : i = p.n
  · subst h; rw [if_pos rfl, if_pos rfl, if_pos (by omega)]; rfl
  · rw [if_neg h, if_neg (by omega)]

theorem len_set (n : Nt) (p q : Pt) : (n.set p q).ns.length = n.ns.length := by simp [Nt.set]
theorem has_set {n : Nt} {p : Pt} (q r : Pt) (hp : n.has p = true) : (n.set p q).has r = n.has r := by
  rw [Bool.eq_iff_iff, has_iff, has_iff, len_set]
  constructor
  · rintro ⟨h1, h2, h3, h4⟩
    rw [nd_set n p q hp _ h1] at h4
    refine ⟨h1, h2, h3, ?_⟩
    split at h4
    · rename_i e; rw [e]; simpa using h4
    · exact h4
  · rintro ⟨h1, h2, h3, h4⟩
    refine ⟨h1, h2, h3, ?_⟩
    rw [nd_set n p q hp _ h1]
    split
    · rename_i e; rw [e] at h4; simpa using h4
    · exact h4

theorem nd_mem {n : Nt} {i : Int} (h0 : 0 ≤ i) (h1 : i < n.ns.length) : n.nd i ∈ n.ns := by
  unfold Nt.nd; rw [List.getD_eq_getElem?_getD, List.getElem?_eq_getElem (by omega)]; exact List.getElem_mem _

theorem Ok_set {n : Nt} {p q : Pt} (hn : n.Ok) (hp : n.has p = true) (hq : wf q.n ∧ wf q.s) : (n.set p q).Ok := by
  rw [has_iff] at hp
  have hx := hn.nd _ (nd_mem hp.1 hp.2.1)
  refine ⟨by rw [len_set]; exact hn.ns, hn.cap, fun x hx' => ?_⟩
  rcases List.mem_or_eq_of_mem_set hx' with h | rfl
  · exact hn.nd x h
  · exact ⟨hx.k, hx.lv, hx.n, hx.s, hx.al, by simpa using hx.to, hx.ap, fun r hr => by
      rcases List.mem_or_eq_of_mem_set hr with h | rfl
      · exact hx.tp r h
      · exact hq⟩

/-- what a port is linked to, behind a link -/
theorem lk_set {n : Nt} {p : Pt} (q r : Pt) (hp : n.has p = true) (hr : n.has r = true) : (n.set p q).lk r = if r = p then q else n.lk r := by
  have hr' := has_iff.1 hr
  have hp' := has_iff.1 hp
  unfold Nt.lk
  rw [nd_set n p q hp _ hr'.1]
  by_cases h : r = p
  · subst h; rw [if_pos rfl, if_pos rfl]
    simp only [Nd.tt, List.getD_eq_getElem?_getD, List.getElem?_set]
    rw [if_pos trivial, if_pos (by omega)]; rfl
  · rw [if_neg h]
    split
    · rename_i e
      have hs : r.s ≠ p.s := by intro h2; apply h; obtain ⟨a, b⟩ := r; obtain ⟨c, d⟩ := p; simp only at e h2; subst e h2; rfl
      simp only [Nd.tt, List.getD_eq_getElem?_getD, List.getElem?_set]
      rw [if_neg (by omega), e]
    · rfl

def linkR (n : Nt) (p q : Pt) : Nt × Int := if (n.has p && n.has q && !decide (p = q)) = true then ((n.set p q).set q p, 0) else (n, 130)
def moveR (n : Nt) (p q : Pt) : Nt × Int := if (n.has p && n.has q && !decide (p = q) && n.has (n.lk p)) = true then (if n.lk p = q then (n, 0) else linkR n q (n.lk p)) else (n, 130)
def joinR (n : Nt) (p q : Pt) : Nt × Int := if (n.has p && n.has q && !decide (p = q) && n.has (n.lk p) && n.has (n.lk q)) = true then (if n.lk p = q then (n, 0) else linkR n (n.lk p) (n.lk q)) else (n, 130)
def encTE (x : Nt × Int) : PT := .t [(true, encT x.1), (false, [.i .i64 x.2])]

theorem there1 (n : Nt) (p : Pt) : eP S 88 [.g (encT n), .a (.l [encP p])] = some (.a (.b (n.has p))) := by
  have := there_ok n [p] (by simp); simpa using this
theorem there2 (n : Nt) (p q : Pt) : eP S 88 [.g (encT n), .a (.l [encP p, encP q])] = some (.a (.b (n.has p && n.has q))) := by
  have := there_ok n [p, q] (by simp); simpa using this

theorem lnk_ok {n : Nt} {p q : Pt} (hn : n.Ok) (hp : wf p.n ∧ wf p.s) (hq : wf q.n ∧ wf q.s) : eP S 109 [.g (encT n), .g (encP p), .g (encP q)] = some (encTE (linkR n p q)) := by
  have a1 := there2 n p q
  refine x_fn (orcS (by decide)) (fc := F109) rfl rfl ?_
  simp only [encT, encP] at a1
  unfold linkR
  cases h1 : (n.has p && n.has q) with
  | false => simp only [F109, a1, h1, encTE, fxa, fxc, fxE, fxL, fxI, nxE, evO, evR, cellsT, ldCells, mkT, lenA, binPV, Env.init, resV, resT, frT, klT, ownT, intT, O.adds, ownA, rowsA, over, wrOk, keysT, keysA, ne_eq, if_true, if_false, ite_self, Nat.reduceLT, Nat.reduceSub, Nat.reduceBEq, Nat.reduceEqDiff, Nat.reduceAdd, Nat.reduceLeDiff, reduceCtorEq, Nat.reduceMul]
  | true =>
    rw [Bool.and_eq_true] at h1
    by_cases h2 : p = q
    · subst h2
      simp only [F109, a1, h1.1, encTE, ptEq, Bool.not_true, fxa, fxc, fxE, fxL, fxI, nxE, evO, evR, cellsT, ldCells, mkT, lenA, binPV, Env.init, resV, resT, frT, klT, ownT, intT, O.adds, ownA, rowsA, over, wrOk, keysT, keysA, ne_eq, if_true, if_false, ite_self, Nat.reduceLT, Nat.reduceSub, Nat.reduceBEq, Nat.reduceEqDiff, Nat.reduceAdd, Nat.reduceLeDiff, reduceCtorEq, Nat.reduceMul]
    · have a2 := with_ok q hn h1.1
      have a3 := with_ok p (Ok_set hn h1.1 hq) (by rw [has_set q q h1.1]; exact h1.2)
      simp only [encT, encP] at a2 a3
      simp only [F109, a1, a2, a3, h1.1, h1.2, h2, encTE, ptEq, fxa, fxc, fxE, fxL, fxI, nxE, evO, evR, cellsT, ldCells, mkT, lenA, binPV, Env.init, resV, resT, frT, klT, ownT, intT, O.adds, ownA, rowsA, over, wrOk, keysT, keysA, ne_eq, if_true, if_false, ite_self, Nat.reduceLT, Nat.reduceSub, Nat.reduceBEq, Nat.reduceEqDiff, Nat.reduceAdd, Nat.reduceLeDiff, reduceCtorEq, Nat.reduceMul]

theorem Peer_ok (n : Nt) (p : Pt) : eP S 65 [.g (encT n), .g (encP p)] = some (.t [(true, encP (if n.has p then n.lk p else zP)), (false, [.i .i64 (if n.has p then 0 else 130)])]) := by
  have a1 := there1 n p
  refine x_fn (orcS (by decide)) (fc := F65) rfl rfl ?_
  simp only [encT, encP] at a1
  cases h1 : n.has p with
  | false => simp only [F65, a1, h1, zP, Bool.false_eq_true, fxa, fxc, fxE, fxL, fxI, nxE, evO, evR, cellsT, ldCells, mkT, lenA, binPV, Env.init, resV, resT, frT, klT, ownT, intT, O.adds, ownA, rowsA, over, wrOk, keysT, keysA, ne_eq, if_true, if_false, ite_self, Nat.reduceLT, Nat.reduceSub, Nat.reduceBEq, Nat.reduceEqDiff, Nat.reduceAdd, Nat.reduceLeDiff, reduceCtorEq, Nat.reduceMul]
  | true =>
    have a2 := peer_ok h1
    simp only [encT, encP] at a2
    simp only [F65, a1, a2, h1, fxa, fxc, fxE, fxL, fxI, nxE, evO, evR, cellsT, ldCells, mkT, lenA, binPV, Env.init, resV, resT, frT, klT, ownT, intT, O.adds, ownA, rowsA, over, wrOk, keysT, keysA, ne_eq, if_true, if_false, ite_self, Nat.reduceLT, Nat.reduceSub, Nat.reduceBEq, Nat.reduceEqDiff, Nat.reduceAdd, Nat.reduceLeDiff, reduceCtorEq, Nat.reduceMul]

theorem Link_ok {n : Nt} {p q : Pt} (hn : n.Ok) (hp : wf p.n ∧ wf p.s) (hq : wf q.n ∧ wf q.s) : eP S 108 [.g (encT n), .g (encP p), .g (encP q)] = some (encTE (linkR n p q)) := by
  have a1 := lnk_ok hn hp hq
  refine x_fn (orcS (by decide)) (fc := F108) rfl rfl ?_
  obtain ⟨m, hm⟩ : ∃ m, linkR n p q = m := ⟨_, rfl⟩
  obtain ⟨⟨ms, mc⟩, me⟩ := m
  rw [hm] at a1 ⊢
  simp only [encTE, encT, encP] at a1
  simp only [F108, a1, encTE, fxa, fxc, fxE, fxL, fxI, nxE, evO, evR, cellsT, ldCells, mkT, lenA, binPV, Env.init, resV, resT, frT, klT, ownT, intT, O.adds, ownA, rowsA, over, wrOk, keysT, keysA, ne_eq, if_true, if_false, ite_self, Nat.reduceLT, Nat.reduceSub, Nat.reduceBEq, Nat.reduceEqDiff, Nat.reduceAdd, Nat.reduceLeDiff, reduceCtorEq, Nat.reduceMul]

theorem lk_wf {n : Nt} {p : Pt} (hn : n.Ok) (h : n.has p = true) : wf (n.lk p).n ∧ wf (n.lk p).s := by
  rw [has_iff] at h
  refine (hn.nd _ (nd_mem h.1 h.2.1)).tp _ ?_
  unfold Nt.lk Nd.tt
  rw [List.getD_eq_getElem?_getD, List.getElem?_eq_getElem (by omega)]; exact List.getElem_mem _

theorem Move_ok {n : Nt} {p q : Pt} (hn : n.Ok) (hp : wf p.n ∧ wf p.s) (hq : wf q.n ∧ wf q.s) : eP S 95 [.g (encT n), .g (encP p), .g (encP q)] = some (encTE (moveR n p q)) := by
  have a1 := there2 n p q
  refine x_fn (orcS (by decide)) (fc := F95) rfl rfl ?_
  simp only [encT, encP] at a1
  unfold moveR
  cases h1 : (n.has p && n.has q) with
  | false => simp only [F95, a1, h1, encTE, Bool.false_eq_true, fxa, fxc, fxE, fxL, fxI, nxE, evO, evR, cellsT, ldCells, mkT, lenA, binPV, Env.init, resV, resT, frT, klT, ownT, intT, O.adds, ownA, rowsA, over, wrOk, keysT, keysA, ne_eq, if_true, if_false, ite_self, Nat.reduceLT, Nat.reduceSub, Nat.reduceBEq, Nat.reduceEqDiff, Nat.reduceAdd, Nat.reduceLeDiff, reduceCtorEq, Nat.reduceMul]
  | true =>
    rw [Bool.and_eq_true] at h1
    by_cases h2 : p = q
    · subst h2
      simp only [F95, a1, h1.1, encTE, ptEq, Bool.false_eq_true, Bool.not_true, fxa, fxc, fxE, fxL, fxI, nxE, evO, evR, cellsT, ldCells, mkT, lenA, binPV, Env.init, resV, resT, frT, klT, ownT, intT, O.adds, ownA, rowsA, over, wrOk, keysT, keysA, ne_eq, if_true, if_false, ite_self, Nat.reduceLT, Nat.reduceSub, Nat.reduceBEq, Nat.reduceEqDiff, Nat.reduceAdd, Nat.reduceLeDiff, reduceCtorEq, Nat.reduceMul]
    · have a2 := peer_ok h1.1
      have a3 := there1 n (n.lk p)
      simp only [encT, encP] at a2 a3
      cases h3 : n.has (n.lk p) with
      | false => simp only [F95, a1, a2, a3, h1.1, h1.2, h2, h3, encTE, ptEq, Bool.false_eq_true, fxa, fxc, fxE, fxL, fxI, nxE, evO, evR, cellsT, ldCells, mkT, lenA, binPV, Env.init, resV, resT, frT, klT, ownT, intT, O.adds, ownA, rowsA, over, wrOk, keysT, keysA, ne_eq, if_true, if_false, ite_self, Nat.reduceLT, Nat.reduceSub, Nat.reduceBEq, Nat.reduceEqDiff, Nat.reduceAdd, Nat.reduceLeDiff, reduceCtorEq, Nat.reduceMul]
      | true =>
        by_cases h4 : n.lk p = q
        · subst h4
          simp only [F95, a1, a2, a3, h1.1, h1.2, h2, encTE, ptEq, Bool.false_eq_true, fxa, fxc, fxE, fxL, fxI, nxE, evO, evR, cellsT, ldCells, mkT, lenA, binPV, Env.init, resV, resT, frT, klT, ownT, intT, O.adds, ownA, rowsA, over, wrOk, keysT, keysA, ne_eq, if_true, if_false, ite_self, Nat.reduceLT, Nat.reduceSub, Nat.reduceBEq, Nat.reduceEqDiff, Nat.reduceAdd, Nat.reduceLeDiff, reduceCtorEq, Nat.reduceMul]
        · have a4 := lnk_ok hn hq (lk_wf hn h1.1)
          obtain ⟨m, hm⟩ : ∃ m, linkR n q (n.lk p) = m := ⟨_, rfl⟩
          obtain ⟨⟨ms, mc⟩, me⟩ := m
          rw [hm] at a4 ⊢
          simp only [encTE, encT, encP] at a4
          simp only [F95, a1, a2, a3, a4, h1.1, h1.2, h2, h3, h4, encTE, ptEq, Bool.false_eq_true, fxa, fxc, fxE, fxL, fxI, nxE, evO, evR, cellsT, ldCells, mkT, lenA, binPV, Env.init, resV, resT, frT, klT, ownT, intT, O.adds, ownA, rowsA, over, wrOk, keysT, keysA, ne_eq, if_true, if_false, ite_self, Nat.reduceLT, Nat.reduceSub, Nat.reduceBEq, Nat.reduceEqDiff, Nat.reduceAdd, Nat.reduceLeDiff, reduceCtorEq, Nat.reduceMul]

theorem Join_ok {n : Nt} {p q : Pt} (hn : n.Ok) (hp : wf p.n ∧ wf p.s) (hq : wf q.n ∧ wf q.s) : eP S 107 [.g (encT n), .g (encP p), .g (encP q)] = some (encTE (joinR n p q)) := by
  have a1 := there2 n p q
  refine x_fn (orcS (by decide)) (fc := F107) rfl rfl ?_
  simp only [encT, encP] at a1
  unfold joinR
  cases h1 : (n.has p && n.has q) with
  | false => simp only [F107, a1, h1, encTE, Bool.false_eq_true, fxa, fxc, fxE, fxL, fxI, nxE, evO, evR, cellsT, ldCells, mkT, lenA, binPV, Env.init, resV, resT, frT, klT, ownT, intT, O.adds, ownA, rowsA, over, wrOk, keysT, keysA, ne_eq, if_true, if_false, ite_self, Nat.reduceLT, Nat.reduceSub, Nat.reduceBEq, Nat.reduceEqDiff, Nat.reduceAdd, Nat.reduceLeDiff, reduceCtorEq, Nat.reduceMul]
  | true =>
    rw [Bool.and_eq_true] at h1
    by_cases h2 : p = q
    · subst h2
      simp only [F107, a1, h1.1, encTE, ptEq, Bool.false_eq_true, Bool.not_true, fxa, fxc, fxE, fxL, fxI, nxE, evO, evR, cellsT, ldCells, mkT, lenA, binPV, Env.init, resV, resT, frT, klT, ownT, intT, O.adds, ownA, rowsA, over, wrOk, keysT, keysA, ne_eq, if_true, if_false, ite_self, Nat.reduceLT, Nat.reduceSub, Nat.reduceBEq, Nat.reduceEqDiff, Nat.reduceAdd, Nat.reduceLeDiff, reduceCtorEq, Nat.reduceMul]
    · have a2 := peer_ok h1.1
      have a2' := peer_ok h1.2
      have a3 := there2 n (n.lk p) (n.lk q)
      simp only [encT, encP] at a2 a2' a3
      cases h3 : (n.has (n.lk p) && n.has (n.lk q)) with
      | false =>
        have h3' : (true && true && true && n.has (n.lk p) && n.has (n.lk q)) = false := by simpa using h3
        simp only [F107, a1, a2, a2', a3, h1.1, h1.2, h2, h3, h3', encTE, ptEq, Bool.false_eq_true, Bool.and_assoc, fxa, fxc, fxE, fxL, fxI, nxE, evO, evR, cellsT, ldCells, mkT, lenA, binPV, Env.init, resV, resT, frT, klT, ownT, intT, O.adds, ownA, rowsA, over, wrOk, keysT, keysA, ne_eq, if_true, if_false, ite_self, Nat.reduceLT, Nat.reduceSub, Nat.reduceBEq, Nat.reduceEqDiff, Nat.reduceAdd, Nat.reduceLeDiff, reduceCtorEq, Nat.reduceMul]
      | true =>
        rw [Bool.and_eq_true] at h3
        by_cases h4 : n.lk p = q
        · subst h4
          simp only [F107, a1, a2, a2', a3, h1.1, h1.2, h2, h3.2, encTE, ptEq, Bool.false_eq_true, fxa, fxc, fxE, fxL, fxI, nxE, evO, evR, cellsT, ldCells, mkT, lenA, binPV, Env.init, resV, resT, frT, klT, ownT, intT, O.adds, ownA, rowsA, over, wrOk, keysT, keysA, ne_eq, if_true, if_false, ite_self, Nat.reduceLT, Nat.reduceSub, Nat.reduceBEq, Nat.reduceEqDiff, Nat.reduceAdd, Nat.reduceLeDiff, reduceCtorEq, Nat.reduceMul]
        · have a4 := lnk_ok hn (lk_wf hn h1.1) (lk_wf hn h1.2)
          obtain ⟨m, hm⟩ : ∃ m, linkR n (n.lk p) (n.lk q) = m := ⟨_, rfl⟩
          obtain ⟨⟨ms, mc⟩, me⟩ := m
          rw [hm] at a4 ⊢
          simp only [encTE, encT, encP] at a4
          simp only [F107, a1, a2, a2', a3, a4, h1.1, h1.2, h2, h3.1, h3.2, h4, encTE, ptEq, Bool.false_eq_true, fxa, fxc, fxE, fxL, fxI, nxE, evO, evR, cellsT, ldCells, mkT, lenA, binPV, Env.init, resV, resT, frT, klT, ownT, intT, O.adds, ownA, rowsA, over, wrOk, keysT, keysA, ne_eq, if_true, if_false, ite_self, Nat.reduceLT, Nat.reduceSub, Nat.reduceBEq, Nat.reduceEqDiff, Nat.reduceAdd, Nat.reduceLeDiff, reduceCtorEq, Nat.reduceMul]

end Go.Proofs.Ytomcceambpneiaa
