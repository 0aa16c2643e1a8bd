/- The laws WalkThere and WalkNone, as the evaluator has them. -/
import Derived.Test.YtkpfjolcmkikeaaWalk1
set_option linter.unusedSimpArgs false
set_option linter.unusedVariables false
set_option maxHeartbeats 4000000
set_option maxRecDepth 10000
namespace Go.Proofs.Ytkpfjolcmkikeaa
open Go.Fx

theorem fixed19_ok : eP S 34 [] = some (.a (.b true)) := (eP_some S).2 ⟨60, by kernel_rfl⟩
theorem at19_ok (i j : Int) : eP S 38 [.a (.i .i64 i), .a (.i .i64 j)] = some (.g [.i .i64 i, .i .i64 j]) := by
  refine x_fn (orcS (by decide)) (fc := F38) rfl rfl ?_
  simp only [F38, fxa, fxc, fxE, fxL, fxI, nxE, evO, evR, cellsT, ldCells, mkT, lenA, binPV, Env.init, resV, resT, frT, klT, ownT, intT, O.adds, ownA, rowsA, over, wrOk, keysT, keysA, ne_eq, if_true, if_false, ite_self, Nat.reduceLT, Nat.reduceSub, Nat.reduceBEq, Nat.reduceEqDiff, Nat.reduceAdd, Nat.reduceLeDiff, reduceCtorEq, Nat.reduceMul]

theorem Next_ok {n : Nt} (hn : n.Ok) {p : Pt} (hp : wf p.n ∧ wf p.s) : eP S 36 [.g (encT n), .g (encP p)] = some (.t [(false, [.i .i64 (fromR n p).en]), (false, [.b (fromR n p).is]), (false, [.i .i64 (fromR n p).e])]) := by
  refine x_fn (orcS (by decide)) (fc := F36) rfl rfl ?_
  have c1 := from_ok hn hp
  simp only [encT, encP, encWy] at c1
  simp only [F36, c1, fxa, fxc, fxE, fxL, fxI, nxE, evO, evR, cellsT, ldCells, mkT, lenA, binPV, Env.init, resV, resT, frT, klT, ownT, intT, O.adds, ownA, rowsA, over, wrOk, keysT, keysA, ne_eq, if_true, if_false, ite_self, Nat.reduceLT, Nat.reduceSub, Nat.reduceBEq, Nat.reduceEqDiff, Nat.reduceAdd, Nat.reduceLeDiff, reduceCtorEq, Nat.reduceMul]
theorem Path_ok {n : Nt} (hn : n.Ok) {p : Pt} (hp : wf p.n ∧ wf p.s) : eP S 37 [.g (encT n), .g (encP p)] = some (.a (.l ((fromR n p).l.map encI))) := by
  refine x_fn (orcS (by decide)) (fc := F37) rfl rfl ?_
  have c1 := from_ok hn hp
  simp only [encT, encP, encWy] at c1
  simp only [F37, c1, fxa, fxc, fxE, fxL, fxI, nxE, evO, evR, cellsT, ldCells, mkT, lenA, binPV, Env.init, resV, resT, frT, klT, ownT, intT, O.adds, ownA, rowsA, over, wrOk, keysT, keysA, ne_eq, if_true, if_false, ite_self, Nat.reduceLT, Nat.reduceSub, Nat.reduceBEq, Nat.reduceEqDiff, Nat.reduceAdd, Nat.reduceLeDiff, reduceCtorEq, Nat.reduceMul]

/-- at its port 0 one is there -/
theorem walk_zero {n : Nt} {k : Nat} {p : Pt} (h : p.s = 0) : walkF n (k + 1) [] p = ⟨[p.n], p.n, false, 0⟩ := by
  rw [walkF, if_neg (by simp), if_pos h]; rfl
theorem walk_spec {n : Nt} (hG : n.Good) : ∀ (k : Nat) (l : List Int) (p : Pt), n.has p = true → Passed n l → n.ns.length + 1 ≤ k + l.length →
    Passed n (walkF n k l p).l ∧ l.length ≤ (walkF n k l p).l.length ∧ (l = [] → 1 ≤ (walkF n k l p).l.length) ∧ ((walkF n k l p).e = 0 ∨ (walkF n k l p).e = 190 ∨ (walkF n k l p).e = 191) ∧ ((walkF n k l p).e ≠ 0 → (walkF n k l p).is = false) ∧
    ((walkF n k l p).e = 0 → (walkF n k l p).is = false → p.s = 0) ∧ ((walkF n k l p).is = true → n.has ⟨(walkF n k l p).en, 0⟩ = true ∧ (n.lk ⟨(walkF n k l p).en, 0⟩).s = 0)
  | 0, l, p, hp, hP, hk => by have := hP.len; omega
  | k + 1, l, p, hp, hP, hk => by
    rw [walkF]
    by_cases h1 : (l.any fun y => decide (y = p.n)) = true
    · rw [if_pos h1]
      refine ⟨hP, Nat.le_refl _, fun h => ?_, .inr (.inr rfl), fun _ => rfl, fun h => absurd h (by show ¬ (191 : Int) = 0; omega), fun h => by simp at h⟩
      rw [h] at h1; simp at h1
    rw [if_neg h1]
    have hP2 := hP.add hG hp h1
    by_cases h2 : p.s = 0
    · rw [if_pos h2]
      exact ⟨hP2, by simp, fun _ => by simp, .inl rfl, fun h => absurd rfl h, fun _ _ => h2, fun h => by simp at h⟩
    rw [if_neg h2]
    by_cases h3 : tellsR (n.nd p.n).k p.s = false
    · rw [if_pos h3]
      exact ⟨hP2, by simp, fun _ => by simp, .inr (.inl rfl), fun _ => rfl, fun h => absurd h (by show ¬ (190 : Int) = 0; omega), fun h => by simp at h⟩
    rw [if_neg h3]
    have hz := has_zero hp
    by_cases h4 : (n.lk ⟨p.n, 0⟩).s = 0
    · rw [if_pos h4]
      exact ⟨hP2, by simp, fun _ => by simp, .inl rfl, fun h => absurd rfl h, fun _ h => by simp at h, fun _ => ⟨hz, h4⟩⟩
    rw [if_neg h4]
    obtain ⟨r1, r2, r3, r4, r5, r6, r7⟩ := walk_spec hG k (l ++ [p.n]) (n.lk ⟨p.n, 0⟩) (good_link hG hz).2.1 hP2 (by simp; omega)
    refine ⟨r1, by simp at r2; omega, fun _ => by simp at r2; omega, r4, r5, fun h5 h6 => absurd (r6 h5 h6) h4, r7⟩

theorem walkNone_law {n : Nt} {p : Pt} (hn : n.Ok) (hp : wf p.n ∧ wf p.s) : eP S 9 [.g (encT n), .g (encP p)] = some (.a (.b true)) := by
  have f0 := fixed19_ok
  have a1 := Small_ok hn 150
  have a2 := RCheck_ok hn
  have c1 := Next_ok hn hp
  have c2 := Path_ok hn hp
  have c3 := Has_ok n p
  refine x_fn (orcS (by decide)) (fc := F9) rfl rfl ?_
  by_cases h1 : n.small 150
  case neg =>
    rw [bool_f h1] at a1
    simp only [encT, encP] at a1
    simp only [F9, f0, a1, fxa, fxc, fxE, fxL, fxI, nxE, evO, evR, cellsT, ldCells, mkT, lenA, binPV, Env.init, resV, resT, frT, klT, ownT, intT, O.adds, ownA, rowsA, over, wrOk, keysT, keysA, ne_eq, if_true, if_false, ite_self, Nat.reduceLT, Nat.reduceSub, Nat.reduceBEq, Nat.reduceEqDiff, Nat.reduceAdd, Nat.reduceLeDiff, reduceCtorEq, Nat.reduceMul]
  rw [bool_t h1] at a1
  unfold fromR at c1 c2
  by_cases hG : n.Good
  case neg =>
    rw [bool_f hG] at a2 c1 c2
    simp only [Bool.false_eq_true, if_false, encT, encP, List.map_nil] at a1 a2 c1 c2
    simp only [F9, f0, a1, a2, c1, c2, Int.reduceEq, fxa, fxc, fxE, fxL, fxI, nxE, evO, evR, cellsT, ldCells, mkT, lenA, binPV, Env.init, resV, resT, frT, klT, ownT, intT, O.adds, ownA, rowsA, over, wrOk, keysT, keysA, ne_eq, if_true, if_false, ite_self, Nat.reduceLT, Nat.reduceSub, Nat.reduceBEq, Nat.reduceEqDiff, Nat.reduceAdd, Nat.reduceLeDiff, reduceCtorEq, Nat.reduceMul]
    rfl
  rw [bool_t hG] at a2 c1 c2
  simp only [if_true] at a2 c1 c2
  cases hh : n.has p with
  | false =>
    rw [hh] at c1 c2 c3
    simp only [Bool.false_eq_true, if_false, encT, encP, List.map_nil] at a1 a2 c1 c2 c3
    simp only [F9, f0, a1, a2, c1, c2, c3, Int.reduceEq, fxa, fxc, fxE, fxL, fxI, nxE, evO, evR, cellsT, ldCells, mkT, lenA, binPV, Env.init, resV, resT, frT, klT, ownT, intT, O.adds, ownA, rowsA, over, wrOk, keysT, keysA, ne_eq, if_true, if_false, ite_self, Nat.reduceLT, Nat.reduceSub, Nat.reduceBEq, Nat.reduceEqDiff, Nat.reduceAdd, Nat.reduceLeDiff, reduceCtorEq, Nat.reduceMul]
    rfl
  | true =>
    rw [hh] at c1 c2 c3
    simp only [if_true] at c1 c2
    obtain ⟨g1, g2, g3⟩ := good_link hG hh
    obtain ⟨r1, r2, r3, r4, r5, r6, r7⟩ := walk_spec hG (n.ns.length + 1) [] (n.lk p) g2 ⟨List.nodup_nil, fun x hx => by simp at hx⟩ (by simp)
    obtain ⟨w, hw⟩ : ∃ w, walkF n (n.ns.length + 1) [] (n.lk p) = w := ⟨_, rfl⟩
    rw [hw] at c1 c2 r1 r2 r3 r4 r5 r6 r7
    have c4 := RUsed_ok hn
    have q1 : ¬ w.e = 120 := by rcases r4 with h | h | h <;> omega
    have q2 : ¬ w.e = 130 := by rcases r4 with h | h | h <;> omega
    have q3 : (w.l.length : Int) ≥ 1 := by have := r3 rfl; omega
    have q4 : (w.l.length : Int) ≤ n.used := r1.le
    simp only [encT, encP] at a1 a2 c1 c2 c3 c4
    simp only [F9, f0, a1, a2, c1, c2, c3, c4, q1, q2, q3, q4, List.length_map, Int.reduceEq, fxa, fxc, fxE, fxL, fxI, nxE, evO, evR, cellsT, ldCells, mkT, lenA, binPV, Env.init, resV, resT, frT, klT, ownT, intT, O.adds, ownA, rowsA, over, wrOk, keysT, keysA, ne_eq, if_true, if_false, ite_self, Nat.reduceLT, Nat.reduceSub, Nat.reduceBEq, Nat.reduceEqDiff, Nat.reduceAdd, Nat.reduceLeDiff, reduceCtorEq, Nat.reduceMul]

theorem walkThere_law {n : Nt} {p : Pt} (hn : n.Ok) (hp : wf p.n ∧ wf p.s) : eP S 7 [.g (encT n), .g (encP p)] = some (.a (.b true)) := by
  have f0 := fixed19_ok
  have a1 := Small_ok hn 150
  have a2 := RCheck_ok hn
  have c1 := Next_ok hn hp
  have c2 := Path_ok hn hp
  have c3 := Has_ok n p
  refine x_fn (orcS (by decide)) (fc := F7) rfl rfl ?_
  by_cases h1 : n.small 150
  case neg =>
    rw [bool_f h1] at a1
    simp only [encT, encP] at a1
    simp only [F7, f0, a1, fxa, fxc, fxE, fxL, fxI, nxE, evO, evR, cellsT, ldCells, mkT, lenA, binPV, Env.init, resV, resT, frT, klT, ownT, intT, O.adds, ownA, rowsA, over, wrOk, keysT, keysA, ne_eq, if_true, if_false, ite_self, Nat.reduceLT, Nat.reduceSub, Nat.reduceBEq, Nat.reduceEqDiff, Nat.reduceAdd, Nat.reduceLeDiff, reduceCtorEq, Nat.reduceMul]
  rw [bool_t h1] at a1
  by_cases hG : n.Good
  case neg =>
    rw [bool_f hG] at a2
    simp only [Bool.false_eq_true, if_false, encT, encP] at a1 a2
    simp only [F7, f0, a1, a2, Int.reduceEq, fxa, fxc, fxE, fxL, fxI, nxE, evO, evR, cellsT, ldCells, mkT, lenA, binPV, Env.init, resV, resT, frT, klT, ownT, intT, O.adds, ownA, rowsA, over, wrOk, keysT, keysA, ne_eq, if_true, if_false, ite_self, Nat.reduceLT, Nat.reduceSub, Nat.reduceBEq, Nat.reduceEqDiff, Nat.reduceAdd, Nat.reduceLeDiff, reduceCtorEq, Nat.reduceMul]
  rw [bool_t hG] at a2
  simp only [if_true] at a2
  cases hh : n.has p with
  | false =>
    rw [hh] at c3
    simp only [encT, encP] at a1 a2 c3
    simp only [F7, f0, a1, a2, c3, Int.reduceEq, fxa, fxc, fxE, fxL, fxI, nxE, evO, evR, cellsT, ldCells, mkT, lenA, binPV, Env.init, resV, resT, frT, klT, ownT, intT, O.adds, ownA, rowsA, over, wrOk, keysT, keysA, ne_eq, if_true, if_false, ite_self, Nat.reduceLT, Nat.reduceSub, Nat.reduceBEq, Nat.reduceEqDiff, Nat.reduceAdd, Nat.reduceLeDiff, reduceCtorEq, Nat.reduceMul]
  | true =>
  rw [hh] at c3
  have hfrom : ∀ q, n.has q = true → fromR n q = walkF n (n.ns.length + 1) [] (n.lk q) := by
    intro q hq; unfold fromR; rw [bool_t hG, if_pos rfl, hq, if_pos rfl]
  rw [hfrom p hh] at c1 c2
  obtain ⟨g1, g2, g3⟩ := good_link hG hh
  obtain ⟨q, hq⟩ : ∃ q, n.lk p = q := ⟨_, rfl⟩
  rw [hq] at c1 c2 g2 g3
  obtain ⟨r1, r2, r3, r4, r5, r6, r7⟩ := walk_spec hG (n.ns.length + 1) [] q g2 ⟨List.nodup_nil, fun x hx => by simp at hx⟩ (by simp)
  obtain ⟨w, hw⟩ : ∃ w, walkF n (n.ns.length + 1) [] q = w := ⟨_, rfl⟩
  rw [hw] at c1 c2 r1 r2 r3 r4 r5 r6 r7
  by_cases he : w.e = 0
  case neg =>
    have his := r5 he
    rw [his] at c1
    simp only [encT, encP] at a1 a2 c1 c2 c3
    simp only [F7, f0, a1, a2, c1, c2, c3, he, Int.reduceEq, fxa, fxc, fxE, fxL, fxI, nxE, evO, evR, cellsT, ldCells, mkT, lenA, binPV, Env.init, resV, resT, frT, klT, ownT, intT, O.adds, ownA, rowsA, over, wrOk, keysT, keysA, ne_eq, if_true, if_false, ite_self, Nat.reduceLT, Nat.reduceSub, Nat.reduceBEq, Nat.reduceEqDiff, Nat.reduceAdd, Nat.reduceLeDiff, reduceCtorEq, Nat.reduceMul]
  rw [he] at c1
  cases his : w.is with
  | false =>
    have hs := r6 he his
    have hwz : w = ⟨[q.n], q.n, false, 0⟩ := by rw [← hw, walk_zero hs]
    have hwe : w.en = q.n := by rw [hwz]
    have hwl : w.l = [q.n] := by rw [hwz]
    rw [his, hwe] at c1
    rw [hwl] at c2
    have hq' := has_iff.1 g2
    have k1 := getN (l := n.ns) hq'.1 hq'.2.1
    have k2 := getP (l := (n.nd q.n).to) hq'.2.2.1 hq'.2.2.2
    have k3 : (0 : Int) < ((n.nd q.n).to.length : Int) := by have := hq'.2.2.2; omega
    have hlk : n.lk q = p := g3
    unfold Nt.lk Nd.tt at hlk
    rw [hs] at k2 hlk
    rw [hlk] at k2
    obtain ⟨y, hy⟩ : ∃ y, n.nd q.n = y := ⟨_, rfl⟩
    have hy2 : n.ns.getD q.n.toNat zN = y := hy
    rw [hy2] at k1
    rw [hy] at k2 k3
    have hpp : (decide (p.n = p.n) && decide (p.s = p.s)) = true := by simp
    simp only [Int.toNat_zero] at k2
    simp only [encT, encP, encI, List.map_cons, List.map_nil] at a1 a2 c1 c2 c3 k2
    simp only [F7, f0, a1, a2, c1, c2, c3, k1, k2, k3, hq'.1, hq'.2.1, Int.le_refl, Int.toNat_zero, Int.reduceEq, fxa, fxc, fxE, fxL, fxI, nxE, evO, evR, cellsT, ldCells, mkT, lenA, binPV, Env.init, resV, resT, frT, klT, ownT, intT, O.adds, ownA, rowsA, over, wrOk, keysT, keysA, ne_eq, if_true, if_false, ite_self, Nat.reduceLT, Nat.reduceSub, Nat.reduceBEq, Nat.reduceEqDiff, Nat.reduceAdd, Nat.reduceLeDiff, reduceCtorEq, Nat.reduceMul]
    rfl
  | true =>
    obtain ⟨z1, z2⟩ := r7 his
    rw [his] at c1
    obtain ⟨a, ha⟩ : ∃ a, w.en = a := ⟨_, rfl⟩
    rw [ha] at c1 z1 z2
    obtain ⟨y1, y2, y3⟩ := good_link hG z1
    obtain ⟨t, ht⟩ : ∃ t, n.lk ⟨a, 0⟩ = t := ⟨_, rfl⟩
    rw [ht] at z2 y2 y3
    have wt := lk_wf hn z1
    rw [ht] at wt
    have hz' := has_iff.1 z1
    simp only at hz'
    have wa : wf a ∧ wf 0 := by have := hn.ns; unfold wf; omega
    have d1 := Next_ok hn (p := ⟨a, 0⟩) wa
    have d2 := Next_ok hn (p := t) wt
    rw [hfrom _ z1, ht, walk_zero z2] at d1
    rw [hfrom t y2, y3, walk_zero rfl] at d2
    have d3 := at19_ok a 0
    have k1 := getN (l := n.ns) hz'.1 hz'.2.1
    have k2 := getP (l := (n.nd a).to) (i := 0) (by omega) hz'.2.2.2
    have k3 := hz'.2.2.2
    have hlk : n.lk ⟨a, 0⟩ = t := ht
    unfold Nt.lk Nd.tt at hlk
    simp only at hlk
    rw [hlk] at k2
    obtain ⟨y, hy⟩ : ∃ y, n.nd a = y := ⟨_, rfl⟩
    have hy2 : n.ns.getD a.toNat zN = y := hy
    rw [hy2] at k1
    rw [hy] at k2 k3
    simp only [Int.toNat_zero] at k2
    simp only [encT, encP] at a1 a2 c1 c2 c3 d1 d2 d3 k2
    rw [z2] at d2 k2
    simp only [F7, f0, a1, a2, c1, c2, c3, d1, d2, d3, k1, k2, k3, z2, hz'.1, hz'.2.1, Int.le_refl, Int.toNat_zero, Int.reduceEq, fxa, fxc, fxE, fxL, fxI, nxE, evO, evR, cellsT, ldCells, mkT, lenA, binPV, Env.init, resV, resT, frT, klT, ownT, intT, O.adds, ownA, rowsA, over, wrOk, keysT, keysA, ne_eq, if_true, if_false, ite_self, Nat.reduceLT, Nat.reduceSub, Nat.reduceBEq, Nat.reduceEqDiff, Nat.reduceAdd, Nat.reduceLeDiff, reduceCtorEq, Nat.reduceMul]
end Go.Proofs.Ytkpfjolcmkikeaa
