/- All that the root comes to: the document's function; what lives. -/
import Derived.Test.YtkpfjolcmkikeaaReach2
set_option linter.unusedSimpArgs false
set_option linter.unusedVariables false
set_option maxHeartbeats 4000000
set_option maxRecDepth 10000
namespace Go.Proofs.Ytkpfjolcmkikeaa
open Go.Fx

structure RK (n : Nt) (seen : List Bool) : Prop where
  len : seen.length = n.ns.length
  rch : ∀ i, seen[i]? = some true → Rch n i
  root : seen[0]? = some true
def clAt (n : Nt) (seen : List Bool) (i : Nat) : Prop := seen[i]? = some true → ∀ j, n.step i j → seen[j]? = some true
theorem RK.done {n : Nt} {seen : List Bool} (h : RK n seen) (hc : ∀ i, i < n.ns.length → clAt n seen i) : seen = (List.range n.ns.length).map fun i => bool (Rch n i) :=
  RJ.done ⟨h.len, h.rch, h.root, fun w hw => by simp at hw, fun i hi _ _ => hc i (by have := (List.getElem?_eq_some_iff.1 hi).1; have := h.len; omega) hi, fun i p e => by cases e⟩
theorem RK.set {n : Nt} {seen : List Bool} {i j : Nat} (h : RK n seen) (hi : seen[i]? = some true) (hs : n.step i j) : RK n (seen.set j true) :=
  ⟨by simpa using h.len, fun k hk => by
    rcases of_set_true hk with rfl | hk
    · exact .step (h.rch i hi) hs
    · exact h.rch k hk, set_true h.root⟩
theorem set_same {l : List Bool} {i : Nat} (h : l[i]? = some true) : l.set i true = l := by
  obtain ⟨h1, h2⟩ := List.getElem?_eq_some_iff.1 h
  rw [← h2, List.set_getElem_self]
theorem clAt_set {n : Nt} {seen : List Bool} {i j : Nat} (h : clAt n seen i) (hj : seen[j]? = some true) : clAt n (seen.set j true) i := by rw [set_same hj]; exact h

/-- the rest of a pass: whether there were more -/
def Pass (n : Nt) (c0 i : Nat) (more : Bool) (seen : List Bool) : Prop := (more = false → (∀ i', i' < i → clAt n seen i') ∧ cntF seen = c0) ∧ (more = true → cntF seen < c0)

theorem rReached_ok {n : Nt} (hn : n.Ok) (hG : n.Good) : eP S 54 [.g (encT n)] = some (.a (.l (((List.range n.ns.length).map fun i => bool (Rch n i)).map encB))) := by
  refine x_fn (orcS (by decide)) (fc := F54) rfl rfl ?_
  have hns := hn.ns
  have hl1 := hG.ln1
  have hbb : (n.ns.length : Int) * 1 ≤ 140737488355328 := by omega
  have hge : (0 : Int) ≤ (n.ns.length : Int) := by omega
  have hlt0 : (0 : Int) < (n.ns.length : Int) := by omega
  have hr0 : (List.replicate n.ns.length [PV.b false])[0]? = some [PV.b false] := by rw [List.getElem?_replicate, if_pos (by omega)]
  have hb0 : (List.replicate n.ns.length false)[0]? = some false := by rw [List.getElem?_replicate, if_pos (by omega)]
  have hset0 : (List.replicate n.ns.length [PV.b false]).set 0 [PV.b true] = ((List.replicate n.ns.length false).set 0 true).map encB := by rw [List.map_set, List.map_replicate]; rfl
  have hK0 : RK n ((List.replicate n.ns.length false).set 0 true) := by
    refine ⟨by simp, fun i hi => ?_, by rw [List.getElem?_set, if_pos rfl, if_pos (by simp; omega)]⟩
    rcases of_set_true hi with rfl | hi
    · exact .root
    · rw [List.getElem?_replicate] at hi; split at hi <;> simp at hi
  simp only [F54, hbb, hge, hlt0, hr0, rowK, Int.cast_ofNat_Int, Int.le_refl, Int.toNat_natCast, Int.toNat_zero, Nat.zero_add, fxa, fxc, fxE, fxL, fxI, nxE, evO, evR, cellsT, ldCells, mkT, lenA, binPV, Env.init, resV, resT, frT, klT, ownT, intT, O.adds, ownA, rowsA, over, wrOk, keysT, keysA, ne_eq, if_true, if_false, ite_self, Nat.reduceLT, Nat.reduceSub, Nat.reduceBEq, Nat.reduceEqDiff, Nat.reduceAdd, Nat.reduceLeDiff, reduceCtorEq, Nat.reduceMul]
  refine wp_loop_ind (fun k e σ => ∃ seen more, e 1 = .a (.ptr (1, 0) 0 0) ∧ e 3 = .a (.own (11, 1) 0 n.ns.length) ∧ e 4 = .a (.p (.b more)) ∧ σ.bs (1, 0) = some (.var [.p (.l (n.ns.map encN)), .p (.i .i64 n.cap)]) ∧ σ.bs (11, 1) = some (.row 1 4 (seen.map encB)) ∧
    RK n seen ∧ (more = false → ∀ i, i < n.ns.length → clAt n seen i) ∧ k = 2 * cntF seen + (if more then 1 else 0)) ?_ _ _ _ ⟨_, true, ?_, ?_, ?_, ?_, ?_, hK0, by simp, rfl⟩
  case refine_2 => simp only [fxa, fxc, fxE, fxL, fxI, nxE, evO, evR, cellsT, ldCells, mkT, lenA, binPV, Env.init, resV, resT, frT, klT, ownT, intT, O.adds, ownA, rowsA, over, wrOk, keysT, keysA, ne_eq, if_true, if_false, ite_self, Nat.reduceLT, Nat.reduceSub, Nat.reduceBEq, Nat.reduceEqDiff, Nat.reduceAdd, Nat.reduceLeDiff, reduceCtorEq, Nat.reduceMul]
  case refine_3 => simp only [fxa, fxc, fxE, fxL, fxI, nxE, evO, evR, cellsT, ldCells, mkT, lenA, binPV, Env.init, resV, resT, frT, klT, ownT, intT, O.adds, ownA, rowsA, over, wrOk, keysT, keysA, ne_eq, if_true, if_false, ite_self, Nat.reduceLT, Nat.reduceSub, Nat.reduceBEq, Nat.reduceEqDiff, Nat.reduceAdd, Nat.reduceLeDiff, reduceCtorEq, Nat.reduceMul]
  case refine_4 => simp only [fxa, fxc, fxE, fxL, fxI, nxE, evO, evR, cellsT, ldCells, mkT, lenA, binPV, Env.init, resV, resT, frT, klT, ownT, intT, O.adds, ownA, rowsA, over, wrOk, keysT, keysA, ne_eq, if_true, if_false, ite_self, Nat.reduceLT, Nat.reduceSub, Nat.reduceBEq, Nat.reduceEqDiff, Nat.reduceAdd, Nat.reduceLeDiff, reduceCtorEq, Nat.reduceMul]
  case refine_5 => simp only [fxa, fxc, fxE, fxL, fxI, nxE, evO, evR, cellsT, ldCells, mkT, lenA, binPV, Env.init, resV, resT, frT, klT, ownT, intT, O.adds, ownA, rowsA, over, wrOk, keysT, keysA, ne_eq, if_true, if_false, ite_self, Nat.reduceLT, Nat.reduceSub, Nat.reduceBEq, Nat.reduceEqDiff, Nat.reduceAdd, Nat.reduceLeDiff, reduceCtorEq, Nat.reduceMul]
  case refine_6 => simp only [hset0, fxa, fxc, fxE, fxL, fxI, nxE, evO, evR, cellsT, ldCells, mkT, lenA, binPV, Env.init, resV, resT, frT, klT, ownT, intT, O.adds, ownA, rowsA, over, wrOk, keysT, keysA, ne_eq, if_true, if_false, ite_self, Nat.reduceLT, Nat.reduceSub, Nat.reduceBEq, Nat.reduceEqDiff, Nat.reduceAdd, Nat.reduceLeDiff, reduceCtorEq, Nat.reduceMul]
  rintro k e σ ⟨seen, more, e1, e3, e4, s1, s11, hK, hcl, hk⟩
  cases more with
  | false =>
    have hd := hK.done (hcl rfl)
    have htk : List.take n.ns.length (seen.map encB) = seen.map encB := List.take_of_length_le (by simp [hK.len])
    have hle : n.ns.length ≤ (seen.map encB).length := by simp [hK.len]
    simp only [F54b0, e1, e3, e4, s1, s11, htk, hle, hK.len, List.length_map, Nat.le_refl, fxa, fxc, fxE, fxL, fxI, nxE, evO, evR, cellsT, ldCells, mkT, lenA, binPV, Env.init, resV, resT, frT, klT, ownT, intT, O.adds, ownA, rowsA, over, wrOk, keysT, keysA, ne_eq, if_true, if_false, ite_self, Nat.reduceLT, Nat.reduceSub, Nat.reduceBEq, Nat.reduceEqDiff, Nat.reduceAdd, Nat.reduceLeDiff, reduceCtorEq, Nat.reduceMul]
    rw [hd]
  | true =>
    simp only [F54b0, e1, e3, e4, s1, s11, fxa, fxc, fxE, fxL, fxI, nxE, evO, evR, cellsT, ldCells, mkT, lenA, binPV, Env.init, resV, resT, frT, klT, ownT, intT, O.adds, ownA, rowsA, over, wrOk, keysT, keysA, ne_eq, if_true, if_false, ite_self, Nat.reduceLT, Nat.reduceSub, Nat.reduceBEq, Nat.reduceEqDiff, Nat.reduceAdd, Nat.reduceLeDiff, reduceCtorEq, Nat.reduceMul]
    refine loop_nat n.ns.length (fun i e σ => ∃ seen' more, e 1 = .a (.ptr (1, 0) 0 0) ∧ e 3 = .a (.own (11, 1) 0 n.ns.length) ∧ e 4 = .a (.p (.b more)) ∧ e 5 = .a (.p (.i .i64 (i : Nat))) ∧ σ.bs (1, 0) = some (.var [.p (.l (n.ns.map encN)), .p (.i .i64 n.cap)]) ∧ σ.bs (11, 1) = some (.row 1 4 (seen'.map encB)) ∧
      RK n seen' ∧ Pass n (cntF seen) i more seen') (i0 := 0) (Nat.zero_le _) ?_ ?_ ?_
    · refine ⟨seen, false, ?_, ?_, ?_, ?_, ?_, ?_, hK, fun _ => ⟨fun i' h => by omega, rfl⟩, by simp⟩ <;> simp only [e1, e3, e4, s1, s11, fxa, fxc, fxE, fxL, fxI, nxE, evO, evR, cellsT, ldCells, mkT, lenA, binPV, Env.init, resV, resT, frT, klT, ownT, intT, O.adds, ownA, rowsA, over, wrOk, keysT, keysA, ne_eq, if_true, if_false, ite_self, Nat.reduceLT, Nat.reduceSub, Nat.reduceBEq, Nat.reduceEqDiff, Nat.reduceAdd, Nat.reduceLeDiff, reduceCtorEq, Nat.reduceMul]
      rfl
    · rintro i e σ hi ⟨seen1, more, e1, e3, e4, e5, s1, s11, hK1, hP1⟩
      obtain ⟨x, hx⟩ : ∃ x, n.ns[i]? = some x := ⟨_, List.getElem?_eq_getElem hi⟩
      have hx' := mapGet encN hx
      have hto := (hn.nd x (List.mem_of_getElem? hx)).to
      have hlt : ((i : Nat) : Int) < (n.ns.length : Int) := by omega
      have hge : (0 : Int) ≤ ((i : Nat) : Int) := by omega
      obtain ⟨b, hb⟩ : ∃ b, seen1[i]? = some b := ⟨_, List.getElem?_eq_getElem (by have := hK1.len; omega)⟩
      simp only [F54b1, e1, e3, e4, e5, s1, s11, hlt, fxa, fxc, fxE, fxL, fxI, nxE, evO, evR, cellsT, ldCells, mkT, lenA, binPV, Env.init, resV, resT, frT, klT, ownT, intT, O.adds, ownA, rowsA, over, wrOk, keysT, keysA, ne_eq, if_true, if_false, ite_self, Nat.reduceLT, Nat.reduceSub, Nat.reduceBEq, Nat.reduceEqDiff, Nat.reduceAdd, Nat.reduceLeDiff, reduceCtorEq, Nat.reduceMul]
      cases b with
      | false =>
        have hP : Pass n (cntF seen) (i + 1) more seen1 := ⟨fun h => ⟨fun i' h' => by
          by_cases e : i' = i
          · subst e; intro h; rw [hb] at h; cases h
          · exact (hP1.1 h).1 i' (by omega), (hP1.1 h).2⟩, hP1.2⟩
        refine loop_nat 0 (fun p e σ' => σ' = σ ∧ e 1 = .a (.ptr (1, 0) 0 0) ∧ e 3 = .a (.own (11, 1) 0 n.ns.length) ∧ e 4 = .a (.p (.b more)) ∧ e 5 = .a (.p (.i .i64 (i : Nat))) ∧ e 6 = .a (.p (.i .i64 0))) (i0 := 0) (Nat.zero_le _) ?_ ?_ ?_
        · refine ⟨rfl, ?_, ?_, ?_, ?_, ?_⟩ <;> simp only [e1, e3, e4, e5, fxa, fxc, fxE, fxL, fxI, nxE, evO, evR, cellsT, ldCells, mkT, lenA, binPV, Env.init, resV, resT, frT, klT, ownT, intT, O.adds, ownA, rowsA, over, wrOk, keysT, keysA, ne_eq, if_true, if_false, ite_self, Nat.reduceLT, Nat.reduceSub, Nat.reduceBEq, Nat.reduceEqDiff, Nat.reduceAdd, Nat.reduceLeDiff, reduceCtorEq, Nat.reduceMul]
        · rintro p e σ hp; omega
        · rintro e σ' ⟨rfl, e1, e3, e4, e5, e6⟩
          have hb' := mapGet encB hb
          simp only [encB] at hb'
          by_cases h0 : (0 : Int) < (x.to.length : Int)
          · simp only [F54b2, e1, e3, e4, e5, e6, s1, s11, hlt, hge, hx', h0, hb', rowK, encB, Int.toNat_natCast, Nat.zero_add, fxa, fxc, fxE, fxL, fxI, nxE, evO, evR, cellsT, ldCells, mkT, lenA, binPV, Env.init, resV, resT, frT, klT, ownT, intT, O.adds, ownA, rowsA, over, wrOk, keysT, keysA, ne_eq, if_true, if_false, ite_self, Nat.reduceLT, Nat.reduceSub, Nat.reduceBEq, Nat.reduceEqDiff, Nat.reduceAdd, Nat.reduceLeDiff, reduceCtorEq, Nat.reduceMul]
            exact ⟨seen1, more, rfl, by rw [wrap_succ i (by omega)], rfl, hK1, hP⟩
          · simp only [F54b2, e1, e3, e4, e5, e6, s1, s11, hlt, hge, hx', h0, hb', rowK, encB, Int.toNat_natCast, Nat.zero_add, fxa, fxc, fxE, fxL, fxI, nxE, evO, evR, cellsT, ldCells, mkT, lenA, binPV, Env.init, resV, resT, frT, klT, ownT, intT, O.adds, ownA, rowsA, over, wrOk, keysT, keysA, ne_eq, if_true, if_false, ite_self, Nat.reduceLT, Nat.reduceSub, Nat.reduceBEq, Nat.reduceEqDiff, Nat.reduceAdd, Nat.reduceLeDiff, reduceCtorEq, Nat.reduceMul]
            exact ⟨seen1, more, rfl, by rw [wrap_succ i (by omega)], rfl, hK1, hP⟩
      | true =>
        refine loop_nat x.to.length (fun p e σ => ∃ seen' more, e 1 = .a (.ptr (1, 0) 0 0) ∧ e 3 = .a (.own (11, 1) 0 n.ns.length) ∧ e 4 = .a (.p (.b more)) ∧ e 5 = .a (.p (.i .i64 (i : Nat))) ∧ e 6 = .a (.p (.i .i64 (p : Nat))) ∧ σ.bs (1, 0) = some (.var [.p (.l (n.ns.map encN)), .p (.i .i64 n.cap)]) ∧ σ.bs (11, 1) = some (.row 1 4 (seen'.map encB)) ∧
          RK n seen' ∧ seen'[i]? = some true ∧ Pass n (cntF seen) i more seen' ∧ (more = false → ∀ m q, m < p → x.to[m]? = some q → ∀ j : Nat, q.n = (j : Int) → seen'[j]? = some true)) (i0 := 0) (Nat.zero_le _) ?_ ?_ ?_
        · refine ⟨seen1, more, ?_, ?_, ?_, ?_, ?_, ?_, ?_, hK1, hb, hP1, fun _ m q h => by omega⟩ <;> simp only [e1, e3, e4, e5, s1, s11, fxa, fxc, fxE, fxL, fxI, nxE, evO, evR, cellsT, ldCells, mkT, lenA, binPV, Env.init, resV, resT, frT, klT, ownT, intT, O.adds, ownA, rowsA, over, wrOk, keysT, keysA, ne_eq, if_true, if_false, ite_self, Nat.reduceLT, Nat.reduceSub, Nat.reduceBEq, Nat.reduceEqDiff, Nat.reduceAdd, Nat.reduceLeDiff, reduceCtorEq, Nat.reduceMul]
          rfl
        · rintro p e σ hp ⟨seen2, more2, e1, e3, e4, e5, e6, s1, s11, hK2, hb2, hP2, hF2⟩
          obtain ⟨q, hq⟩ : ∃ q, x.to[p]? = some q := ⟨_, List.getElem?_eq_getElem hp⟩
          obtain ⟨j, hj, hjl⟩ := good_q hG hx hq
          have hstep : n.step i j := ⟨x, q, hx, List.mem_of_getElem? hq, hj⟩
          obtain ⟨bj, hbj⟩ : ∃ b, seen2[j]? = some b := ⟨_, List.getElem?_eq_getElem (by rw [hK2.len]; exact hjl)⟩
          have hb' := mapGet encB hb2
          have hbj' := mapGet encB hbj
          have hq' := mapGet encP hq
          have hlt2 : ((p : Nat) : Int) < (x.to.length : Int) := by omega
          have hge2 : (0 : Int) ≤ ((p : Nat) : Int) := by omega
          have hltj : ((j : Nat) : Int) < (n.ns.length : Int) := by omega
          have hgej : (0 : Int) ≤ ((j : Nat) : Int) := by omega
          have hK3 := hK2.set hb2 hstep
          have hset : (seen2.map encB).set j [.b true] = (seen2.set j true).map encB := by rw [List.map_set]; rfl
          have key : ∀ (m' : Bool), m' = (more2 || !bj) → Pass n (cntF seen) i m' (seen2.set j true) ∧ (m' = false → ∀ m q, m < p + 1 → x.to[m]? = some q → ∀ j' : Nat, q.n = (j' : Int) → (seen2.set j true)[j']? = some true) := by
            rintro m' rfl
            cases bj with
            | true =>
              simp only [Bool.not_true, Bool.or_false]
              rw [set_same hbj]
              refine ⟨hP2, fun h m r hm hr j' hj' => ?_⟩
              by_cases e : m = p
              · subst e; rw [hq] at hr; rw [← Option.some.inj hr, hj] at hj'
                have : j = j' := by omega
                rw [← this]; exact hbj
              · exact hF2 h m r (by omega) hr j' hj'
            | false =>
              have h1 := cntF_set hbj
              simp only [Bool.not_false, Bool.or_true]
              refine ⟨⟨fun h => (by cases h), fun _ => ?_⟩, fun h => (by cases h)⟩
              cases more2 with
              | true => have := hP2.2 rfl; omega
              | false => have := (hP2.1 rfl).2; omega
          obtain ⟨qn, qs⟩ := q
          simp only at hj
          subst hj
          simp only [encB] at hb' hbj'
          simp only [encP] at hq'
          cases more2 with
          | true =>
            have := key true rfl
            simp only [F54b2, e1, e3, e4, e5, e6, s1, s11, hlt, hge, hx', hlt2, hge2, hq', hltj, hgej, hb', hbj', hset, rowK, encB, Int.toNat_natCast, Nat.zero_add, fxa, fxc, fxE, fxL, fxI, nxE, evO, evR, cellsT, ldCells, mkT, lenA, binPV, Env.init, resV, resT, frT, klT, ownT, intT, O.adds, ownA, rowsA, over, wrOk, keysT, keysA, ne_eq, if_true, if_false, ite_self, Nat.reduceLT, Nat.reduceSub, Nat.reduceBEq, Nat.reduceEqDiff, Nat.reduceAdd, Nat.reduceLeDiff, reduceCtorEq, Nat.reduceMul]
            exact ⟨_, true, rfl, by rw [wrap_succ p (by omega)], rfl, hK3, set_true hb2, this.1, this.2⟩
          | false =>
            have := key (!bj) (by simp)
            simp only [F54b2, e1, e3, e4, e5, e6, s1, s11, hlt, hge, hx', hlt2, hge2, hq', hltj, hgej, hb', hbj', hset, rowK, encB, Int.toNat_natCast, Nat.zero_add, fxa, fxc, fxE, fxL, fxI, nxE, evO, evR, cellsT, ldCells, mkT, lenA, binPV, Env.init, resV, resT, frT, klT, ownT, intT, O.adds, ownA, rowsA, over, wrOk, keysT, keysA, ne_eq, if_true, if_false, ite_self, Nat.reduceLT, Nat.reduceSub, Nat.reduceBEq, Nat.reduceEqDiff, Nat.reduceAdd, Nat.reduceLeDiff, reduceCtorEq, Nat.reduceMul]
            exact ⟨_, !bj, rfl, by rw [wrap_succ p (by omega)], rfl, hK3, set_true hb2, this.1, this.2⟩
        · rintro e σ ⟨seen2, more2, e1, e3, e4, e5, e6, s1, s11, hK2, hb2, hP2, hF2⟩
          have hlt2 : ¬ ((x.to.length : Nat) : Int) < (x.to.length : Int) := by omega
          simp only [F54b2, e1, e3, e4, e5, e6, s1, s11, hlt, hge, hx', hlt2, rowK, encB, Int.toNat_natCast, Nat.zero_add, fxa, fxc, fxE, fxL, fxI, nxE, evO, evR, cellsT, ldCells, mkT, lenA, binPV, Env.init, resV, resT, frT, klT, ownT, intT, O.adds, ownA, rowsA, over, wrOk, keysT, keysA, ne_eq, if_true, if_false, ite_self, Nat.reduceLT, Nat.reduceSub, Nat.reduceBEq, Nat.reduceEqDiff, Nat.reduceAdd, Nat.reduceLeDiff, reduceCtorEq, Nat.reduceMul]
          refine ⟨seen2, more2, rfl, by rw [wrap_succ i (by omega)], rfl, hK2, fun h => ⟨fun i' h' => ?_, (hP2.1 h).2⟩, hP2.2⟩
          by_cases e : i' = i
          · subst e
            rintro _ j ⟨y, r, hy, hr, hrj⟩
            rw [hx] at hy
            rw [← Option.some.inj hy] at hr
            obtain ⟨m, hm⟩ := List.getElem?_of_mem hr
            exact hF2 h m r (List.getElem?_eq_some_iff.1 hm).1 hm j hrj
          · exact (hP2.1 h).1 i' (by omega)
    · rintro e σ ⟨seen1, more, e1, e3, e4, e5, s1, s11, hK1, hP1⟩
      have hlt : ¬ ((n.ns.length : Nat) : Int) < (n.ns.length : Int) := by omega
      simp only [F54b1, e1, e3, e4, e5, s1, s11, hlt, fxa, fxc, fxE, fxL, fxI, nxE, evO, evR, cellsT, ldCells, mkT, lenA, binPV, Env.init, resV, resT, frT, klT, ownT, intT, O.adds, ownA, rowsA, over, wrOk, keysT, keysA, ne_eq, if_true, if_false, ite_self, Nat.reduceLT, Nat.reduceSub, Nat.reduceBEq, Nat.reduceEqDiff, Nat.reduceAdd, Nat.reduceLeDiff, reduceCtorEq, Nat.reduceMul]
      refine ⟨2 * cntF seen1 + (if more then 1 else 0), ?_, seen1, more, rfl, rfl, hK1, fun h => (hP1.1 h).1, rfl⟩
      cases more with
      | true => have := hP1.2 rfl; simp only [if_true] at hk ⊢; omega
      | false => have := (hP1.1 rfl).2; simp only [if_true, Bool.false_eq_true, if_false] at hk ⊢; omega

/-- the nodes that the root comes to, rising -/
noncomputable def liveTo (n : Nt) (k : Nat) : List Int := ((List.range k).filter fun i => bool (Rch n i)).map fun (i : Nat) => (i : Int)
noncomputable def Nt.live (n : Nt) : List Int := liveTo n n.ns.length
theorem liveTo_succ (n : Nt) (k : Nat) : liveTo n (k + 1) = if bool (Rch n k) then liveTo n k ++ [(k : Int)] else liveTo n k := by
  unfold liveTo
  rw [List.range_succ, List.filter_append]
  cases h : bool (Rch n k) <;> simp [List.filter_cons, h]
theorem liveTo_len (n : Nt) (k : Nat) : (liveTo n k).length ≤ k := by
  unfold liveTo
  have := List.length_filter_le (fun i => bool (Rch n i)) (List.range k)
  rw [List.length_map]; simpa using this

theorem sLive_ok {n : Nt} (hn : n.Ok) : eP S 20 [.g (encT n)] = some (.a (.l ((if bool n.Good then n.live else []).map encI))) := by
  refine x_fn (orcS (by decide)) (fc := F20) rfl rfl ?_
  have hns := hn.ns
  have c1 := sCheck_ok hn
  by_cases hG : n.Good
  case neg =>
    rw [bool_f hG] at c1 ⊢
    simp only [Bool.false_eq_true, if_false, encT] at c1
    simp only [F20, c1, Int.reduceEq, fxa, fxc, fxE, fxL, fxI, nxE, evO, evR, cellsT, ldCells, mkT, lenA, binPV, Env.init, resV, resT, frT, klT, ownT, intT, O.adds, ownA, rowsA, over, wrOk, keysT, keysA, ne_eq, if_true, if_false, ite_self, Nat.reduceLT, Nat.reduceSub, Nat.reduceBEq, Nat.reduceEqDiff, Nat.reduceAdd, Nat.reduceLeDiff, reduceCtorEq, Nat.reduceMul]
  rw [bool_t hG] at c1 ⊢
  have c2 := sReached_ok hn hG
  simp only [if_true, encT] at c1 c2
  obtain ⟨rows, hrows⟩ : ∃ rows, ((List.range n.ns.length).map fun i => bool (Rch n i)).map encB = rows := ⟨_, rfl⟩
  have hrl : rows.length = n.ns.length := by rw [← hrows]; simp
  have hrg : ∀ i, i < n.ns.length → rows[i]? = some [.b (bool (Rch n i))] := by
    intro i hi; rw [← hrows, List.getElem?_map, List.getElem?_map, List.getElem?_range hi]; rfl
  have hra : (rows.all fun r => decide (r.length = 1)) = true := by rw [← hrows]; simp [encB]
  rw [hrows] at c2
  simp only [F20, c1, c2, hrl, fxa, fxc, fxE, fxL, fxI, nxE, evO, evR, cellsT, ldCells, mkT, lenA, binPV, Env.init, resV, resT, frT, klT, ownT, intT, O.adds, ownA, rowsA, over, wrOk, keysT, keysA, ne_eq, if_true, if_false, ite_self, Nat.reduceLT, Nat.reduceSub, Nat.reduceBEq, Nat.reduceEqDiff, Nat.reduceAdd, Nat.reduceLeDiff, reduceCtorEq, Nat.reduceMul]
  refine loop_nat n.ns.length (fun i e σ => e 10 = .a (.p (.l rows)) ∧ e 11 = .a (.p (.i .i64 n.ns.length)) ∧ e 12 = .a (.p (.i .i64 (i : Nat))) ∧
    (e 3 = .a .nil ∧ liveTo n i = [] ∨ ∃ k : Nat, k < σ.clk ∧ e 3 = .a (.own (21, k) 0 (liveTo n i).length) ∧ σ.bs (21, k) = some (.row 1 3 ((liveTo n i).map encI)))) (i0 := 0) (Nat.zero_le _) ?_ ?_ ?_
  · refine ⟨?_, ?_, ?_, .inl ⟨?_, rfl⟩⟩ <;> simp only [hrl, fxa, fxc, fxE, fxL, fxI, nxE, evO, evR, cellsT, ldCells, mkT, lenA, binPV, Env.init, resV, resT, frT, klT, ownT, intT, O.adds, ownA, rowsA, over, wrOk, keysT, keysA, ne_eq, if_true, if_false, ite_self, Nat.reduceLT, Nat.reduceSub, Nat.reduceBEq, Nat.reduceEqDiff, Nat.reduceAdd, Nat.reduceLeDiff, reduceCtorEq, Nat.reduceMul]
    rfl
  · rintro i e σ hi ⟨e10, e11, e12, h3⟩
    have hlt : ((i : Nat) : Int) < (n.ns.length : Int) := by omega
    have hge : (0 : Int) ≤ ((i : Nat) : Int) := by omega
    have hg := hrg i hi
    have hll := liveTo_len n i
    rw [liveTo_succ]
    cases hb : Fx.bool (Rch n i) with
    | false =>
      rw [hb] at hg
      simp only [F20b0, e10, e11, e12, hlt, hge, hg, hrl, hra, fxa, fxc, fxE, fxL, fxI, nxE, evO, evR, cellsT, ldCells, mkT, lenA, binPV, Env.init, resV, resT, frT, klT, ownT, intT, O.adds, ownA, rowsA, over, wrOk, keysT, keysA, ne_eq, if_true, if_false, ite_self, Nat.reduceLT, Nat.reduceSub, Nat.reduceBEq, Nat.reduceEqDiff, Nat.reduceAdd, Nat.reduceLeDiff, reduceCtorEq, Nat.reduceMul]
      rw [wrap_succ i (by omega)]
      exact ⟨rfl, by simpa using h3⟩
    | true =>
      rw [hb] at hg
      rcases h3 with ⟨e3, h3⟩ | ⟨k, hk, e3, s3⟩
      · simp only [F20b0, e3, e10, e11, e12, hlt, hge, hg, hrl, hra, Nat.zero_add, Nat.one_mul, Nat.reduceLeDiff, Nat.zero_lt_one, fxa, fxc, fxE, fxL, fxI, nxE, evO, evR, cellsT, ldCells, mkT, lenA, binPV, Env.init, resV, resT, frT, klT, ownT, intT, O.adds, ownA, rowsA, over, wrOk, keysT, keysA, ne_eq, if_true, if_false, ite_self, Nat.reduceLT, Nat.reduceSub, Nat.reduceBEq, Nat.reduceEqDiff, Nat.reduceAdd, Nat.reduceLeDiff, reduceCtorEq, Nat.reduceMul]
        rw [wrap_succ i (by omega)]
        refine ⟨rfl, .inr ⟨σ.clk + 1, by omega, ?_, ?_⟩⟩
        · rw [h3]; rfl
        · rw [h3]; simp [encI]
      · have h1 : ¬ k = σ.clk := by omega
        have htk : List.take (liveTo n i).length ((liveTo n i).map encI) = (liveTo n i).map encI := List.take_of_length_le (by simp)
        have hbb : ((liveTo n i).length + 1) * 8 ≤ 140737488355328 := by omega
        simp only [F20b0, e3, s3, e10, e11, e12, hlt, hge, hg, hrl, hra, h1, htk, hbb, List.length_map, Nat.le_refl, Nat.zero_add, Nat.one_mul, Nat.reduceLeDiff, Nat.zero_lt_one, fxa, fxc, fxE, fxL, fxI, nxE, evO, evR, cellsT, ldCells, mkT, lenA, binPV, Env.init, resV, resT, frT, klT, ownT, intT, O.adds, ownA, rowsA, over, wrOk, keysT, keysA, ne_eq, if_true, if_false, ite_self, Nat.reduceLT, Nat.reduceSub, Nat.reduceBEq, Nat.reduceEqDiff, Nat.reduceAdd, Nat.reduceLeDiff, reduceCtorEq, Nat.reduceMul]
        rw [wrap_succ i (by omega)]
        refine ⟨rfl, .inr ⟨σ.clk + 1, by omega, ?_, ?_⟩⟩
        · simp
        · simp [encI]
  · rintro e σ ⟨e10, e11, e12, h3⟩
    have hlt : ¬ ((n.ns.length : Nat) : Int) < (n.ns.length : Int) := by omega
    rcases h3 with ⟨e3, h3⟩ | ⟨k, hk, e3, s3⟩
    · simp only [F20b0, e3, e10, e11, e12, hlt, fxa, fxc, fxE, fxL, fxI, nxE, evO, evR, cellsT, ldCells, mkT, lenA, binPV, Env.init, resV, resT, frT, klT, ownT, intT, O.adds, ownA, rowsA, over, wrOk, keysT, keysA, ne_eq, if_true, if_false, ite_self, Nat.reduceLT, Nat.reduceSub, Nat.reduceBEq, Nat.reduceEqDiff, Nat.reduceAdd, Nat.reduceLeDiff, reduceCtorEq, Nat.reduceMul]
      unfold Nt.live; rw [h3]; rfl
    · have htk : List.take (liveTo n n.ns.length).length ((liveTo n n.ns.length).map encI) = (liveTo n n.ns.length).map encI := List.take_of_length_le (by simp)
      simp only [F20b0, e3, s3, e10, e11, e12, hlt, htk, List.length_map, Nat.le_refl, fxa, fxc, fxE, fxL, fxI, nxE, evO, evR, cellsT, ldCells, mkT, lenA, binPV, Env.init, resV, resT, frT, klT, ownT, intT, O.adds, ownA, rowsA, over, wrOk, keysT, keysA, ne_eq, if_true, if_false, ite_self, Nat.reduceLT, Nat.reduceSub, Nat.reduceBEq, Nat.reduceEqDiff, Nat.reduceAdd, Nat.reduceLeDiff, reduceCtorEq, Nat.reduceMul]
      rfl

theorem rLive_ok {n : Nt} (hn : n.Ok) : eP S 21 [.g (encT n)] = some (.a (.l ((if bool n.Good then n.live else []).map encI))) := by
  refine x_fn (orcS (by decide)) (fc := F21) rfl rfl ?_
  have hns := hn.ns
  have c1 := RCheck_ok hn
  by_cases hG : n.Good
  case neg =>
    rw [bool_f hG] at c1 ⊢
    simp only [Bool.false_eq_true, if_false, encT] at c1
    simp only [F21, c1, Int.reduceEq, Nat.le_refl, fxa, fxc, fxE, fxL, fxI, nxE, evO, evR, cellsT, ldCells, mkT, lenA, binPV, Env.init, resV, resT, frT, klT, ownT, intT, O.adds, ownA, rowsA, over, wrOk, keysT, keysA, ne_eq, if_true, if_false, ite_self, Nat.reduceLT, Nat.reduceSub, Nat.reduceBEq, Nat.reduceEqDiff, Nat.reduceAdd, Nat.reduceLeDiff, reduceCtorEq, Nat.reduceMul]
  rw [bool_t hG] at c1 ⊢
  have c2 := rReached_ok hn hG
  simp only [if_true, encT] at c1 c2
  obtain ⟨rows, hrows⟩ : ∃ rows, ((List.range n.ns.length).map fun i => bool (Rch n i)).map encB = rows := ⟨_, rfl⟩
  have hrl : rows.length = n.ns.length := by rw [← hrows]; simp
  have hrg : ∀ i, i < n.ns.length → rows[i]? = some [.b (bool (Rch n i))] := by
    intro i hi; rw [← hrows, List.getElem?_map, List.getElem?_map, List.getElem?_range hi]; rfl
  have hra : (rows.all fun r => decide (r.length = 1)) = true := by rw [← hrows]; simp [encB]
  rw [hrows] at c2
  simp only [F21, c1, c2, hrl, fxa, fxc, fxE, fxL, fxI, nxE, evO, evR, cellsT, ldCells, mkT, lenA, binPV, Env.init, resV, resT, frT, klT, ownT, intT, O.adds, ownA, rowsA, over, wrOk, keysT, keysA, ne_eq, if_true, if_false, ite_self, Nat.reduceLT, Nat.reduceSub, Nat.reduceBEq, Nat.reduceEqDiff, Nat.reduceAdd, Nat.reduceLeDiff, reduceCtorEq, Nat.reduceMul]
  refine loop_nat n.ns.length (fun i e σ => e 4 = .a (.p (.l rows)) ∧ e 5 = .a (.p (.i .i64 (i : Nat))) ∧
    ∃ k : Key, k.2 < σ.clk ∧ e 3 = .a (.own k 0 (liveTo n i).length) ∧ σ.bs k = some (.row 1 3 ((liveTo n i).map encI))) (i0 := 0) (Nat.zero_le _) ?_ ?_ ?_
  · refine ⟨?_, ?_, (6, 1), ?_, ?_, ?_⟩ <;> simp only [hrl, fxa, fxc, fxE, fxL, fxI, nxE, evO, evR, cellsT, ldCells, mkT, lenA, binPV, Env.init, resV, resT, frT, klT, ownT, intT, O.adds, ownA, rowsA, over, wrOk, keysT, keysA, ne_eq, if_true, if_false, ite_self, Nat.reduceLT, Nat.reduceSub, Nat.reduceBEq, Nat.reduceEqDiff, Nat.reduceAdd, Nat.reduceLeDiff, reduceCtorEq, Nat.reduceMul]
    all_goals first | rfl | omega | skip
  · rintro i e σ hi ⟨e4, e5, k, hk, e3, s3⟩
    have hlt : ((i : Nat) : Int) < (n.ns.length : Int) := by omega
    have hge : (0 : Int) ≤ ((i : Nat) : Int) := by omega
    have hg := hrg i hi
    have hll := liveTo_len n i
    rw [liveTo_succ]
    cases hb : Fx.bool (Rch n i) with
    | false =>
      rw [hb] at hg
      simp only [F21b0, e4, e5, hlt, hge, hg, hrl, hra, fxa, fxc, fxE, fxL, fxI, nxE, evO, evR, cellsT, ldCells, mkT, lenA, binPV, Env.init, resV, resT, frT, klT, ownT, intT, O.adds, ownA, rowsA, over, wrOk, keysT, keysA, ne_eq, if_true, if_false, ite_self, Nat.reduceLT, Nat.reduceSub, Nat.reduceBEq, Nat.reduceEqDiff, Nat.reduceAdd, Nat.reduceLeDiff, reduceCtorEq, Nat.reduceMul]
      rw [wrap_succ i (by omega)]
      exact ⟨rfl, k, hk, by simpa using e3, by simpa using s3⟩
    | true =>
      rw [hb] at hg
      have h1 : ∀ d, ¬ k = (d, σ.clk) := by rintro d rfl; simp at hk
      have htk : List.take (liveTo n i).length ((liveTo n i).map encI) = (liveTo n i).map encI := List.take_of_length_le (by simp)
      have hbb : ((liveTo n i).length + 1) * 8 ≤ 140737488355328 := by omega
      simp only [F21b0, e3, s3, e4, e5, hlt, hge, hg, hrl, hra, h1, htk, hbb, List.length_map, Nat.le_refl, Nat.zero_add, Nat.one_mul, Nat.reduceLeDiff, Nat.zero_lt_one, fxa, fxc, fxE, fxL, fxI, nxE, evO, evR, cellsT, ldCells, mkT, lenA, binPV, Env.init, resV, resT, frT, klT, ownT, intT, O.adds, ownA, rowsA, over, wrOk, keysT, keysA, ne_eq, if_true, if_false, ite_self, Nat.reduceLT, Nat.reduceSub, Nat.reduceBEq, Nat.reduceEqDiff, Nat.reduceAdd, Nat.reduceLeDiff, reduceCtorEq, Nat.reduceMul]
      rw [wrap_succ i (by omega)]
      refine ⟨rfl, (26, σ.clk + 1), by simp, ?_, ?_⟩
      · simp
      · simp [encI]
  · rintro e σ ⟨e4, e5, k, hk, e3, s3⟩
    have hlt : ¬ ((n.ns.length : Nat) : Int) < (n.ns.length : Int) := by omega
    have htk : List.take (liveTo n n.ns.length).length ((liveTo n n.ns.length).map encI) = (liveTo n n.ns.length).map encI := List.take_of_length_le (by simp)
    simp only [F21b0, e3, s3, e4, e5, hrl, hlt, htk, List.length_map, Nat.le_refl, fxa, fxc, fxE, fxL, fxI, nxE, evO, evR, cellsT, ldCells, mkT, lenA, binPV, Env.init, resV, resT, frT, klT, ownT, intT, O.adds, ownA, rowsA, over, wrOk, keysT, keysA, ne_eq, if_true, if_false, ite_self, Nat.reduceLT, Nat.reduceSub, Nat.reduceBEq, Nat.reduceEqDiff, Nat.reduceAdd, Nat.reduceLeDiff, reduceCtorEq, Nat.reduceMul]
    rfl
end Go.Proofs.Ytkpfjolcmkikeaa
