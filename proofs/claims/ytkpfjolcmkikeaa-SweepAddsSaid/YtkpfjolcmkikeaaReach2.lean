/- All that the root comes to: the program's function. -/
import Derived.Test.YtkpfjolcmkikeaaReach1
set_option linter.unusedSimpArgs false
set_option linter.unusedVariables false
set_option maxHeartbeats 4000000
set_option maxRecDepth 10000
namespace Go.Proofs.Ytkpfjolcmkikeaa
open Go.Fx

theorem set_true {l : List Bool} {i j : Nat} (h : l[j]? = some true) : (l.set i true)[j]? = some true := by
  rw [List.getElem?_set]
  have hj := (List.getElem?_eq_some_iff.1 h).1
  split
  · rename_i e; subst e; rw [if_pos hj]
  · exact h
theorem of_set_true {l : List Bool} {i j : Nat} (h : (l.set i true)[j]? = some true) : i = j ∨ l[j]? = some true := by
  rw [List.getElem?_set] at h
  split at h
  · rename_i e; exact .inl e
  · exact .inr h

/-- what holds while nodes wait: `a` is the one whose first p links were followed -/
structure RJ (n : Nt) (seen : List Bool) (W : List Int) (a : Option (Nat × Nat)) : Prop where
  len : seen.length = n.ns.length
  rch : ∀ i, seen[i]? = some true → Rch n i
  root : seen[0]? = some true
  wt : ∀ w, w ∈ W → ∃ i : Nat, w = (i : Int) ∧ seen[i]? = some true
  cl : ∀ i : Nat, seen[i]? = some true → (i : Int) ∉ W → (∀ p, a ≠ some (i, p)) → ∀ j, n.step i j → seen[j]? = some true
  at1 : ∀ i p, a = some (i, p) → seen[i]? = some true ∧ ∀ x m q, n.ns[i]? = some x → m < p → x.to[m]? = some q → ∀ j : Nat, q.n = (j : Int) → seen[j]? = some true

theorem RJ.mark {n : Nt} {seen : List Bool} {W : List Int} {a p j : Nat} {x : Nd} {q : Pt} {b : Bool} (h : RJ n seen W (some (a, p))) (hx : n.ns[a]? = some x) (hq : x.to[p]? = some q) (hj : q.n = (j : Int)) (hb : seen[j]? = some b) :
    RJ n (if b then seen else seen.set j true) (if b then W else W ++ [(j : Int)]) (some (a, p + 1)) := by
  have hstep : n.step a j := ⟨x, q, hx, List.mem_of_getElem? hq, hj⟩
  have hjl := (List.getElem?_eq_some_iff.1 hb).1
  have hat := (h.at1 a p rfl).1
  cases b with
  | true =>
    refine ⟨h.len, h.rch, h.root, h.wt, fun i hi hw hn => h.cl i hi hw (fun p' e => ?_), fun i p' e => ?_⟩
    · simp only [Option.some.injEq, Prod.mk.injEq] at e; exact hn (p + 1) (by rw [e.1])
    · simp only [Option.some.injEq, Prod.mk.injEq] at e
      obtain ⟨rfl, rfl⟩ := e
      refine ⟨hat, fun y m r hy hm hr k hk => ?_⟩
      by_cases e : m = p
      · subst e; rw [hx] at hy; rw [← Option.some.inj hy, hq] at hr; rw [← Option.some.inj hr, hj] at hk
        have : j = k := by omega
        rw [← this]; exact hb
      · exact (h.at1 a p rfl).2 y m r hy (by omega) hr k hk
  | false =>
    refine ⟨by simpa using h.len, fun i hi => ?_, set_true h.root, fun w hw => ?_, fun i hi hw hn k hk => ?_, fun i p' e => ?_⟩
    · rcases of_set_true hi with rfl | hi
      · exact .step (h.rch a hat) hstep
      · exact h.rch i hi
    · rcases List.mem_append.1 hw with hw | hw
      · obtain ⟨i, e, hi⟩ := h.wt w hw; exact ⟨i, e, set_true hi⟩
      · simp only [List.mem_cons, List.not_mem_nil, or_false] at hw
        exact ⟨j, hw, by simp [List.getElem?_set, hjl]⟩
    · rcases of_set_true hi with rfl | hi
      · exact absurd (List.mem_append_right _ (by simp)) hw
      · exact set_true (h.cl i hi (fun hm => hw (List.mem_append_left _ hm)) (fun p' e => by
          simp only [Option.some.injEq, Prod.mk.injEq] at e; exact hn (p + 1) (by rw [e.1])) k hk)
    · simp only [Option.some.injEq, Prod.mk.injEq] at e
      obtain ⟨rfl, rfl⟩ := e
      refine ⟨set_true hat, fun y m r hy hm hr k hk => ?_⟩
      by_cases e : m = p
      · subst e; rw [hx] at hy; rw [← Option.some.inj hy, hq] at hr; rw [← Option.some.inj hr, hj] at hk
        have : j = k := by omega
        rw [← this]; simp [List.getElem?_set, hjl]
      · exact set_true ((h.at1 a p rfl).2 y m r hy (by omega) hr k hk)

/-- all links followed: the root comes to just those -/
theorem RJ.done {n : Nt} {seen : List Bool} (h : RJ n seen [] none) : seen = (List.range n.ns.length).map fun i => bool (Rch n i) := by
  have hall : ∀ i, Rch n i → seen[i]? = some true := by
    intro i hi
    induction hi with
    | root => exact h.root
    | step _ hs ih => exact h.cl _ ih (by simp) (by simp) _ hs
  refine list_ext (by simp [h.len]) fun j hj => ?_
  have hj2 := h.len
  obtain ⟨b, hb⟩ : ∃ b, seen[j]? = some b := ⟨_, List.getElem?_eq_getElem hj⟩
  rw [hb, List.getElem?_map, List.getElem?_range (by omega)]
  simp only [Option.map_some, Option.some.injEq]
  cases b with
  | true => exact (bool_t (h.rch j hb)).symm
  | false => exact (bool_f fun hr => by rw [hall j hr] at hb; cases hb).symm

def mu (seen : List Bool) (W : List Int) : Nat := 2 * cntF seen + W.length

theorem mu_mark {seen : List Bool} {W : List Int} {j : Nat} {b : Bool} (hb : seen[j]? = some b) : mu (if b then seen else seen.set j true) (if b then W else W ++ [(j : Int)]) ≤ mu seen W := by
  cases b with
  | true => exact Nat.le_refl _
  | false =>
    have := cntF_set hb
    simp only [mu, Bool.false_eq_true, if_false, List.length_append, List.length_cons, List.length_nil]; omega

theorem good_q {n : Nt} (hG : n.Good) {i p : Nat} {x : Nd} {q : Pt} (hx : n.ns[i]? = some x) (hq : x.to[p]? = some q) : ∃ j : Nat, q.n = (j : Int) ∧ j < n.ns.length := by
  have h := has_iff.1 ((hG.nds i x hx).2.2.2 p q hq).2.1
  exact ⟨q.n.toNat, by omega, by omega⟩

theorem all_ok {n : Nt} (hn : n.Ok) (hG : n.Good) {km ks : Key} {σ : St} (h : MS (n.ns.map encN) km ks [] (List.replicate n.ns.length false) σ) :
    ∃ v σ', eS S (.f 78) [.a (.ptr km 0 0), .a (.p (.i .i64 0))] σ = some (v, σ') ∧ v = .u ∧ MS (n.ns.map encN) km ks [] ((List.range n.ns.length).map fun i => bool (Rch n i)) σ' := by
  have hns := hn.ns
  have hl1 := hG.ln1
  have hb0 : (List.replicate n.ns.length false)[0]? = some false := by rw [List.getElem?_replicate, if_pos (by omega)]
  obtain ⟨_, σ1, hc1, rfl, hM1⟩ := mark_ok h hb0 (by simp)
  simp only [Bool.false_eq_true, if_false, List.nil_append] at hM1
  have hJ1 : RJ n ((List.replicate n.ns.length false).set 0 true) [((0 : Nat) : Int)] none := by
    have hf : ∀ i : Nat, ((List.replicate n.ns.length false).set 0 true)[i]? = some true → i = 0 := by
      intro i hi
      rcases of_set_true hi with rfl | hi
      · rfl
      · rw [List.getElem?_replicate] at hi; split at hi <;> simp at hi
    refine ⟨by simp, fun i hi => ?_, by rw [List.getElem?_set, if_pos rfl, if_pos (by simp; omega)], fun w hw => ?_, fun i hi hw => ?_, fun i p e => by cases e⟩
    · rw [hf i hi]; exact .root
    · simp only [List.mem_cons, List.not_mem_nil, or_false] at hw
      exact ⟨0, hw, by rw [List.getElem?_set, if_pos rfl, if_pos (by simp; omega)]⟩
    · rw [hf i hi] at hw; simp at hw
  have hm1 : mu ((List.replicate n.ns.length false).set 0 true) [((0 : Nat) : Int)] ≤ 2 * n.ns.length := by
    have := cntF_set hb0
    have h2 := cntF_le (List.replicate n.ns.length false)
    simp only [List.length_replicate] at h2
    simp only [mu, List.length_cons, List.length_nil]; omega
  refine x_fnS (fc := F78) rfl rfl ?_
  have hc1 : eS S (.f 115) [.a (.ptr km 0 0), .a (.p (.i .i64 0))] σ = some (.u, σ1) := hc1
  simp only [F78, hc1, frA_ptr, fxa, fxc, fxE, fxL, fxI, nxE, evO, evR, cellsT, ldCells, mkT, lenA, binPV, Env.init, resV, resT, frT, klT, ownT, intT, O.adds, ownA, rowsA, over, wrOk, keysT, keysA, ne_eq, if_true, if_false, ite_self, Nat.reduceLT, Nat.reduceSub, Nat.reduceBEq, Nat.reduceEqDiff, Nat.reduceAdd, Nat.reduceLeDiff, reduceCtorEq, Nat.reduceMul]
  refine wp_loop_ind (fun k e σ => ∃ W seen, e 0 = .a (.ptr km 0 0) ∧ MS (n.ns.map encN) km ks W seen σ ∧ RJ n seen W none ∧ mu seen W = k ∧ k ≤ 2 * n.ns.length) ?_ _ _ _ ⟨_, _, ?_, hM1, hJ1, rfl, hm1⟩
  case refine_2 => simp only [fxa, fxc, fxE, fxL, fxI, nxE, evO, evR, cellsT, ldCells, mkT, lenA, binPV, Env.init, resV, resT, frT, klT, ownT, intT, O.adds, ownA, rowsA, over, wrOk, keysT, keysA, ne_eq, if_true, if_false, ite_self, Nat.reduceLT, Nat.reduceSub, Nat.reduceBEq, Nat.reduceEqDiff, Nat.reduceAdd, Nat.reduceLeDiff, reduceCtorEq, Nat.reduceMul]
  rintro k e σ ⟨W, seen, e0, hM, hJ, hmu, hk⟩
  have hcat : W = [] ∨ ∃ L b, W = L ++ [b] := by
    rcases List.eq_nil_or_concat W with h | ⟨L, b, h⟩
    · exact .inl h
    · exact .inr ⟨L, b, by rw [h, List.concat_eq_append]⟩
  rcases hcat with rfl | ⟨W0, w, rfl⟩
  · have hMM := hM
    rw [hJ.done] at hMM
    obtain ⟨h1, h2, h3, h4, wv, h5, h6⟩ := hM
    have hgt : ¬ ((0 : Nat) : Int) > 0 := by simp
    rcases h6 with ⟨rfl, _⟩ | ⟨kw, full, rfl, g2, g3, g4, g5, g6, g7⟩
    · simp only [F78b0, e0, h5, hgt, fxa, fxc, fxE, fxL, fxI, nxE, evO, evR, cellsT, ldCells, mkT, lenA, binPV, Env.init, resV, resT, frT, klT, ownT, intT, O.adds, ownA, rowsA, over, wrOk, keysT, keysA, ne_eq, if_true, if_false, ite_self, Nat.reduceLT, Nat.reduceSub, Nat.reduceBEq, Nat.reduceEqDiff, Nat.reduceAdd, Nat.reduceLeDiff, reduceCtorEq, Nat.reduceMul]
      exact hMM
    · simp only [F78b0, e0, h5, hgt, List.length_nil, fxa, fxc, fxE, fxL, fxI, nxE, evO, evR, cellsT, ldCells, mkT, lenA, binPV, Env.init, resV, resT, frT, klT, ownT, intT, O.adds, ownA, rowsA, over, wrOk, keysT, keysA, ne_eq, if_true, if_false, ite_self, Nat.reduceLT, Nat.reduceSub, Nat.reduceBEq, Nat.reduceEqDiff, Nat.reduceAdd, Nat.reduceLeDiff, reduceCtorEq, Nat.reduceMul]
      exact hMM
  · obtain ⟨h1, h2, h3, h4, wv, h5, h6⟩ := hM
    rcases h6 with ⟨_, h6⟩ | ⟨kw, full, rfl, g2, g3, g4, g5, g6, g7⟩
    · simp at h6
    obtain ⟨a, rfl, ha⟩ := hJ.wt w (by simp)
    obtain ⟨L, hL⟩ : ∃ L, W0.length = L := ⟨_, rfl⟩
    have hlen : (W0 ++ [(a : Int)]).length = L + 1 := by simp [hL]
    rw [hlen] at h5 g3 g4
    have hfl : full[L]? = some (a : Int) := by
      have : (full.take (L + 1))[L]? = some (a : Int) := by rw [g3, List.getElem?_append_right (by omega)]; simp [hL]
      rw [List.getElem?_take_of_lt (by omega)] at this; exact this
    have hf0 : full.take L = W0 := by
      have : (full.take (L + 1)).take L = W0 := by rw [g3, ← hL]; simp
      rw [List.take_take] at this; rw [← this, Nat.min_eq_left (by omega)]
    have hfl' := mapGet encI hfl
    have hgt : ((L + 1 : Nat) : Int) > 0 := by omega
    have hw : IntKind.i64.wrap (((L + 1 : Nat) : Int) - 1) = (L : Int) := by
      have : 2 * cntF seen + (L + 1) = k := by rw [← hmu]; simp [mu, hL]
      rw [wrap_in _ (by omega)]; omega
    have hlt : (L : Int) < ((L + 1 : Nat) : Int) := by omega
    have hle : (L : Int) ≤ ((L + 1 : Nat) : Int) := by omega
    have hge : (0 : Int) ≤ (L : Int) := by omega
    have hal : a < n.ns.length := by have := (List.getElem?_eq_some_iff.1 ha).1; have := hJ.len; omega
    obtain ⟨x, hx⟩ : ∃ x, n.ns[a]? = some x := ⟨_, List.getElem?_eq_getElem hal⟩
    have hx' := mapGet encN hx
    have hlta : (a : Int) < (n.ns.length : Int) := by omega
    have hgea : (0 : Int) ≤ (a : Int) := by omega
    have hto := (hn.nd x (List.mem_of_getElem? hx)).to
    have g5' : ¬ km = kw := fun e => g5 e.symm
    have h3' : ¬ ks = km := fun e => h3 e.symm
    simp only [encI] at hfl'
    simp only [F78b0, e0, h5, g2, g5, g5', hgt, hw, hlt, hle, hge, hfl', hx', hlta, hgea, rowK, optInt, Int.toNat_zero, Int.le_refl, Nat.sub_zero, encI, fxa, fxc, fxE, fxL, fxI, nxE, evO, evR, cellsT, ldCells, mkT, lenA, binPV, Env.init, resV, resT, frT, klT, ownT, intT, O.adds, ownA, rowsA, over, wrOk, keysT, keysA, ne_eq, if_true, if_false, ite_self, Nat.reduceLT, Nat.reduceSub, Nat.reduceBEq, Nat.reduceEqDiff, Nat.reduceAdd, Nat.reduceLeDiff, reduceCtorEq, Nat.reduceMul]
    have hM2 : MS (n.ns.map encN) km ks W0 seen (σ.put km (.var [.p (.l (n.ns.map encN)), .own ks 0 seen.length, .own kw 0 L])) := by
      refine ⟨h1, h2, h3, by simp only [put_bs, h3', if_false]; exact h4, .own kw 0 L, by simp only [put_bs, if_true], .inr ⟨kw, full, by rw [hL], by simp only [put_bs, g5, if_false]; exact g2, by rw [hL]; exact hf0, by omega, g5, g6, g7⟩⟩
    have hJ2 : RJ n seen W0 (some (a, 0)) := by
      refine ⟨hJ.len, hJ.rch, hJ.root, fun w hw => hJ.wt w (by simp [hw]), fun i hi hwi hna j hj => hJ.cl i hi (fun hm => ?_) (by simp) j hj, fun i p e => ?_⟩
      · rcases List.mem_append.1 hm with hm | hm
        · exact hwi hm
        · simp only [List.mem_cons, List.not_mem_nil, or_false] at hm
          exact hna 0 (by simp; omega)
      · simp only [Option.some.injEq, Prod.mk.injEq] at e
        obtain ⟨rfl, rfl⟩ := e
        exact ⟨ha, fun _ _ _ _ h => by omega⟩
    have hmu2 : mu seen W0 + 1 = k := by rw [← hmu]; simp [mu]; omega
    refine loop_nat x.to.length (fun p e σ => e 0 = .a (.ptr km 0 0) ∧ e 46 = .a (.p (.l (x.to.map encP))) ∧ e 47 = .a (.p (.i .i64 x.to.length)) ∧ e 48 = .a (.p (.i .i64 (p : Nat))) ∧ ∃ W seen, MS (n.ns.map encN) km ks W seen σ ∧ RJ n seen W (some (a, p)) ∧ mu seen W + 1 ≤ k) (i0 := 0) (Nat.zero_le _) ?_ ?_ ?_
    · refine ⟨?_, ?_, ?_, ?_, W0, seen, hM2, hJ2, by omega⟩ <;> simp only [e0, fxa, fxc, fxE, fxL, fxI, nxE, evO, evR, cellsT, ldCells, mkT, lenA, binPV, Env.init, resV, resT, frT, klT, ownT, intT, O.adds, ownA, rowsA, over, wrOk, keysT, keysA, ne_eq, if_true, if_false, ite_self, Nat.reduceLT, Nat.reduceSub, Nat.reduceBEq, Nat.reduceEqDiff, Nat.reduceAdd, Nat.reduceLeDiff, reduceCtorEq, Nat.reduceMul]
      rfl
    · rintro p e σ hp ⟨e0, e46, e47, e48, W, seen, hM, hJ, hmu⟩
      obtain ⟨q, hq⟩ : ∃ q, x.to[p]? = some q := ⟨_, List.getElem?_eq_getElem hp⟩
      obtain ⟨j, hj, hjl⟩ := good_q hG hx hq
      obtain ⟨b, hb⟩ : ∃ b, seen[j]? = some b := ⟨_, List.getElem?_eq_getElem (by rw [hJ.len]; exact hjl)⟩
      have hJ' := hJ.mark hx hq hj hb
      have hmu' := mu_mark (W := W) hb
      have hWl : W.length ≤ 2 * n.ns.length := by have : W.length ≤ mu seen W := by unfold mu; omega
                                                  omega
      obtain ⟨qn, qs⟩ := q
      simp only at hj
      subst hj
      obtain ⟨_, σ3, hc3, rfl, hM3⟩ := mark_ok (MS_put hM 7 σ.clk (.var [.p (.i .i64 0), .p (.i .i64 0)]) (.var [.p (.i .i64 (j : Int)), .p (.i .i64 qs)]) rfl) hb (by omega)
      have hq' := mapGet encP hq
      have hlt2 : ((p : Nat) : Int) < (x.to.length : Int) := by omega
      have hge2 : (0 : Int) ≤ ((p : Nat) : Int) := by omega
      simp only [encP] at hq'
      simp only [F78b1, e0, e46, e47, e48, hlt2, hge2, hq', hc3, frA_ptr, fxa, fxc, fxE, fxL, fxI, nxE, evO, evR, cellsT, ldCells, mkT, lenA, binPV, Env.init, resV, resT, frT, klT, ownT, intT, O.adds, ownA, rowsA, over, wrOk, keysT, keysA, ne_eq, if_true, if_false, ite_self, Nat.reduceLT, Nat.reduceSub, Nat.reduceBEq, Nat.reduceEqDiff, Nat.reduceAdd, Nat.reduceLeDiff, reduceCtorEq, Nat.reduceMul]
      exact ⟨by rw [wrap_succ p (by omega)], _, _, hM3, hJ', by omega⟩
    · rintro e σ ⟨e0, e46, e47, e48, W, seen, hM, hJ, hmu⟩
      have hlt2 : ¬ ((x.to.length : Nat) : Int) < (x.to.length : Int) := by omega
      simp only [F78b1, e0, e46, e47, e48, hlt2, fxa, fxc, fxE, fxL, fxI, nxE, evO, evR, cellsT, ldCells, mkT, lenA, binPV, Env.init, resV, resT, frT, klT, ownT, intT, O.adds, ownA, rowsA, over, wrOk, keysT, keysA, ne_eq, if_true, if_false, ite_self, Nat.reduceLT, Nat.reduceSub, Nat.reduceBEq, Nat.reduceEqDiff, Nat.reduceAdd, Nat.reduceLeDiff, reduceCtorEq, Nat.reduceMul]
      refine ⟨mu seen W, by omega, W, seen, hM, ⟨hJ.len, hJ.rch, hJ.root, hJ.wt, fun i hi hwi _ j hj => ?_, fun i p e => by cases e⟩, rfl, by omega⟩
      by_cases e : i = a
      · subst e
        obtain ⟨y, r, hy, hr, hrj⟩ := hj
        rw [hx] at hy
        rw [← Option.some.inj hy] at hr
        obtain ⟨m, hm⟩ := List.getElem?_of_mem hr
        exact (hJ.at1 i _ rfl).2 x m r hx (List.getElem?_eq_some_iff.1 hm).1 hm j hrj
      · exact hJ.cl i hi hwi (fun p' e' => by simp only [Option.some.injEq, Prod.mk.injEq] at e'; exact e e'.1.symm) j hj

theorem sReached_ok {n : Nt} (hn : n.Ok) (hG : n.Good) : eP S 53 [.g (encT n)] = some (.a (.l (((List.range n.ns.length).map fun i => bool (Rch n i)).map encB))) := by
  refine x_fn (orcS (by decide)) (fc := F53) rfl rfl ?_
  have hns := hn.ns
  obtain ⟨σ0, hσ0⟩ : ∃ σ0, σ0 = ((St.empty.add 1 (.var ((encT n).map .p))).add 9 (.row 1 4 (List.replicate n.ns.length [.b false]))).add 11 (.var [.p (.l (n.ns.map encN)), .own (9, 1) 0 n.ns.length, .nil]) := ⟨_, rfl⟩
  have hM : MS (n.ns.map encN) (11, 2) (9, 1) [] (List.replicate n.ns.length false) σ0 := by
    rw [hσ0]
    refine ⟨by simp [add_clk, empty_clk], by simp [add_clk, empty_clk], by simp, by simp [add_bs, add_clk, empty_clk, encB], .nil, by simp [add_bs, add_clk, empty_clk], .inl ⟨rfl, rfl⟩⟩
  obtain ⟨_, σ1, hcall, rfl, h1, h2, h3, h4, wv, h5, h6⟩ := all_ok hn hG hM
  rw [hσ0] at hcall
  have hbb : (n.ns.length : Int) * 1 ≤ 140737488355328 := by omega
  have hge : (0 : Int) ≤ (n.ns.length : Int) := by omega
  have hl : ((List.range n.ns.length).map fun i => bool (Rch n i)).length = n.ns.length := by simp
  rw [hl] at h5
  have htk : List.take n.ns.length (((List.range n.ns.length).map fun i => bool (Rch n i)).map encB) = ((List.range n.ns.length).map fun i => bool (Rch n i)).map encB := List.take_of_length_le (by simp)
  simp only [encT, List.map_cons, List.map_nil] at hcall
  simp only [F53, hcall, frA_ptr, hbb, hge, h4, h5, htk, List.length_range, Int.cast_ofNat_Int, Int.le_refl, Int.toNat_natCast, Nat.le_refl, fxa, fxc, fxE, fxL, fxI, nxE, evO, evR, cellsT, ldCells, mkT, lenA, binPV, Env.init, resV, resT, frT, klT, ownT, intT, O.adds, ownA, rowsA, over, wrOk, keysT, keysA, ne_eq, if_true, if_false, ite_self, Nat.reduceLT, Nat.reduceSub, Nat.reduceBEq, Nat.reduceEqDiff, Nat.reduceAdd, Nat.reduceLeDiff, reduceCtorEq, Nat.reduceMul]
end Go.Proofs.Ytkpfjolcmkikeaa
