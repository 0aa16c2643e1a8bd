/- What is left when a node is freed, and made again: plain. -/
import Derived.Test.YtgdaanehmdgmeaaLawB
set_option linter.unusedSimpArgs false
set_option linter.unusedVariables false
set_option maxHeartbeats 4000000
set_option maxRecDepth 10000
namespace Go.Proofs.Ytgdaanehmdgmeaa
open Go.Fx

theorem zN_ok : zN.Ok := ⟨by decide, by decide, by decide, by decide, by decide, by decide, by decide, by decide⟩
theorem mem_trim {l : List Nd} {x : Nd} (h : x ∈ trim l) : x ∈ l := List.mem_of_mem_take h
theorem trim_le (l : List Nd) : (trim l).length ≤ l.length := by rw [trim_len]; exact tl_le _ _

theorem free_Ok {n : Nt} (hn : n.Ok) (i : Int) : (n.free i).Ok := by
  have h1 := trim_le (n.ns.set i.toNat zN)
  rw [List.length_set] at h1
  have h2 := hn.ns
  refine ⟨?_, hn.cap, fun x hx => ?_⟩
  · show (trim (n.ns.set i.toNat zN)).length * 88 ≤ _; omega
  · rcases List.mem_or_eq_of_mem_set (mem_trim hx) with h | rfl
    · exact hn.nd x h
    · exact zN_ok
theorem make_Ok {n : Nt} {x : Nd} (hn : n.Ok) (hx : x.Ok) (hb : n.ns.length * 88 + 88 ≤ 140737488355328) : (n.make x).Ok := by
  unfold Nt.make
  cases hf : n.ns.findIdx? isFree with
  | some i =>
    refine ⟨by simp; omega, hn.cap, fun y h => ?_⟩
    rcases List.mem_or_eq_of_mem_set h with h | rfl
    · exact hn.nd y h
    · exact fresh_ok hx
  | none =>
    refine ⟨by simp; omega, hn.cap, fun y h => ?_⟩
    rcases List.mem_append.1 h with h | h
    · exact hn.nd y h
    · simp only [List.mem_cons, List.not_mem_nil, or_false] at h; rw [h]; exact fresh_ok hx
theorem make_used {n : Nt} {x : Nd} (hk : x.k ≠ 0) : (n.make x).used = n.used + 1 := by
  have hfk : x.fresh.k = x.k := rfl
  unfold Nt.make
  cases hf : n.ns.findIdx? isFree with
  | some i =>
    obtain ⟨hi, hfi, hbef⟩ := List.findIdx?_eq_some_iff_getElem.1 hf
    have hy : n.ns[i]? = some n.ns[i] := List.getElem?_eq_getElem hi
    have hyk : (n.ns[i]).k = 0 := by simpa [isFree] using hfi
    show usedL (n.ns.set i x.fresh) = usedL n.ns + 1
    rw [usedL_set _ hy, if_pos hyk, hfk, if_neg hk]; omega
  | none =>
    show usedL (n.ns ++ [x.fresh]) = usedL n.ns + 1
    rw [usedL_app, usedL_cons, usedL_nil, hfk, if_neg hk]; omega
theorem make_len {n : Nt} {x : Nd} : (n.make x).ns.length ≤ n.ns.length + 1 := by
  unfold Nt.make
  cases hf : n.ns.findIdx? isFree with
  | some i => simp
  | none => simp
theorem free_used {n : Nt} {t : Nat} {y : Nd} (hy : n.ns[t]? = some y) (hk : y.k ≠ 0) : (n.free (t : Int)).used = n.used - 1 := by
  show usedL (trim (n.ns.set (t : Int).toNat zN)) = usedL n.ns - 1
  rw [usedL_trim, Int.toNat_natCast, usedL_set zN hy, if_neg hk]
  show usedL n.ns - 1 + (if zN.k = 0 then 0 else 1) = usedL n.ns - 1
  rw [if_pos (show zN.k = 0 from rfl)]; omega
theorem free_len (n : Nt) (t : Int) : (n.free t).ns.length ≤ n.ns.length := by
  have := trim_le (n.ns.set t.toNat zN)
  rw [List.length_set] at this; exact this
theorem free_there {n : Nt} {t : Nat} {z : Nd} (h : (n.free (t : Int)).ns[t]? = some z) : z.k = 0 := by
  have h1 := (List.getElem?_eq_some_iff.1 h).1
  have h2 : (trim (n.ns.set (t : Int).toNat zN))[t]? = some z := h
  rw [trim_get h1, Int.toNat_natCast, List.getElem?_set] at h2
  rw [if_pos rfl] at h2
  split at h2
  · rw [← Option.some.inj h2]; rfl
  · cases h2
theorem free_at (n : Nt) (t : Nat) (ht : t < n.ns.length) : (n.free (t : Int)).at ≤ t := by
  unfold Nt.at
  cases hf : (n.free (t : Int)).ns.findIdx? isFree with
  | some i =>
    obtain ⟨hi, hfi, hbef⟩ := List.findIdx?_eq_some_iff_getElem.1 hf
    show i ≤ t
    by_cases h : t < i
    · have := hbef t h
      have hz : (n.free (t : Int)).ns[t]? = some ((n.free (t : Int)).ns[t]) := List.getElem?_eq_getElem (by omega)
      have := free_there hz
      simp_all [isFree]
    · omega
  | none =>
    show (n.free (t : Int)).ns.length ≤ t
    by_cases h : t < (n.free (t : Int)).ns.length
    · have hz : (n.free (t : Int)).ns[t]? = some ((n.free (t : Int)).ns[t]) := List.getElem?_eq_getElem h
      have h2 := free_there hz
      rw [List.findIdx?_eq_none_iff] at hf
      have := hf _ (List.getElem_mem h)
      simp [isFree, h2] at this
    · omega

theorem good_used {n : Nt} (hG : n.Good) : n.used ≤ n.cap := by
  have := usedL_le n.ns
  have := hG.ln2
  unfold Nt.used; omega

theorem storeParts_law {n : Nt} {t : Int} (hn : n.Ok) (ht : wf t) : eP S 9 [.g (encT n), .a (.i .i64 t)] = some (.a (.b true)) := by
  have f0 := fixed12_ok
  have a1 := Small_ok hn 150
  have a2 := RCheck_ok hn
  refine x_fn (orcS (by decide)) (fc := F9) rfl rfl ?_
  by_cases h1 : n.small 150
  case neg =>
    rw [bool_f h1] at a1
    simp only [encT] at a1
    simp only [F9, f0, a1, false_iff, true_iff, RB_t, RB_f, RB_b, List.getElem?_cons_zero, List.getElem?_cons_succ, List.set_cons_succ, frV, klV, Nat.reduceLT, Nat.reduceSub, eqCells, encT, encN, encP, encA, allP, allA, allN, spN, Nat.reduceBEq, Int.toNat_natCast, evI_wr, wrOk, keysT, keysA, ne_eq, not_false_eq_true, fxa, fxc, if_true, if_false, ite_self, spS, LQ_norm, LQ_exit, LQ_ret, evO, evR, cellsT, ldCells, mkT, lenA, binPV, Env.init, resVs, resV, resT, Nat.reduceEqDiff, Nat.reduceAdd, Nat.reduceLeDiff, reduceCtorEq, frTs, frT, klTs, klT, frL, ownT, intT, O.adds, ownA, evO.bslRows, rowsA, over, fillA, Nat.reduceMul, klL]
  rw [bool_t h1] at a1
  by_cases h2 : n.Good
  case neg =>
    rw [bool_f h2] at a2
    simp only [Bool.false_eq_true, if_false, encT] at a1 a2
    simp only [F9, f0, a1, a2, Int.reduceEq, false_iff, true_iff, RB_t, RB_f, RB_b, List.getElem?_cons_zero, List.getElem?_cons_succ, List.set_cons_succ, frV, klV, Nat.reduceLT, Nat.reduceSub, eqCells, encT, encN, encP, encA, allP, allA, allN, spN, Nat.reduceBEq, Int.toNat_natCast, evI_wr, wrOk, keysT, keysA, ne_eq, not_false_eq_true, fxa, fxc, if_true, if_false, ite_self, spS, LQ_norm, LQ_exit, LQ_ret, evO, evR, cellsT, ldCells, mkT, lenA, binPV, Env.init, resVs, resV, resT, Nat.reduceEqDiff, Nat.reduceAdd, Nat.reduceLeDiff, reduceCtorEq, frTs, frT, klTs, klT, frL, ownT, intT, O.adds, ownA, evO.bslRows, rowsA, over, fillA, Nat.reduceMul, klL]
  rw [bool_t h2] at a2
  simp only [if_true] at a2
  by_cases h3 : t < 1
  · simp only [encT] at a1 a2
    simp only [F9, f0, a1, a2, h3, false_iff, true_iff, RB_t, RB_f, RB_b, List.getElem?_cons_zero, List.getElem?_cons_succ, List.set_cons_succ, frV, klV, Nat.reduceLT, Nat.reduceSub, eqCells, encT, encN, encP, encA, allP, allA, allN, spN, Nat.reduceBEq, Int.toNat_natCast, evI_wr, wrOk, keysT, keysA, ne_eq, not_false_eq_true, fxa, fxc, if_true, if_false, ite_self, spS, LQ_norm, LQ_exit, LQ_ret, evO, evR, cellsT, ldCells, mkT, lenA, binPV, Env.init, resVs, resV, resT, Nat.reduceEqDiff, Nat.reduceAdd, Nat.reduceLeDiff, reduceCtorEq, frTs, frT, klTs, klT, frL, ownT, intT, O.adds, ownA, evO.bslRows, rowsA, over, fillA, Nat.reduceMul, klL]
  have hb := good_big h2
  have hf := sFree_ok hn (by omega) t
  have c6 := Same_ok hn (b := n)
  rw [bool_t rfl] at c6
  by_cases h4 : t < (n.ns.length : Int)
  case neg =>
    have e : freeR n t = (n, 122) := by unfold freeR; rw [if_neg (by omega)]
    rw [e] at hf
    simp only [encTE, encT] at a1 a2 hf c6
    simp only [F9, f0, a1, a2, h3, h4, hf, c6, Int.reduceEq, false_iff, true_iff, RB_t, RB_f, RB_b, List.getElem?_cons_zero, List.getElem?_cons_succ, List.set_cons_succ, frV, klV, Nat.reduceLT, Nat.reduceSub, eqCells, encT, encN, encP, encA, allP, allA, allN, spN, Nat.reduceBEq, Int.toNat_natCast, evI_wr, wrOk, keysT, keysA, ne_eq, not_false_eq_true, fxa, fxc, if_true, if_false, ite_self, spS, LQ_norm, LQ_exit, LQ_ret, evO, evR, cellsT, ldCells, mkT, lenA, binPV, Env.init, resVs, resV, resT, Nat.reduceEqDiff, Nat.reduceAdd, Nat.reduceLeDiff, reduceCtorEq, frTs, frT, klTs, klT, frL, ownT, intT, O.adds, ownA, evO.bslRows, rowsA, over, fillA, Nat.reduceMul, klL]
  obtain ⟨i, rfl⟩ : ∃ i : Nat, t = i := ⟨t.toNat, by omega⟩
  obtain ⟨y, hy⟩ : ∃ y, n.ns[i]? = some y := ⟨_, List.getElem?_eq_getElem (by omega)⟩
  have hy' := mapGet encN hy
  have hge : (0 : Int) ≤ (i : Int) := by omega
  have hnd : n.nd i = y := by unfold Nt.nd; rw [Int.toNat_natCast]; exact getD_of hy
  by_cases h5 : y.k = 0
  · have e : freeR n i = (n, 122) := by unfold freeR; rw [hnd, if_neg (fun h => h.2.2 h5)]
    rw [e] at hf
    simp only [encTE, encT] at a1 a2 hf c6
    simp only [encN, h5] at hy'
    simp only [F9, f0, a1, a2, h3, h4, hge, hf, c6, hy', Int.reduceEq, false_iff, true_iff, RB_t, RB_f, RB_b, List.getElem?_cons_zero, List.getElem?_cons_succ, List.set_cons_succ, frV, klV, Nat.reduceLT, Nat.reduceSub, eqCells, encT, encN, encP, encA, allP, allA, allN, spN, Nat.reduceBEq, Int.toNat_natCast, evI_wr, wrOk, keysT, keysA, ne_eq, not_false_eq_true, fxa, fxc, if_true, if_false, ite_self, spS, LQ_norm, LQ_exit, LQ_ret, evO, evR, cellsT, ldCells, mkT, lenA, binPV, Env.init, resVs, resV, resT, Nat.reduceEqDiff, Nat.reduceAdd, Nat.reduceLeDiff, reduceCtorEq, frTs, frT, klTs, klT, frL, ownT, intT, O.adds, ownA, evO.bslRows, rowsA, over, fillA, Nat.reduceMul, klL]
  have e : freeR n i = (n.free i, 0) := by unfold freeR; rw [hnd, if_pos ⟨by omega, by omega, h5⟩]
  rw [e] at hf
  obtain ⟨a, ha⟩ : ∃ a, n.free i = a := ⟨_, rfl⟩
  have haO := free_Ok hn (i : Int)
  have hau := free_used hy h5
  have hal := free_len n (i : Int)
  have hat := free_at n i (by omega)
  have hath := @free_there n i
  rw [ha] at hf haO hau hal hat hath
  have hcap : a.cap = n.cap := by rw [← ha]; rfl
  have c1 := sFree_ok haO (by omega) (i : Int)
  have e2 : freeR a i = (a, 122) := by
    unfold freeR
    rw [if_neg]
    rintro ⟨g1, g2, g3⟩
    obtain ⟨z, hz⟩ : ∃ z, a.ns[i]? = some z := ⟨_, List.getElem?_eq_getElem (by omega)⟩
    apply g3
    unfold Nt.nd; rw [Int.toNat_natCast, getD_of hz]; exact hath hz
  rw [e2] at c1
  have hG := h2.nds i y hy
  have hyO := hn.nd y (List.mem_of_getElem? hy)
  have c2 := sMake_ok haO (by omega) hyO
  have hgu := good_used h2
  have e3 : makeR a y = (a.make y, (a.at : Int), 0) := by
    unfold makeR
    rw [bool_t hG.1, if_neg (by simp; exact ⟨h5, fun h => by have := hG.2.2.1.2 h; omega⟩), if_neg (by omega)]
  rw [e3] at c2
  have hbu := make_used (n := a) (x := y) h5
  have hbO := make_Ok haO hyO (by omega)
  obtain ⟨b, hbd⟩ : ∃ b, a.make y = b := ⟨_, rfl⟩
  rw [hbd] at c2 hbu hbO
  have c3 := sUsed_ok haO
  have c4 := sUsed_ok hn
  have c5 := sUsed_ok hbO
  have hule := usedL_le n.ns
  have hw : IntKind.i64.wrap (n.used - 1) = n.used - 1 := by
    have h0 : 0 ≤ n.used ∧ n.used ≤ n.ns.length := hule
    exact wrap_in _ (by omega)
  rw [hau] at c3
  rw [hbu, hau, show n.used - 1 + 1 = n.used by omega] at c5
  have q1 : (a.at : Int) ≤ (i : Int) := by omega
  have q2 : (a.ns.length : Int) ≤ (n.ns.length : Int) := by omega
  obtain ⟨at0, hat0⟩ : ∃ z : Int, (a.at : Int) = z := ⟨_, rfl⟩
  rw [hat0] at c2 q1
  simp only [encTIE, encTE, encT, encN] at a1 a2 hf c1 c2 c3 c4 c5 c6
  simp only [encN] at hy'
  simp only [F9, f0, a1, a2, h3, h4, h5, hge, hf, c1, c2, c3, c4, c5, c6, hy', hw, q1, q2, Int.reduceEq, false_iff, true_iff, RB_t, RB_f, RB_b, List.getElem?_cons_zero, List.getElem?_cons_succ, List.set_cons_succ, frV, klV, Nat.reduceLT, Nat.reduceSub, eqCells, encT, encN, encP, encA, allP, allA, allN, spN, Nat.reduceBEq, Int.toNat_natCast, evI_wr, wrOk, keysT, keysA, ne_eq, not_false_eq_true, fxa, fxc, if_true, if_false, ite_self, spS, LQ_norm, LQ_exit, LQ_ret, evO, evR, cellsT, ldCells, mkT, lenA, binPV, Env.init, resVs, resV, resT, Nat.reduceEqDiff, Nat.reduceAdd, Nat.reduceLeDiff, reduceCtorEq, frTs, frT, klTs, klT, frL, ownT, intT, O.adds, ownA, evO.bslRows, rowsA, over, fillA, Nat.reduceMul, klL]
end Go.Proofs.Ytgdaanehmdgmeaa
