/- The law WireTells, as the evaluator has it. -/
import Derived.Test.YtgdaanehmdgmeaaRef1
import Derived.Test.YtgdaanehmdgmeaaOthers
set_option linter.unusedSimpArgs false
set_option linter.unusedVariables false
set_option maxHeartbeats 4000000
set_option maxRecDepth 10000
namespace Go.Proofs.Ytgdaanehmdgmeaa
open Go.Fx

theorem same_of {n : Nt} (hn : n.Ok) : eP S 23 [.g (encT n), .g (encT n)] = some (.a (.b true)) := by
  have := Same_ok hn (b := n)
  rw [bool_t rfl] at this; exact this
theorem linkR_Ok {n : Nt} {p q : Pt} (hn : n.Ok) (hp : wf p.n ∧ wf p.s) (hq : wf q.n ∧ wf q.s) : (linkR n p q).1.Ok := by
  unfold linkR
  split
  · rename_i h
    simp only [Bool.and_eq_true] at h
    exact Ok_set (Ok_set hn h.1.1 hq) (by rw [has_set q q h.1.1]; exact h.1.2) hp
  · exact hn
theorem moveR_Ok {n : Nt} {p q : Pt} (hn : n.Ok) (hp : wf p.n ∧ wf p.s) (hq : wf q.n ∧ wf q.s) : (moveR n p q).1.Ok := by
  unfold moveR
  split
  · rename_i h
    simp only [Bool.and_eq_true] at h
    split
    · exact hn
    · exact linkR_Ok hn hq (lk_wf hn h.1.1.1)
  · exact hn
theorem joinR_Ok {n : Nt} {p q : Pt} (hn : n.Ok) (hp : wf p.n ∧ wf p.s) (hq : wf q.n ∧ wf q.s) : (joinR n p q).1.Ok := by
  unfold joinR
  split
  · rename_i h
    simp only [Bool.and_eq_true] at h
    split
    · exact hn
    · exact linkR_Ok hn (lk_wf hn h.1.1.1.1) (lk_wf hn h.1.1.1.2)
  · exact hn

theorem wireTells_law {n : Nt} {x y : Pt} (hn : n.Ok) (hx : wf x.n ∧ wf x.s) (hy : wf y.n ∧ wf y.s) : eP S 3 [.g (encT n), .g (encP x ++ encP y)] = some (.a (.b true)) := by
  have f0 := fixed13_ok
  have a1 := Small_ok hn 150
  refine x_fn (orcS (by decide)) (fc := F3) rfl rfl ?_
  by_cases h1 : n.small 150
  case neg =>
    rw [bool_f h1] at a1
    simp only [encT, encP] at a1
    simp only [F3, f0, a1, false_iff, true_iff, RB_t, RB_f, RB_b, List.getElem?_cons_zero, List.getElem?_cons_succ, List.set_cons_succ, frV, klV, Nat.reduceLT, Nat.reduceSub, eqCells, encT, encN, encP, encA, allP, allA, allN, spN, Nat.reduceBEq, Int.toNat_natCast, evI_wr, wrOk, keysT, keysA, ne_eq, not_false_eq_true, fxa, fxc, if_true, if_false, ite_self, spS, LQ_norm, LQ_exit, LQ_ret, evO, evR, cellsT, ldCells, mkT, lenA, binPV, Env.init, resVs, resV, resT, Nat.reduceEqDiff, Nat.reduceAdd, Nat.reduceLeDiff, reduceCtorEq, frTs, frT, klTs, klT, frL, ownT, intT, O.adds, ownA, evO.bslRows, rowsA, over, fillA, Nat.reduceMul, klL]
  rw [bool_t h1] at a1
  have b1 := Peer_ok n x
  have b2 := RPeer_ok n x
  have b3 := Link_ok hn hx hy
  have b4 := RLink_ok hn hx hy
  have b5 := Move_ok hn hx hy
  have b6 := RMove_ok hn hx hy
  have b7 := Join_ok hn hx hy
  have b8 := RJoin_ok hn hx hy
  have c1 := same_of (linkR_Ok hn hx hy)
  have c2 := same_of (moveR_Ok hn hx hy)
  have c3 := same_of (joinR_Ok hn hx hy)
  obtain ⟨v, hv⟩ : ∃ v, (if n.has x then n.lk x else zP) = v := ⟨_, rfl⟩
  obtain ⟨ve, hve⟩ : ∃ v : Int, (if n.has x then 0 else 130) = v := ⟨_, rfl⟩
  obtain ⟨⟨⟨l, lc⟩, le⟩, hl⟩ : ∃ z, linkR n x y = z := ⟨_, rfl⟩
  obtain ⟨⟨⟨m, mc⟩, me⟩, hm⟩ : ∃ z, moveR n x y = z := ⟨_, rfl⟩
  obtain ⟨⟨⟨j, jc⟩, je⟩, hj⟩ : ∃ z, joinR n x y = z := ⟨_, rfl⟩
  rw [hv, hve] at b1 b2
  rw [hl] at b3 b4 c1
  rw [hm] at b5 b6 c2
  rw [hj] at b7 b8 c3
  have hvd : (decide (v.n = v.n) && decide (v.s = v.s)) = true := by simp
  simp only [encTE, encT, encP] at a1 b1 b2 b3 b4 b5 b6 b7 b8 c1 c2 c3
  simp only [F3, f0, a1, b1, b2, b3, b4, b5, b6, b7, b8, c1, c2, c3, false_iff, true_iff, RB_t, RB_f, RB_b, List.getElem?_cons_zero, List.getElem?_cons_succ, List.set_cons_succ, frV, klV, Nat.reduceLT, Nat.reduceSub, eqCells, encT, encN, encP, encA, allP, allA, allN, spN, Nat.reduceBEq, Int.toNat_natCast, evI_wr, wrOk, keysT, keysA, ne_eq, not_false_eq_true, fxa, fxc, if_true, if_false, ite_self, spS, LQ_norm, LQ_exit, LQ_ret, evO, evR, cellsT, ldCells, mkT, lenA, binPV, Env.init, resVs, resV, resT, Nat.reduceEqDiff, Nat.reduceAdd, Nat.reduceLeDiff, reduceCtorEq, frTs, frT, klTs, klT, frL, ownT, intT, O.adds, ownA, evO.bslRows, rowsA, over, fillA, Nat.reduceMul, klL]
end Go.Proofs.Ytgdaanehmdgmeaa
