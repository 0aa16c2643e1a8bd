/- The laws ActKeeps and ActTurns, as the evaluator has them. -/
import Derived.Test.YtomcceambpneiaaActU
import Derived.Test.YtomcceambpneiaaRuleN
import Derived.Test.YtomcceambpneiaaRuleQ
set_option linter.unusedSimpArgs false
set_option linter.unusedVariables false
set_option maxHeartbeats 4000000
set_option maxRecDepth 10000
namespace Go.Proofs.Ytomcceambpneiaa
open Go.Fx
theorem fixed15_ok : eP S 23 [] = some (.a (.b true)) := (eP_some S).2 ⟨80, by kernel_rfl⟩

theorem p0_Ok : p0.nd.Ok := zN_ok
theorem of_err {a b : Nd} (ha : a.may) (hb : b.may) : (ofR a b).2 = 0 ∨ (ofR a b).2 = 140 ∨ (ofR a b).2 = 141 := by
  rcases of_src a b with h | ⟨r, h, e⟩
  · exact (src_kind ha hb h).1
  · have := (src_kind hb ha h).1
    rw [e]; unfold swapR
    split
    · exact .inl rfl
    · exact this

theorem actKeeps_law {n : Nt} {i : Int} (hn : n.Ok) : eP S 8 [.g (encT n), .a (.i .i64 i)] = some (.a (.b true)) := by
  have f0 := fixed15_ok
  have a1 := Small_ok hn 150
  have a2 := RCheck_ok hn
  have a3 := Do_ok (i := i) hn
  have a4 := RMeets_ok n i
  have a5 := RUsed_ok hn
  refine x_fn (orcS (by decide)) (fc := F8) rfl rfl ?_
  by_cases h1 : n.small 150
  case neg =>
    rw [bool_f h1] at a1
    simp only [encT] at a1
    simp only [F8, f0, a1, encT, fxa, fxc, fxE, fxL, fxI, nxE, evO, evR, cellsT, ldCells, mkT, lenA, binPV, Env.init, resV, resT, frT, klT, ownT, intT, O.adds, ownA, rowsA, over, wrOk, keysT, keysA, ne_eq, if_true, if_false, ite_self, Nat.reduceLT, Nat.reduceSub, Nat.reduceBEq, Nat.reduceEqDiff, Nat.reduceAdd, Nat.reduceLeDiff, reduceCtorEq, Nat.reduceMul]
  rw [bool_t h1] at a1
  by_cases h2 : n.Good
  case neg =>
    rw [bool_f h2] at a2
    simp only [Bool.false_eq_true, if_false, encT] at a1 a2
    simp only [F8, f0, a1, a2, Int.reduceEq, encT, fxa, fxc, fxE, fxL, fxI, nxE, evO, evR, cellsT, ldCells, mkT, lenA, binPV, Env.init, resV, resT, frT, klT, ownT, intT, O.adds, ownA, rowsA, over, wrOk, keysT, keysA, ne_eq, if_true, if_false, ite_self, Nat.reduceLT, Nat.reduceSub, Nat.reduceBEq, Nat.reduceEqDiff, Nat.reduceAdd, Nat.reduceLeDiff, reduceCtorEq, Nat.reduceMul]
  rw [bool_t h2] at a2
  have c1 := Same_ok (b := n) hn
  rw [bool_t rfl] at c1
  have c2 := PSame_ok (q := p0) p0_Ok
  rw [bool_t rfl] at c2
  simp only [if_true, encT] at a1 a2 c1 a4 a5
  simp only [encL, encN, p0, zN, List.map_nil] at c2
  have D := do_case hn i
  obtain ⟨r, hr⟩ : ∃ r, doR n i = r := ⟨_, rfl⟩
  rw [hr] at a3 D
  cases D with
  | bad h => exact absurd h2 h
  | none h hm =>
    simp only [encD, encT, encL, encN, p0, zN, List.map_nil] at a3
    simp only [F8, f0, a1, a2, a3, c1, c2, Int.reduceEq, encT, fxa, fxc, fxE, fxL, fxI, nxE, evO, evR, cellsT, ldCells, mkT, lenA, binPV, Env.init, resV, resT, frT, klT, ownT, intT, O.adds, ownA, rowsA, over, wrOk, keysT, keysA, ne_eq, if_true, if_false, ite_self, Nat.reduceLT, Nat.reduceSub, Nat.reduceBEq, Nat.reduceEqDiff, Nat.reduceAdd, Nat.reduceLeDiff, reduceCtorEq, Nat.reduceMul]
  | pair h e hm he h0 =>
    have h120 : ¬ e = 120 := by rw [he] at h0 ⊢; have := of_err hm.ma hm.mb; omega
    simp only [encD, encT, encL, encN, p0, zN, List.map_nil] at a3
    simp only [F8, f0, a1, a2, a3, c1, c2, h0, h120, Int.reduceEq, encT, fxa, fxc, fxE, fxL, fxI, nxE, evO, evR, cellsT, ldCells, mkT, lenA, binPV, Env.init, resV, resT, frT, klT, ownT, intT, O.adds, ownA, rowsA, over, wrOk, keysT, keysA, ne_eq, if_true, if_false, ite_self, Nat.reduceLT, Nat.reduceSub, Nat.reduceBEq, Nat.reduceEqDiff, Nat.reduceAdd, Nat.reduceLeDiff, reduceCtorEq, Nat.reduceMul]
  | full h p hm hp hu =>
    simp only [encD, encT, encL, encN, p0, zN, List.map_nil] at a3
    simp only [F8, f0, a1, a2, a3, c1, c2, Int.reduceEq, encT, fxa, fxc, fxE, fxL, fxI, nxE, evO, evR, cellsT, ldCells, mkT, lenA, binPV, Env.init, resV, resT, frT, klT, ownT, intT, O.adds, ownA, rowsA, over, wrOk, keysT, keysA, ne_eq, if_true, if_false, ite_self, Nat.reduceLT, Nat.reduceSub, Nat.reduceBEq, Nat.reduceEqDiff, Nat.reduceAdd, Nat.reduceLeDiff, reduceCtorEq, Nat.reduceMul]
  | done h p m hd =>
    have hM := hd.meet
    have hs := hd.st
    have a6 := RCheck_ok hs.ok
    rw [bool_t hs.good] at a6
    have a7 := RUsed_ok hs.ok
    have a8 := RNeed_ok (p := p) hM.ka hM.kb
    have ga := getN (l := n.ns) hM.a0 hM.a1
    have gb := getN (l := n.ns) hM.b0 hM.b1
    have a0 := hM.a0
    have a1' := hM.a1
    have b0 := hM.b0
    have b1 := hM.b1
    have hroom := hd.room
    obtain ⟨k, hk⟩ : ∃ k, meetR n i = k := ⟨_, rfl⟩
    rw [hk] at a4 a8 gb b0 b1 hs hroom hM
    have hna : n.ns.getD i.toNat zN = n.nd i := rfl
    have hnb : n.ns.getD k.toNat zN = n.nd k := rfl
    rw [hna] at ga
    rw [hnb] at gb
    obtain ⟨nd, hnd⟩ : ∃ z, needR p (n.nd i) (n.nd k) = z := ⟨_, rfl⟩
    rw [hnd] at a8 hs hroom
    have e1 := hs.used
    have e2 := hs.cap
    have u1 := good_used h2
    have u2 := good_used hs.good
    have u3 : 0 ≤ n.used := (usedL_le n.ns).1
    have u4 : 0 ≤ m.used := (usedL_le m.ns).1
    have u5 := h2.cap2
    have w1 : IntKind.i64.wrap (n.used - 2) = n.used - 2 := wrap_in _ (by omega)
    have w2 : IntKind.i64.wrap (n.used - 2 + nd) = n.used - 2 + nd := wrap_in _ (by omega)
    have w3 : IntKind.i64.wrap (n.used + nd) = n.used + nd := wrap_in _ (by omega)
    simp only [if_true, encT] at a6 a7
    simp only [encD, encT, encL, encN] at a3
    simp only [encL, encN] at a8
    simp only [encN] at ga gb
    rw [e2] at a6 a7 a3
    rw [e1] at a7
    simp only [F8, f0, a1, a2, a3, a4, a5, a6, a7, a8, ga, gb, a0, a1', b0, b1, w1, w2, w3, hroom, allN, Int.reduceEq, encT, List.length_map, fxa, fxc, fxE, fxL, fxI, nxE, evO, evR, cellsT, ldCells, mkT, lenA, binPV, Env.init, resV, resT, frT, klT, ownT, intT, O.adds, ownA, rowsA, over, wrOk, keysT, keysA, ne_eq, if_true, if_false, ite_self, Nat.reduceLT, Nat.reduceSub, Nat.reduceBEq, Nat.reduceEqDiff, Nat.reduceAdd, Nat.reduceLeDiff, reduceCtorEq, Nat.reduceMul]

theorem same_plan {a b : Nd} (h : (ofR a b).1.k = 6 ∨ a.k = 7) (h0 : (ofR a b).2 = 0) : (ofR a b).1.lv = 0 ∧ (ofR a b).1.alt = 0 ∧ ((ofR a b).1.k = 6 ∨ (ofR a b).1.k = 8) := by
  have c4 := cls_4 a.k
  by_cases h7 : a.k = 7
  · have h4 := c4.2 h7
    unfold ofR at h0 ⊢
    split
    · rename_i hc
      rw [if_pos hc] at h0
      have h0 : (140 : Int) = 0 := h0; omega
    · exact ⟨rfl, rfl, .inr rfl⟩
  · have h6 := h.resolve_right h7
    unfold ofR at h6 h0 ⊢
    have np : ∀ {r : Pl × Int}, Pln r → (swapR r).1.k ≠ 6 := fun {r} hr => by
      unfold swapR; split
      · exact hr.k6
      · exact hr.k6
    split
    · rename_i hc; rw [if_pos hc] at h0; have h0 : (140 : Int) = 0 := h0; omega
    rename_i g1; rw [if_neg g1] at h6 h0
    split
    · rename_i hc; exact absurd (c4.1 hc) h7
    rename_i g2; rw [if_neg g2] at h6 h0
    split
    · rename_i hc; rw [if_pos hc] at h6; have h6 : (8 : Int) = 6 := h6; omega
    rename_i g3; rw [if_neg g3] at h6 h0
    split
    · exact ⟨rfl, rfl, .inl rfl⟩
    rename_i g4; rw [if_neg g4] at h6 h0
    split
    · rename_i hc; rw [if_pos hc] at h6; exact absurd h6 (pass_pln a b).k6
    rename_i g5; rw [if_neg g5] at h6 h0
    split
    · rename_i hc; rw [if_pos hc] at h6; exact absurd h6 (np (pass_pln b a))
    rename_i g6; rw [if_neg g6] at h6 h0
    split
    · rename_i hc; rw [if_pos hc] at h6; exact absurd h6 (ask_pln a b).k6
    rename_i g7; rw [if_neg g7] at h6 h0
    split
    · rename_i hc; rw [if_pos hc] at h6; exact absurd h6 (np (ask_pln b a))
    rename_i g8; rw [if_neg g8] at h0
    have h0 : (140 : Int) = 0 := h0; omega

theorem stepR_congr {n : Nt} {p q : Pl} (h1 : p.k = q.k) (h2 : p.lv = q.lv) (h3 : p.alt = q.alt) (h4 : p.nd = q.nd) (a b : Int) : stepR n p a b = stepR n q a b := by
  unfold stepR doneR
  rw [h1, h2, h3, h4]

theorem Meet.meetR {n : Nt} {a b : Int} (h : Meet n a b) : meetR n a = b ∧ meetR n b = a := by
  constructor
  · unfold Go.Proofs.Ytomcceambpneiaa.meetR; rw [if_pos ⟨h.ha, by rw [h.la]⟩, h.la]
  · unfold Go.Proofs.Ytomcceambpneiaa.meetR; rw [if_pos ⟨h.hb, by rw [h.lb]⟩, h.lb]

/-- done at the one, or at the other one -/
structure Turned (n : Nt) (i k : Int) (r s : Nt × Pl × Int) : Prop where
  er : r.2.2 = s.2.2
  pk : r.2.1.k = s.2.1.k
  pv : r.2.1.lv = s.2.1.lv
  pa : r.2.1.alt = s.2.1.alt
  net : (n.nd i).k = (n.nd k).k ∨ r.1 = s.1

theorem need_turn {a b : Nd} (ta : (a.to.length : Int) = a.ports) (tb : (b.to.length : Int) = b.ports) (h : (ofR a b).2 = 0) : needR (ofR a b).1 a b = needR (ofR b a).1 b a := by
  have T := turn_law a b
  by_cases hs : (ofR a b).1.k = 6 ∨ a.k = 7 ∧ b.k = 7
  · obtain ⟨s1, s2, s3, s4⟩ := T.same h hs
    have n1 : needR (ofR a b).1 a b = needX (ofR a b).1 a b := by unfold needR; rw [s1]; rfl
    have n2 : needR (ofR b a).1 b a = needX (ofR b a).1 b a := by unfold needR; rw [s2]; rfl
    rw [n1, n2]
    obtain ⟨q1, q2, q3⟩ := same_plan (hs.imp id (·.1)) h
    rcases q3 with q3 | q3
    · unfold needX; rw [← s3, q3]; simp
    · have h7 : a.k = 7 ∧ b.k = 7 := hs.resolve_left (by omega)
      have la : a.to.length = 1 := len_of ta (by unfold Nd.ports; rw [h7.1]; rfl)
      have lb : b.to.length = 1 := len_of tb (by unfold Nd.ports; rw [h7.2]; rfl)
      have oa : oth a = 0 := by rw [oth_in (by omega), la]; rfl
      have ob : oth b = 0 := by rw [oth_in (by omega), lb]; rfl
      unfold needX; rw [← s3, q3]; simp [oa, ob]
  · exact (T.other h hs).2.2

theorem do_turned {n : Nt} {i k : Int} (hn : n.Ok) (hM : Meet n i k) : Turned n i k (doR n i) (doR n k) := by
  obtain ⟨m1, m2⟩ := hM.meetR
  have T := turn_law (n.nd i) (n.nd k)
  have D := do_case hn i
  have E := do_case hn k
  obtain ⟨r, hr⟩ : ∃ r, doR n i = r := ⟨_, rfl⟩
  obtain ⟨s, hs⟩ : ∃ s, doR n k = s := ⟨_, rfl⟩
  rw [hr] at D ⊢
  rw [hs] at E ⊢
  have hG := hM.good
  have a0 := hM.a0
  have b0 := hM.b0
  have hnt := need_turn hM.pa hM.pb
  cases D with
  | bad h => exact absurd hG h
  | none h hm => rw [m1] at hm; omega
  | pair h e hm he h0 =>
    rw [m1] at he
    have hT := T.e
    cases E with
    | bad h => exact absurd hG h
    | none h hm => rw [m2] at hm; omega
    | pair h f hm hf h1 => rw [m2] at hf; exact ⟨by show e = f; rw [he, hf]; exact hT, rfl, rfl, rfl, .inr rfl⟩
    | full h p hm hp hu => rw [m2] at hp; rw [hp] at hT; exact absurd (he.trans hT) h0
    | done h p m hd => have hp := hd.pl; rw [m2] at hp; rw [hp] at hT; exact absurd (he.trans hT) h0
  | full h p hm hp hu =>
    rw [m1] at hp hu
    have hT := T.e
    have hnt := hnt (by rw [hp])
    rw [hp] at hT hnt
    simp only at hT hnt
    cases E with
    | bad h => exact absurd hG h
    | none h hm => rw [m2] at hm; omega
    | pair h f hm hf h1 => rw [m2] at hf; exact absurd (hf.trans hT.symm) h1
    | full h q hm hq hu => exact ⟨rfl, rfl, rfl, rfl, .inr rfl⟩
    | done h q m hd =>
      have hq := hd.pl
      have hr := hd.room
      rw [m2] at hq hr
      rw [hq] at hnt
      simp only at hnt
      rw [hnt] at hu; exact absurd hr hu
  | done h p m hd =>
    have hp := hd.pl
    have hrm := hd.room
    have hnet := hd.net
    rw [m1] at hp hrm hnet
    have hnt := hnt (by rw [hp])
    have hT := T.e
    have hsame := T.same
    have hother := T.other
    have hsp := same_plan (a := n.nd i) (b := n.nd k)
    have hsq := same_plan (a := n.nd k) (b := n.nd i)
    rw [hp] at hT hnt hsame hother hsp
    simp only at hT hnt
    cases E with
    | bad h => exact absurd hG h
    | none h hm => rw [m2] at hm; omega
    | pair h f hm hf h1 => rw [m2] at hf; exact absurd (hf.trans hT.symm) h1
    | full h q hm hq hu =>
      rw [m2] at hq hu
      rw [hq] at hnt
      simp only at hnt
      rw [hnt] at hrm; exact absurd hrm hu
    | done h q m' hd' =>
      have hq := hd'.pl
      have hnet' := hd'.net
      rw [m2] at hq hnet'
      rw [hq] at hsame hother hsq
      simp only at hsame hother hsp hsq
      by_cases hS : p.k = 6 ∨ (n.nd i).k = 7 ∧ (n.nd k).k = 7
      · obtain ⟨s1, s2, s3, s4⟩ := hsame trivial hS
        obtain ⟨g1, g2, g3⟩ := hsp (hS.imp id (·.1)) trivial
        obtain ⟨j1, j2, j3⟩ := hsq (hS.imp (fun h => by rw [← s3]; exact h) (·.2)) trivial
        refine ⟨rfl, s3, g1.trans j1.symm, g2.trans j2.symm, .inl ?_⟩
        rcases hS with h6 | h7
        · exact (s4.resolve_left (fun h => h h6)).1
        · omega
      · obtain ⟨s1, s2, s3⟩ := hother trivial hS
        have e1 : p.k = q.k := by rw [s2]
        have e2 : p.lv = q.lv := by rw [s2]
        have e3 : p.alt = q.alt := by rw [s2]
        have e4 : p.nd = q.nd := by rw [s2]
        refine ⟨rfl, e1, e2, e3, .inr ?_⟩
        show m = m'
        rw [hnet, hnet', stepR_congr e1 e2 e3 e4]
        cases hp1 : p.sw <;> cases hq1 : q.sw
        · rw [hp1, hq1] at s1; exact absurd rfl s1
        · rfl
        · rfl
        · rw [hp1, hq1] at s1; exact absurd rfl s1

theorem actTurns_law {n : Nt} {i : Int} (hn : n.Ok) : eP S 9 [.g (encT n), .a (.i .i64 i)] = some (.a (.b true)) := by
  have f0 := fixed15_ok
  have a1 := Small_ok hn 150
  have a2 := RCheck_ok hn
  have a3 := Do_ok (i := i) hn
  have a4 := RMeets_ok n i
  refine x_fn (orcS (by decide)) (fc := F9) rfl rfl ?_
  by_cases h1 : n.small 150
  case neg =>
    rw [bool_f h1] at a1
    simp only [encT] at a1
    simp only [F9, f0, a1, encT, fxa, fxc, fxE, fxL, fxI, nxE, evO, evR, cellsT, ldCells, mkT, lenA, binPV, Env.init, resV, resT, frT, klT, ownT, intT, O.adds, ownA, rowsA, over, wrOk, keysT, keysA, ne_eq, if_true, if_false, ite_self, Nat.reduceLT, Nat.reduceSub, Nat.reduceBEq, Nat.reduceEqDiff, Nat.reduceAdd, Nat.reduceLeDiff, reduceCtorEq, Nat.reduceMul]
  rw [bool_t h1] at a1
  by_cases h2 : n.Good
  case neg =>
    rw [bool_f h2] at a2
    simp only [Bool.false_eq_true, if_false, encT] at a1 a2
    simp only [F9, f0, a1, a2, Int.reduceEq, encT, fxa, fxc, fxE, fxL, fxI, nxE, evO, evR, cellsT, ldCells, mkT, lenA, binPV, Env.init, resV, resT, frT, klT, ownT, intT, O.adds, ownA, rowsA, over, wrOk, keysT, keysA, ne_eq, if_true, if_false, ite_self, Nat.reduceLT, Nat.reduceSub, Nat.reduceBEq, Nat.reduceEqDiff, Nat.reduceAdd, Nat.reduceLeDiff, reduceCtorEq, Nat.reduceMul]
  rw [bool_t h2] at a2
  simp only [if_true, encT] at a1 a2 a4
  by_cases hm : meetR n i < 0
  · have D := do_case hn i
    have hd : doR n i = (n, p0, 122) := by unfold doR; rw [bool_t h2]; simp [hm]
    rw [hd] at a3
    simp only [encD, encT, encL, encN, p0, zN, List.map_nil] at a3
    simp only [F9, f0, a1, a2, a3, a4, hm, Int.reduceEq, encT, fxa, fxc, fxE, fxL, fxI, nxE, evO, evR, cellsT, ldCells, mkT, lenA, binPV, Env.init, resV, resT, frT, klT, ownT, intT, O.adds, ownA, rowsA, over, wrOk, keysT, keysA, ne_eq, if_true, if_false, ite_self, Nat.reduceLT, Nat.reduceSub, Nat.reduceBEq, Nat.reduceEqDiff, Nat.reduceAdd, Nat.reduceLeDiff, reduceCtorEq, Nat.reduceMul]
  have hM := meetR_meet hn h2 hm
  obtain ⟨k, hk⟩ : ∃ k, meetR n i = k := ⟨_, rfl⟩
  rw [hk] at a4 hm hM
  have a5 := Do_ok (i := k) hn
  have hT := do_turned hn hM
  have ga := getN (l := n.ns) hM.a0 hM.a1
  have gb := getN (l := n.ns) hM.b0 hM.b1
  have a0 := hM.a0
  have a1' := hM.a1
  have b0 := hM.b0
  have b1 := hM.b1
  have hna : n.ns.getD i.toNat zN = n.nd i := rfl
  have hnb : n.ns.getD k.toNat zN = n.nd k := rfl
  rw [hna] at ga
  rw [hnb] at gb
  have D := do_case hn i
  obtain ⟨⟨m, p, e⟩, hr⟩ : ∃ r, doR n i = r := ⟨_, rfl⟩
  obtain ⟨⟨m', q, f⟩, hs⟩ : ∃ r, doR n k = r := ⟨_, rfl⟩
  rw [hr] at a3 hT D
  rw [hs] at a5 hT
  obtain ⟨t1, t2, t3, t4, t5⟩ := hT
  simp only at t1 t2 t3 t4 t5
  have hmo : m.Ok := by
    generalize hrr : (m, p, e) = r at D
    cases D <;> cases hrr <;> first | exact hn | (rename_i hd; exact hd.st.ok)
  have a6 := Same_ok (b := m') hmo
  simp only [encD, encT, encL, encN] at a3 a5
  simp only [encT] at a6
  simp only [encN] at ga gb
  rw [← t1, ← t2, ← t3, ← t4] at a5
  by_cases hkk : (n.nd i).k = (n.nd k).k
  · rw [hkk] at ga
    simp only [F9, f0, a1, a2, a3, a4, a5, hm, ga, gb, a0, a1', b0, b1, allN, Int.reduceEq, encT, List.length_map, fxa, fxc, fxE, fxL, fxI, nxE, evO, evR, cellsT, ldCells, mkT, lenA, binPV, Env.init, resV, resT, frT, klT, ownT, intT, O.adds, ownA, rowsA, over, wrOk, keysT, keysA, ne_eq, if_true, if_false, ite_self, Nat.reduceLT, Nat.reduceSub, Nat.reduceBEq, Nat.reduceEqDiff, Nat.reduceAdd, Nat.reduceLeDiff, reduceCtorEq, Nat.reduceMul]
  · have hmm := t5.resolve_left hkk
    rw [bool_t hmm] at a6
    simp only [F9, f0, a1, a2, a3, a4, a5, a6, hm, hkk, ga, gb, a0, a1', b0, b1, allN, Int.reduceEq, encT, List.length_map, fxa, fxc, fxE, fxL, fxI, nxE, evO, evR, cellsT, ldCells, mkT, lenA, binPV, Env.init, resV, resT, frT, klT, ownT, intT, O.adds, ownA, rowsA, over, wrOk, keysT, keysA, ne_eq, if_true, if_false, ite_self, Nat.reduceLT, Nat.reduceSub, Nat.reduceBEq, Nat.reduceEqDiff, Nat.reduceAdd, Nat.reduceLeDiff, reduceCtorEq, Nat.reduceMul]
end Go.Proofs.Ytomcceambpneiaa
