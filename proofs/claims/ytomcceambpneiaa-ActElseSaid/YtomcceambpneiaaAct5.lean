/- The stage: what passes. -/
import Derived.Test.YtomcceambpneiaaAct3
set_option linter.unusedSimpArgs false
set_option linter.unusedVariables false
set_option maxHeartbeats 4000000
set_option maxRecDepth 10000
namespace Go.Proofs.Ytomcceambpneiaa
open Go.Fx

theorem SL.open1 {c0 : Nat} {ds : List Int} {lv : AV} {σ : St} (hL : SL c0 1 3 (ds.map encI) lv σ) : lv = .nil ∧ ds = [] ∨ ∃ r : Key, lv = .own r 0 ds.length ∧ σ.bs r = some (.row 1 3 (ds.map encI)) ∧ r.2 < σ.clk := by
  rcases hL with ⟨e1, e2⟩ | ⟨r, e1, e2, e3, e4⟩
  · exact .inl ⟨e1, List.map_eq_nil_iff.1 e2⟩
  · exact .inr ⟨r, by simpa using e1, e2, e4⟩
theorem drop_cons {α : Type} {l : List α} {i : Nat} {d : α} (h : l[i]? = some d) : l.drop i = d :: l.drop (i + 1) := by
  obtain ⟨h1, h2⟩ := List.getElem?_eq_some_iff.1 h
  rw [List.drop_eq_getElem_cons h1, h2]

/-- ports to copies -/
theorem passLoop0 {ks : Key} {n m0 : Nt} {pl : Pl} {a b : Int} {B : Nat} {cs : List Int} {lv : AV} {c0 : Nat} {σ : St} (hT : Two n a b B) (hm0 : m0.Ok) (h : SG ks m0 pl a b σ)
    (hL : SL c0 1 3 (cs.map encI) lv σ) (hd : ∀ d ∈ cs, wf d) (hlen : cs.length ≤ 500) (e : Env) (e0 : e 0 = .a (.ptr ks 0 0)) (e44 : e 44 = .a lv) (e45 : e 45 = .a (.p (.i .i64 (cs.length : Nat)))) (e46 : e 46 = .a (.p (.i .i64 0))) :
    wp S false (.loop F74b0) e σ (fun x e' σ' => x = .exit 0 ∧ e' 0 = e 0 ∧ e' 4 = e 4 ∧ e' 5 = e 5 ∧ SG ks (runs m0 (dropOps (portsR a 1 (cs.length + 1)) cs)) pl a b σ' ∧ Fr ks σ σ' ∧ (runs m0 (dropOps (portsR a 1 (cs.length + 1)) cs)).Ok) := by
  have hlv := hL.open1
  obtain ⟨u4, hu4⟩ : ∃ z, e 4 = z := ⟨_, rfl⟩
  obtain ⟨u5, hu5⟩ : ∃ z, e 5 = z := ⟨_, rfl⟩
  rw [e0, hu4, hu5]
  refine loop_nat cs.length (fun i e τ => e 4 = u4 ∧ e 5 = u5 ∧ e 0 = .a (.ptr ks 0 0) ∧ e 44 = .a lv ∧ e 45 = .a (.p (.i .i64 (cs.length : Nat))) ∧ e 46 = .a (.p (.i .i64 (i : Nat))) ∧
    ∃ m, m.Ok ∧ SG ks m pl a b τ ∧ Fr ks σ τ ∧ runs m (dropOps (portsR a (i + 1) (cs.length + 1)) (cs.drop i)) = runs m0 (dropOps (portsR a 1 (cs.length + 1)) cs)) (i0 := 0) (Nat.zero_le _) ⟨hu4, hu5, e0, e44, e45, e46, m0, hm0, h, Fr.refl ks σ, by rw [List.drop_zero]⟩ ?_ ?_
  · rintro i e τ hi ⟨e4, e5, e0, e44, e45, e46, m, hm, hS, hF, hR⟩
    obtain ⟨d, hdi⟩ : ∃ d, cs[i]? = some d := ⟨_, List.getElem?_eq_getElem hi⟩
    have hd' := mapGet encI hdi
    have wd := hd d (List.mem_of_getElem? hdi)
    have hlt : ((i : Nat) : Int) < (cs.length : Int) := by omega
    have hge : (0 : Int) ≤ ((i : Nat) : Int) := by omega
    have hw : IntKind.i64.wrap ((i : Int) + 1) = (i : Int) + 1 := wrap_in _ (by omega)
    obtain ⟨r, rfl, r2, r3⟩ : ∃ r : Key, lv = .own r 0 cs.length ∧ σ.bs r = some (.row 1 3 (cs.map encI)) ∧ r.2 < σ.clk := by
      rcases hlv with ⟨_, e⟩ | h
      · rw [e] at hi; simp at hi
      · exact h
    have nr : r ≠ ks := by rintro rfl; rw [h.bs] at r2; cases r2
    have tr := (hF.bs r r3 nr).trans r2
    have t1 := hS.bs
    simp only [stg, List.map_cons, List.map_nil] at t1
    obtain ⟨τ1, c1, hS1, hF1⟩ := aMove_ok (p := ⟨a, (i : Int) + 1⟩) (q := ⟨d, 0⟩) hm (hT.pa (by omega) (by omega)) ⟨wd, wf_0⟩ hS
    have hm1 := moveR_Ok (p := ⟨a, (i : Int) + 1⟩) (q := ⟨d, 0⟩) hm (hT.pa (by omega) (by omega)) ⟨wd, wf_0⟩
    have p1 := port_ok a ((i : Int) + 1)
    have p2 := port_ok d 0
    rw [drop_cons hdi, portsR_cons (by omega)] at hR
    simp only [encI] at hd'
    simp only [F74b0, e0, e4, e5, e44, e45, e46, hlt, hge, hw, tr, t1, hd', c1, p1, p2, frA_ptr, rowK, Int.toNat_natCast, Nat.zero_add, List.length_map, fxa, fxc, fxE, fxL, fxI, nxE, evO, evR, cellsT, ldCells, mkT, lenA, binPV, Env.init, resV, resT, frT, klT, ownT, intT, O.adds, ownA, rowsA, over, wrOk, keysT, keysA, ne_eq, if_true, if_false, ite_self, Nat.reduceLT, Nat.reduceSub, Nat.reduceBEq, Nat.reduceEqDiff, Nat.reduceAdd, Nat.reduceLeDiff, reduceCtorEq, Nat.reduceMul]
    exact ⟨rfl, _, hm1, hS1, hF.trans hF1, hR⟩
  · rintro e τ ⟨e4, e5, e0, e44, e45, e46, m, hm, hS, hF, hR⟩
    have hlt : ¬ ((cs.length : Nat) : Int) < (cs.length : Int) := by omega
    rw [List.drop_length, portsR_nil (Nat.le_refl _)] at hR
    have hR : m = runs m0 (dropOps (portsR a 1 (cs.length + 1)) cs) := hR
    simp only [F74b0, e0, e4, e5, e44, e45, e46, hlt, fxa, fxc, fxE, fxL, fxI, nxE, evO, evR, cellsT, ldCells, mkT, lenA, binPV, Env.init, resV, resT, frT, klT, ownT, intT, O.adds, ownA, rowsA, over, wrOk, keysT, keysA, ne_eq, if_true, if_false, ite_self, Nat.reduceLT, Nat.reduceSub, Nat.reduceBEq, Nat.reduceEqDiff, Nat.reduceAdd, Nat.reduceLeDiff, reduceCtorEq, Nat.reduceMul]
    exact ⟨by rw [← hR]; exact hS, hF, by rw [← hR]; exact hm⟩

/-- a control to each copy -/
theorem passLoop2 {ks : Key} {n m0 : Nt} {pl : Pl} {a b : Int} {cs : List Int} {lv : AV} {c0 k : Nat} {t : Int} {σ : St} (hk : k ≤ 500) (wt : wf t) (hm0 : m0.Ok) (h : SG ks m0 pl a b σ)
    (hL : SL c0 1 3 (cs.map encI) lv σ) (hd : ∀ d ∈ cs, wf d) (hlen : cs.length ≤ 500) (e : Env) (e0 : e 0 = .a (.ptr ks 0 0)) (e8 : e 8 = .a (.p (.i .i64 (k : Nat)))) (e9 : e 9 = .a (.p (.i .i64 t))) (e81 : e 81 = .a lv) (e82 : e 82 = .a (.p (.i .i64 (cs.length : Nat)))) (e83 : e 83 = .a (.p (.i .i64 0))) :
    wp S false (.loop F74b2) e σ (fun x e' σ' => x = .exit 4 ∧ e' 0 = e 0 ∧ e' 4 = e 4 ∧ e' 63 = e 63 ∧ e' 64 = e 64 ∧ e' 65 = e 65 ∧ SG ks (runs m0 (lnOps t k 0 cs)) pl a b σ' ∧ Fr ks σ σ' ∧ (runs m0 (lnOps t k 0 cs)).Ok) := by
  have hlv := hL.open1
  obtain ⟨u4, hu4⟩ : ∃ z, e 4 = z := ⟨_, rfl⟩
  obtain ⟨u63, hu63⟩ : ∃ z, e 63 = z := ⟨_, rfl⟩
  obtain ⟨u64, hu64⟩ : ∃ z, e 64 = z := ⟨_, rfl⟩
  obtain ⟨u65, hu65⟩ : ∃ z, e 65 = z := ⟨_, rfl⟩
  rw [e0, hu4, hu63, hu64, hu65]
  refine loop_nat cs.length (fun i e τ => e 4 = u4 ∧ e 63 = u63 ∧ e 64 = u64 ∧ e 65 = u65 ∧ e 0 = .a (.ptr ks 0 0) ∧ e 8 = .a (.p (.i .i64 (k : Nat))) ∧ e 9 = .a (.p (.i .i64 t)) ∧ e 81 = .a lv ∧ e 82 = .a (.p (.i .i64 (cs.length : Nat))) ∧ e 83 = .a (.p (.i .i64 (i : Nat))) ∧
    ∃ m, m.Ok ∧ SG ks m pl a b τ ∧ Fr ks σ τ ∧ runs m (lnOps t k i (cs.drop i)) = runs m0 (lnOps t k 0 cs)) (i0 := 0) (Nat.zero_le _) ⟨hu4, hu63, hu64, hu65, e0, e8, e9, e81, e82, e83, m0, hm0, h, Fr.refl ks σ, by rw [List.drop_zero]⟩ ?_ ?_
  · rintro i e τ hi ⟨e4, e63, e64, e65, e0, e8, e9, e81, e82, e83, m, hm, hS, hF, hR⟩
    obtain ⟨d, hdi⟩ : ∃ d, cs[i]? = some d := ⟨_, List.getElem?_eq_getElem hi⟩
    have hd' := mapGet encI hdi
    have wd := hd d (List.mem_of_getElem? hdi)
    have hlt : ((i : Nat) : Int) < (cs.length : Int) := by omega
    have hge : (0 : Int) ≤ ((i : Nat) : Int) := by omega
    have hw : IntKind.i64.wrap ((i : Int) + 1) = (i : Int) + 1 := wrap_in _ (by omega)
    have hw2 : IntKind.i64.wrap ((k : Int) + 1) = (k : Int) + 1 := wrap_in _ (by omega)
    obtain ⟨r, rfl, r2, r3⟩ : ∃ r : Key, lv = .own r 0 cs.length ∧ σ.bs r = some (.row 1 3 (cs.map encI)) ∧ r.2 < σ.clk := by
      rcases hlv with ⟨_, e⟩ | h
      · rw [e] at hi; simp at hi
      · exact h
    have nr : r ≠ ks := by rintro rfl; rw [h.bs] at r2; cases r2
    have tr := (hF.bs r r3 nr).trans r2
    obtain ⟨τ1, c1, hS1, hF1⟩ := aLink_ok (p := ⟨t, (i : Int) + 1⟩) (q := ⟨d, (k : Int) + 1⟩) hm ⟨wt, wf_small (by simp only; omega) (by simp only; omega)⟩ ⟨wd, wf_small (by simp only; omega) (by simp only; omega)⟩ hS
    have hm1 := linkR_Ok (p := ⟨t, (i : Int) + 1⟩) (q := ⟨d, (k : Int) + 1⟩) hm ⟨wt, wf_small (by simp only; omega) (by simp only; omega)⟩ ⟨wd, wf_small (by simp only; omega) (by simp only; omega)⟩
    have p1 := port_ok t ((i : Int) + 1)
    have p2 := port_ok d ((k : Int) + 1)
    rw [drop_cons hdi] at hR
    simp only [encI] at hd'
    simp only [F74b2, e0, e4, e8, e9, e63, e64, e65, e81, e82, e83, hlt, hge, hw, hw2, tr, hd', c1, p1, p2, frA_ptr, rowK, Int.toNat_natCast, Nat.zero_add, List.length_map, fxa, fxc, fxE, fxL, fxI, nxE, evO, evR, cellsT, ldCells, mkT, lenA, binPV, Env.init, resV, resT, frT, klT, ownT, intT, O.adds, ownA, rowsA, over, wrOk, keysT, keysA, ne_eq, if_true, if_false, ite_self, Nat.reduceLT, Nat.reduceSub, Nat.reduceBEq, Nat.reduceEqDiff, Nat.reduceAdd, Nat.reduceLeDiff, reduceCtorEq, Nat.reduceMul]
    exact ⟨rfl, _, hm1, hS1, hF.trans hF1, hR⟩
  · rintro e τ ⟨e4, e63, e64, e65, e0, e8, e9, e81, e82, e83, m, hm, hS, hF, hR⟩
    have hlt : ¬ ((cs.length : Nat) : Int) < (cs.length : Int) := by omega
    rw [List.drop_length] at hR
    have hR : m = runs m0 (lnOps t k 0 cs) := hR
    simp only [F74b2, e0, e4, e8, e9, e63, e64, e65, e81, e82, e83, hlt, fxa, fxc, fxE, fxL, fxI, nxE, evO, evR, cellsT, ldCells, mkT, lenA, binPV, Env.init, resV, resT, frT, klT, ownT, intT, O.adds, ownA, rowsA, over, wrOk, keysT, keysA, ne_eq, if_true, if_false, ite_self, Nat.reduceLT, Nat.reduceSub, Nat.reduceBEq, Nat.reduceEqDiff, Nat.reduceAdd, Nat.reduceLeDiff, reduceCtorEq, Nat.reduceMul]
    exact ⟨by rw [← hR]; exact hS, hF, by rw [← hR]; exact hm⟩

/-- each control -/
theorem passLoop1 {ks : Key} {n m0 : Nt} {pl : Pl} {a b : Int} {B : Nat} {cs ds : List Int} {lc lv : AV} {c0 c1 : Nat} {σ : St} (hT : Two n a b B) (hm0 : m0.Ok) (h : SG ks m0 pl a b σ)
    (hC : SL c0 1 3 (cs.map encI) lc σ) (hL : SL c1 1 3 (ds.map encI) lv σ) (hc : ∀ d ∈ cs, wf d) (hd : ∀ d ∈ ds, wf d) (clen : cs.length ≤ 500) (hlen : ds.length ≤ 500) (e : Env) (e0 : e 0 = .a (.ptr ks 0 0)) (e4 : e 4 = .a lc) (e63 : e 63 = .a lv) (e64 : e 64 = .a (.p (.i .i64 (ds.length : Nat)))) (e65 : e 65 = .a (.p (.i .i64 0))) :
    wp S false (.loop F74b1) e σ (fun x e' σ' => x = .exit 2 ∧ SG ks (runs m0 (passOps b cs 0 ds)) pl a b σ' ∧ Fr ks σ σ') := by
  have hlv := hL.open1
  have llc : lenA false lc = some cs.length := by
    rcases hC.open1 with ⟨rfl, rfl⟩ | ⟨r, rfl, _, _⟩ <;> rfl
  refine loop_nat ds.length (fun i e τ => e 0 = .a (.ptr ks 0 0) ∧ e 4 = .a lc ∧ e 63 = .a lv ∧ e 64 = .a (.p (.i .i64 (ds.length : Nat))) ∧ e 65 = .a (.p (.i .i64 (i : Nat))) ∧
    ∃ m, m.Ok ∧ SG ks m pl a b τ ∧ Fr ks σ τ ∧ runs m (passOps b cs i (ds.drop i)) = runs m0 (passOps b cs 0 ds)) (i0 := 0) (Nat.zero_le _) ⟨e0, e4, e63, e64, e65, m0, hm0, h, Fr.refl ks σ, by rw [List.drop_zero]⟩ ?_ ?_
  · rintro i e τ hi ⟨e0, e4, e63, e64, e65, m, hm, hS, hF, hR⟩
    obtain ⟨d, hdi⟩ : ∃ d, ds[i]? = some d := ⟨_, List.getElem?_eq_getElem hi⟩
    have hd' := mapGet encI hdi
    have wd := hd d (List.mem_of_getElem? hdi)
    have hlt : ((i : Nat) : Int) < (ds.length : Int) := by omega
    have hge : (0 : Int) ≤ ((i : Nat) : Int) := by omega
    have hw : IntKind.i64.wrap ((i : Int) + 1) = (i : Int) + 1 := wrap_in _ (by omega)
    obtain ⟨r, rfl, r2, r3⟩ : ∃ r : Key, lv = .own r 0 ds.length ∧ σ.bs r = some (.row 1 3 (ds.map encI)) ∧ r.2 < σ.clk := by
      rcases hlv with ⟨_, e⟩ | h
      · rw [e] at hi; simp at hi
      · exact h
    have nr : r ≠ ks := by rintro rfl; rw [h.bs] at r2; cases r2
    have tr := (hF.bs r r3 nr).trans r2
    have t1 := hS.bs
    simp only [stg, List.map_cons, List.map_nil] at t1
    obtain ⟨τ1, c1, hS1, hF1⟩ := aMove_ok (p := ⟨b, (i : Int) + 1⟩) (q := ⟨d, 0⟩) hm (hT.pb (by omega) (by omega)) ⟨wd, wf_0⟩ hS
    have hm1 := moveR_Ok (p := ⟨b, (i : Int) + 1⟩) (q := ⟨d, 0⟩) hm (hT.pb (by omega) (by omega)) ⟨wd, wf_0⟩
    have hC1 := (hC.fr h hF).fr hS hF1
    have p1 := port_ok b ((i : Int) + 1)
    have p2 := port_ok d 0
    rw [drop_cons hdi] at hR
    simp only [passOps, runs_cons', runs_app] at hR
    simp only [encI] at hd'
    rcases hC1.open1 with ⟨rfl, hcs⟩ | ⟨rc, rfl, _, _⟩
    all_goals
      simp only [F74b1, e0, e4, e63, e64, e65, hlt, hge, hw, tr, t1, hd', c1, p1, p2, frA_ptr, rowK, Int.toNat_natCast, Nat.zero_add, List.length_map, fxa, fxc, fxE, fxL, fxI, nxE, evO, evR, cellsT, ldCells, mkT, lenA, binPV, Env.init, resV, resT, frT, klT, ownT, intT, O.adds, ownA, rowsA, over, wrOk, keysT, keysA, ne_eq, if_true, if_false, ite_self, Nat.reduceLT, Nat.reduceSub, Nat.reduceBEq, Nat.reduceEqDiff, Nat.reduceAdd, Nat.reduceLeDiff, reduceCtorEq, Nat.reduceMul]
      refine Go.Fx.wp_mono (passLoop2 (n := n) (k := i) (t := d) (by omega) wd hm1 hS1 hC1 hc clen _ ?_ ?_ ?_ ?_ ?_ ?_) ?_
      all_goals first
        | (simp only [e0, fxa, fxc, fxE, fxL, fxI, nxE, evO, evR, cellsT, ldCells, mkT, lenA, binPV, Env.init, resV, resT, frT, klT, ownT, intT, O.adds, ownA, rowsA, over, wrOk, keysT, keysA, ne_eq, if_true, if_false, ite_self, Nat.reduceLT, Nat.reduceSub, Nat.reduceBEq, Nat.reduceEqDiff, Nat.reduceAdd, Nat.reduceLeDiff, reduceCtorEq, Nat.reduceMul]; done)
        | (simp only [hcs, List.length_nil, fxa, fxc, fxE, fxL, fxI, nxE, evO, evR, cellsT, ldCells, mkT, lenA, binPV, Env.init, resV, resT, frT, klT, ownT, intT, O.adds, ownA, rowsA, over, wrOk, keysT, keysA, ne_eq, if_true, if_false, ite_self, Nat.reduceLT, Nat.reduceSub, Nat.reduceBEq, Nat.reduceEqDiff, Nat.reduceAdd, Nat.reduceLeDiff, reduceCtorEq, Nat.reduceMul]; done)
        | skip
      rintro x e' τ2 ⟨rfl, g0, g4, g63, g64, g65, hS2, hF2, hm2⟩
      simp only [fxa, fxc, fxE, fxL, fxI, nxE, evO, evR, cellsT, ldCells, mkT, lenA, binPV, Env.init, resV, resT, frT, klT, ownT, intT, O.adds, ownA, rowsA, over, wrOk, keysT, keysA, ne_eq, if_true, if_false, ite_self, Nat.reduceLT, Nat.reduceSub, Nat.reduceBEq, Nat.reduceEqDiff, Nat.reduceAdd, Nat.reduceLeDiff, reduceCtorEq, Nat.reduceMul] at g0 g4 g63 g64 g65
      simp only [g0, g4, g63, g64, g65, e0, e4, e63, e64, e65, hw, fxa, fxc, fxE, fxL, fxI, nxE, evO, evR, cellsT, ldCells, mkT, lenA, binPV, Env.init, resV, resT, frT, klT, ownT, intT, O.adds, ownA, rowsA, over, wrOk, keysT, keysA, ne_eq, if_true, if_false, ite_self, Nat.reduceLT, Nat.reduceSub, Nat.reduceBEq, Nat.reduceEqDiff, Nat.reduceAdd, Nat.reduceLeDiff, reduceCtorEq, Nat.reduceMul]
      exact ⟨rfl, _, hm2, hS2, (hF.trans hF1).trans hF2, hR⟩
  · rintro e τ ⟨e0, e4, e63, e64, e65, m, hm, hS, hF, hR⟩
    have hlt : ¬ ((ds.length : Nat) : Int) < (ds.length : Int) := by omega
    rw [List.drop_length] at hR
    have hR : m = runs m0 (passOps b cs 0 ds) := hR
    simp only [F74b1, e0, e4, e63, e64, e65, hlt, fxa, fxc, fxE, fxL, fxI, nxE, evO, evR, cellsT, ldCells, mkT, lenA, binPV, Env.init, resV, resT, frT, klT, ownT, intT, O.adds, ownA, rowsA, over, wrOk, keysT, keysA, ne_eq, if_true, if_false, ite_self, Nat.reduceLT, Nat.reduceSub, Nat.reduceBEq, Nat.reduceEqDiff, Nat.reduceAdd, Nat.reduceLeDiff, reduceCtorEq, Nat.reduceMul]
    exact ⟨by rw [← hR]; exact hS, hF⟩

theorem aPass_ok {ks : Key} {n : Nt} {pl : Pl} {a b : Int} {B : Nat} {σ : St} (hT : Two n a b B) (hB : B ≤ 80000) (hwl : wf pl.lv) (la : 1 ≤ (n.nd a).to.length) (lb : 1 ≤ (n.nd b).to.length) (h : SG ks n pl a b σ) :
    ∃ σ', eS S (.f 74) [.a (.ptr ks 0 0)] σ = some (.u, σ') ∧ SG ks (passD n pl.lv a b) pl a b σ' ∧ Fr ks σ σ' := by
  have hn := hT.ok
  have hbg := hT.big
  have hta := hT.ta
  have htb := hT.tb
  obtain ⟨c, hc⟩ : ∃ c, σ.clk = c := ⟨_, rfl⟩
  have hlt := h.lt
  have nk : ∀ d, ¬ ks = (d, c) := by rintro d rfl; simp at hlt; omega
  have nk1 : ∀ d, ¬ ks = (d, c + 1) := by rintro d rfl; simp at hlt; omega
  have s0 := h.bs
  obtain ⟨x, hx0⟩ : ∃ x, n.nd a = x := ⟨_, rfl⟩
  obtain ⟨y, hy0⟩ : ∃ y, n.nd b = y := ⟨_, rfl⟩
  have hx := hT.xa
  have hy := hT.xb
  rw [hx0] at hx la hta
  rw [hy0] at hy lb htb
  obtain ⟨σ0, hσ0⟩ : ∃ σ0, σ0 = (σ.add 2 (.var [.p (.i .i64 0), .p (.i .i64 0), .p (.i .i64 0), .p (.s []), .nil, .nil])).add 3 (.var [.p (.i .i64 0), .p (.i .i64 0), .p (.i .i64 0), .p (.s []), .nil, .nil]) := ⟨_, rfl⟩
  have hS0 : SG ks n pl a b σ0 := by rw [hσ0]; exact (h.add _ _).add _ _
  have hF0 : Fr ks σ σ0 := by rw [hσ0]; exact ((Fr.refl ks σ).add _ _).add _ _
  have hcl0 : σ0.clk = c + 2 := by rw [hσ0]; simp only [add_clk]; omega
  have b2 : σ0.bs (2, c) = some (.var [.p (.i .i64 0), .p (.i .i64 0), .p (.i .i64 0), .p (.s []), .nil, .nil]) := by rw [hσ0]; simp [add_bs, add_clk, hc]
  have b3 : σ0.bs (3, c + 1) = some (.var [.p (.i .i64 0), .p (.i .i64 0), .p (.i .i64 0), .p (.s []), .nil, .nil]) := by rw [hσ0]; simp [add_bs, add_clk, hc]
  obtain ⟨σ1, q1, hS1, hF1⟩ := aNode_ok hT.a0 hT.a1 hS0
  have b21 := (hF1.bs (2, c) (by simp only; omega) (fun e => nk 2 e.symm)).trans b2
  have b31 := (hF1.bs (3, c + 1) (by simp only; omega) (fun e => nk1 3 e.symm)).trans b3
  have hcl1 := hF1.clk
  obtain ⟨σ2, q2, hS2, hF2⟩ := aNode_ok hT.b0 hT.b1 hS1
  have hcl2 := hF2.clk
  have b22 := (hF2.bs (2, c) (by simp only; omega) (fun e => nk 2 e.symm)).trans b21
  have b32 := (hF2.bs (3, c + 1) (by simp only; omega) (fun e => nk1 3 e.symm)).trans b31
  rw [hx0] at q1
  rw [hy0] at q2
  obtain ⟨σ3, hσ3⟩ : ∃ σ3, σ3 = (σ2.put (2, c) (.var ((encN x).map .p))).put (3, c + 1) (.var ((encN y).map .p)) := ⟨_, rfl⟩
  have hS3 : SG ks n pl a b σ3 := by rw [hσ3]; exact (hS2.put (nk 2) _).put (nk1 3) _
  have hF3 : Fr ks σ σ3 := by rw [hσ3]; exact (((hF0.trans hF1).trans hF2).put (.inr (by simp only; omega)) _).put (.inr (by simp only; omega)) _
  have b23 : σ3.bs (2, c) = some (.var ((encN x).map .p)) := by rw [hσ3]; simp [put_bs]
  have b33 : σ3.bs (3, c + 1) = some (.var ((encN y).map .p)) := by rw [hσ3]; simp [put_bs]
  have hcl3 : σ3.clk = σ2.clk := by rw [hσ3]; rfl
  obtain ⟨y', hy'⟩ : ∃ y' : Nd, ({ y with lv := pl.lv } : Nd) = y' := ⟨_, rfl⟩
  have hyo : y'.Ok := by rw [← hy']; exact ⟨hy.k, hwl, hy.n, hy.s, hy.al, hy.to, hy.ap, hy.tp⟩
  obtain ⟨σ4, hσ4⟩ : ∃ σ4, σ4 = σ3.put (3, c + 1) (.var ((encN y').map .p)) := ⟨_, rfl⟩
  have hS4 : SG ks n pl a b σ4 := by rw [hσ4]; exact hS3.put (nk1 3) _
  have hF4 : Fr ks σ σ4 := by rw [hσ4]; exact hF3.put (.inr (by simp only; omega)) _
  have b24 : σ4.bs (2, c) = some (.var ((encN x).map .p)) := by rw [hσ4]; simp only [put_bs]; rw [if_neg (by simp)]; exact b23
  have b34 : σ4.bs (3, c + 1) = some (.var ((encN y').map .p)) := by rw [hσ4]; simp [put_bs]
  have hcl4 : σ4.clk = σ2.clk := by rw [hσ4]; exact hcl3
  obtain ⟨ma, hma⟩ : ∃ m, x.to.length - 1 = m := ⟨_, rfl⟩
  obtain ⟨mb, hmb⟩ : ∃ m, y.to.length - 1 = m := ⟨_, rfl⟩
  obtain ⟨σ5, v4, q5, hS5, hF5, hL5⟩ := aLike_ok (x := y') (m := ma) hn hyo (NC.p _) (NC.p _) (by omega) hS4
  obtain ⟨hT1, ea, eb⟩ := hT.like hyo ma (by omega)
  have wcs := likeR_wf hn hyo ma (by omega)
  have lcs := (likeR_Ok hn hyo ma (by omega)).2.2
  have hD : passD n pl.lv a b = runs (runs (likeR (likeR n y' ma).1 x mb).1 (dropOps (portsR a 1 x.to.length) (likeR n y' ma).2)) (passOps b (likeR n y' ma).2 0 (likeR (likeR n y' ma).1 x mb).2) := by
    unfold passD; simp only [hx0, hy0, hy', hma]
    rw [hmb]
  obtain ⟨⟨m1, cs⟩, hr⟩ : ∃ r, likeR n y' ma = r := ⟨_, rfl⟩
  rw [hr] at hS5 hL5 hT1 ea eb hD wcs lcs
  simp only at hS5 hL5 hT1 ea eb hD wcs lcs
  have hbg1 := hT1.big
  have b25 := (hF5.bs (2, c) (by simp only; omega) (fun e => nk 2 e.symm)).trans b24
  have b35 := (hF5.bs (3, c + 1) (by simp only; omega) (fun e => nk1 3 e.symm)).trans b34
  obtain ⟨σ6, v5, q6, hS6, hF6, hL6⟩ := aLike_ok (x := x) (m := mb) hT1.ok hx (NC.p _) (NC.p _) (by omega) hS5
  have wds := likeR_wf hT1.ok hx mb (by omega)
  obtain ⟨hOk6, _, lds⟩ := likeR_Ok hT1.ok hx mb (by omega)
  obtain ⟨⟨m2, ds⟩, hr2⟩ : ∃ r, likeR m1 x mb = r := ⟨_, rfl⟩
  rw [hr2] at hS6 hL6 hD wds lds hOk6
  simp only at hS6 hL6 hD wds lds hOk6
  have hL56 := hL5.fr hS5 hF6
  have hF06 := (hF4.trans hF5).trans hF6
  have hwa : IntKind.i64.wrap ((x.to.length : Int) - 1) = ((ma : Nat) : Int) := by rw [wrap_in _ (by omega)]; omega
  have hwb : IntKind.i64.wrap ((y'.to.length : Int) - 1) = ((mb : Nat) : Int) := by
    have : y'.to.length = y.to.length := by rw [← hy']
    rw [this, wrap_in _ (by omega)]; omega
  have u0 := hS0.bs
  have u1 := hS1.bs
  have u3 := hS3.bs
  simp only [stg, List.map_cons, List.map_nil] at s0 u0 u1 u3
  have ey : encN y' = [.i .i64 y.k, .i .i64 pl.lv, .i .i64 y.n, .s y.s, .l (y.al.map encA), .l (y.to.map encP)] := by rw [← hy']; rfl
  have ez : [AV.p (.i .i64 y'.k), .p (.i .i64 y'.lv), .p (.i .i64 y'.n), .p (.s y'.s), .p (.l (y'.al.map encA)), .p (.l (y'.to.map encP))] = (encN y').map .p := rfl
  rw [ez, ey] at q5
  rw [ey] at hσ4 b34 b35
  have hyt : y'.to.length = y.to.length := by rw [← hy']
  rw [hyt] at hwb
  simp only [encN, List.map_cons, List.map_nil] at q1 q2 q5 q6 hσ3 b23 b33 hσ4 b24 b34 b25 b35
  obtain ⟨Z, hZ⟩ : ∃ Z : C, (.seq (.reg [
  ia 63 (.mv (.t 5)), ia 64 (.len false (.t 63)), ia 65 (.mv (ci 0))]) (.block 2 (.loop F74b1))) = Z := ⟨_, rfl⟩
  have rest : ∀ (e : Env) (m3 : Nt) (σ7 : St), m3.Ok → passD n pl.lv a b = runs m3 (passOps b cs 0 ds) → e 0 = .a (.ptr ks 0 0) → e 4 = .a v4 → e 5 = .a v5 → SG ks m3 pl a b σ7 → Fr ks σ6 σ7 →
      wp S false Z e σ7 (RetS [] fun v σ' => v = .u ∧ SG ks (passD n pl.lv a b) pl a b σ' ∧ Fr ks σ σ') := by
    intro e m3 σ7 hm3 hD3 e0 e4 e5 hS7 hF7
    rw [← hZ]
    have hC7 := hL56.fr hS6 hF7
    have hL7 := hL6.fr hS6 hF7
    have hop : v5 = .nil ∧ ds.length = 0 ∨ ∃ r : Key, v5 = .own r 0 ds.length := by
      rcases hL6.open1 with ⟨e1, e2⟩ | ⟨r, e1, _, _⟩
      · exact .inl ⟨e1, by rw [e2]; rfl⟩
      · exact .inr ⟨r, e1⟩
    rcases hop with ⟨rfl, hd0⟩ | ⟨r, rfl⟩
    all_goals
      simp only [e0, e4, e5, fxa, fxc, fxE, fxL, fxI, nxE, evO, evR, cellsT, ldCells, mkT, lenA, binPV, Env.init, resV, resT, frT, klT, ownT, intT, O.adds, ownA, rowsA, over, wrOk, keysT, keysA, ne_eq, if_true, if_false, ite_self, Nat.reduceLT, Nat.reduceSub, Nat.reduceBEq, Nat.reduceEqDiff, Nat.reduceAdd, Nat.reduceLeDiff, reduceCtorEq, Nat.reduceMul]
      refine Go.Fx.wp_mono (passLoop1 (n := n) hT hm3 hS7 hC7 hL7 wcs wds (by omega) (by omega) _ ?_ ?_ ?_ ?_ ?_) ?_
      all_goals first
        | (simp only [e0, e4, fxa, fxc, fxE, fxL, fxI, nxE, evO, evR, cellsT, ldCells, mkT, lenA, binPV, Env.init, resV, resT, frT, klT, ownT, intT, O.adds, ownA, rowsA, over, wrOk, keysT, keysA, ne_eq, if_true, if_false, ite_self, Nat.reduceLT, Nat.reduceSub, Nat.reduceBEq, Nat.reduceEqDiff, Nat.reduceAdd, Nat.reduceLeDiff, reduceCtorEq, Nat.reduceMul]; done)
        | (simp only [hd0, fxa, fxc, fxE, fxL, fxI, nxE, evO, evR, cellsT, ldCells, mkT, lenA, binPV, Env.init, resV, resT, frT, klT, ownT, intT, O.adds, ownA, rowsA, over, wrOk, keysT, keysA, ne_eq, if_true, if_false, ite_self, Nat.reduceLT, Nat.reduceSub, Nat.reduceBEq, Nat.reduceEqDiff, Nat.reduceAdd, Nat.reduceLeDiff, reduceCtorEq, Nat.reduceMul]; done)
        | skip
      rintro x e' σ8 ⟨rfl, hS8, hF8⟩
      simp only [fxa, fxc, fxE, fxL, fxI, nxE, evO, evR, cellsT, ldCells, mkT, lenA, binPV, Env.init, resV, resT, frT, klT, ownT, intT, O.adds, ownA, rowsA, over, wrOk, keysT, keysA, ne_eq, if_true, if_false, ite_self, Nat.reduceLT, Nat.reduceSub, Nat.reduceBEq, Nat.reduceEqDiff, Nat.reduceAdd, Nat.reduceLeDiff, reduceCtorEq, Nat.reduceMul]
      exact ⟨by rw [hD3]; exact hS8, hF06.trans (hF7.trans hF8)⟩
  have hop : v4 = .nil ∧ cs.length = 0 ∨ ∃ r : Key, v4 = .own r 0 cs.length := by
    rcases hL5.open1 with ⟨e1, e2⟩ | ⟨r, e1, _, _⟩
    · exact .inl ⟨e1, by rw [e2]; rfl⟩
    · exact .inr ⟨r, e1⟩
  refine x_fnR (fc := F74) rfl rfl ?_
  rcases hop with ⟨rfl, hc0⟩ | ⟨q, rfl⟩
  all_goals
    simp only [F74, hc, s0, u0, u1, u3, ← hσ0, ← hσ3, ← hσ4, b2, b21, b22, b3, b31, b32, b23, b33, b24, b34, b25, b35, q1, q2, q5, q6, hwa, hwb, List.length_map, evI_cl, clOk, ldKeeps, ldKeeps1, iasKeeps, rowK, nwKeeps, sameC, sameL, sameA, sameP, decide_true, frA_ptr, capsOf, fxa, fxc, fxE, fxL, fxI, nxE, evO, evR, cellsT, ldCells, mkT, lenA, binPV, Env.init, resV, resT, frT, klT, ownT, intT, O.adds, ownA, rowsA, over, wrOk, keysT, keysA, ne_eq, if_true, if_false, ite_self, Nat.reduceLT, Nat.reduceSub, Nat.reduceBEq, Nat.reduceEqDiff, Nat.reduceAdd, Nat.reduceLeDiff, reduceCtorEq, Nat.reduceMul]
    refine Go.Fx.wp_mono (passLoop0 (n := n) hT hOk6 hS6 hL56 wcs (by omega) _ ?_ ?_ ?_ ?_) ?_
    all_goals first
      | (simp only [fxa, fxc, fxE, fxL, fxI, nxE, evO, evR, cellsT, ldCells, mkT, lenA, binPV, Env.init, resV, resT, frT, klT, ownT, intT, O.adds, ownA, rowsA, over, wrOk, keysT, keysA, ne_eq, if_true, if_false, ite_self, Nat.reduceLT, Nat.reduceSub, Nat.reduceBEq, Nat.reduceEqDiff, Nat.reduceAdd, Nat.reduceLeDiff, reduceCtorEq, Nat.reduceMul]; done)
      | (simp only [hc0, fxa, fxc, fxE, fxL, fxI, nxE, evO, evR, cellsT, ldCells, mkT, lenA, binPV, Env.init, resV, resT, frT, klT, ownT, intT, O.adds, ownA, rowsA, over, wrOk, keysT, keysA, ne_eq, if_true, if_false, ite_self, Nat.reduceLT, Nat.reduceSub, Nat.reduceBEq, Nat.reduceEqDiff, Nat.reduceAdd, Nat.reduceLeDiff, reduceCtorEq, Nat.reduceMul]; done)
      | skip
    rintro z e' σ7 ⟨rfl, g0, g4, g5, hS7, hF7, hm7⟩
    simp only [fxa, fxc, fxE, fxL, fxI, nxE, evO, evR, cellsT, ldCells, mkT, lenA, binPV, Env.init, resV, resT, frT, klT, ownT, intT, O.adds, ownA, rowsA, over, wrOk, keysT, keysA, ne_eq, if_true, if_false, ite_self, Nat.reduceLT, Nat.reduceSub, Nat.reduceBEq, Nat.reduceEqDiff, Nat.reduceAdd, Nat.reduceLeDiff, reduceCtorEq, Nat.reduceMul] at g0 g4 g5
    simp only [blkQ_exit, if_true, seqQ_norm, hZ]
    refine rest e' _ σ7 hm7 ?_ g0 g4 g5 hS7 hF7
    rw [hD, lcs, show ma + 1 = x.to.length by omega]
end Go.Proofs.Ytomcceambpneiaa
