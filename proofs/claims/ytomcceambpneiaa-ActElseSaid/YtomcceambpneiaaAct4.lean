/- The stage: picks. -/
import Derived.Test.YtomcceambpneiaaAct3
set_option linter.unusedSimpArgs false
set_option linter.unusedVariables false
set_option maxHeartbeats 4000000
set_option maxRecDepth 10000
namespace Go.Proofs.Ytomcceambpneiaa
open Go.Fx

/-- a node's ports but one -/
theorem pickLoop0 {ks kq : Key} {n : Nt} {pl : Pl} {a b : Int} {l : List Pt} {q : Pt} {lv : AV} {c0 : Nat} {σ : St} (h : SG ks n pl a b σ) (hq : σ.bs kq = some (.var [.p (.i .i64 q.n), .p (.i .i64 q.s)])) (hkq : kq.2 < σ.clk)
    (hL : SL c0 2 58 (l.map encP) lv σ) (hlen : l.length ≤ 1000) (e : Env) (e3 : e 3 = .a (.ptr kq 0 0)) (e5 : e 5 = .a .nil) (e48 : e 48 = .a lv) (e49 : e 49 = .a (.p (.i .i64 (l.length : Nat)))) (e50 : e 50 = .a (.p (.i .i64 0))) :
    wp S false (.loop F69b0) e σ (fun x e' σ' => x = .exit 0 ∧ (∃ y, e' 5 = .a y ∧ SL σ.clk 2 58 ((l.filter fun r => !decide (r = q)).map encP) y σ') ∧ e' 0 = e 0 ∧ e' 2 = e 2 ∧ e' 3 = e 3 ∧ e' 4 = e 4 ∧ SG ks n pl a b σ' ∧ Fr ks σ σ') := by
  obtain ⟨c1, hc1⟩ : ∃ c, σ.clk = c := ⟨_, rfl⟩
  have hqs : kq ≠ ks := by rintro rfl; rw [h.bs] at hq; simp [stg] at hq
  have hlv : lv = .nil ∧ l = [] ∨ ∃ r : Key, lv = .own r 0 l.length ∧ σ.bs r = some (.row 2 58 (l.map encP)) ∧ r.2 < σ.clk := by
    rcases hL with ⟨e1, e2⟩ | ⟨r, e1, e2, e3, e4⟩
    · exact .inl ⟨e1, List.map_eq_nil_iff.1 e2⟩
    · exact .inr ⟨r, by simpa using e1, e2, e4⟩
  obtain ⟨u0, hu0⟩ : ∃ z, e 0 = z := ⟨_, rfl⟩
  obtain ⟨u2, hu2⟩ : ∃ z, e 2 = z := ⟨_, rfl⟩
  obtain ⟨u4, hu4⟩ : ∃ z, e 4 = z := ⟨_, rfl⟩
  rw [hu0, hu2, hu4, e3]
  refine loop_nat l.length (fun k e τ => e 0 = u0 ∧ e 2 = u2 ∧ e 4 = u4 ∧ e 3 = .a (.ptr kq 0 0) ∧ e 48 = .a lv ∧ e 49 = .a (.p (.i .i64 (l.length : Nat))) ∧ e 50 = .a (.p (.i .i64 (k : Nat))) ∧ SG ks n pl a b τ ∧ Fr ks σ τ ∧
    ∃ y, e 5 = .a y ∧ SL c1 2 58 (((l.take k).filter fun r => !decide (r = q)).map encP) y τ) (i0 := 0) (Nat.zero_le _) ⟨hu0, hu2, hu4, e3, e48, e49, e50, h, Fr.refl ks σ, .nil, e5, .inl ⟨rfl, rfl⟩⟩ ?_ ?_
  · rintro k e τ hk ⟨e0, e2, e4, e3, e48, e49, e50, hS, hF, y, e5, hy⟩
    obtain ⟨p, hp⟩ : ∃ p, l[k]? = some p := ⟨_, List.getElem?_eq_getElem hk⟩
    have hp' := mapGet encP hp
    have hlt : ((k : Nat) : Int) < (l.length : Int) := by omega
    have hge : (0 : Int) ≤ ((k : Nat) : Int) := by omega
    have hw : IntKind.i64.wrap ((k : Int) + 1) = ((k + 1 : Nat) : Int) := wrap_succ k (by omega)
    obtain ⟨r, rfl, r2, r3⟩ : ∃ r : Key, lv = .own r 0 l.length ∧ σ.bs r = some (.row 2 58 (l.map encP)) ∧ r.2 < σ.clk := by
      rcases hlv with ⟨_, e⟩ | h
      · rw [e] at hk; simp at hk
      · exact h
    have nr : r ≠ ks := by rintro rfl; rw [h.bs] at r2; cases r2
    have tr := (hF.bs r r3 nr).trans r2
    have tq := (hF.bs kq hkq hqs).trans hq
    have hcl := hF.clk
    have nn : ∀ {k : Key}, k.2 < σ.clk → ∀ d, ¬ k = (d, τ.clk) := by rintro k hk d rfl; simp at hk; omega
    have nq7 := nn hkq 7
    have nr7 := nn r3 7
    have htk : l.take (k + 1) = l.take k ++ [p] := by rw [List.take_add_one, hp]; rfl
    have hd := ptEq p q
    simp only [encP] at hp'
    obtain ⟨fl, hfl⟩ : ∃ fl, (l.take k).filter (fun r => !decide (r = q)) = fl := ⟨_, rfl⟩
    have hfn : fl.length ≤ 1000 := by rw [← hfl]; have := List.length_filter_le (fun r => !decide (r = q)) (l.take k); rw [List.length_take] at this; omega
    rw [hfl] at hy
    by_cases hpq : p = q
    · have hd2 : decide (p = q) = true := decide_eq_true hpq
      rw [hd2] at hd
      have hsu : (l.take (k + 1)).filter (fun r => !decide (r = q)) = fl := by rw [htk, List.filter_append, hfl]; simp [hpq]
      rw [hsu]
      simp only [F69b0, e0, e2, e3, e4, e5, e48, e49, e50, hlt, hge, tr, tq, hp', hw, hd, nq7, nr7, frA_ptr, rowK, Int.toNat_natCast, Nat.zero_add, List.length_map, fxa, fxc, fxE, fxL, fxI, nxE, evO, evR, cellsT, ldCells, mkT, lenA, binPV, Env.init, resV, resT, frT, klT, ownT, intT, O.adds, ownA, rowsA, over, wrOk, keysT, keysA, ne_eq, if_true, if_false, ite_self, Nat.reduceLT, Nat.reduceSub, Nat.reduceBEq, Nat.reduceEqDiff, Nat.reduceAdd, Nat.reduceLeDiff, reduceCtorEq, Nat.reduceMul]
      refine ⟨(hS.add _ _).put (by intro e; have := hS.lt; rw [e] at this; simp at this) _, (hF.add _ _).put (.inr (by simp only; omega)) _, y, rfl, ?_⟩
      rcases hy with hy | ⟨s, s1, s2, s3, s4⟩
      · exact .inl hy
      · have ns : ¬ s = (7, τ.clk) := by rintro rfl; simp at s4
        exact .inr ⟨s, s1, by simp only [put_bs, add_bs, ns, if_false]; exact s2, s3, by simp only [put_clk, add_clk]; omega⟩
    · have hd2 : decide (p = q) = false := decide_eq_false hpq
      rw [hd2] at hd
      have hsu : (l.take (k + 1)).filter (fun r => !decide (r = q)) = fl ++ [p] := by rw [htk, List.filter_append, hfl]; simp [hpq]
      rw [hsu]
      have hSn : SG ks n pl a b (((τ.add 7 (.var [.p (.i .i64 0), .p (.i .i64 0)])).put (7, τ.clk) (.var [.p (.i .i64 p.n), .p (.i .i64 p.s)])).add 59 (.row 2 58 [[.i .i64 p.n, .i .i64 p.s]])) := ((hS.add _ _).put (by intro e; have := hS.lt; rw [e] at this; simp at this) _).add _ _
      have hFn : Fr ks σ (((τ.add 7 (.var [.p (.i .i64 0), .p (.i .i64 0)])).put (7, τ.clk) (.var [.p (.i .i64 p.n), .p (.i .i64 p.s)])).add 59 (.row 2 58 [[.i .i64 p.n, .i .i64 p.s]])) := ((hF.add _ _).put (.inr (by simp only; omega)) _).add _ _
      rcases hy with ⟨rfl, hr⟩ | ⟨s, rfl, s2, s3, s4⟩
      · have hr2 : fl = [] := List.map_eq_nil_iff.1 hr
        subst hr2
        simp only [F69b0, e0, e2, e3, e4, e5, e48, e49, e50, hlt, hge, tr, tq, hp', hw, hd, nq7, nr7, frA_ptr, rowK, Int.toNat_natCast, Nat.zero_add, Nat.one_mul, Nat.zero_lt_one, List.length_map, fxa, fxc, fxE, fxL, fxI, nxE, evO, evR, cellsT, ldCells, mkT, lenA, binPV, Env.init, resV, resT, frT, klT, ownT, intT, O.adds, ownA, rowsA, over, wrOk, keysT, keysA, ne_eq, if_true, if_false, ite_self, Nat.reduceLT, Nat.reduceSub, Nat.reduceBEq, Nat.reduceEqDiff, Nat.reduceAdd, Nat.reduceLeDiff, reduceCtorEq, Nat.reduceMul]
        exact ⟨hSn.add _ _, hFn.add _ _, _, rfl, .inr ⟨(60, τ.clk + 1 + 1), rfl, by simp only [add_bs, add_clk, put_clk, if_true, encP, List.map_cons, List.map_nil, List.nil_append], by simp only; omega, by simp only [add_clk, put_clk]; omega⟩⟩
      · have ns7 : ¬ s = (7, τ.clk) := by rintro rfl; simp at s4
        have ns59 : ¬ s = (59, τ.clk + 1) := by rintro rfl; simp at s4; omega
        have n2 : ¬ ks = s := by rintro rfl; rw [hS.bs] at s2; cases s2
        have htk2 : List.take fl.length (fl.map encP) = fl.map encP := List.take_of_length_le (by simp)
        have hbb : (fl.length + 1) * 16 ≤ 140737488355328 := by omega
        rw [List.length_map] at e5
        simp only [F69b0, e0, e2, e3, e4, e5, e48, e49, e50, hlt, hge, tr, tq, hp', hw, hd, nq7, nr7, s2, ns7, ns59, htk2, hbb, frA_ptr, rowK, Int.toNat_natCast, Nat.zero_add, Nat.one_mul, Nat.zero_lt_one, List.length_map, fxa, fxc, fxE, fxL, fxI, nxE, evO, evR, cellsT, ldCells, mkT, lenA, binPV, Env.init, resV, resT, frT, klT, ownT, intT, O.adds, ownA, rowsA, over, wrOk, keysT, keysA, ne_eq, if_true, if_false, ite_self, Nat.reduceLT, Nat.reduceSub, Nat.reduceBEq, Nat.reduceEqDiff, Nat.reduceAdd, Nat.reduceLeDiff, reduceCtorEq, Nat.reduceMul]
        exact ⟨(hSn.kill n2).add _ _, (hFn.kill (by omega)).add _ _, _, rfl, .inr ⟨(60, τ.clk + 1 + 1), by simp, by simp only [add_bs, add_clk, put_clk, kill_clk, if_true, List.map_append, List.map_cons, List.map_nil, encP], by simp only; omega, by simp only [add_clk, put_clk, kill_clk]; omega⟩⟩
  · rintro e τ ⟨e0, e2, e4, e3, e48, e49, e50, hS, hF, y, e5, hy⟩
    have hlt : ¬ ((l.length : Nat) : Int) < (l.length : Int) := by omega
    rw [List.take_length] at hy
    simp only [F69b0, e0, e2, e3, e4, e5, e48, e49, e50, hlt, fxa, fxc, fxE, fxL, fxI, nxE, evO, evR, cellsT, ldCells, mkT, lenA, binPV, Env.init, resV, resT, frT, klT, ownT, intT, O.adds, ownA, rowsA, over, wrOk, keysT, keysA, ne_eq, if_true, if_false, ite_self, Nat.reduceLT, Nat.reduceSub, Nat.reduceBEq, Nat.reduceEqDiff, Nat.reduceAdd, Nat.reduceLeDiff, reduceCtorEq, Nat.reduceMul]
    exact ⟨⟨y, rfl, hc1 ▸ hy⟩, hS, hF⟩

/-- the applications, one behind the other -/
theorem pickLoop1 {ks : Key} {n m0 : Nt} {pl : Pl} {a b : Int} {B : Nat} {apps : List Int} {lv : AV} {c0 : Nat} {σ : St} (hT : Two n a b B) (hm0 : m0.Ok) (h : SG ks m0 pl a b σ)
    (hL : SL c0 1 3 (apps.map encI) lv σ) (hd : ∀ d ∈ apps, wf d) (hlen : apps.length ≤ 500) (e : Env) (e0 : e 0 = .a (.ptr ks 0 0)) (e2 : e 2 = .a (.p (.i .i64 (apps.length : Nat)))) (e4 : e 4 = .a lv) (e82 : e 82 = .a lv)
    (e83 : e 83 = .a (.p (.i .i64 (apps.length : Nat)))) (e84 : e 84 = .a (.p (.i .i64 0))) :
    wp S false (.loop F69b1) e σ (fun x e' σ' => x = .exit 2 ∧ e' 8 = e 8 ∧ SG ks (runs m0 (pickOps a b 0 apps)) pl a b σ' ∧ Fr ks σ σ' ∧ (runs m0 (pickOps a b 0 apps)).Ok) := by
  have hlv : lv = .nil ∧ apps = [] ∨ ∃ r : Key, lv = .own r 0 apps.length ∧ σ.bs r = some (.row 1 3 (apps.map encI)) ∧ r.2 < σ.clk := by
    rcases hL with ⟨e1, e2⟩ | ⟨r, e1, e2, e3, e4⟩
    · exact .inl ⟨e1, List.map_eq_nil_iff.1 e2⟩
    · exact .inr ⟨r, by simpa using e1, e2, e4⟩
  obtain ⟨u8, hu8⟩ : ∃ z, e 8 = z := ⟨_, rfl⟩
  rw [hu8]
  refine loop_nat apps.length (fun i e τ => e 8 = u8 ∧ e 0 = .a (.ptr ks 0 0) ∧ e 2 = .a (.p (.i .i64 (apps.length : Nat))) ∧ e 4 = .a lv ∧ e 82 = .a lv ∧ e 83 = .a (.p (.i .i64 (apps.length : Nat))) ∧ e 84 = .a (.p (.i .i64 (i : Nat))) ∧
    ∃ m, m.Ok ∧ SG ks m pl a b τ ∧ Fr ks σ τ ∧ runs m (pickOps a b i (apps.drop i)) = runs m0 (pickOps a b 0 apps)) (i0 := 0) (Nat.zero_le _) ⟨hu8, e0, e2, e4, e82, e83, e84, m0, hm0, h, Fr.refl ks σ, by rw [List.drop_zero]⟩ ?_ ?_
  · rintro i e τ hi ⟨e8, e0, e2, e4, e82, e83, e84, m, hm, hS, hF, hR⟩
    obtain ⟨d, hdi⟩ : ∃ d, apps[i]? = some d := ⟨_, List.getElem?_eq_getElem hi⟩
    have hd' := mapGet encI hdi
    have wd := hd d (List.mem_of_getElem? hdi)
    have hlt : ((i : Nat) : Int) < (apps.length : Int) := by omega
    have hge : (0 : Int) ≤ ((i : Nat) : Int) := by omega
    have hge1 : (0 : Int) ≤ ((i : Nat) : Int) + 1 := by omega
    have hw : IntKind.i64.wrap ((i : Int) + 1) = (i : Int) + 1 := wrap_in _ (by omega)
    have htn : ((i : Int) + 1).toNat = i + 1 := by omega
    obtain ⟨r, rfl, r2, r3⟩ : ∃ r : Key, lv = .own r 0 apps.length ∧ σ.bs r = some (.row 1 3 (apps.map encI)) ∧ r.2 < σ.clk := by
      rcases hlv with ⟨_, e⟩ | h
      · rw [e] at hi; simp at hi
      · exact h
    have nr : r ≠ ks := by rintro rfl; rw [h.bs] at r2; cases r2
    have tr := (hF.bs r r3 nr).trans r2
    have t1 := hS.bs
    simp only [stg, List.map_cons, List.map_nil] at t1
    obtain ⟨τ1, c1, hS1, hF1⟩ := aMove_ok (p := ⟨b, (i : Int) + 1⟩) (q := ⟨d, 2⟩) hm (hT.pb (by omega) (by omega)) ⟨wd, by show wf 2; decide⟩ hS
    have tr1 := (hF1.bs r (Nat.lt_of_lt_of_le r3 hF.clk) nr).trans tr
    have t2 := hS1.bs
    simp only [stg, List.map_cons, List.map_nil] at t2
    have hm1 := moveR_Ok (p := ⟨b, (i : Int) + 1⟩) (q := ⟨d, 2⟩) hm (hT.pb (by omega) (by omega)) ⟨wd, by show wf 2; decide⟩
    have p1 := port_ok b ((i : Int) + 1)
    have p2 := port_ok d 2
    have p3 := port_ok d 1
    have hdr : apps.drop i = d :: apps.drop (i + 1) := by
      rw [List.drop_eq_getElem_cons hi]
      obtain ⟨_, h2⟩ := List.getElem?_eq_some_iff.1 hdi
      rw [h2]
    rw [hdr] at hR
    simp only [encI] at hd'
    by_cases hl : i + 1 < apps.length
    · obtain ⟨f, hfi⟩ : ∃ f, apps[i + 1]? = some f := ⟨_, List.getElem?_eq_getElem hl⟩
      have hf' := mapGet encI hfi
      have wf' := hd f (List.mem_of_getElem? hfi)
      have hlt2 : ((i : Nat) : Int) + 1 < (apps.length : Int) := by omega
      have hdr2 : apps.drop (i + 1) = f :: apps.drop (i + 1 + 1) := by
        rw [List.drop_eq_getElem_cons hl]
        obtain ⟨_, h2⟩ := List.getElem?_eq_some_iff.1 hfi
        rw [h2]
      obtain ⟨τ2, c2, hS2, hF2⟩ := aLink_ok (p := ⟨d, 1⟩) (q := ⟨f, 0⟩) hm1 ⟨wd, wf_1⟩ ⟨wf', wf_0⟩ hS1
      have hm2 := linkR_Ok (p := ⟨d, 1⟩) (q := ⟨f, 0⟩) hm1 ⟨wd, wf_1⟩ ⟨wf', wf_0⟩
      have p4 := port_ok f 0
      simp only [encI] at hf'
      simp only [F69b1, e0, e2, e4, e8, e82, e83, e84, hlt, hlt2, hge, hge1, htn, hw, tr, tr1, t1, t2, hd', hf', c1, c2, p1, p2, p3, p4, frA_ptr, rowK, Int.toNat_natCast, Nat.zero_add, List.length_map, fxa, fxc, fxE, fxL, fxI, nxE, evO, evR, cellsT, ldCells, mkT, lenA, binPV, Env.init, resV, resT, frT, klT, ownT, intT, O.adds, ownA, rowsA, over, wrOk, keysT, keysA, ne_eq, if_true, if_false, ite_self, Nat.reduceLT, Nat.reduceSub, Nat.reduceBEq, Nat.reduceEqDiff, Nat.reduceAdd, Nat.reduceLeDiff, reduceCtorEq, Nat.reduceMul]
      refine ⟨rfl, _, hm2, hS2, (hF.trans hF1).trans hF2, ?_⟩
      rw [hdr2] at hR ⊢
      exact hR
    · have hlt2 : ¬ ((i : Nat) : Int) + 1 < (apps.length : Int) := by omega
      have hdr2 : apps.drop (i + 1) = [] := List.drop_eq_nil_of_le (by omega)
      obtain ⟨τ2, c2, hS2, hF2⟩ := aMove_ok (p := ⟨a, 1⟩) (q := ⟨d, 1⟩) hm1 (hT.pa (by omega) (by omega)) ⟨wd, wf_1⟩ hS1
      have hm2 := moveR_Ok (p := ⟨a, 1⟩) (q := ⟨d, 1⟩) hm1 (hT.pa (by omega) (by omega)) ⟨wd, wf_1⟩
      have p4 := port_ok a 1
      simp only [F69b1, e0, e2, e4, e8, e82, e83, e84, hlt, hlt2, hge, hge1, htn, hw, tr, tr1, t1, t2, hd', c1, c2, p1, p2, p3, p4, frA_ptr, rowK, Int.toNat_natCast, Nat.zero_add, List.length_map, fxa, fxc, fxE, fxL, fxI, nxE, evO, evR, cellsT, ldCells, mkT, lenA, binPV, Env.init, resV, resT, frT, klT, ownT, intT, O.adds, ownA, rowsA, over, wrOk, keysT, keysA, ne_eq, if_true, if_false, ite_self, Nat.reduceLT, Nat.reduceSub, Nat.reduceBEq, Nat.reduceEqDiff, Nat.reduceAdd, Nat.reduceLeDiff, reduceCtorEq, Nat.reduceMul]
      refine ⟨rfl, _, hm2, hS2, (hF.trans hF1).trans hF2, ?_⟩
      rw [hdr2] at hR ⊢
      exact hR
  · rintro e τ ⟨e8, e0, e2, e4, e82, e83, e84, m, hm, hS, hF, hR⟩
    have hlt : ¬ ((apps.length : Nat) : Int) < (apps.length : Int) := by omega
    rw [List.drop_length] at hR
    simp only [F69b1, e0, e2, e4, e8, e82, e83, e84, hlt, fxa, fxc, fxE, fxL, fxI, nxE, evO, evR, cellsT, ldCells, mkT, lenA, binPV, Env.init, resV, resT, frT, klT, ownT, intT, O.adds, ownA, rowsA, over, wrOk, keysT, keysA, ne_eq, if_true, if_false, ite_self, Nat.reduceLT, Nat.reduceSub, Nat.reduceBEq, Nat.reduceEqDiff, Nat.reduceAdd, Nat.reduceLeDiff, reduceCtorEq, Nat.reduceMul]
    have hR : m = runs m0 (pickOps a b 0 apps) := hR
    exact ⟨by rw [← hR]; exact hS, hF, by rw [← hR]; exact hm⟩

theorem aPick_ok {ks : Key} {n : Nt} {pl : Pl} {a b : Int} {B : Nat} {i : Nat} {A : Ar} {σ : St} (hT : Two n a b B) (hB : B ≤ 80000) (hi : pl.alt = (i : Nat)) (hA : (n.nd a).al[i]? = some A) (hk0 : 0 ≤ A.n) (hk1 : A.n ≤ 100) (hal : (n.nd a).al.length ≤ 100) (h : SG ks n pl a b σ) :
    ∃ σ', eS S (.f 69) [.a (.ptr ks 0 0)] σ = some (.u, σ') ∧ SG ks (pickD n pl.alt a b) pl a b σ' ∧ Fr ks σ σ' := by
  have hn := hT.ok
  have hbg := hT.big
  have hil := (List.getElem?_eq_some_iff.1 hA).1
  obtain ⟨k, hk⟩ : ∃ k : Nat, A.n = k := ⟨A.n.toNat, by omega⟩
  obtain ⟨c, hc⟩ : ∃ c, σ.clk = c := ⟨_, rfl⟩
  have hlt := h.lt
  have nk : ∀ d, ¬ ks = (d, c) := by rintro d rfl; simp at hlt; omega
  have s0 := h.bs
  obtain ⟨σ0, hσ0⟩ : ∃ σ0, σ0 = σ.add 3 (.var [.p (.i .i64 0), .p (.i .i64 0)]) := ⟨_, rfl⟩
  have hS0 : SG ks n pl a b σ0 := by rw [hσ0]; exact h.add _ _
  have hF0 : Fr ks σ σ0 := by rw [hσ0]; exact (Fr.refl ks σ).add _ _
  have hcl0 : σ0.clk = c + 1 := by rw [hσ0]; simp only [add_clk]; omega
  have b3 : σ0.bs (3, c) = some (.var [.p (.i .i64 0), .p (.i .i64 0)]) := by rw [hσ0]; simp [add_bs, hc]
  obtain ⟨σ1, q1, hS1, hF1⟩ := aNode_ok hT.a0 hT.a1 hS0
  have b31 := (hF1.bs (3, c) (by simp only; omega) (fun e => nk 3 e.symm)).trans b3
  have hcl1 := hF1.clk
  obtain ⟨σ2, hσ2⟩ : ∃ σ2, σ2 = σ1.put (3, c) (.var [.p (.i .i64 a), .p (.i .i64 ((i : Int) + 2))]) := ⟨_, rfl⟩
  have hS2 : SG ks n pl a b σ2 := by rw [hσ2]; exact hS1.put (nk 3) _
  have hF2 : Fr ks σ σ2 := by rw [hσ2]; exact (hF0.trans hF1).put (.inr (by simp only; omega)) _
  have b32 : σ2.bs (3, c) = some (.var [.p (.i .i64 a), .p (.i .i64 ((i : Int) + 2))]) := by rw [hσ2]; simp [put_bs]
  have hcl2 : σ2.clk = σ1.clk := by rw [hσ2]; rfl
  obtain ⟨σ3, q3, hS3, hF3⟩ := aLevel_ok hT.a0 hT.a1 hS2
  have hax : (appN (n.nd a).lv).Ok := ⟨by show wf 3; decide, hT.xa.lv, by show wf 0; decide, by simp [appN], by simp [appN], by simp [appN], by simp [appN], by simp [appN]⟩
  obtain ⟨σ4, v4, q4, hS4, hF4, hL4⟩ := aLike_ok (x := appN (n.nd a).lv) (m := k) hn hax NC.nil NC.nil (by omega) hS3
  obtain ⟨hT1, ea, eb⟩ := hT.like hax k (by omega)
  have hAD : (n.nd a).al.getD i zA = A := by rw [List.getD_eq_getElem?_getD, hA]; rfl
  have wap := likeR_wf hn hax k (by omega)
  have lap := (likeR_Ok hn hax k (by omega)).2.2
  have hD : pickD n pl.alt a b = (let r1 := likeR n (appN (n.nd a).lv) k
    let l := restR r1.1 a i
    let r2 := likeR r1.1 (dropN (r1.1.nd a).lv) l.length
    let m := match r1.2 with
      | [] => (joinR r2.1 ⟨a, (i : Int) + 2⟩ ⟨a, 1⟩).1
      | d :: _ => (moveR r2.1 ⟨a, (i : Int) + 2⟩ ⟨d, 0⟩).1
    runs (runs m (pickOps a b 0 r1.2)) (dropOps l r2.2)) := by
    unfold pickD; simp only [hi, Int.toNat_natCast, hAD, hk]; rfl
  obtain ⟨⟨m1, apps⟩, hr⟩ : ∃ r, likeR n (appN (n.nd a).lv) k = r := ⟨_, rfl⟩
  rw [hr] at hS4 hL4 hT1 ea eb hD wap lap
  simp only at hS4 hL4 hT1 ea eb hD wap lap
  have hbg1 := hT1.big
  obtain ⟨σ5, v5, q5, hS5, hF5, hL5⟩ := aOthers_ok (j := 2) (jz := 2) rfl (by omega) hT1.a0 hT1.a1 hT1.xa.to hS4
  obtain ⟨l0, hl0⟩ : ∃ l, portsR a 2 (m1.nd a).to.length = l := ⟨_, rfl⟩
  have nl0 : l0.length ≤ 100 := by rw [← hl0, portsR_len]; have := hT1.ta; omega
  rw [hl0] at hL5
  have hl1 : restR m1 a i = l0.filter fun r => !decide (r = ⟨a, (i : Int) + 2⟩) := by unfold restR; rw [hl0]
  obtain ⟨l, hl2⟩ : ∃ l, l0.filter (fun r => !decide (r = ⟨a, (i : Int) + 2⟩)) = l := ⟨_, rfl⟩
  rw [hl1, hl2] at hD
  have nl : l.length ≤ 100 := by rw [← hl2]; have := List.length_filter_le (fun r => !decide (r = (⟨a, (i : Int) + 2⟩ : Pt))) l0; omega
  have wl : ∀ p ∈ l, wfP p := by
    intro p hp
    rw [← hl2] at hp
    have := (List.mem_filter.1 hp).1
    rw [← hl0] at this
    exact (portsR_wf hT1 (by have := hT1.ta; omega)).1 p this
  have b34 := (hF4.bs (3, c) (by have := hF3.clk; simp only; omega) (fun e => nk 3 e.symm)).trans ((hF3.bs (3, c) (by simp only; omega) (fun e => nk 3 e.symm)).trans b32)
  have b35 := (hF5.bs (3, c) (by have := hF3.clk; have := hF4.clk; simp only; omega) (fun e => nk 3 e.symm)).trans b34
  have hF05 := ((hF2.trans hF3).trans hF4).trans hF5
  have hc5 : c < σ5.clk := by have := hF3.clk; have := hF4.clk; have := hF5.clk; omega
  have hL45 := hL4.fr hS4 hF5
  have u0 := hS0.bs
  have u1 := hS1.bs
  have u3 := hS3.bs
  have u4 := hS4.bs
  have gA := mapGet encA hA
  have p1 := port_ok a ((i : Int) + 2)
  have p2 := port_ok a 1
  have hw : IntKind.i64.wrap ((i : Int) + 2) = (i : Int) + 2 := wrap_in _ (by omega)
  have hge : (0 : Int) ≤ (i : Int) := by omega
  have hlti : (i : Int) < ((n.nd a).al.length : Int) := by omega
  obtain ⟨x, hx⟩ : ∃ x, n.nd a = x := ⟨_, rfl⟩
  rw [hx] at q1 q3 q4 gA hlti
  simp only [stg, List.map_cons, List.map_nil, hi] at s0 u0 u1 u3 u4
  simp only [encN, List.map_cons, List.map_nil] at q1
  simp only [appN] at q4
  simp only [encA] at gA
  refine x_fnR (fc := F69) rfl rfl ?_
  have hb2 : ∀ {τ : St}, Fr ks σ5 τ → τ.bs (3, c) = some (.var [.p (.i .i64 a), .p (.i .i64 ((i : Int) + 2))]) := fun hF => (hF.bs (3, c) hc5 (fun e => nk 3 e.symm)).trans b35
  obtain ⟨Z, hZ⟩ : ∃ Z : C, (.seq (.seq (.reg [
  ia 82 (.mv (.t 4)), ia 83 (.len false (.t 82)), ia 84 (.mv (ci 0))]) (.block 2 (.loop F69b1))) (.reg [
  ia 124 (.mv (.t 8)), ia 125 (.call (.t 124) [])])) = Z := ⟨_, rfl⟩
  -- behind the ports
  have rest : ∀ (e : Env) (σ6 : St) (y : AV), e 0 = .a (.ptr ks 0 0) → e 2 = .a (.p (.i .i64 (k : Nat))) → e 3 = .a (.ptr (3, c) 0 0) → e 4 = .a v4 → e 5 = .a y → SL σ5.clk 2 58 (l.map encP) y σ6 → SG ks m1 pl a b σ6 → Fr ks σ5 σ6 →
      wp S false (.seq (.reg [
  ia 62 (.mv (.t 0)), ia 63 (.mv (.t 5)), ia 64 (.call (.f 75) [(.t 62), (.t 63)]), ia 8 (.mv (.t 64))]) (.seq (.seq (.reg [
  ia 65 (.mv (.t 2)), ia 66 (.bin .eql (.t 65) (ci 0))]) (.cond (.t 66) (.reg [
  ir 67 (.mv (.t 0)), ir 68 (.ld 2 true (.t 3)), ir 69 (.mv (.t 0)), ir 70 (.nck (.t 69)), ir 71 (.fad 12 (.t 70)), ir 72 (.ld 1 false (.t 71)), ir 73 (.call (.f 66) [(.t 72), (ci 1)]), ia 74 (.call (.f 90) [(.t 67), (.t 68), (.t 73)])]) (.reg [
  ir 75 (.mv (.t 0)), ir 76 (.ld 2 true (.t 3)), ir 77 (.mv (.t 4)), ir 78 (.ias 1 (.t 77) (ci 0)), ir 79 (.ld 1 false (.t 78)), ir 80 (.call (.f 66) [(.t 79), (ci 0)]), ia 81 (.call (.f 71) [(.t 75), (.t 76), (.t 80)])]))) Z)) e σ6 (RetS [] fun v σ' => v = .u ∧ SG ks (pickD n pl.alt a b) pl a b σ' ∧ Fr ks σ σ') := by
    intro e σ6 y e0 e2 e3 e4 e5 hy hS6 hF6
    obtain ⟨σ7, f, q7, hS7, hF7, hDC⟩ := aDrop_ok (l := l) hT1.ok (by omega) hT1.a0 hT1.a1 hS6 hy
    have hdx := dropN_Ok hT1.xa.lv
    obtain ⟨hOk2, o2, o3⟩ := likeR_Ok hT1.ok hdx l.length (by omega)
    have wds := likeR_wf hT1.ok hdx l.length (by omega)
    obtain ⟨⟨m2, ds⟩, hr2⟩ : ∃ r, likeR m1 (dropN (m1.nd a).lv) l.length = r := ⟨_, rfl⟩
    rw [hr2] at hS7 hDC hOk2 o3 wds hD
    simp only at hS7 hDC hOk2 o3 wds hD
    have b37 := hb2 (hF6.trans hF7)
    have hL47 := (hL45.fr hS5 hF6).fr hS6 hF7
    have u7 := hS7.bs
    simp only [stg, List.map_cons, List.map_nil] at u7
    have w1 : wfP ⟨a, (i : Int) + 2⟩ := hT.pa (by omega) (by omega)
    have w2 : wfP ⟨a, 1⟩ := hT.pa (by omega) (by omega)
    have fin : ∀ (m3 : Nt) (σ8 : St) (e : Env), m3.Ok → SG ks m3 pl a b σ8 → Fr ks σ7 σ8 → pickD n pl.alt a b = runs (runs m3 (pickOps a b 0 apps)) (dropOps l ds) → e 0 = .a (.ptr ks 0 0) → e 2 = .a (.p (.i .i64 (k : Nat))) → e 4 = .a v4 → e 8 = .a f →
        wp S false Z e σ8 (RetS [] fun v σ' => v = .u ∧ SG ks (pickD n pl.alt a b) pl a b σ' ∧ Fr ks σ σ') := by
      rw [← hZ]
      intro m3 σ8 e hm3 hS8 hF8 hD2 e0 e2 e4 e8
      have hL48 := hL47.fr hS7 hF8
      have hop : v4 = .nil ∧ apps.length = 0 ∨ ∃ r : Key, v4 = .own r 0 apps.length := by
        rcases hL48 with ⟨e1, e2⟩ | ⟨r, e1, _, _, _⟩
        · exact .inl ⟨e1, by rw [List.map_eq_nil_iff.1 e2]; rfl⟩
        · exact .inr ⟨r, by simpa using e1⟩
      rcases hop with ⟨rfl, ha0⟩ | ⟨r, rfl⟩
      all_goals
        simp only [e0, e2, e4, e8, fxa, fxc, fxE, fxL, fxI, nxE, evO, evR, cellsT, ldCells, mkT, lenA, binPV, Env.init, resV, resT, frT, klT, ownT, intT, O.adds, ownA, rowsA, over, wrOk, keysT, keysA, ne_eq, if_true, if_false, ite_self, Nat.reduceLT, Nat.reduceSub, Nat.reduceBEq, Nat.reduceEqDiff, Nat.reduceAdd, Nat.reduceLeDiff, reduceCtorEq, Nat.reduceMul]
        refine Go.Fx.wp_mono (pickLoop1 (n := n) hT hm3 hS8 hL48 wap (by omega) _ ?_ ?_ ?_ ?_ ?_ ?_) ?_
        all_goals first
          | (simp only [e0, e2, e4, lap, fxa, fxc, fxE, fxL, fxI, nxE, evO, evR, cellsT, ldCells, mkT, lenA, binPV, Env.init, resV, resT, frT, klT, ownT, intT, O.adds, ownA, rowsA, over, wrOk, keysT, keysA, ne_eq, if_true, if_false, ite_self, Nat.reduceLT, Nat.reduceSub, Nat.reduceBEq, Nat.reduceEqDiff, Nat.reduceAdd, Nat.reduceLeDiff, reduceCtorEq, Nat.reduceMul]; done)
          | (simp only [ha0, fxa, fxc, fxE, fxL, fxI, nxE, evO, evR, cellsT, ldCells, mkT, lenA, binPV, Env.init, resV, resT, frT, klT, ownT, intT, O.adds, ownA, rowsA, over, wrOk, keysT, keysA, ne_eq, if_true, if_false, ite_self, Nat.reduceLT, Nat.reduceSub, Nat.reduceBEq, Nat.reduceEqDiff, Nat.reduceAdd, Nat.reduceLeDiff, reduceCtorEq, Nat.reduceMul]; done)
          | skip
        rintro x e' σ9 ⟨rfl, g8, hS9, hF9, hm9⟩
        simp only [e8, fxa, fxc, fxE, fxL, fxI, nxE, evO, evR, cellsT, ldCells, mkT, lenA, binPV, Env.init, resV, resT, frT, klT, ownT, intT, O.adds, ownA, rowsA, over, wrOk, keysT, keysA, ne_eq, if_true, if_false, ite_self, Nat.reduceLT, Nat.reduceSub, Nat.reduceBEq, Nat.reduceEqDiff, Nat.reduceAdd, Nat.reduceLeDiff, reduceCtorEq, Nat.reduceMul] at g8
        obtain ⟨k0, k1, k2, σ10, rfl, q10, hS10, hF10⟩ := aCall_ok hm9 wl wds (by omega) (by omega) hS9 (hDC.fr hS7 (hF8.trans hF9))
        simp only [g8, q10, fxa, fxc, fxE, fxL, fxI, nxE, evO, evR, cellsT, ldCells, mkT, lenA, binPV, Env.init, resV, resT, frT, klT, ownT, intT, O.adds, ownA, rowsA, over, wrOk, keysT, keysA, ne_eq, if_true, if_false, ite_self, Nat.reduceLT, Nat.reduceSub, Nat.reduceBEq, Nat.reduceEqDiff, Nat.reduceAdd, Nat.reduceLeDiff, reduceCtorEq, Nat.reduceMul]
        exact ⟨by rw [hD2]; exact hS10, hF05.trans (hF6.trans (hF7.trans (hF8.trans (hF9.trans hF10))))⟩
    rcases apps with _ | ⟨d, r⟩
    · have hk00 : (((k : Nat) : Int) = 0) = True := by have : k = 0 := lap.symm; rw [this]; simp
      obtain ⟨σ8, q8, hS8, hF8⟩ := aJoin_ok (p := ⟨a, (i : Int) + 2⟩) (q := ⟨a, 1⟩) hOk2 w1 w2 hS7
      simp only [e0, e2, e3, e4, e5, q7, b37, u7, hk00, p2, q8, evI_cl, clOk, ldKeeps, ldKeeps1, iasKeeps, rowK, nwKeeps, sameC, sameL, sameA, sameP, decide_true, frA_ptr, capsOf, fxa, fxc, fxE, fxL, fxI, nxE, evO, evR, cellsT, ldCells, mkT, lenA, binPV, Env.init, resV, resT, frT, klT, ownT, intT, O.adds, ownA, rowsA, over, wrOk, keysT, keysA, ne_eq, if_true, if_false, ite_self, Nat.reduceLT, Nat.reduceSub, Nat.reduceBEq, Nat.reduceEqDiff, Nat.reduceAdd, Nat.reduceLeDiff, reduceCtorEq, Nat.reduceMul]
      exact fin _ _ _ (joinR_Ok hOk2 w1 w2) hS8 hF8 hD (by simp only [e0, fxa, fxc, fxE, fxL, fxI, nxE, evO, evR, cellsT, ldCells, mkT, lenA, binPV, Env.init, resV, resT, frT, klT, ownT, intT, O.adds, ownA, rowsA, over, wrOk, keysT, keysA, ne_eq, if_true, if_false, ite_self, Nat.reduceLT, Nat.reduceSub, Nat.reduceBEq, Nat.reduceEqDiff, Nat.reduceAdd, Nat.reduceLeDiff, reduceCtorEq, Nat.reduceMul]) (by simp only [e2, fxa, fxc, fxE, fxL, fxI, nxE, evO, evR, cellsT, ldCells, mkT, lenA, binPV, Env.init, resV, resT, frT, klT, ownT, intT, O.adds, ownA, rowsA, over, wrOk, keysT, keysA, ne_eq, if_true, if_false, ite_self, Nat.reduceLT, Nat.reduceSub, Nat.reduceBEq, Nat.reduceEqDiff, Nat.reduceAdd, Nat.reduceLeDiff, reduceCtorEq, Nat.reduceMul]) (by simp only [e4, fxa, fxc, fxE, fxL, fxI, nxE, evO, evR, cellsT, ldCells, mkT, lenA, binPV, Env.init, resV, resT, frT, klT, ownT, intT, O.adds, ownA, rowsA, over, wrOk, keysT, keysA, ne_eq, if_true, if_false, ite_self, Nat.reduceLT, Nat.reduceSub, Nat.reduceBEq, Nat.reduceEqDiff, Nat.reduceAdd, Nat.reduceLeDiff, reduceCtorEq, Nat.reduceMul]) (by simp only [fxa, fxc, fxE, fxL, fxI, nxE, evO, evR, cellsT, ldCells, mkT, lenA, binPV, Env.init, resV, resT, frT, klT, ownT, intT, O.adds, ownA, rowsA, over, wrOk, keysT, keysA, ne_eq, if_true, if_false, ite_self, Nat.reduceLT, Nat.reduceSub, Nat.reduceBEq, Nat.reduceEqDiff, Nat.reduceAdd, Nat.reduceLeDiff, reduceCtorEq, Nat.reduceMul])
    · have hk00 : (((k : Nat) : Int) = 0) = False := by have : r.length + 1 = k := lap; simp; omega
      have wd := wap d (by simp)
      have p5 := port_ok d 0
      obtain ⟨σ8, q8, hS8, hF8⟩ := aMove_ok (p := ⟨a, (i : Int) + 2⟩) (q := ⟨d, 0⟩) hOk2 w1 ⟨wd, wf_0⟩ hS7
      obtain ⟨r4, rfl, s4⟩ : ∃ r4 : Key, v4 = .own r4 0 (r.length + 1) ∧ σ7.bs r4 = some (.row 1 3 ([.i .i64 d] :: r.map encI)) := by
        rcases hL47 with ⟨_, e2⟩ | ⟨r4, e1, e2, _, _⟩
        · simp at e2
        · exact ⟨r4, by simpa using e1, e2⟩
      have hlt0 : (0 : Int) < ((r.length + 1 : Nat) : Int) := by omega
      simp only [e0, e2, e3, e4, e5, q7, b37, u7, s4, hlt0, hk00, p5, q8, Int.toNat_zero, Int.reduceLE, Int.le_refl, evI_cl, clOk, ldKeeps, ldKeeps1, iasKeeps, rowK, nwKeeps, sameC, sameL, sameA, sameP, decide_true, frA_ptr, capsOf, fxa, fxc, fxE, fxL, fxI, nxE, evO, evR, cellsT, ldCells, mkT, lenA, binPV, Env.init, resV, resT, frT, klT, ownT, intT, O.adds, ownA, rowsA, over, wrOk, keysT, keysA, ne_eq, if_true, if_false, ite_self, Nat.reduceLT, Nat.reduceSub, Nat.reduceBEq, Nat.reduceEqDiff, Nat.reduceAdd, Nat.reduceLeDiff, reduceCtorEq, Nat.reduceMul]
      exact fin _ _ _ (moveR_Ok hOk2 w1 ⟨wd, wf_0⟩) hS8 hF8 hD (by simp only [e0, fxa, fxc, fxE, fxL, fxI, nxE, evO, evR, cellsT, ldCells, mkT, lenA, binPV, Env.init, resV, resT, frT, klT, ownT, intT, O.adds, ownA, rowsA, over, wrOk, keysT, keysA, ne_eq, if_true, if_false, ite_self, Nat.reduceLT, Nat.reduceSub, Nat.reduceBEq, Nat.reduceEqDiff, Nat.reduceAdd, Nat.reduceLeDiff, reduceCtorEq, Nat.reduceMul]) (by simp only [e2, fxa, fxc, fxE, fxL, fxI, nxE, evO, evR, cellsT, ldCells, mkT, lenA, binPV, Env.init, resV, resT, frT, klT, ownT, intT, O.adds, ownA, rowsA, over, wrOk, keysT, keysA, ne_eq, if_true, if_false, ite_self, Nat.reduceLT, Nat.reduceSub, Nat.reduceBEq, Nat.reduceEqDiff, Nat.reduceAdd, Nat.reduceLeDiff, reduceCtorEq, Nat.reduceMul]) (by simp only [e4, fxa, fxc, fxE, fxL, fxI, nxE, evO, evR, cellsT, ldCells, mkT, lenA, binPV, Env.init, resV, resT, frT, klT, ownT, intT, O.adds, ownA, rowsA, over, wrOk, keysT, keysA, ne_eq, if_true, if_false, ite_self, Nat.reduceLT, Nat.reduceSub, Nat.reduceBEq, Nat.reduceEqDiff, Nat.reduceAdd, Nat.reduceLeDiff, reduceCtorEq, Nat.reduceMul]) (by simp only [fxa, fxc, fxE, fxL, fxI, nxE, evO, evR, cellsT, ldCells, mkT, lenA, binPV, Env.init, resV, resT, frT, klT, ownT, intT, O.adds, ownA, rowsA, over, wrOk, keysT, keysA, ne_eq, if_true, if_false, ite_self, Nat.reduceLT, Nat.reduceSub, Nat.reduceBEq, Nat.reduceEqDiff, Nat.reduceAdd, Nat.reduceLeDiff, reduceCtorEq, Nat.reduceMul])
  have hln : v5 = .nil ∧ l0.length = 0 ∨ ∃ q : Key, v5 = .own q 0 l0.length := by
    rcases hL5 with ⟨e1, e2⟩ | ⟨r, e1, _, _, _⟩
    · exact .inl ⟨e1, by rw [List.map_eq_nil_iff.1 e2]; rfl⟩
    · exact .inr ⟨r, by simpa using e1⟩
  rcases hln with ⟨rfl, hn0⟩ | ⟨q, rfl⟩
  all_goals
    simp only [F69, hc, s0, u0, u1, u3, u4, ← hσ0, ← hσ2, b3, b31, b32, q1, q3, q4, q5, gA, hge, hlti, hw, hk, p1, allA, Int.toNat_natCast, List.length_map, evI_cl, clOk, ldKeeps, ldKeeps1, iasKeeps, rowK, nwKeeps, sameC, sameL, sameA, sameP, decide_true, frA_ptr, capsOf, fxa, fxc, fxE, fxL, fxI, nxE, evO, evR, cellsT, ldCells, mkT, lenA, binPV, Env.init, resV, resT, frT, klT, ownT, intT, O.adds, ownA, rowsA, over, wrOk, keysT, keysA, ne_eq, if_true, if_false, ite_self, Nat.reduceLT, Nat.reduceSub, Nat.reduceBEq, Nat.reduceEqDiff, Nat.reduceAdd, Nat.reduceLeDiff, reduceCtorEq, Nat.reduceMul]
    refine Go.Fx.wp_mono (pickLoop0 (q := ⟨a, (i : Int) + 2⟩) (kq := (3, c)) hS5 b35 hc5 hL5 (by omega) _ ?_ ?_ ?_ ?_ ?_) ?_
    all_goals first
      | (simp only [fxa, fxc, fxE, fxL, fxI, nxE, evO, evR, cellsT, ldCells, mkT, lenA, binPV, Env.init, resV, resT, frT, klT, ownT, intT, O.adds, ownA, rowsA, over, wrOk, keysT, keysA, ne_eq, if_true, if_false, ite_self, Nat.reduceLT, Nat.reduceSub, Nat.reduceBEq, Nat.reduceEqDiff, Nat.reduceAdd, Nat.reduceLeDiff, reduceCtorEq, Nat.reduceMul]; done)
      | (simp only [hn0, fxa, fxc, fxE, fxL, fxI, nxE, evO, evR, cellsT, ldCells, mkT, lenA, binPV, Env.init, resV, resT, frT, klT, ownT, intT, O.adds, ownA, rowsA, over, wrOk, keysT, keysA, ne_eq, if_true, if_false, ite_self, Nat.reduceLT, Nat.reduceSub, Nat.reduceBEq, Nat.reduceEqDiff, Nat.reduceAdd, Nat.reduceLeDiff, reduceCtorEq, Nat.reduceMul]; done)
      | skip
    rintro x e' σ6 ⟨rfl, ⟨y, g5, hy⟩, g0, g2, g3, g4, hS6, hF6⟩
    simp only [fxa, fxc, fxE, fxL, fxI, nxE, evO, evR, cellsT, ldCells, mkT, lenA, binPV, Env.init, resV, resT, frT, klT, ownT, intT, O.adds, ownA, rowsA, over, wrOk, keysT, keysA, ne_eq, if_true, if_false, ite_self, Nat.reduceLT, Nat.reduceSub, Nat.reduceBEq, Nat.reduceEqDiff, Nat.reduceAdd, Nat.reduceLeDiff, reduceCtorEq, Nat.reduceMul] at g0 g2 g3 g4
    rw [hl2] at hy
    simp only [blkQ_exit, if_true, seqQ_norm, hZ]
    exact rest e' σ6 y g0 g2 g3 g4 g5 hy hS6 hF6
end Go.Proofs.Ytomcceambpneiaa
