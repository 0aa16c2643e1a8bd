/- The stage: what is done in order; what drops. -/
import Derived.Test.YtomcceambpneiaaAct1
set_option linter.unusedSimpArgs false
set_option linter.unusedVariables false
set_option maxHeartbeats 4000000
set_option maxRecDepth 10000
namespace Go.Proofs.Ytomcceambpneiaa
open Go.Fx

theorem evI_cl {S : Seat} (d : Option Nat) (o : O) (ys : List (Nat × Nat)) (ns : List Nat) (e : Env) (σ : St) : evI (eP S) (eS S) S.sp ⟨d, none, o, .cl ys ns⟩ e σ = (evO (eP S) (eS S) S.sp d e σ o).bind fun x => if clOk e σ x.2 ys ns = true then some (e.putD d x.1, x.2) else none := rfl

theorem aDrops_ok {ks k0 k1 k2 : Key} {n : Nt} {pl : Pl} {a b : Int} {l : List Pt} {ds : List Int} {lv dv : AV} {c0 c1 : Nat} {σ : St} (hn : n.Ok) (hl : ∀ p ∈ l, wfP p) (hd : ∀ d ∈ ds, wf d) (hld : l.length ≤ ds.length) (hlb : l.length ≤ 1000000000)
    (h : SG ks n pl a b σ) (s0 : σ.bs k0 = some (.var [lv])) (s1 : σ.bs k1 = some (.var [.ptr ks 0 0])) (s2 : σ.bs k2 = some (.var [dv])) (h0 : k0.2 < σ.clk) (h1 : k1.2 < σ.clk) (h2 : k2.2 < σ.clk)
    (hL : SL c0 2 58 (l.map encP) lv σ) (hD : SL c1 1 3 (ds.map encI) dv σ) :
    ∃ σ', eS S (.f 97) [.a (.ptr k0 0 0), .a (.ptr k1 0 0), .a (.ptr k2 0 0)] σ = some (.u, σ') ∧ SG ks (runs n (dropOps l ds)) pl a b σ' ∧ Fr ks σ σ' := by
  have hz : (dropOps l ds).length = l.length := by unfold dropOps; rw [List.length_zipWith]; omega
  have ne : ∀ {k : Key} {v : AV}, σ.bs k = some (.var [v]) → k ≠ ks := by
    rintro k v hk rfl; rw [h.bs] at hk; simp [stg] at hk
  refine x_fnR (fc := F97) rfl rfl ?_
  have hopn : ∃ cv : Nat, (lv = .nil ∧ l = [] ∨ ∃ q : Key, lv = .own q 0 l.length ∧ σ.bs q = some (.row 2 58 (l.map encP)) ∧ q.2 < σ.clk) := ⟨0, by
    rcases hL with ⟨e1, e2⟩ | ⟨q, e1, e2, e3, e4⟩
    · exact .inl ⟨e1, List.map_eq_nil_iff.1 e2⟩
    · exact .inr ⟨q, by simpa using e1, e2, e4⟩⟩
  obtain ⟨_, hlv⟩ := hopn
  have go : ∀ (e : Env), e 0 = .a (.ptr k0 0 0) → e 1 = .a (.ptr k1 0 0) → e 2 = .a (.ptr k2 0 0) → e 5 = .a lv → e 6 = .a (.p (.i .i64 (l.length : Nat))) → e 7 = .a (.p (.i .i64 0)) →
      wp S false (.loop F97b0) e σ (fun x e' σ' => x = .exit 0 ∧ SG ks (runs n (dropOps l ds)) pl a b σ' ∧ Fr ks σ σ') := by
    intro e e0 e1 e2 e5 e6 e7
    refine loop_nat l.length (fun k e τ => e 0 = .a (.ptr k0 0 0) ∧ e 1 = .a (.ptr k1 0 0) ∧ e 2 = .a (.ptr k2 0 0) ∧ e 5 = .a lv ∧ e 6 = .a (.p (.i .i64 (l.length : Nat))) ∧ e 7 = .a (.p (.i .i64 (k : Nat))) ∧ SG ks (runs n ((dropOps l ds).take k)) pl a b τ ∧ Fr ks σ τ) (i0 := 0) (Nat.zero_le _) ⟨e0, e1, e2, e5, e6, e7, h, Fr.refl ks σ⟩ ?_ ?_
    · rintro k e τ hk ⟨e0, e1, e2, e5, e6, e7, hS, hF⟩
      obtain ⟨p, hp⟩ : ∃ p, l[k]? = some p := ⟨_, List.getElem?_eq_getElem hk⟩
      obtain ⟨d, hdk⟩ : ∃ d, ds[k]? = some d := ⟨_, List.getElem?_eq_getElem (by omega)⟩
      have hp' := mapGet encP hp
      have hd' := mapGet encI hdk
      have hlt : ((k : Nat) : Int) < (l.length : Int) := by omega
      have hge : (0 : Int) ≤ ((k : Nat) : Int) := by omega
      have hltd : ((k : Nat) : Int) < (ds.length : Int) := by omega
      have htk : (dropOps l ds).take (k + 1) = (dropOps l ds).take k ++ [.mv p ⟨d, 0⟩] := by
        have : (dropOps l ds)[k]? = some (.mv p ⟨d, 0⟩) := by unfold dropOps; rw [List.getElem?_zipWith, hp, hdk]
        rw [List.take_add_one, this]; rfl
      have wo : ∀ o ∈ (dropOps l ds).take k, o.wf := by
        intro o ho
        have := List.mem_of_mem_take ho
        unfold dropOps at this
        obtain ⟨i, hi⟩ := List.getElem?_of_mem this
        rw [List.getElem?_zipWith] at hi
        split at hi
        · rename_i p' d' h1 h2
          rw [← Option.some.inj hi]
          exact ⟨hl _ (List.mem_of_getElem? h1), hd _ (List.mem_of_getElem? h2), by show wf 0; decide⟩
        · cases hi
      rw [htk, runs_one]
      have hOk := runs_Ok hn wo
      obtain ⟨q, rfl, q2, q3⟩ : ∃ q : Key, lv = .own q 0 l.length ∧ σ.bs q = some (.row 2 58 (l.map encP)) ∧ q.2 < σ.clk := by
        rcases hlv with ⟨_, e⟩ | h
        · rw [e] at hk; simp at hk
        · exact h
      obtain ⟨r, rfl, r2, r3, r4⟩ : ∃ r : Key, dv = .own r 0 ds.length ∧ σ.bs r = some (.row 1 3 (ds.map encI)) ∧ c1 ≤ r.2 ∧ r.2 < σ.clk := by
        rcases hD with ⟨_, e⟩ | ⟨r, g1, g2, g3, g4⟩
        · rw [List.map_eq_nil_iff.1 e] at hltd; simp at hltd; omega
        · exact ⟨r, by simpa using g1, g2, g3, g4⟩
      have nq : q ≠ ks := by rintro rfl; rw [h.bs] at q2; cases q2
      have nr : r ≠ ks := by rintro rfl; rw [h.bs] at r2; cases r2
      have t0 := (hF.bs k0 h0 (ne s0)).trans s0
      have t1 := (hF.bs k1 h1 (ne s1)).trans s1
      have t2 := (hF.bs k2 h2 (ne s2)).trans s2
      have tq := (hF.bs q q3 nq).trans q2
      have tr := (hF.bs r r4 nr).trans r2
      have hcl := hF.clk
      obtain ⟨b0, hb0⟩ : ∃ b0, b0 = Blk.var [.p (.i .i64 p.n), .p (.i .i64 p.s)] := ⟨_, rfl⟩
      have nn : ∀ {k : Key}, k.2 < σ.clk → ∀ d, ¬ k = (d, τ.clk) := by rintro k hk d rfl; simp at hk; omega
      have wp0 := hl p (List.mem_of_getElem? hp)
      have wd0 := hd d (List.mem_of_getElem? hdk)
      obtain ⟨τ', c3, hS', hF'⟩ := aMove_ok (p := p) (q := ⟨d, 0⟩) hOk wp0 ⟨wd0, by show wf 0; decide⟩ ((hS.add 4 (.var [.p (.i .i64 0), .p (.i .i64 0)])).put (k := (4, τ.clk)) (by intro e; have := hS.lt; rw [e] at this; simp at this) (Blk.var [.p (.i .i64 p.n), .p (.i .i64 p.s)]))
      have c4 := port_ok d 0
      have hF2 := (((hF.add 4 (.var [.p (.i .i64 0), .p (.i .i64 0)])).put (k := (4, τ.clk)) (.inr hcl) (Blk.var [.p (.i .i64 p.n), .p (.i .i64 p.s)]))).trans hF'
      simp only [encP] at hp'
      simp only [encI] at hd'
      simp only [F97b0, e0, e1, e2, e5, e6, e7, t0, t1, t2, tq, tr, hlt, hge, hltd, hp', hd', c3, c4, nn h0, nn h1, nn h2, nn q3, nn r4, frA_ptr, rowK, encP, encI, List.length_map, Int.toNat_natCast, Nat.zero_add, fxa, fxc, fxE, fxL, fxI, nxE, evO, evR, cellsT, ldCells, mkT, lenA, binPV, Env.init, resV, resT, frT, klT, ownT, intT, O.adds, ownA, rowsA, over, wrOk, keysT, keysA, ne_eq, if_true, if_false, ite_self, Nat.reduceLT, Nat.reduceSub, Nat.reduceBEq, Nat.reduceEqDiff, Nat.reduceAdd, Nat.reduceLeDiff, reduceCtorEq, Nat.reduceMul]
      exact ⟨by rw [wrap_succ k (by omega)], hS', hF2⟩
    · rintro e τ ⟨e0, e1, e2, e5, e6, e7, hS, hF⟩
      have hlt : ¬ ((l.length : Nat) : Int) < (l.length : Int) := by omega
      rw [← hz, List.take_length] at hS
      simp only [F97b0, e0, e1, e2, e5, e6, e7, hlt, fxa, fxc, fxE, fxL, fxI, nxE, evO, evR, cellsT, ldCells, mkT, lenA, binPV, Env.init, resV, resT, frT, klT, ownT, intT, O.adds, ownA, rowsA, over, wrOk, keysT, keysA, ne_eq, if_true, if_false, ite_self, Nat.reduceLT, Nat.reduceSub, Nat.reduceBEq, Nat.reduceEqDiff, Nat.reduceAdd, Nat.reduceLeDiff, reduceCtorEq, Nat.reduceMul]
      exact ⟨hS, hF⟩
  rcases hlv with ⟨rfl, rfl⟩ | ⟨q, rfl, q2, q3⟩
  all_goals
    simp only [F97, s0, fxa, fxc, fxE, fxL, fxI, nxE, evO, evR, cellsT, ldCells, mkT, lenA, binPV, Env.init, resV, resT, frT, klT, ownT, intT, O.adds, ownA, rowsA, over, wrOk, keysT, keysA, ne_eq, if_true, if_false, ite_self, Nat.reduceLT, Nat.reduceSub, Nat.reduceBEq, Nat.reduceEqDiff, Nat.reduceAdd, Nat.reduceLeDiff, reduceCtorEq, Nat.reduceMul]
    refine Go.Fx.wp_mono (go _ ?_ ?_ ?_ ?_ ?_ ?_) ?_
    all_goals first
      | (simp only [fxa, fxc, fxE, fxL, fxI, nxE, evO, evR, cellsT, ldCells, mkT, lenA, binPV, Env.init, resV, resT, frT, klT, ownT, intT, O.adds, ownA, rowsA, over, wrOk, keysT, keysA, ne_eq, if_true, if_false, ite_self, Nat.reduceLT, Nat.reduceSub, Nat.reduceBEq, Nat.reduceEqDiff, Nat.reduceAdd, Nat.reduceLeDiff, reduceCtorEq, Nat.reduceMul]; done)
      | (simp only [List.length_nil, fxa, fxc, fxE, fxL, fxI, nxE, evO, evR, cellsT, ldCells, mkT, lenA, binPV, Env.init, resV, resT, frT, klT, ownT, intT, O.adds, ownA, rowsA, over, wrOk, keysT, keysA, ne_eq, if_true, if_false, ite_self, Nat.reduceLT, Nat.reduceSub, Nat.reduceBEq, Nat.reduceEqDiff, Nat.reduceAdd, Nat.reduceLeDiff, reduceCtorEq, Nat.reduceMul]; done)
      | (rintro x e' σ' ⟨rfl, g1, g2⟩; simp only [fxa, fxc, fxE, fxL, fxI, nxE, evO, evR, cellsT, ldCells, mkT, lenA, binPV, Env.init, resV, resT, frT, klT, ownT, intT, O.adds, ownA, rowsA, over, wrOk, keysT, keysA, ne_eq, if_true, if_false, ite_self, Nat.reduceLT, Nat.reduceSub, Nat.reduceBEq, Nat.reduceEqDiff, Nat.reduceAdd, Nat.reduceLeDiff, reduceCtorEq, Nat.reduceMul]; exact ⟨g1, g2⟩)

theorem SL.weak {c0 w : Nat} {t : TypeId} {rows : List (List PV)} {v : AV} {σ : St} (h : SL c0 w t rows v σ) : SL 0 w t rows v σ := by
  rcases h with h | ⟨k, h1, h2, h3, h4⟩
  · exact .inl h
  · exact .inr ⟨k, h1, h2, Nat.zero_le _, h4⟩
theorem SL.put {c0 w : Nat} {t : TypeId} {rows : List (List PV)} {v : AV} {σ : St} (h : SL c0 w t rows v σ) {k : Key} {cs : List AV} (hk : σ.bs k = some (.var cs)) (b : Blk) : SL c0 w t rows v (σ.put k b) := by
  rcases h with h | ⟨q, h1, h2, h3, h4⟩
  · exact .inl h
  · have : ¬ q = k := by rintro rfl; rw [hk] at h2; cases h2
    exact .inr ⟨q, h1, by simp only [put_bs, this, if_false]; exact h2, h3, h4⟩
/-- what moves ports to what drops: a function with its memory -/
structure DropC (ks : Key) (l : List Pt) (ds : List Int) (f : AV) (σ : St) : Prop where
  ex : ∃ (k0 k1 k2 : Key) (lv dv : AV), f = .fn 97 [k0, k1, k2] ∧ σ.bs k0 = some (.var [lv]) ∧ σ.bs k1 = some (.var [.ptr ks 0 0]) ∧ σ.bs k2 = some (.var [dv]) ∧ k0.2 < σ.clk ∧ k1.2 < σ.clk ∧ k2.2 < σ.clk ∧
    SL 0 2 58 (l.map encP) lv σ ∧ SL 0 1 3 (ds.map encI) dv σ
theorem DropC.fr {ks : Key} {l : List Pt} {ds : List Int} {f : AV} {σ τ : St} {n : Nt} {pl : Pl} {a b : Int} (h : DropC ks l ds f σ) (hs : SG ks n pl a b σ) (hf : Fr ks σ τ) : DropC ks l ds f τ := by
  obtain ⟨k0, k1, k2, lv, dv, e1, e2, e3, e4, e5, e6, e7, e8, e9⟩ := h.ex
  have ne : ∀ {k : Key} {v : AV}, σ.bs k = some (.var [v]) → k ≠ ks := by
    rintro k v hk rfl; rw [hs.bs] at hk; simp [stg] at hk
  have hc := hf.clk
  exact ⟨k0, k1, k2, lv, dv, e1, (hf.bs k0 e5 (ne e2)).trans e2, (hf.bs k1 e6 (ne e3)).trans e3, (hf.bs k2 e7 (ne e4)).trans e4, by omega, by omega, by omega, e8.fr hs hf, e9.fr hs hf⟩

theorem aDrop_ok {ks : Key} {n : Nt} {pl : Pl} {a b : Int} {l : List Pt} {lv : AV} {c0 : Nat} {σ : St} (hn : n.Ok) (hb : (n.ns.length + l.length) * 88 + 88 ≤ 140737488355328) (h0 : 0 ≤ a) (h1 : a < n.ns.length) (h : SG ks n pl a b σ)
    (hL : SL c0 2 58 (l.map encP) lv σ) :
    ∃ σ' f, eS S (.f 75) [.a (.ptr ks 0 0), .a lv] σ = some (.a f, σ') ∧ SG ks (likeR n (dropN (n.nd a).lv) l.length).1 pl a b σ' ∧ Fr ks σ σ' ∧ DropC ks l (likeR n (dropN (n.nd a).lv) l.length).2 f σ' := by
  obtain ⟨c, hc⟩ : ∃ c, σ.clk = c := ⟨_, rfl⟩
  have hnd := hn.nd _ (nd_mem h0 h1)
  have hx := dropN_Ok hnd.lv
  obtain ⟨z, hz⟩ : ∃ z, (n.nd a).lv = z := ⟨_, rfl⟩
  rw [hz] at hx ⊢
  obtain ⟨σ1, hσ1⟩ : ∃ σ1, σ1 = ((σ.add 2 (.var [.ptr ks 0 0])).add 3 (.var [lv])).add 5 (.var [.nil]) := ⟨_, rfl⟩
  have hS1 : SG ks n pl a b σ1 := by rw [hσ1]; exact ((h.add _ _).add _ _).add _ _
  have hF1 : Fr ks σ σ1 := by rw [hσ1]; exact (((Fr.refl ks σ).add _ _).add _ _).add _ _
  have hL1 := hL.fr h hF1
  have hcl1 : σ1.clk = c + 3 := by rw [hσ1]; simp only [add_clk]; omega
  have b2 : σ1.bs (2, c) = some (.var [.ptr ks 0 0]) := by rw [hσ1]; simp [add_bs, add_clk, hc]
  have b3 : σ1.bs (3, c + 1) = some (.var [lv]) := by rw [hσ1]; simp [add_bs, add_clk, hc]
  have b5 : σ1.bs (5, c + 1 + 1) = some (.var [.nil]) := by rw [hσ1]; simp [add_bs, add_clk, hc]
  obtain ⟨σ2, q1, hS2, hF2⟩ := aLevel_ok h0 h1 hS1
  rw [hz] at q1
  have hL2 := hL1.fr hS1 hF2
  have ne : ∀ {d e : Nat}, e = c ∨ e = c + 1 ∨ e = c + 1 + 1 → (d, e) ≠ ks := by rintro d e he rfl; have := h.lt; simp at this; omega
  have b2' := (hF2.bs (2, c) (by simp only; omega) (ne (.inl rfl))).trans b2
  have b3' := (hF2.bs (3, c + 1) (by simp only; omega) (ne (.inr (.inl rfl)))).trans b3
  have b5' := (hF2.bs (5, c + 1 + 1) (by simp only; omega) (ne (.inr (.inr rfl)))).trans b5
  obtain ⟨σ3, v, q2, hS3, hF3, hD⟩ := aLike_ok (m := l.length) hn hx NC.nil NC.nil hb hS2
  have hL3 := hL2.fr hS2 hF3
  have hc2 := hF2.clk
  have hc3 := hF3.clk
  have b2'' := (hF3.bs (2, c) (by simp only; omega) (ne (.inl rfl))).trans b2'
  have b3'' := (hF3.bs (3, c + 1) (by simp only; omega) (ne (.inr (.inl rfl)))).trans b3'
  have b5'' := (hF3.bs (5, c + 1 + 1) (by simp only; omega) (ne (.inr (.inr rfl)))).trans b5'
  have key : ∃ w σ', eS S (.f 75) [.a (.ptr ks 0 0), .a lv] σ = some (w, σ') ∧ ∃ f, w = .a f ∧ SG ks (likeR n (dropN z) l.length).1 pl a b σ' ∧ Fr ks σ σ' ∧ DropC ks l (likeR n (dropN z) l.length).2 f σ' := by
    refine x_fnS (fc := F75) rfl rfl ?_
    have hF4 := (hF1.trans hF2).trans hF3
    have fin : ∃ f, TV.a (AV.fn 97 [(3, c + 1), (2, c), (5, c + 1 + 1)]) = TV.a f ∧ SG ks (likeR n (dropN z) l.length).1 pl a b (σ3.put (5, c + 1 + 1) (.var [v])) ∧ Fr ks σ (σ3.put (5, c + 1 + 1) (.var [v])) ∧
        DropC ks l (likeR n (dropN z) l.length).2 f (σ3.put (5, c + 1 + 1) (.var [v])) := by
      refine ⟨_, rfl, hS3.put (by intro e; exact ne (.inr (.inr rfl)) e.symm) _, hF4.put (.inr (by simp only; omega)) _, (3, c + 1), (2, c), (5, c + 1 + 1), lv, v, rfl, ?_, ?_, ?_, ?_, ?_, ?_, (hL3.put b5'' _).weak, (hD.put b5'' _).weak⟩
      · simp [put_bs, b3'']
      · simp [put_bs, b2'']
      · simp [put_bs]
      all_goals simp only [put_clk]; omega
    rcases hL2 with ⟨rfl, r2⟩ | ⟨q, rfl, r2, r3, r4⟩
    · have hl0 : l = [] := List.map_eq_nil_iff.1 r2
      subst hl0
      simp only [List.length_nil, dropN] at q2
      simp only [F75, hc, ← hσ1, b2, b3, b5, b2', b3', b5', b5'', q1, q2, evI_cl, clOk, ldKeeps, ldKeeps1, iasKeeps, rowK, nwKeeps, sameC, sameL, sameA, sameP, decide_true, frA_ptr, capsOf, fxa, fxc, fxE, fxL, fxI, nxE, evO, evR, cellsT, ldCells, mkT, lenA, binPV, Env.init, resV, resT, frT, klT, ownT, intT, O.adds, ownA, rowsA, over, wrOk, keysT, keysA, ne_eq, if_true, if_false, ite_self, Nat.reduceLT, Nat.reduceSub, Nat.reduceBEq, Nat.reduceEqDiff, Nat.reduceAdd, Nat.reduceLeDiff, reduceCtorEq, Nat.reduceMul]
      exact fin
    · simp only [List.length_map, dropN] at q2 hσ1 b3 b3'
      simp only [F75, hc, ← hσ1, b2, b3, b5, b2', b3', b5', b5'', q1, q2, List.length_map, evI_cl, clOk, ldKeeps, ldKeeps1, iasKeeps, rowK, nwKeeps, sameC, sameL, sameA, sameP, decide_true, frA_ptr, capsOf, fxa, fxc, fxE, fxL, fxI, nxE, evO, evR, cellsT, ldCells, mkT, lenA, binPV, Env.init, resV, resT, frT, klT, ownT, intT, O.adds, ownA, rowsA, over, wrOk, keysT, keysA, ne_eq, if_true, if_false, ite_self, Nat.reduceLT, Nat.reduceSub, Nat.reduceBEq, Nat.reduceEqDiff, Nat.reduceAdd, Nat.reduceLeDiff, reduceCtorEq, Nat.reduceMul]
      exact fin
  obtain ⟨_, σ', g1, f, rfl, g2, g3, g4⟩ := key
  exact ⟨σ', f, g1, g2, g3, g4⟩
end Go.Proofs.Ytomcceambpneiaa
