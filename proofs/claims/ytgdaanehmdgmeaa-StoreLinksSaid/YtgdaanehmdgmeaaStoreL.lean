/- The law StoreLinks, as the evaluator has it. -/
import Derived.Test.YtgdaanehmdgmeaaStoreF
import Derived.Test.YtgdaanehmdgmeaaRef1
import Derived.Test.YtgdaanehmdgmeaaWireP
set_option linter.unusedSimpArgs false
set_option linter.unusedVariables false
set_option maxHeartbeats 4000000
set_option maxRecDepth 10000
namespace Go.Proofs.Ytgdaanehmdgmeaa
open Go.Fx

theorem good_no_k {n : Nt} (hG : n.Good) {i j : Nat} {x : Nd} {q : Pt} (hx : n.ns[i]? = some x) (hq : x.to[j]? = some q) : x.k ≠ 0 := by
  intro h
  have h1 := hG.nds i x hx
  have h2 := free_zN h1.1 h1.2.1 h
  rw [h2] at hq; simp [zN] at hq

/-- a node of a net that may be, but for places that were free, is there still when another one is freed -/
theorem free_get {n : Nt} {i m : Nat} {x : Nd} (hx : n.ns[m]? = some x) (hm : m ≠ i) (hk : x.k ≠ 0) : (n.free (i : Int)).ns[m]? = some x := by
  have hset : (n.ns.set (i : Int).toNat zN)[m]? = some x := by rw [Int.toNat_natCast, List.getElem?_set_ne (Ne.symm hm)]; exact hx
  have hlt : m < (trim (n.ns.set (i : Int).toNat zN)).length := by
    rw [trim_len]
    by_cases h : m < tl (n.ns.set (i : Int).toNat zN) (n.ns.set (i : Int).toNat zN).length
    · exact h
    · exfalso
      apply hk
      have := tl_free (n.ns.set (i : Int).toNat zN) _ m (by omega) ((List.getElem?_eq_some_iff.1 hset).1)
      rw [getD_of hset] at this; exact this
  show (trim (n.ns.set (i : Int).toNat zN))[m]? = some x
  rw [trim_get hlt]; exact hset
theorem free_get_inv {n : Nt} {i m : Nat} {x : Nd} (hx : (n.free (i : Int)).ns[m]? = some x) : (m = i ∧ x = zN) ∨ (m ≠ i ∧ n.ns[m]? = some x) := by
  have h1 := (List.getElem?_eq_some_iff.1 hx).1
  have h2 : (trim (n.ns.set (i : Int).toNat zN))[m]? = some x := hx
  rw [trim_get h1, Int.toNat_natCast] at h2
  by_cases h : m = i
  · subst h
    rw [List.getElem?_set] at h2
    rw [if_pos rfl] at h2
    split at h2
    · exact .inl ⟨rfl, (Option.some.inj h2).symm⟩
    · cases h2
  · rw [List.getElem?_set_ne (Ne.symm h)] at h2; exact .inr ⟨h, h2⟩

theorem freed_good {n : Nt} (hG : n.Good) {i : Nat} {x : Nd} (hx : n.ns[i]? = some x) (hp : x.to ≠ []) :
    (n.free (i : Int)).Good ↔ (∀ (j : Nat) (q : Pt), x.to[j]? = some q → q.n = i) ∧ 0 < i := by
  constructor
  · intro hF
    have hi : 0 < i := by
      rcases Nat.eq_zero_or_pos i with rfl | h
      · exfalso
        have h1 := hF.ln1
        obtain ⟨z, hz⟩ : ∃ z, (n.free ((0 : Nat) : Int)).ns[0]? = some z := ⟨_, List.getElem?_eq_getElem (by omega)⟩
        have h2 := (hF.nds 0 z hz).2.2.1.1 (by simp)
        rcases free_get_inv hz with ⟨_, rfl⟩ | ⟨h3, _⟩
        · simp [zN] at h2
        · omega
      · exact h
    refine ⟨fun j q hq => ?_, hi⟩
    obtain ⟨hne, hhas, hlk⟩ := (hG.nds i x hx).2.2.2 j q hq
    have hq' := has_iff.1 hhas
    obtain ⟨a, ha⟩ : ∃ a : Nat, q.n = a := ⟨q.n.toNat, by omega⟩
    obtain ⟨b, hb⟩ : ∃ b : Nat, q.s = b := ⟨q.s.toNat, by omega⟩
    have hqe : q = ⟨a, b⟩ := by rw [← ha, ← hb]
    rw [ha]
    by_cases hai : a = i
    · rw [hai]
    exfalso
    obtain ⟨y, hy⟩ : ∃ y, n.ns[a]? = some y := ⟨_, List.getElem?_eq_getElem (by omega)⟩
    have hnd : n.nd q.n = y := by rw [ha]; exact nd_get hy
    obtain ⟨r, hr⟩ : ∃ r, y.to[b]? = some r := ⟨_, List.getElem?_eq_getElem (by rw [hnd] at hq'; omega)⟩
    have hre : r = ⟨i, j⟩ := by rw [hqe, lk_get hy hr] at hlk; exact hlk
    have hyk := good_no_k hG hy hr
    have hy2 := free_get hy hai hyk
    obtain ⟨_, h6, _⟩ := (hF.nds a y hy2).2.2.2 b r hr
    rw [hre] at h6
    have h7 := has_iff.1 h6
    obtain ⟨z, hz⟩ : ∃ z, (n.free (i : Int)).ns[i]? = some z := ⟨_, List.getElem?_eq_getElem (by simp at h7; omega)⟩
    rcases free_get_inv hz with ⟨_, rfl⟩ | ⟨h3, _⟩
    · simp only at h7; rw [nd_get hz] at h7; simp [zN] at h7; omega
    · exact h3 rfl
  · rintro ⟨hal, hi⟩
    have hlen := free_len n (i : Int)
    obtain ⟨r, hr, hr1⟩ := good_root hG
    have hr2 := free_get (i := i) hr (by omega) (by omega)
    have hl0 := (List.getElem?_eq_some_iff.1 hr2).1
    have hc : (n.free (i : Int)).cap = n.cap := rfl
    refine ⟨hG.cap1, hG.cap2, by omega, ?_, ?_, fun m y hy => ?_⟩
    · have := hG.ln2; rw [hc]; omega
    · have e : (n.free (i : Int)).ns.length = tl (n.ns.set (i : Int).toNat zN) (n.ns.set (i : Int).toNat zN).length := trim_len _
      have h1 := tl_last (n.ns.set (i : Int).toNat zN) (n.ns.set (i : Int).toNat zN).length (by omega)
      obtain ⟨z, hz⟩ : ∃ z, (n.free (i : Int)).ns[(n.free (i : Int)).ns.length - 1]? = some z := ⟨_, List.getElem?_eq_getElem (by omega)⟩
      have h2 : (trim (n.ns.set (i : Int).toNat zN))[(n.free (i : Int)).ns.length - 1]? = some z := hz
      rw [trim_get (by show _ < (n.free (i : Int)).ns.length; omega)] at h2
      rw [← e, getD_of h2] at h1
      have h3 : (((n.free (i : Int)).ns.length : Nat) : Int) - 1 = (((n.free (i : Int)).ns.length - 1 : Nat) : Int) := by omega
      rw [h3, nd_get hz]; exact h1
    · rcases free_get_inv hy with ⟨rfl, rfl⟩ | ⟨hmi, hy0⟩
      · refine ⟨⟨by decide, by decide, by decide, by decide, by decide, by decide, by decide, by decide, by decide, by decide, by decide, fun i a h => by simp [zN] at h⟩, by decide, ?_, fun j q hq => by simp [zN] at hq⟩
        constructor
        · intro h; omega
        · intro h; simp [zN] at h
      · obtain ⟨g1, g2, g3, g4⟩ := hG.nds m y hy0
        refine ⟨g1, g2, g3, fun j q hq => ?_⟩
        obtain ⟨hne, hhas, hlk⟩ := g4 j q hq
        have hq' := has_iff.1 hhas
        obtain ⟨a, ha⟩ : ∃ a : Nat, q.n = a := ⟨q.n.toNat, by omega⟩
        obtain ⟨b, hb⟩ : ∃ b : Nat, q.s = b := ⟨q.s.toNat, by omega⟩
        have hqe : q = ⟨a, b⟩ := by rw [← ha, ← hb]
        obtain ⟨z, hz⟩ : ∃ z, n.ns[a]? = some z := ⟨_, List.getElem?_eq_getElem (by omega)⟩
        have hnd : n.nd q.n = z := by rw [ha]; exact nd_get hz
        have hbl : b < z.to.length := by rw [hnd] at hq'; omega
        obtain ⟨u, hu⟩ : ∃ u, z.to[b]? = some u := ⟨_, List.getElem?_eq_getElem hbl⟩
        have hue : u = ⟨m, j⟩ := by rw [hqe, lk_get hz hu] at hlk; exact hlk
        have hai : a ≠ i := by
          rintro rfl
          rw [hx] at hz; rw [← Option.some.inj hz] at hu
          have := hal b u hu
          rw [hue] at this; simp at this; omega
        have hz2 := free_get hz hai (good_no_k hG hz hu)
        rw [hqe]
        refine ⟨by rw [← hqe]; exact hne, has_get hz2 hbl, ?_⟩
        rw [lk_get hz2 hu, hue]

theorem storeLinks_law {n : Nt} {t s : Int} (hn : n.Ok) (ht : wf t) (hs : wf s) : eP S 11 [.g (encT n), .a (.i .i64 t), .a (.i .i64 s)] = some (.a (.b true)) := by
  have f0 := fixed12_ok
  have a1 := Small_ok hn 150
  have a2 := RCheck_ok hn
  refine x_fn (orcS (by decide)) (fc := F11) rfl rfl ?_
  by_cases h1 : n.small 150
  case neg =>
    rw [bool_f h1] at a1
    simp only [encT] at a1
    simp only [F11, f0, a1, false_iff, true_iff, RB_t, RB_f, RB_b, List.getElem?_cons_zero, List.getElem?_cons_succ, List.set_cons_succ, frV, klV, Nat.reduceLT, Nat.reduceSub, eqCells, encT, encN, encP, encA, allP, allA, allN, spN, Nat.reduceBEq, Int.toNat_natCast, evI_wr, wrOk, keysT, keysA, ne_eq, not_false_eq_true, fxa, fxc, if_true, if_false, ite_self, spS, LQ_norm, LQ_exit, LQ_ret, evO, evR, cellsT, ldCells, mkT, lenA, binPV, Env.init, resVs, resV, resT, Nat.reduceEqDiff, Nat.reduceAdd, Nat.reduceLeDiff, reduceCtorEq, frTs, frT, klTs, klT, frL, ownT, intT, O.adds, ownA, evO.bslRows, rowsA, over, fillA, Nat.reduceMul, klL]
  rw [bool_t h1] at a1
  by_cases h2 : n.Good
  case neg =>
    rw [bool_f h2] at a2
    simp only [Bool.false_eq_true, if_false, encT] at a1 a2
    simp only [F11, f0, a1, a2, Int.reduceEq, false_iff, true_iff, RB_t, RB_f, RB_b, List.getElem?_cons_zero, List.getElem?_cons_succ, List.set_cons_succ, frV, klV, Nat.reduceLT, Nat.reduceSub, eqCells, encT, encN, encP, encA, allP, allA, allN, spN, Nat.reduceBEq, Int.toNat_natCast, evI_wr, wrOk, keysT, keysA, ne_eq, not_false_eq_true, fxa, fxc, if_true, if_false, ite_self, spS, LQ_norm, LQ_exit, LQ_ret, evO, evR, cellsT, ldCells, mkT, lenA, binPV, Env.init, resVs, resV, resT, Nat.reduceEqDiff, Nat.reduceAdd, Nat.reduceLeDiff, reduceCtorEq, frTs, frT, klTs, klT, frL, ownT, intT, O.adds, ownA, evO.bslRows, rowsA, over, fillA, Nat.reduceMul, klL]
  rw [bool_t h2] at a2
  simp only [if_true] at a2
  by_cases h3 : t < 0
  · simp only [encT] at a1 a2
    simp only [F11, f0, a1, a2, h3, false_iff, true_iff, RB_t, RB_f, RB_b, List.getElem?_cons_zero, List.getElem?_cons_succ, List.set_cons_succ, frV, klV, Nat.reduceLT, Nat.reduceSub, eqCells, encT, encN, encP, encA, allP, allA, allN, spN, Nat.reduceBEq, Int.toNat_natCast, evI_wr, wrOk, keysT, keysA, ne_eq, not_false_eq_true, fxa, fxc, if_true, if_false, ite_self, spS, LQ_norm, LQ_exit, LQ_ret, evO, evR, cellsT, ldCells, mkT, lenA, binPV, Env.init, resVs, resV, resT, Nat.reduceEqDiff, Nat.reduceAdd, Nat.reduceLeDiff, reduceCtorEq, frTs, frT, klTs, klT, frL, ownT, intT, O.adds, ownA, evO.bslRows, rowsA, over, fillA, Nat.reduceMul, klL]
  by_cases h4 : t ≥ (n.ns.length : Int)
  · simp only [encT] at a1 a2
    simp only [F11, f0, a1, a2, h3, h4, false_iff, true_iff, RB_t, RB_f, RB_b, List.getElem?_cons_zero, List.getElem?_cons_succ, List.set_cons_succ, frV, klV, Nat.reduceLT, Nat.reduceSub, eqCells, encT, encN, encP, encA, allP, allA, allN, spN, Nat.reduceBEq, Int.toNat_natCast, evI_wr, wrOk, keysT, keysA, ne_eq, not_false_eq_true, fxa, fxc, if_true, if_false, ite_self, spS, LQ_norm, LQ_exit, LQ_ret, evO, evR, cellsT, ldCells, mkT, lenA, binPV, Env.init, resVs, resV, resT, Nat.reduceEqDiff, Nat.reduceAdd, Nat.reduceLeDiff, reduceCtorEq, frTs, frT, klTs, klT, frL, ownT, intT, O.adds, ownA, evO.bslRows, rowsA, over, fillA, Nat.reduceMul, klL]
  obtain ⟨i, rfl⟩ : ∃ i : Nat, t = i := ⟨t.toNat, by omega⟩
  obtain ⟨x, hx⟩ : ∃ x, n.ns[i]? = some x := ⟨_, List.getElem?_eq_getElem (by omega)⟩
  have hx' := mapGet encN hx
  have hlt : (i : Int) < (n.ns.length : Int) := by omega
  have hge : (0 : Int) ≤ (i : Int) := by omega
  by_cases h5 : s < 0
  · simp only [encT] at a1 a2
    simp only [F11, f0, a1, a2, h3, h4, h5, false_iff, true_iff, RB_t, RB_f, RB_b, List.getElem?_cons_zero, List.getElem?_cons_succ, List.set_cons_succ, frV, klV, Nat.reduceLT, Nat.reduceSub, eqCells, encT, encN, encP, encA, allP, allA, allN, spN, Nat.reduceBEq, Int.toNat_natCast, evI_wr, wrOk, keysT, keysA, ne_eq, not_false_eq_true, fxa, fxc, if_true, if_false, ite_self, spS, LQ_norm, LQ_exit, LQ_ret, evO, evR, cellsT, ldCells, mkT, lenA, binPV, Env.init, resVs, resV, resT, Nat.reduceEqDiff, Nat.reduceAdd, Nat.reduceLeDiff, reduceCtorEq, frTs, frT, klTs, klT, frL, ownT, intT, O.adds, ownA, evO.bslRows, rowsA, over, fillA, Nat.reduceMul, klL]
  by_cases h6 : s ≥ (x.to.length : Int)
  · simp only [encT] at a1 a2
    simp only [F11, f0, a1, a2, h3, h4, h5, h6, hlt, hge, hx', false_iff, true_iff, RB_t, RB_f, RB_b, List.getElem?_cons_zero, List.getElem?_cons_succ, List.set_cons_succ, frV, klV, Nat.reduceLT, Nat.reduceSub, eqCells, encT, encN, encP, encA, allP, allA, allN, spN, Nat.reduceBEq, Int.toNat_natCast, evI_wr, wrOk, keysT, keysA, ne_eq, not_false_eq_true, fxa, fxc, if_true, if_false, ite_self, spS, LQ_norm, LQ_exit, LQ_ret, evO, evR, cellsT, ldCells, mkT, lenA, binPV, Env.init, resVs, resV, resT, Nat.reduceEqDiff, Nat.reduceAdd, Nat.reduceLeDiff, reduceCtorEq, frTs, frT, klTs, klT, frL, ownT, intT, O.adds, ownA, evO.bslRows, rowsA, over, fillA, Nat.reduceMul, klL]
  obtain ⟨j, rfl⟩ : ∃ j : Nat, s = j := ⟨s.toNat, by omega⟩
  have hxO := hn.nd x (List.mem_of_getElem? hx)
  have hto := hxO.to
  have hb := good_big h2
  have hjl : j < x.to.length := by omega
  have hne : x.to ≠ [] := by intro h; rw [h] at hjl; simp at hjl
  obtain ⟨q0, hq0⟩ : ∃ q, x.to[j]? = some q := ⟨_, List.getElem?_eq_getElem hjl⟩
  have hk := good_no_k h2 hx hq0
  have hnd : n.nd i = x := nd_get hx
  have hf := sFree_ok hn (by omega) (i : Int)
  have e : freeR n i = (n.free i, 0) := by unfold freeR; rw [hnd, if_pos ⟨by omega, by omega, hk⟩]
  rw [e] at hf
  have hkO := free_Ok hn (i : Int)
  have hkG := freed_good h2 hx hne
  obtain ⟨k, hkd⟩ : ∃ k, n.free i = k := ⟨_, rfl⟩
  rw [hkd] at hf hkO hkG
  obtain ⟨m, hmd⟩ : ∃ m, n.set ⟨i, j⟩ ⟨i, j⟩ = m := ⟨_, rfl⟩
  have hhas : n.has ⟨i, j⟩ = true := has_get hx hjl
  have hmO : m.Ok := by rw [← hmd]; exact Ok_set hn hhas ⟨ht, hs⟩
  have hmG : ¬ m.Good := by
    intro hG
    have h7 : m.has ⟨i, j⟩ = true := by rw [← hmd, has_set _ _ hhas]; exact hhas
    have h8 := (good_link hG h7).1
    rw [← hmd, lk_set _ _ hhas hhas, if_pos rfl] at h8
    exact h8 rfl
  have c1 := sCheck_ok hmO
  rw [bool_f hmG] at c1
  have c2 := sCheck_ok hkO
  simp only [Bool.false_eq_true, if_false] at c1
  have hgx := (h2.nds i x hx)
  have hmns : m.ns.map encN = (n.ns.map encN).set i [.i .i64 x.k, .i .i64 x.lv, .i .i64 x.n, .s x.s, .l (x.al.map encA), .l ((x.to.map encP).set j [.i .i64 i, .i .i64 j])] := by
    rw [← hmd]; simp only [Nt.set, Int.toNat_natCast, List.map_set, hnd, encN, encP]
  have hmc : m.cap = n.cap := by rw [← hmd]; rfl
  obtain ⟨σ0, hσ0⟩ : ∃ σ0, σ0 = St.empty.add 3 (.var ((encT n).map .p)) := ⟨_, rfl⟩
  obtain ⟨v, σ1, hcall, kk, rfl, sk, hk1, hk2, hls, hold⟩ := RCopy_ok (n := n) (by omega) (by intro h; rw [h] at hx; simp at hx) σ0
  have hclk : σ0.clk = 1 := by rw [hσ0]; rfl
  rw [hclk] at hk1 hold
  have s3 : σ1.bs (3, 0) = some (.var ((encT n).map .p)) := by rw [hold _ (by simp), hσ0]; simp [add_bs, add_clk, empty_clk]
  rw [hσ0] at hcall
  simp only [encTE, encT, List.map_cons, List.map_nil] at hcall s3 a1 a2 hf c1 c2
  rw [hmns, hmc] at c1
  obtain ⟨c, hc⟩ : ∃ c, σ1.clk = c := ⟨_, rfl⟩
  rw [hc] at hk2
  have hc1 : 1 ≤ c := by omega
  have nk : ∀ d w : Nat, c ≤ w → ¬ kk = (d, w) := by rintro d w hw rfl; simp at hk2; omega
  have nk0 := fun d => nk d c (by omega)
  have nk1 := fun d => nk d (c + 1) (by omega)
  have nk3 : ¬ (3, 0) = kk := by rintro rfl; simp at hk1
  have nkz : ∀ d : Nat, ¬ kk = (d, 0) := by rintro d rfl; simp at hk1
  have nc : ¬ 0 = c ∧ ¬ 0 = c + 1 := by omega
  simp only [F11, f0, a1, a2, h3, h4, h5, h6, hlt, hge, hx', hcall, hc, false_iff, true_iff, RB_t, RB_f, RB_b, List.getElem?_cons_zero, List.getElem?_cons_succ, List.set_cons_succ, frV, klV, Nat.reduceLT, Nat.reduceSub, eqCells, encT, encN, encP, encA, allP, allA, allN, spN, Nat.reduceBEq, Int.toNat_natCast, evI_wr, wrOk, keysT, keysA, ne_eq, not_false_eq_true, fxa, fxc, if_true, if_false, ite_self, spS, LQ_norm, LQ_exit, LQ_ret, evO, evR, cellsT, ldCells, mkT, lenA, binPV, Env.init, resVs, resV, resT, Nat.reduceEqDiff, Nat.reduceAdd, Nat.reduceLeDiff, reduceCtorEq, frTs, frT, klTs, klT, frL, ownT, intT, O.adds, ownA, evO.bslRows, rowsA, over, fillA, Nat.reduceMul, klL]
  refine loop_nat x.to.length (fun p e σ => e 1 = .a (.p (.i .i64 (i : Nat))) ∧ e 2 = .a (.p (.i .i64 (j : Nat))) ∧ e 3 = .a (.ptr (3, 0) 0 0) ∧ e 7 = .a (.ptr (7, c) 0 0) ∧ e 9 = .a (.p (.i .i64 (p : Nat))) ∧ σ.bs (3, 0) = some (.var [.p (.l (n.ns.map encN)), .p (.i .i64 n.cap)]) ∧ σ.bs (7, c) = some (.var [.own kk 0 n.ns.length, .p (.i .i64 n.cap)]) ∧
    σ.bs kk = some (.row 6 43 (n.ns.map encN)) ∧ c + 2 ≤ σ.clk ∧ ∃ kl : Key, e 8 = .a (.own kl 0 p) ∧ σ.bs kl = some (.row 2 26 ((x.to.take p).map encP)) ∧ c + 1 ≤ kl.2 ∧ kl.2 < σ.clk) (i0 := 0) (Nat.zero_le _) ?_ ?_ ?_
  · refine ⟨?_, ?_, ?_, ?_, ?_, ?_, ?_, ?_, ?_, (55, c + 1), ?_, ?_, ?_, ?_⟩ <;> simp only [s3, hc, nc, nk0, nk1, sk, false_iff, true_iff, RB_t, RB_f, RB_b, List.getElem?_cons_zero, List.getElem?_cons_succ, List.set_cons_succ, frV, klV, Nat.reduceLT, Nat.reduceSub, eqCells, encT, encN, encP, encA, allP, allA, allN, spN, Nat.reduceBEq, Int.toNat_natCast, evI_wr, wrOk, keysT, keysA, ne_eq, not_false_eq_true, fxa, fxc, if_true, if_false, ite_self, spS, LQ_norm, LQ_exit, LQ_ret, evO, evR, cellsT, ldCells, mkT, lenA, binPV, Env.init, resVs, resV, resT, Nat.reduceEqDiff, Nat.reduceAdd, Nat.reduceLeDiff, reduceCtorEq, frTs, frT, klTs, klT, frL, ownT, intT, O.adds, ownA, evO.bslRows, rowsA, over, fillA, Nat.reduceMul, klL]
    all_goals first | rfl | omega | skip
  · rintro p e σ hp ⟨e1, e2, e3, e7, e9, s3, s7, sk, hclk, kl, e8, sl, hl1, hl2⟩
    obtain ⟨q, hq⟩ : ∃ q, x.to[p]? = some q := ⟨_, List.getElem?_eq_getElem hp⟩
    have hq' := mapGet encP hq
    have hlt2 : ((p : Nat) : Int) < (x.to.length : Int) := by omega
    have hge2 : (0 : Int) ≤ ((p : Nat) : Int) := by omega
    have hlen : (List.take p x.to).length = p := by rw [List.length_take]; omega
    have hbb : (p + 1) * 16 ≤ 140737488355328 := by omega
    have htk : List.take p ((x.to.take p).map encP) = (x.to.take p).map encP := List.take_of_length_le (by simp; omega)
    have htk2 : (x.to.take (p + 1)).map encP = (x.to.take p).map encP ++ [encP q] := by rw [List.take_add_one, hq]; simp
    have l1 : ∀ d w : Nat, σ.clk ≤ w → ¬ kl = (d, w) := by rintro d w hw rfl; simp at hl2; omega
    have l1a := fun d => l1 d σ.clk (by omega)
    have k1 : ∀ d w : Nat, σ.clk ≤ w → ¬ kk = (d, w) := by rintro d w hw rfl; simp at hk2; omega
    have k1a := fun d => k1 d σ.clk (by omega)
    have k1b := fun d => k1 d (σ.clk + 1) (by omega)
    have lk : ¬ kl = kk ∧ ¬ kk = kl ∧ ¬ (3, 0) = kl ∧ ¬ (7, c) = kl := by
      refine ⟨?_, ?_, ?_, ?_⟩
      · rintro rfl; omega
      · rintro rfl; omega
      · rintro rfl; simp at hl1
      · rintro rfl; simp at hl1; omega
    have nn : ¬ 0 = σ.clk ∧ ¬ 0 = σ.clk + 1 ∧ ¬ c = σ.clk ∧ ¬ c = σ.clk + 1 := by omega
    simp only [F11b0, e1, e2, e3, e7, e8, e9, s3, s7, sl, hlt, hge, hx', hlt2, hge2, hq', hlen, hbb, htk, l1a, Nat.zero_lt_one, List.length_map, false_iff, true_iff, RB_t, RB_f, RB_b, List.getElem?_cons_zero, List.getElem?_cons_succ, List.set_cons_succ, frV, klV, Nat.reduceLT, Nat.reduceSub, eqCells, encT, encN, encP, encA, allP, allA, allN, spN, Nat.reduceBEq, Int.toNat_natCast, evI_wr, wrOk, keysT, keysA, ne_eq, not_false_eq_true, fxa, fxc, if_true, if_false, ite_self, spS, LQ_norm, LQ_exit, LQ_ret, evO, evR, cellsT, ldCells, mkT, lenA, binPV, Env.init, resVs, resV, resT, Nat.reduceEqDiff, Nat.reduceAdd, Nat.reduceLeDiff, reduceCtorEq, frTs, frT, klTs, klT, frL, ownT, intT, O.adds, ownA, evO.bslRows, rowsA, over, fillA, Nat.reduceMul, klL]
    refine ⟨by rw [wrap_succ p (by omega)], ?_, ?_, ?_, by omega, (78, σ.clk + 1), rfl, ?_, by simp; omega, by simp⟩
    · simp only [nn.1, nn.2.1, lk.2.2.1, if_false, Prod.mk.injEq, Nat.reduceEqDiff, false_and, and_false]
    · simp only [nn.2.2.1, nn.2.2.2, lk.2.2.2, if_false, Prod.mk.injEq, Nat.reduceEqDiff, false_and, and_false]
    · simp only [k1a, k1b, lk.2.1, if_false]; exact sk
    · rw [htk2]; simp [encP]
  · rintro e σ ⟨e1, e2, e3, e7, e9, s3, s7, sk, hclk, kl, e8, sl, hl1, hl2⟩
    rw [List.take_length] at sl
    have hlt2 : ¬ ((x.to.length : Nat) : Int) < (x.to.length : Int) := by omega
    have hltj : ((j : Nat) : Int) < (x.to.length : Int) := by omega
    have hgej : (0 : Int) ≤ ((j : Nat) : Int) := by omega
    have hqj := mapGet encP hq0
    have lk : ¬ kl = kk ∧ ¬ kk = kl ∧ ¬ (3, 0) = kl ∧ ¬ (7, c) = kl := by
      refine ⟨?_, ?_, ?_, ?_⟩
      · rintro rfl; omega
      · rintro rfl; omega
      · rintro rfl; simp at hl1
      · rintro rfl; simp at hl1; omega
    have lk7 : ¬ kk = (7, c) := nk0 7
    have lk8 : ¬ (7, c) = kk := fun e => lk7 e.symm
    have htk3 : ∀ r : List PV, List.take x.to.length ((x.to.map encP).set j r) = (x.to.map encP).set j r := fun r => List.take_of_length_le (by simp)
    have htk4 : ∀ r : List PV, List.take n.ns.length ((n.ns.map encN).set i r) = (n.ns.map encN).set i r := fun r => List.take_of_length_le (by simp)
    simp only [F11b0, e1, e2, e3, e7, e8, e9, s3, s7, sk, sl, hlt, hge, hx', hlt2, hltj, hgej, hqj, rowK, lk.1, lk.2.1, lk.2.2.1, lk.2.2.2, nk3, lk7, lk8, hf, htk3, List.length_set, List.length_map, Nat.le_refl, ne_eq, not_false_eq_true, false_iff, true_iff, RB_t, RB_f, RB_b, List.getElem?_cons_zero, List.getElem?_cons_succ, List.set_cons_succ, frV, klV, Nat.reduceLT, Nat.reduceSub, eqCells, encT, encN, encP, encA, allP, allA, allN, spN, Nat.reduceBEq, Int.toNat_natCast, evI_wr, wrOk, keysT, keysA, ne_eq, not_false_eq_true, fxa, fxc, if_true, if_false, ite_self, spS, LQ_norm, LQ_exit, LQ_ret, evO, evR, cellsT, ldCells, mkT, lenA, binPV, Env.init, resVs, resV, resT, Nat.reduceEqDiff, Nat.reduceAdd, Nat.reduceLeDiff, reduceCtorEq, frTs, frT, klTs, klT, frL, ownT, intT, O.adds, ownA, evO.bslRows, rowsA, over, fillA, Nat.reduceMul, klL]
    refine loop_nat x.to.length (fun p e σ => e 1 = .a (.p (.i .i64 (i : Nat))) ∧ e 3 = .a (.ptr (3, 0) 0 0) ∧ e 7 = .a (.ptr (7, c) 0 0) ∧ (∃ w, e 10 = .a (.ptr (10, w) 0 0) ∧ σ.bs (10, w) = some (.var [.p (.l (k.ns.map encN)), .p (.i .i64 k.cap)])) ∧ e 11 = .a (.p (.i .i64 0)) ∧ e 13 = .a (.p (.i .i64 (p : Nat))) ∧ e 12 = .a (.p (.b ((x.to.take p).all fun q => decide (q.n = (i : Int))))) ∧ σ.bs (3, 0) = some (.var [.p (.l (n.ns.map encN)), .p (.i .i64 n.cap)]) ∧ σ.bs (7, c) = some (.var [.own kk 0 n.ns.length, .p (.i .i64 n.cap)]) ∧
      σ.bs kk = some (.row 6 43 (m.ns.map encN))) (i0 := 0) (Nat.zero_le _) ?_ ?_ ?_
    · have nkk : ¬ kk = (10, σ.clk) := by intro h; rw [h] at hk2; simp at hk2; omega
      refine ⟨?_, ?_, ?_, ⟨σ.clk, ?_, ?_⟩, ?_, ?_, ?_, ?_, ?_, ?_⟩ <;> simp only [e1, e2, e3, e7, s3, s7, nk3, lk8, lk.2.2.1, lk.2.2.2, nkk, hmns, false_iff, true_iff, RB_t, RB_f, RB_b, List.getElem?_cons_zero, List.getElem?_cons_succ, List.set_cons_succ, frV, klV, Nat.reduceLT, Nat.reduceSub, eqCells, encT, encN, encP, encA, allP, allA, allN, spN, Nat.reduceBEq, Int.toNat_natCast, evI_wr, wrOk, keysT, keysA, ne_eq, not_false_eq_true, fxa, fxc, if_true, if_false, ite_self, spS, LQ_norm, LQ_exit, LQ_ret, evO, evR, cellsT, ldCells, mkT, lenA, binPV, Env.init, resVs, resV, resT, Nat.reduceEqDiff, Nat.reduceAdd, Nat.reduceLeDiff, reduceCtorEq, frTs, frT, klTs, klT, frL, ownT, intT, O.adds, ownA, evO.bslRows, rowsA, over, fillA, Nat.reduceMul, klL]
      all_goals first | rfl | skip
    · rintro p e σ hp ⟨e1, e3, e7, ⟨w, e10, s10⟩, e11, e13, e12, s3, s7, sk⟩
      obtain ⟨q, hq⟩ : ∃ q, x.to[p]? = some q := ⟨_, List.getElem?_eq_getElem hp⟩
      have hq' := mapGet encP hq
      have hlt2 : ((p : Nat) : Int) < (x.to.length : Int) := by omega
      have hge2 : (0 : Int) ≤ ((p : Nat) : Int) := by omega
      have htk2 : ((x.to.take (p + 1)).all fun q => decide (q.n = (i : Int))) = (((x.to.take p).all fun q => decide (q.n = (i : Int))) && decide (q.n = (i : Int))) := by rw [List.take_add_one, hq]; simp
      rw [htk2]
      cases ha : (x.to.take p).all fun q => decide (q.n = (i : Int)) with
      | false =>
        rw [ha] at e12
        simp only [F11b1, e1, e3, e7, e10, e11, e12, e13, s3, s7, s10, hlt, hge, hx', hlt2, hge2, hq', false_iff, true_iff, RB_t, RB_f, RB_b, List.getElem?_cons_zero, List.getElem?_cons_succ, List.set_cons_succ, frV, klV, Nat.reduceLT, Nat.reduceSub, eqCells, encT, encN, encP, encA, allP, allA, allN, spN, Nat.reduceBEq, Int.toNat_natCast, evI_wr, wrOk, keysT, keysA, ne_eq, not_false_eq_true, fxa, fxc, if_true, if_false, ite_self, spS, LQ_norm, LQ_exit, LQ_ret, evO, evR, cellsT, ldCells, mkT, lenA, binPV, Env.init, resVs, resV, resT, Nat.reduceEqDiff, Nat.reduceAdd, Nat.reduceLeDiff, reduceCtorEq, frTs, frT, klTs, klT, frL, ownT, intT, O.adds, ownA, evO.bslRows, rowsA, over, fillA, Nat.reduceMul, klL]
        exact ⟨⟨w, rfl, s10⟩, by rw [wrap_succ p (by omega)], sk⟩
      | true =>
        rw [ha] at e12
        simp only [F11b1, e1, e3, e7, e10, e11, e12, e13, s3, s7, s10, hlt, hge, hx', hlt2, hge2, hq', false_iff, true_iff, RB_t, RB_f, RB_b, List.getElem?_cons_zero, List.getElem?_cons_succ, List.set_cons_succ, frV, klV, Nat.reduceLT, Nat.reduceSub, eqCells, encT, encN, encP, encA, allP, allA, allN, spN, Nat.reduceBEq, Int.toNat_natCast, evI_wr, wrOk, keysT, keysA, ne_eq, not_false_eq_true, fxa, fxc, if_true, if_false, ite_self, spS, LQ_norm, LQ_exit, LQ_ret, evO, evR, cellsT, ldCells, mkT, lenA, binPV, Env.init, resVs, resV, resT, Nat.reduceEqDiff, Nat.reduceAdd, Nat.reduceLeDiff, reduceCtorEq, frTs, frT, klTs, klT, frL, ownT, intT, O.adds, ownA, evO.bslRows, rowsA, over, fillA, Nat.reduceMul, klL]
        exact ⟨⟨w, rfl, s10⟩, by rw [wrap_succ p (by omega)], sk⟩
    · rintro e σ ⟨e1, e3, e7, ⟨w, e10, s10⟩, e11, e13, e12, s3, s7, sk⟩
      rw [List.take_length] at e12
      rw [hmns] at sk
      have hlt2 : ¬ ((x.to.length : Nat) : Int) < (x.to.length : Int) := by omega
      have hal : (x.to.all fun q => decide (q.n = (i : Int))) = true ↔ ∀ (j : Nat) (q : Pt), x.to[j]? = some q → q.n = i := by
        rw [List.all_eq_true]
        constructor
        · intro h j q hq; simpa using h q (List.mem_of_getElem? hq)
        · intro h q hq; obtain ⟨j, hj⟩ := List.getElem?_of_mem hq; simpa using h j q hj
      have hgt : (decide ((i : Int) > 0) = true) ↔ 0 < i := by rw [decide_eq_true_eq]; omega
      cases ha : x.to.all fun q => decide (q.n = (i : Int)) with
      | false =>
        have hkG2 : ¬ k.Good := fun h => by have := hal.2 (hkG.1 h).1; rw [ha] at this; cases this
        rw [bool_f hkG2] at c2
        simp only [Bool.false_eq_true, if_false] at c2
        rw [ha] at e12
        simp only [F11b1, e1, e3, e7, e10, e11, e12, e13, s3, s7, s10, sk, hlt, hge, hx', hlt2, htk4, c1, c2, List.length_set, List.length_map, Nat.le_refl, Int.reduceEq, false_iff, true_iff, RB_t, RB_f, RB_b, List.getElem?_cons_zero, List.getElem?_cons_succ, List.set_cons_succ, frV, klV, Nat.reduceLT, Nat.reduceSub, eqCells, encT, encN, encP, encA, allP, allA, allN, spN, Nat.reduceBEq, Int.toNat_natCast, evI_wr, wrOk, keysT, keysA, ne_eq, not_false_eq_true, fxa, fxc, if_true, if_false, ite_self, spS, LQ_norm, LQ_exit, LQ_ret, evO, evR, cellsT, ldCells, mkT, lenA, binPV, Env.init, resVs, resV, resT, Nat.reduceEqDiff, Nat.reduceAdd, Nat.reduceLeDiff, reduceCtorEq, frTs, frT, klTs, klT, frL, ownT, intT, O.adds, ownA, evO.bslRows, rowsA, over, fillA, Nat.reduceMul, klL]
      | true =>
        rw [ha] at e12
        by_cases hi : (i : Int) > 0
        · have hkG2 : k.Good := hkG.2 ⟨hal.1 ha, by omega⟩
          rw [bool_t hkG2] at c2
          simp only [if_true] at c2
          have hkl := hkG2.ln1
          have hkl2 : (k.ns.length : Int) > 0 := by omega
          simp only [F11b1, e1, e3, e7, e10, e11, e12, e13, s3, s7, s10, sk, hlt, hge, hx', hlt2, htk4, c1, c2, hi, hkl2, List.length_set, List.length_map, Nat.le_refl, Int.reduceEq, false_iff, true_iff, RB_t, RB_f, RB_b, List.getElem?_cons_zero, List.getElem?_cons_succ, List.set_cons_succ, frV, klV, Nat.reduceLT, Nat.reduceSub, eqCells, encT, encN, encP, encA, allP, allA, allN, spN, Nat.reduceBEq, Int.toNat_natCast, evI_wr, wrOk, keysT, keysA, ne_eq, not_false_eq_true, fxa, fxc, if_true, if_false, ite_self, spS, LQ_norm, LQ_exit, LQ_ret, evO, evR, cellsT, ldCells, mkT, lenA, binPV, Env.init, resVs, resV, resT, Nat.reduceEqDiff, Nat.reduceAdd, Nat.reduceLeDiff, reduceCtorEq, frTs, frT, klTs, klT, frL, ownT, intT, O.adds, ownA, evO.bslRows, rowsA, over, fillA, Nat.reduceMul, klL]
        · have hkG2 : ¬ k.Good := fun h => by have := (hkG.1 h).2; omega
          rw [bool_f hkG2] at c2
          simp only [Bool.false_eq_true, if_false] at c2
          simp only [F11b1, e1, e3, e7, e10, e11, e12, e13, s3, s7, s10, sk, hlt, hge, hx', hlt2, htk4, c1, c2, hi, List.length_set, List.length_map, Nat.le_refl, Int.reduceEq, false_iff, true_iff, RB_t, RB_f, RB_b, List.getElem?_cons_zero, List.getElem?_cons_succ, List.set_cons_succ, frV, klV, Nat.reduceLT, Nat.reduceSub, eqCells, encT, encN, encP, encA, allP, allA, allN, spN, Nat.reduceBEq, Int.toNat_natCast, evI_wr, wrOk, keysT, keysA, ne_eq, not_false_eq_true, fxa, fxc, if_true, if_false, ite_self, spS, LQ_norm, LQ_exit, LQ_ret, evO, evR, cellsT, ldCells, mkT, lenA, binPV, Env.init, resVs, resV, resT, Nat.reduceEqDiff, Nat.reduceAdd, Nat.reduceLeDiff, reduceCtorEq, frTs, frT, klTs, klT, frL, ownT, intT, O.adds, ownA, evO.bslRows, rowsA, over, fillA, Nat.reduceMul, klL]
end Go.Proofs.Ytgdaanehmdgmeaa
