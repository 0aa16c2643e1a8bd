/- The law SweepAdds, as the evaluator has it. -/
import Derived.Test.YtkpfjolcmkikeaaRMake
import Derived.Test.YtkpfjolcmkikeaaAddP
import Derived.Test.YtkpfjolcmkikeaaLawV
set_option linter.unusedSimpArgs false
set_option linter.unusedVariables false
set_option maxHeartbeats 4000000
set_option maxRecDepth 10000
namespace Go.Proofs.Ytkpfjolcmkikeaa
open Go.Fx

def dN (z : Int) : Nd := ⟨7, z, 0, [], [], []⟩
def iN (z : Int) : Nd := ⟨10, z, 3, [], [], []⟩
theorem dN_Ok {z : Int} (h : wf z) : (dN z).Ok := ⟨by show wf 7; decide, h, by show wf 0; decide, by simp [dN], by simp [dN], by simp [dN], by simp [dN], by simp [dN]⟩
theorem iN_Ok {z : Int} (h : wf z) : (iN z).Ok := ⟨by show wf 10; decide, h, by show wf 3; decide, by simp [iN], by simp [iN], by simp [iN], by simp [iN], by simp [iN]⟩
theorem dN_may {z : Int} (h0 : 0 ≤ z) (h1 : z ≤ 60) : (dN z).may := ⟨by simp [dN], by simp [dN], h0, h1, by simp [dN], by simp [dN], by simp [dN], by simp [dN], by simp [dN], by simp [dN], by simp [dN], by simp [dN, altOk]⟩
theorem iN_may {z : Int} (h0 : 0 ≤ z) (h1 : z ≤ 60) : (iN z).may := ⟨by simp [iN], by simp [iN], h0, h1, by simp [iN], by simp [iN], by simp [iN], by simp [iN], by simp [iN], by simp [iN], by simp [iN], by simp [iN, altOk]⟩

theorem make_get {n : Nt} {x : Nd} : n.at < (n.make x).ns.length ∧ (n.make x).ns[n.at]? = some x.fresh ∧ (∀ z, n.ns[n.at]? = some z → z.k = 0) ∧ (∀ a, a ≠ n.at → (n.make x).ns[a]? = n.ns[a]?) ∧ n.ns.length ≤ (n.make x).ns.length ∧ (n.make x).ns.length ≤ n.ns.length + 1 := by
  unfold Nt.make Nt.at
  cases hf : n.ns.findIdx? isFree with
  | some i =>
    obtain ⟨hi, hfi, _⟩ := List.findIdx?_eq_some_iff_getElem.1 hf
    simp only
    refine ⟨by simpa using hi, by simp [List.getElem?_set, hi], fun z hz => ?_, fun a ha => List.getElem?_set_ne (Ne.symm ha), by simp, by simp⟩
    rw [List.getElem?_eq_getElem hi] at hz
    rw [← Option.some.inj hz]; simpa [isFree] using hfi
  | none =>
    simp only
    refine ⟨by simp, by simp, fun z hz => (by rw [List.getElem?_eq_none (Nat.le_refl _)] at hz; cases hz), fun a ha => ?_, by simp, by simp⟩
    by_cases h : a < n.ns.length
    · rw [List.getElem?_append_left h]
    · rw [List.getElem?_eq_none (by simp; omega), List.getElem?_eq_none (by omega)]

/-- the two nodes are linked to one another -/
def lnk2 (k : Nt) (i j : Nat) (z : Int) : Nt := ⟨(k.ns.set i { dN z with to := [⟨j, 0⟩] }).set j { iN z with to := [⟨i, 0⟩] }, k.cap⟩
theorem two_of {n : Nt} {z : Int} (h0 : 0 ≤ z) (h1 : z ≤ 60) : Two n (lnk2 ((n.make (dN z)).make (iN z)) n.at (n.make (dN z)).at z) n.at (n.make (dN z)).at { dN z with to := [⟨(n.make (dN z)).at, 0⟩] } { iN z with to := [⟨n.at, 0⟩] } := by
  obtain ⟨a1, a2, a3, a4, a5, a6⟩ := make_get (n := n) (x := dN z)
  obtain ⟨b1, b2, b3, b4, b5, b6⟩ := make_get (n := n.make (dN z)) (x := iN z)
  obtain ⟨i, hi⟩ : ∃ i, n.at = i := ⟨_, rfl⟩
  obtain ⟨m, hm⟩ : ∃ m, n.make (dN z) = m := ⟨_, rfl⟩
  rw [hi, hm] at a1 a2 a4 
  rw [hi] at a3
  rw [hm] at a5 a6 b1 b2 b3 b4 b5 b6
  rw [hi, hm]
  obtain ⟨j, hj⟩ : ∃ j, m.at = j := ⟨_, rfl⟩
  obtain ⟨k, hk⟩ : ∃ k, m.make (iN z) = k := ⟨_, rfl⟩
  rw [hj, hk] at b1 b2 b4
  rw [hj] at b3
  rw [hk] at b5 b6
  rw [hj, hk]
  have hne : i ≠ j := by
    rintro rfl
    have := b3 _ a2
    simp [Nd.fresh, dN] at this
  have hcap : k.cap = n.cap := by rw [← hk, ← hm]; rfl
  refine ⟨hne, hcap, ?_, ?_, ?_, ?_, a3, fun w hw => b3 w (by rw [a4 j (Ne.symm hne)]; exact hw), fun a h2 h3 => ?_, ?_, ?_, ?_, rfl, rfl, by simp [Nd.ports, dN], by simp [Nd.ports, iN], by simp [dN], by simp [iN]⟩
  · simp only [lnk2, List.length_set]; omega
  · simp only [lnk2, List.length_set]; exact b1
  · simp only [lnk2]
    rw [List.getElem?_set_ne (Ne.symm hne), List.getElem?_set_self (by omega)]
  · simp only [lnk2]
    rw [List.getElem?_set_self (by rw [List.length_set]; exact b1)]
  · simp only [lnk2]
    rw [List.getElem?_set_ne (Ne.symm h3), List.getElem?_set_ne (Ne.symm h2), b4 a h3, a4 a h2]
  · simp only [lnk2, List.length_set]; omega
  · exact ⟨by simp [dN], by simp [dN], h0, h1, by simp [dN], by simp [dN], by simp [dN], by simp [dN], by simp [dN], by simp [dN], by simp [dN], by simp [dN, altOk]⟩
  · exact ⟨by simp [iN], by simp [iN], h0, h1, by simp [iN], by simp [iN], by simp [iN], by simp [iN], by simp [iN], by simp [iN], by simp [iN], by simp [iN, altOk]⟩
theorem set_Ok {n : Nt} {x : Nd} (hn : n.Ok) (hx : x.Ok) (i : Nat) : (⟨n.ns.set i x, n.cap⟩ : Nt).Ok :=
  ⟨by simpa using hn.ns, hn.cap, fun y h => by
    rcases List.mem_or_eq_of_mem_set h with h | rfl
    · exact hn.nd y h
    · exact hx⟩

theorem sweepAdds_law {n : Nt} {z : Int} (hn : n.Ok) (hz : wf z) : eP S 6 [.g (encT n), .a (.i .i64 z)] = some (.a (.b true)) := by
  have f0 := fixed18_ok
  have a1 := Small_ok hn 100
  have a2 := RCheck_ok hn
  refine x_fn (orcS (by decide)) (fc := F6) rfl rfl ?_
  by_cases h1 : n.small 100
  case neg =>
    rw [bool_f h1] at a1
    simp only [encT] at a1
    simp only [F6, f0, a1, fxa, fxc, fxE, fxL, fxI, nxE, evO, evR, cellsT, ldCells, mkT, lenA, binPV, Env.init, resV, resT, frT, klT, ownT, intT, O.adds, ownA, rowsA, over, wrOk, keysT, keysA, ne_eq, if_true, if_false, ite_self, Nat.reduceLT, Nat.reduceSub, Nat.reduceBEq, Nat.reduceEqDiff, Nat.reduceAdd, Nat.reduceLeDiff, reduceCtorEq, Nat.reduceMul]
  rw [bool_t h1] at a1
  by_cases hG : n.Good
  case neg =>
    rw [bool_f hG] at a2
    simp only [Bool.false_eq_true, if_false, encT] at a1 a2
    simp only [F6, f0, a1, a2, Int.reduceEq, fxa, fxc, fxE, fxL, fxI, nxE, evO, evR, cellsT, ldCells, mkT, lenA, binPV, Env.init, resV, resT, frT, klT, ownT, intT, O.adds, ownA, rowsA, over, wrOk, keysT, keysA, ne_eq, if_true, if_false, ite_self, Nat.reduceLT, Nat.reduceSub, Nat.reduceBEq, Nat.reduceEqDiff, Nat.reduceAdd, Nat.reduceLeDiff, reduceCtorEq, Nat.reduceMul]
  rw [bool_t hG] at a2
  simp only [if_true, encT] at a1 a2
  by_cases z0 : z < 0
  · simp only [F6, f0, a1, a2, z0, Int.reduceEq, fxa, fxc, fxE, fxL, fxI, nxE, evO, evR, cellsT, ldCells, mkT, lenA, binPV, Env.init, resV, resT, frT, klT, ownT, intT, O.adds, ownA, rowsA, over, wrOk, keysT, keysA, ne_eq, if_true, if_false, ite_self, Nat.reduceLT, Nat.reduceSub, Nat.reduceBEq, Nat.reduceEqDiff, Nat.reduceAdd, Nat.reduceLeDiff, reduceCtorEq, Nat.reduceMul]
  by_cases z1 : z > 60
  · simp only [F6, f0, a1, a2, z0, z1, Int.reduceEq, fxa, fxc, fxE, fxL, fxI, nxE, evO, evR, cellsT, ldCells, mkT, lenA, binPV, Env.init, resV, resT, frT, klT, ownT, intT, O.adds, ownA, rowsA, over, wrOk, keysT, keysA, ne_eq, if_true, if_false, ite_self, Nat.reduceLT, Nat.reduceSub, Nat.reduceBEq, Nat.reduceEqDiff, Nat.reduceAdd, Nat.reduceLeDiff, reduceCtorEq, Nat.reduceMul]
  have hsm := small_bound h1
  have hl1 := hG.ln1
  have hw : IntKind.i64.wrap ((n.ns.length : Int) + 2) = (n.ns.length : Int) + 2 := wrap_in _ (by omega)
  obtain ⟨C, hC⟩ : ∃ C, (if (n.ns.length : Int) + 2 > n.cap then (n.ns.length : Int) + 2 else n.cap) = C := ⟨_, rfl⟩
  have hC1 : n.cap ≤ C ∧ (n.ns.length : Int) + 2 ≤ C ∧ C ≤ 4000 := by
    have := hG.cap2
    rw [← hC]; split <;> omega
  obtain ⟨N, hN⟩ : ∃ N : Nt, N = ⟨n.ns, C⟩ := ⟨_, rfl⟩
  have hNns : N.ns = n.ns := by rw [hN]
  have hNc : N.cap = C := by rw [hN]
  have hNO : N.Ok := by rw [hN]; exact ⟨hn.ns, by show wf C; unfold wf; omega, hn.nd⟩
  have hNG : N.Good := by
    rw [hN]
    exact ⟨by show 1 ≤ C; have := hG.cap1; omega, hC1.2.2, hG.ln1, by show (n.ns.length : Int) ≤ C; omega, hG.last, hG.nds⟩
  have hne : N.ns ≠ [] := by rw [hNns]; intro h; rw [h] at hl1; simp at hl1
  have hul : N.used ≤ (N.ns.length : Int) := (usedL_le N.ns).2
  obtain ⟨g1, g2, g3, g4, g5, g6⟩ := make_get (n := N) (x := dN z)
  obtain ⟨h1', h2', h3', h4', h5', h6'⟩ := make_get (n := N.make (dN z)) (x := iN z)
  have hT := two_of (n := N) (z := z) (by omega) (by omega)
  have wz : wf z := hz
  obtain ⟨σ0, hσ0⟩ : ∃ σ0, σ0 = ((St.empty.add 2 (Blk.var [AV.p (PV.l (List.map encN n.ns)), AV.p (PV.i IntKind.i64 n.cap)])).put (2, 0) (Blk.var [AV.p (PV.l (List.map encN n.ns)), AV.p (PV.i IntKind.i64 C)])) := ⟨_, rfl⟩
  have s2 : σ0.bs (2, 0) = some (Blk.var [AV.p (PV.l (List.map encN n.ns)), AV.p (PV.i IntKind.i64 C)]) := by rw [hσ0]; simp [put_bs]
  have hk0 : σ0.clk = 1 := by rw [hσ0]; rfl
  rw [hNns] at hul g5 g6
  obtain ⟨_, σ1, m1, k, rfl, m2, m3, m4, m5, m6⟩ := RMake_ok (n := N) (x := dN z) hNO (by rw [hNns]; omega) hne (dN_Ok wz) rfl rfl (by simp [dN]) (dN_may (by omega) (by omega)) (by rw [hNc]; omega) σ0
  obtain ⟨M, hM⟩ : ∃ M, N.make (dN z) = M := ⟨_, rfl⟩
  have hMO : M.Ok := by rw [← hM]; exact make_Ok hNO (dN_Ok wz) (by rw [hNns]; omega)
  have hMc : M.cap = C := by rw [← hM]; exact hNc
  have hMu : M.used = N.used + 1 := by rw [← hM]; exact make_used (by simp [dN])
  obtain ⟨i, hi⟩ : ∃ i, N.at = i := ⟨_, rfl⟩
  rw [hM, hi] at m1 g1 g2 g4
  rw [hi] at g3
  rw [hM] at m2 g5 g6 h1' h2' h3' h4' h5' h6' hT
  rw [hi] at hT
  rw [hk0] at m3
  have s2' : σ1.bs (2, 0) = some (Blk.var [AV.p (PV.l (List.map encN n.ns)), AV.p (PV.i IntKind.i64 C)]) := by rw [m6 (2, 0) (by rw [hk0]; simp)]; exact s2
  have hMne : M.ns ≠ [] := by intro h; rw [h] at g1; simp at g1
  simp only [dN, encT, hNns, hNc, List.map_cons, List.map_nil] at m1
  obtain ⟨c1, hc1⟩ : ∃ c1, σ1.clk = c1 := ⟨_, rfl⟩
  have kne : ∀ d e, ¬ k = (d, c1 + e) := by rintro d e rfl; simp at m4; omega
  have kne0 : ∀ d, ¬ k = (d, c1) := by rintro d rfl; simp at m4; omega
  have hMle : (0 + M.ns.length ≤ (M.ns.map encN).length) = True := by simp
  have htM : List.take M.ns.length (M.ns.map encN) = M.ns.map encN := List.take_of_length_le (by simp)
  obtain ⟨σ2, hσ2⟩ : ∃ σ2, σ2 = ((((σ1.add 5 (Blk.var [AV.nil, AV.p (PV.i IntKind.i64 0)])).put (5, c1) (Blk.var [AV.own k 0 M.ns.length, AV.p (PV.i IntKind.i64 C)])).kill k).put (5, c1) (Blk.var [AV.p (PV.l (List.map encN M.ns)), AV.p (PV.i IntKind.i64 C)])) := ⟨_, rfl⟩
  have hk2 : σ2.clk = c1 + 1 := by rw [hσ2]; simp only [put_clk, kill_clk, add_clk]; omega
  have k20 : ¬ (2, 0) = k := by rintro rfl; simp at m3
  have t5 : σ2.bs (5, c1) = some (Blk.var [AV.p (PV.l (List.map encN M.ns)), AV.p (PV.i IntKind.i64 C)]) := by rw [hσ2]; simp [put_bs]
  have t2 : σ2.bs (2, 0) = some (Blk.var [AV.p (PV.l (List.map encN n.ns)), AV.p (PV.i IntKind.i64 C)]) := by
    have : ¬ (2, 0) = (5, c1) := by simp
    rw [hσ2]; simp only [put_bs, kill_bs, add_bs, hc1, this, k20, Prod.mk.injEq, Nat.reduceEqDiff, false_and, if_false]; exact s2'
  obtain ⟨_, σ3, n1, q, rfl, n2, n3, n4, n5, n6⟩ := RMake_ok (n := M) (x := iN z) hMO (by omega) hMne (iN_Ok wz) rfl rfl (by simp [iN]) (iN_may (by omega) (by omega)) (by rw [hMc, hMu]; omega) σ2
  obtain ⟨K, hK⟩ : ∃ K, M.make (iN z) = K := ⟨_, rfl⟩
  have hKO : K.Ok := by rw [← hK]; exact make_Ok hMO (iN_Ok wz) (by omega)
  have hKc : K.cap = C := by rw [← hK]; exact hMc
  obtain ⟨j, hj⟩ : ∃ j, M.at = j := ⟨_, rfl⟩
  rw [hK, hj] at n1 h1' h2' h4' hT
  rw [hj] at h3'
  rw [hK] at n2 h5' h6'
  rw [hk2] at n3
  obtain ⟨c2, hc2⟩ : ∃ c2, σ3.clk = c2 := ⟨_, rfl⟩
  rw [hc2] at n4
  have hcc : c1 + 1 < c2 := by omega
  have v2 : σ3.bs (2, 0) = some (Blk.var [AV.p (PV.l (List.map encN n.ns)), AV.p (PV.i IntKind.i64 C)]) := by rw [n6 (2, 0) (by rw [hk2]; simp)]; exact t2
  simp only [iN, encT, hMc, List.map_cons, List.map_nil] at n1
  have hij := hT.ne
  have hiK : K.ns[i]? = some (dN z).fresh := by rw [h4' i hij]; exact g2
  have hjK := h2'
  have ed : encN (dN z).fresh = [.i .i64 7, .i .i64 z, .i .i64 0, .s [], .l [], .l [[.i .i64 0, .i .i64 0]]] := rfl
  have ei : encN (iN z).fresh = [.i .i64 10, .i .i64 z, .i .i64 3, .s [], .l [], .l [[.i .i64 0, .i .i64 0]]] := rfl
  have r1 := mapGet encN hiK
  rw [ed] at r1
  have hw1 : (K.ns.map encN).set i [.i .i64 7, .i .i64 z, .i .i64 0, .s [], .l [], .l [[.i .i64 j, .i .i64 0]]] = (K.ns.set i { dN z with to := [⟨j, 0⟩] }).map encN := by rw [List.map_set]; rfl
  have hjK2 : (K.ns.set i { dN z with to := [⟨j, 0⟩] })[j]? = some (iN z).fresh := by rw [List.getElem?_set_ne hij]; exact hjK
  have r2 := mapGet encN hjK2
  rw [ei] at r2
  have hw2 : ((K.ns.set i { dN z with to := [⟨j, 0⟩] }).map encN).set j [.i .i64 10, .i .i64 z, .i .i64 3, .s [], .l [], .l [[.i .i64 i, .i .i64 0]]] = (lnk2 K i j z).ns.map encN := by unfold lnk2; simp only [List.map_set]; rfl
  obtain ⟨X, hX⟩ : ∃ X, lnk2 K i j z = X := ⟨_, rfl⟩
  have hXc : X.cap = C := by rw [← hX]; exact hKc
  have hXl : X.ns.length = K.ns.length := by rw [← hX]; simp [lnk2]
  rw [hX] at hw2 hT
  have hXO : X.Ok := by
    rw [← hX]
    exact set_Ok (n := ⟨K.ns.set i { dN z with to := [⟨j, 0⟩] }, K.cap⟩) (set_Ok hKO ⟨by show wf 7; decide, wz, by show wf 0; decide, by simp [dN], by simp [dN], by simp [dN], by simp [dN], by simp [dN, wf]; have := h1'; have := hKO.ns; omega⟩ i) ⟨by show wf 10; decide, wz, by show wf 3; decide, by simp [iN], by simp [iN], by simp [iN], by simp [iN], by simp [iN, wf]; have := g1; have := hMO.ns; omega⟩ j
  have hXG : X.Good := hT.good hNG (by rw [hNc]; omega)
  have b1 := RCheck_ok hXO
  have b2 := sSweep_ok hXO
  have b3 := sSweep_ok hNO
  have b4 := sLive_ok hXO
  have b5 := sLive_ok hNO
  rw [bool_t hXG] at b1 b2 b4
  rw [bool_t hNG] at b3 b5
  rw [hT.swept hNG] at b2
  rw [hT.live hNG] at b4
  have b6 := Same_ok (swept_Ok hNO) (b := N.swept)
  rw [bool_t rfl] at b6
  have hls : N.live.length * 8 ≤ 140737488355328 := live_small hNO
  have b7 := Ints_ok (b := N.live) hls
  rw [bool_t rfl] at b7
  simp only [if_true, encT, hXc, hNns, hNc] at b1 b2 b3 b4 b5 b6 b7
  have q1 : ∀ d e, ¬ q = (d, c2 + e) := by rintro d e rfl; simp at n4; omega
  have q0 : ∀ d, ¬ q = (d, c2) := by rintro d rfl; simp at n4
  have q1s : ∀ d, ¬ q = (d, c2 + 1) := fun d => q1 d 1
  have q2s : ∀ d, ¬ q = (d, c2 + 1 + 1) := fun d => q1 d 2
  have q3s : ∀ d, ¬ q = (d, c2 + 1 + 1 + 1) := fun d => q1 d 3
  have q4s : ∀ d, ¬ q = (d, c2 + 1 + 1 + 1 + 1) := fun d => q1 d 4
  have p0 : ∀ d, ¬ (d, c2) = q := fun d e => q0 d e.symm
  have p1s : ∀ d, ¬ (d, c2 + 1) = q := fun d e => q1s d e.symm
  have p2s : ∀ d, ¬ (d, c2 + 1 + 1) = q := fun d e => q2s d e.symm
  have p3s : ∀ d, ¬ (d, c2 + 1 + 1 + 1) = q := fun d e => q3s d e.symm
  have p4s : ∀ d, ¬ (d, c2 + 1 + 1 + 1 + 1) = q := fun d e => q4s d e.symm
  have q5 : ¬ (2, 0) = q := by rintro rfl; simp at n3
  have nc2 : ¬ 0 = c2 ∧ ¬ 0 = c2 + 1 := by omega
  have li : (i : Int) < (K.ns.length : Int) := by omega
  have lj : (j : Int) < (K.ns.length : Int) := by omega
  have gi0 : (0 : Int) ≤ (i : Int) := by omega
  have gj0 : (0 : Int) ≤ (j : Int) := by omega
  have htX : List.take K.ns.length (X.ns.map encN) = X.ns.map encN := List.take_of_length_le (by simp [hXl])
  simp only [F6, f0, a1, a2, z0, z1, hw, hC, ← hσ0, s2, s2', t2, t5, v2, ← hσ2, n1, n2, hc2, r1, r2, hw1, hw2, q0, q1s, q2s, q3s, q4s, p0, p1s, p2s, p3s, p4s, q5, li, lj, gi0, gj0, hXl, htX, b1, b2, b3, b4, b5, b6, b7, rowK, Int.toNat_natCast, List.length_set, m1, m2, hc1, kne0, htM, x_fz, fzS, fz1, Nat.zero_add, Nat.le_refl, List.length_map, Int.reduceEq, fxa, fxc, fxE, fxL, fxI, nxE, evO, evR, cellsT, ldCells, mkT, lenA, binPV, Env.init, resV, resT, frT, klT, ownT, intT, O.adds, ownA, rowsA, over, wrOk, keysT, keysA, ne_eq, if_true, if_false, ite_self, Nat.reduceLT, Nat.reduceSub, Nat.reduceBEq, Nat.reduceEqDiff, Nat.reduceAdd, Nat.reduceLeDiff, reduceCtorEq, Nat.reduceMul]
end Go.Proofs.Ytkpfjolcmkikeaa
