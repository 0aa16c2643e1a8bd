/- Freeing a place: the program's function. -/
import Derived.Test.YtomcceambpneiaaStore3
set_option linter.unusedSimpArgs false
set_option linter.unusedVariables false
set_option maxHeartbeats 4000000
set_option maxRecDepth 10000
namespace Go.Proofs.Ytomcceambpneiaa
open Go.Fx

/-- how many places, without those behind all that are not free -/
def tl (l : List Nd) : Nat → Nat
  | 0 => 0
  | k + 1 => if isFree (l.getD k zN) then tl l k else k + 1
def trim (l : List Nd) : List Nd := l.take (tl l l.length)
def Nt.free (n : Nt) (i : Int) : Nt := { n with ns := trim (n.ns.set i.toNat zN) }
def freeR (n : Nt) (i : Int) : Nt × Int := if 0 ≤ i ∧ i ≤ (n.ns.length : Int) - 1 ∧ (n.nd i).k ≠ 0 then (n.free i, 0) else (n, 122)

theorem sFree_ok {n : Nt} (hn : n.Ok) (hbig : n.ns.length * 88 + 88 ≤ 140737488355328) (i : Int) : eP S 77 [.g (encT n), .a (.i .i64 i)] = some (encTE (freeR n i)) := by
  have hw0 : IntKind.i64.wrap ((n.ns.length : Int) - 1) = (n.ns.length : Int) - 1 := wrap_in _ (by omega)
  refine x_fn (orcS (by decide)) (fc := F77) rfl rfl ?_
  unfold freeR
  by_cases hin : 0 ≤ i ∧ i ≤ (n.ns.length : Int) - 1
  case neg =>
    have c1 := in_no hin
    rw [if_neg (fun h => hin ⟨h.1, h.2.1⟩)]
    simp only [F77, hw0, c1, encTE, fxa, fxc, fxE, fxL, fxI, nxE, evO, evR, cellsT, ldCells, mkT, lenA, binPV, Env.init, resV, resT, frT, klT, ownT, intT, O.adds, ownA, rowsA, over, wrOk, keysT, keysA, ne_eq, if_true, if_false, ite_self, Nat.reduceLT, Nat.reduceSub, Nat.reduceBEq, Nat.reduceEqDiff, Nat.reduceAdd, Nat.reduceLeDiff, reduceCtorEq, Nat.reduceMul]
  have c1 := in_is hin
  have hx := getN (l := n.ns) (i := i) hin.1 (by omega)
  have hlt : i < (n.ns.length : Int) := by omega
  have hge := hin.1
  obtain ⟨y, hy⟩ : ∃ y, n.ns.getD i.toNat zN = y := ⟨_, rfl⟩
  have hy2 : n.nd i = y := hy
  rw [hy] at hx
  have c2 := sfree_ok y
  simp only [encN] at c2
  rw [hy2]
  by_cases hk : y.k = 0
  · rw [if_neg (fun h => h.2.2 hk)]
    rw [hk] at c2
    simp only [encN, hk] at hx
    simp only [F77, hw0, c1, hlt, hge, hx, c2, encTE, fxa, fxc, fxE, fxL, fxI, nxE, evO, evR, cellsT, ldCells, mkT, lenA, binPV, Env.init, resV, resT, frT, klT, ownT, intT, O.adds, ownA, rowsA, over, wrOk, keysT, keysA, ne_eq, if_true, if_false, ite_self, Nat.reduceLT, Nat.reduceSub, Nat.reduceBEq, Nat.reduceEqDiff, Nat.reduceAdd, Nat.reduceLeDiff, reduceCtorEq, Nat.reduceMul]
  rw [if_pos ⟨hin.1, hin.2, hk⟩]
  obtain ⟨σ1, hcall, s10, hclk, hls, hold⟩ := copied_ok hbig ((St.empty.add 2 (.var ((encT n).map .p))).add 4 (.var [.nil, .p (.i .i64 0)]))
  have h2 := hold (2, 0) (by simp [add_clk, empty_clk])
  have h4 := hold (4, 1) (by simp [add_clk, empty_clk])
  simp only [encT, encN, List.map_cons, List.map_nil, add_clk, empty_clk, add_bs, empty_bs, Nat.zero_add, Nat.reduceAdd, if_true, if_false, Prod.mk.injEq, Nat.reduceEqDiff, false_and, and_false, and_self, Nat.succ_ne_self] at hcall s10 hclk h2 h4
  simp only [encN] at hx
  have hlt2 : i.toNat < n.ns.length := by omega
  have hset : ∀ r : List PV, r = encN zN → (n.ns.map encN).set i.toNat r = (n.ns.set i.toNat zN).map encN := by rintro r rfl; rw [List.map_set]
  have hz : encN zN = [.i .i64 0, .i .i64 0, .i .i64 0, .s [], .l [], .l []] := rfl
  have hset' := hset _ hz.symm
  obtain ⟨M, hM⟩ : ∃ M, M = n.ns.set i.toNat zN := ⟨_, rfl⟩
  have hMl : M.length = n.ns.length := by rw [hM]; simp
  rw [← hM] at hset'
  have hfr : n.free i = ⟨M.take (tl M M.length), n.cap⟩ := by rw [hM]; rfl
  rw [hfr]
  simp only [F77, hw0, c1, hlt, hge, hx, c2, hk, hcall, s10, hclk, h2, h4, hset', rowK, encTE, fxa, fxc, fxE, fxL, fxI, nxE, evO, evR, cellsT, ldCells, mkT, lenA, binPV, Env.init, resV, resT, frT, klT, ownT, intT, O.adds, ownA, rowsA, over, wrOk, keysT, keysA, ne_eq, if_true, if_false, ite_self, Nat.reduceLT, Nat.reduceSub, Nat.reduceBEq, Nat.reduceEqDiff, Nat.reduceAdd, Nat.reduceLeDiff, reduceCtorEq, Nat.reduceMul]
  refine loop_nat M.length (fun q e σ => e 2 = .a (.ptr (2, 0) 0 0) ∧ e 4 = .a (.ptr (4, 1) 0 0) ∧ σ.bs (2, 0) = some (.var [.own (10, 5) 0 (M.length - q), .p (.i .i64 n.cap)]) ∧ σ.bs (4, 1) = some (.var [.nil, .p (.i .i64 0)]) ∧
    σ.bs (10, 5) = some (.row 6 25 (M.map encN)) ∧ tl M M.length = tl M (M.length - q)) (i0 := 0) (Nat.zero_le _) ?_ ?_ ?_
  · refine ⟨?_, ?_, ?_, ?_, ?_, ?_⟩ <;> simp only [hMl, Nat.sub_zero, h2, h4, fxa, fxc, fxE, fxL, fxI, nxE, evO, evR, cellsT, ldCells, mkT, lenA, binPV, Env.init, resV, resT, frT, klT, ownT, intT, O.adds, ownA, rowsA, over, wrOk, keysT, keysA, ne_eq, if_true, if_false, ite_self, Nat.reduceLT, Nat.reduceSub, Nat.reduceBEq, Nat.reduceEqDiff, Nat.reduceAdd, Nat.reduceLeDiff, reduceCtorEq, Nat.reduceMul]
  · rintro q e σ hq ⟨e2, e4, s2, s4, s10, ht⟩
    obtain ⟨k, hk⟩ : ∃ k, M.length - q = k + 1 := ⟨M.length - q - 1, by omega⟩
    have hk2 : M.length - (q + 1) = k := by omega
    obtain ⟨L, hL⟩ : ∃ L, L = M.length - q := ⟨_, rfl⟩
    rw [← hL] at s2 ht
    rw [hk2]
    have hLk : L = k + 1 := by omega
    have hw : IntKind.i64.wrap ((L : Int) - 1) = (k : Int) := by rw [wrap_in _ (by omega)]; omega
    have hgt : (L : Int) > 0 := by omega
    have hlt : (k : Int) < (L : Int) := by omega
    have hle : (k : Int) ≤ (L : Int) := by omega
    have hge : (0 : Int) ≤ (k : Int) := by omega
    obtain ⟨x, hx⟩ : ∃ x, M[k]? = some x := ⟨_, List.getElem?_eq_getElem (by omega)⟩
    have hx' := mapGet encN hx
    have c1 := sfree_ok x
    have hgd : M.getD k zN = x := by rw [List.getD_eq_getElem?_getD, hx]; rfl
    have htk : tl M (k + 1) = if x.k = 0 then tl M k else k + 1 := by simp only [tl, hgd, isFree, decide_eq_true_eq]
    simp only [encN] at c1
    by_cases hf : x.k = 0
    · rw [hf] at c1
      rw [hLk, htk, if_pos hf] at ht
      simp only [F77b0, e2, e4, s2, s4, s10, hw, hgt, hlt, hle, hge, hx', c1, hf, rowK, optInt, Int.toNat_zero, Nat.sub_zero, Int.le_refl, fxa, fxc, fxE, fxL, fxI, nxE, evO, evR, cellsT, ldCells, mkT, lenA, binPV, Env.init, resV, resT, frT, klT, ownT, intT, O.adds, ownA, rowsA, over, wrOk, keysT, keysA, ne_eq, if_true, if_false, ite_self, Nat.reduceLT, Nat.reduceSub, Nat.reduceBEq, Nat.reduceEqDiff, Nat.reduceAdd, Nat.reduceLeDiff, reduceCtorEq, Nat.reduceMul]
      exact ht
    · rw [hLk, htk, if_neg hf, ← hLk] at ht
      rw [ht]
      have hlen : L ≤ M.length := by omega
      have htake : List.take L (M.map encN) = (M.take L).map encN := List.map_take.symm
      simp only [F77b0, e2, e4, s2, s4, s10, hw, hgt, hlt, hle, hge, hx', c1, hf, rowK, hlen, htake, List.length_map, fxa, fxc, fxE, fxL, fxI, nxE, evO, evR, cellsT, ldCells, mkT, lenA, binPV, Env.init, resV, resT, frT, klT, ownT, intT, O.adds, ownA, rowsA, over, wrOk, keysT, keysA, ne_eq, if_true, if_false, ite_self, Nat.reduceLT, Nat.reduceSub, Nat.reduceBEq, Nat.reduceEqDiff, Nat.reduceAdd, Nat.reduceLeDiff, reduceCtorEq, Nat.reduceMul]
  · rintro e σ ⟨e2, e4, s2, s4, s10, ht⟩
    rw [Nat.sub_self] at s2 ht
    have : tl M 0 = 0 := rfl
    rw [ht, this]
    have hgt : ¬ ((0 : Nat) : Int) > 0 := by simp
    simp only [F77b0, e2, e4, s2, s4, s10, hgt, List.take_zero, List.map_nil, Nat.zero_le, fxa, fxc, fxE, fxL, fxI, nxE, evO, evR, cellsT, ldCells, mkT, lenA, binPV, Env.init, resV, resT, frT, klT, ownT, intT, O.adds, ownA, rowsA, over, wrOk, keysT, keysA, ne_eq, if_true, if_false, ite_self, Nat.reduceLT, Nat.reduceSub, Nat.reduceBEq, Nat.reduceEqDiff, Nat.reduceAdd, Nat.reduceLeDiff, reduceCtorEq, Nat.reduceMul]

def rootN : Nd := ⟨1, 0, 0, [], [], [⟨1, 0⟩]⟩
def failN : Nd := ⟨13, 0, 0, [], [], [⟨0, 0⟩]⟩
def newT (k : Int) : Nt := ⟨[rootN, failN], k⟩
def newR (k : Int) : Nt × Int := if 2 ≤ k ∧ k ≤ 4000 then (newT k, 0) else (⟨[], 0⟩, 1)

end Go.Proofs.Ytomcceambpneiaa
