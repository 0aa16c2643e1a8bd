/- Making, freeing, a new net: the program's functions. -/
import Derived.Test.YtomcceambpneiaaStore2
set_option linter.unusedSimpArgs false
set_option linter.unusedVariables false
set_option maxHeartbeats 4000000
set_option maxRecDepth 10000
namespace Go.Proofs.Ytomcceambpneiaa
open Go.Fx

def isFree (x : Nd) : Bool := decide (x.k = 0)
/-- the first place that is free; else: behind all -/
def Nt.at (n : Nt) : Nat := match n.ns.findIdx? isFree with | some i => i | none => n.ns.length
def Nd.fresh (x : Nd) : Nd := { x with to := List.replicate x.ports.toNat zP }
def Nt.make (n : Nt) (x : Nd) : Nt := { n with ns := match n.ns.findIdx? isFree with | some i => n.ns.set i x.fresh | none => n.ns ++ [x.fresh] }
noncomputable def makeR (n : Nt) (x : Nd) : Nt × Int × Int :=
  if (x.k = 0 ∨ x.k = 1) ∨ bool x.may = false then (n, 0, 122) else if n.used ≥ n.cap then (n, 0, 121) else (n.make x, n.at, 0)
def encTIE (x : Nt × Int × Int) : PT := .t [(true, encT x.1), (false, [.i .i64 x.2.1]), (false, [.i .i64 x.2.2])]

theorem ports_b {x : Nd} (hx : x.Ok) : 0 ≤ x.ports ∧ x.ports * 16 ≤ 140737488355328 := by
  have h1 := hx.to
  have h2 := hx.al
  unfold Nd.ports
  repeat' split
  all_goals omega

theorem sMake_ok {n : Nt} {x : Nd} (hn : n.Ok) (hbig : n.ns.length * 88 + 88 ≤ 140737488355328) (hx : x.Ok) : eP S 96 [.g (encT n), .g (encN x)] = some (encTIE (makeR n x)) := by
  have c1 := sNode_ok hx
  have c2 := sUsed_ok hn
  have c3 := sPorts_ok hx
  have c4 := cloneA_ok x.al hx.al
  have hp := ports_b hx
  refine x_fn (orcS (by decide)) (fc := F96) rfl rfl ?_
  unfold makeR
  by_cases k0 : x.k = 0
  · simp only [F96, k0, encTIE, true_or, fxa, fxc, fxE, fxL, fxI, nxE, evO, evR, cellsT, ldCells, mkT, lenA, binPV, Env.init, resV, resT, frT, klT, ownT, intT, O.adds, ownA, rowsA, over, wrOk, keysT, keysA, ne_eq, if_true, if_false, ite_self, Nat.reduceLT, Nat.reduceSub, Nat.reduceBEq, Nat.reduceEqDiff, Nat.reduceAdd, Nat.reduceLeDiff, reduceCtorEq, Nat.reduceMul]
  by_cases k1 : x.k = 1
  · simp only [F96, k0, k1, Int.reduceEq, encTIE, true_or, or_true, fxa, fxc, fxE, fxL, fxI, nxE, evO, evR, cellsT, ldCells, mkT, lenA, binPV, Env.init, resV, resT, frT, klT, ownT, intT, O.adds, ownA, rowsA, over, wrOk, keysT, keysA, ne_eq, if_true, if_false, ite_self, Nat.reduceLT, Nat.reduceSub, Nat.reduceBEq, Nat.reduceEqDiff, Nat.reduceAdd, Nat.reduceLeDiff, reduceCtorEq, Nat.reduceMul]
  by_cases hm : x.may
  case neg =>
    rw [bool_f hm] at c1 ⊢
    simp only [encN] at c1
    simp only [F96, k0, k1, c1, encTIE, or_true, fxa, fxc, fxE, fxL, fxI, nxE, evO, evR, cellsT, ldCells, mkT, lenA, binPV, Env.init, resV, resT, frT, klT, ownT, intT, O.adds, ownA, rowsA, over, wrOk, keysT, keysA, ne_eq, if_true, if_false, ite_self, Nat.reduceLT, Nat.reduceSub, Nat.reduceBEq, Nat.reduceEqDiff, Nat.reduceAdd, Nat.reduceLeDiff, reduceCtorEq, Nat.reduceMul]
  rw [bool_t hm] at c1 ⊢
  by_cases hu : n.used ≥ n.cap
  · simp only [encN, encT] at c1 c2
    simp only [F96, k0, k1, c1, c2, hu, encTIE, or_self, Bool.true_eq_false, fxa, fxc, fxE, fxL, fxI, nxE, evO, evR, cellsT, ldCells, mkT, lenA, binPV, Env.init, resV, resT, frT, klT, ownT, intT, O.adds, ownA, rowsA, over, wrOk, keysT, keysA, ne_eq, if_true, if_false, ite_self, Nat.reduceLT, Nat.reduceSub, Nat.reduceBEq, Nat.reduceEqDiff, Nat.reduceAdd, Nat.reduceLeDiff, reduceCtorEq, Nat.reduceMul]
  obtain ⟨σ1, hcall, s10, hclk, hls, hold⟩ := copied_ok hbig (((St.empty.add 2 (.var ((encT n).map .p))).add 3 (.var ((encN x).map .p))).add 4 (.var [.nil, .p (.i .i64 0)]))
  have h2 := hold (2, 0) (by simp [add_clk, empty_clk])
  have h3 := hold (3, 1) (by simp [add_clk, empty_clk])
  have h4 := hold (4, 2) (by simp [add_clk, empty_clk])
  simp only [encT, encN, List.map_cons, List.map_nil, add_clk, empty_clk, add_bs, empty_bs, Nat.zero_add, Nat.reduceAdd, if_true, if_false, Prod.mk.injEq, Nat.reduceEqDiff, false_and, and_false, and_self, Nat.succ_ne_self] at hcall s10 hclk h2 h3 h4
  simp only [encN, encT] at c1 c2 c3
  have hidx := indexN_ok n.ns hn.ns
  cases hf : n.ns.findIdx? isFree with
  | some i =>
    have hi : idx (fun x : Nd => decide (x.k = 0)) n.ns = (i : Int) := by
      have : n.ns.findIdx? (fun x : Nd => decide (x.k = 0)) = some i := hf
      simp only [idx, this]
    rw [hi] at hidx
    have hil : i < n.ns.length := by
      have := List.findIdx?_eq_some_iff_getElem.1 hf
      exact this.1
    obtain ⟨y, hy⟩ : ∃ y, n.ns[i]? = some y := ⟨_, List.getElem?_eq_getElem hil⟩
    have hy' := mapGet encN hy
    have hlt : ((i : Nat) : Int) < (n.ns.length : Int) := by omega
    have hneg : ¬ ((i : Nat) : Int) < 0 := by omega
    have hge : (0 : Int) ≤ ((i : Nat) : Int) := by omega
    simp only [F96, k0, k1, c1, c2, c3, c4, hu, hcall, s10, hclk, h2, h3, h4, hp.1, hp.2, hidx, hlt, hneg, hge, hy', rowK, Int.cast_ofNat_Int, encTIE, or_self, Bool.true_eq_false, Int.le_refl, fxa, fxc, fxE, fxL, fxI, nxE, evO, evR, cellsT, ldCells, mkT, lenA, binPV, Env.init, resV, resT, frT, klT, ownT, intT, O.adds, ownA, rowsA, over, wrOk, keysT, keysA, ne_eq, if_true, if_false, ite_self, Nat.reduceLT, Nat.reduceSub, Nat.reduceBEq, Nat.reduceEqDiff, Nat.reduceAdd, Nat.reduceLeDiff, reduceCtorEq, Nat.reduceMul]
    have hset : (n.ns.map encN).set i [.i .i64 x.k, .i .i64 x.lv, .i .i64 x.n, .s x.s, .l (x.al.map encA), .l (List.replicate x.ports.toNat [.i .i64 0, .i .i64 0])] = (n.ns.set i x.fresh).map encN := by
      rw [List.map_set]; simp [encN, Nd.fresh, zP, encP]
    rw [hset]
    have hlen : n.ns.length ≤ (n.ns.set i x.fresh).length := by simp
    have htk : List.take n.ns.length ((n.ns.set i x.fresh).map encN) = (n.ns.set i x.fresh).map encN := List.take_of_length_le (by simp)
    simp only [hlen, htk, Nt.make, Nt.at, hf, fxa, fxc, fxE, fxL, fxI, nxE, evO, evR, cellsT, ldCells, mkT, lenA, binPV, Env.init, resV, resT, frT, klT, ownT, intT, O.adds, ownA, rowsA, over, wrOk, keysT, keysA, ne_eq, if_true, if_false, ite_self, Nat.reduceLT, Nat.reduceSub, Nat.reduceBEq, Nat.reduceEqDiff, Nat.reduceAdd, Nat.reduceLeDiff, reduceCtorEq, Nat.reduceMul]
  | none =>
    have hi : idx (fun x : Nd => decide (x.k = 0)) n.ns = -1 := by
      have : n.ns.findIdx? (fun x : Nd => decide (x.k = 0)) = none := hf
      simp only [idx, this]
    rw [hi] at hidx
    have htk0 : List.take n.ns.length (n.ns.map encN) = n.ns.map encN := List.take_of_length_le (by simp)
    have hat : ∀ r : List PV, (n.ns.map encN ++ [r])[n.ns.length]? = some r := by intro r; rw [List.getElem?_append_right (by simp)]; simp
    have hset : ∀ r r' : List PV, (n.ns.map encN ++ [r]).set n.ns.length r' = n.ns.map encN ++ [r'] := by intro r r'; rw [List.set_append_right _ _ (by simp)]; simp
    have hb1 : (n.ns.length + 1) * 88 ≤ 140737488355328 := by omega
    have hlt : ((n.ns.length : Nat) : Int) < ((n.ns.length + 1 : Nat) : Int) := by omega
    have hge : (0 : Int) ≤ ((n.ns.length : Nat) : Int) := by omega
    simp only [F96, k0, k1, c1, c2, c3, c4, hu, hcall, s10, hclk, h2, h3, h4, hp.1, hp.2, hidx, Int.reduceNeg, Int.reduceLT, hb1, hlt, hge, htk0, hat, hset, rowK, encTIE, or_self, Bool.true_eq_false, Int.le_refl, Int.cast_ofNat_Int, fxa, fxc, fxE, fxL, fxI, nxE, evO, evR, cellsT, ldCells, mkT, lenA, binPV, Env.init, resV, resT, frT, klT, ownT, intT, O.adds, ownA, rowsA, over, wrOk, keysT, keysA, ne_eq, if_true, if_false, ite_self, Nat.reduceLT, Nat.reduceSub, Nat.reduceBEq, Nat.reduceEqDiff, Nat.reduceAdd, Nat.reduceLeDiff, reduceCtorEq, Nat.reduceMul]
    have hmk : n.ns.map encN ++ [[.i .i64 x.k, .i .i64 x.lv, .i .i64 x.n, .s x.s, .l (x.al.map encA), .l (List.replicate x.ports.toNat [.i .i64 0, .i .i64 0])]] = (n.ns ++ [x.fresh]).map encN := by
      simp [encN, Nd.fresh, zP, encP]
    rw [hmk]
    have hlen : n.ns.length + 1 ≤ (n.ns ++ [x.fresh]).length := by simp
    have htk : List.take (n.ns.length + 1) ((n.ns ++ [x.fresh]).map encN) = (n.ns ++ [x.fresh]).map encN := List.take_of_length_le (by simp)
    have hmake : (n.make x).ns = n.ns ++ [x.fresh] ∧ (n.make x).cap = n.cap ∧ n.at = n.ns.length := by simp only [Nt.make, Nt.at, hf, and_self]
    rw [hmake.1, hmake.2.1, hmake.2.2]
    simp only [List.length_map, hlen, htk, fxa, fxc, fxE, fxL, fxI, nxE, evO, evR, cellsT, ldCells, mkT, lenA, binPV, Env.init, resV, resT, frT, klT, ownT, intT, O.adds, ownA, rowsA, over, wrOk, keysT, keysA, ne_eq, if_true, if_false, ite_self, Nat.reduceLT, Nat.reduceSub, Nat.reduceBEq, Nat.reduceEqDiff, Nat.reduceAdd, Nat.reduceLeDiff, reduceCtorEq, Nat.reduceMul]

end Go.Proofs.Ytomcceambpneiaa
