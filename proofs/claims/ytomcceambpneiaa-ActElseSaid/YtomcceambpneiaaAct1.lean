/- The stage: a net in which two nodes meet; the program's methods. -/
import Derived.Test.YtomcceambpneiaaStore5
import Derived.Test.YtomcceambpneiaaStoreP
import Derived.Test.YtomcceambpneiaaRule1
import Derived.Test.YtomcceambpneiaaWireO
import Derived.Test.YtomcceambpneiaaEnc
import Derived.Test.YtomcceambpneiaaActO
import Derived.Test.YtomcceambpneiaaFb
set_option linter.unusedSimpArgs false
set_option linter.unusedVariables false
set_option maxHeartbeats 4000000
set_option maxRecDepth 10000
namespace Go.Proofs.Ytomcceambpneiaa
open Go.Fx

/-- the stage's memory -/
def stg (n : Nt) (p : Pl) (a b : Int) : List PV := [.l (n.ns.map encN), .i .i64 n.cap, .i .i64 p.k, .b p.sw, .i .i64 p.lv, .i .i64 p.alt, .i .i64 p.nd.k, .i .i64 p.nd.lv, .i .i64 p.nd.n, .s p.nd.s, .l (p.nd.al.map encA), .l (p.nd.to.map encP), .i .i64 a, .i .i64 b]
structure SG (ks : Key) (n : Nt) (p : Pl) (a b : Int) (σ : St) : Prop where
  bs : σ.bs ks = some (.var ((stg n p a b).map .p))
  lt : ks.2 < σ.clk
/-- nothing else is changed -/
structure Fr (ks : Key) (σ σ' : St) : Prop where
  clk : σ.clk ≤ σ'.clk
  ls : σ'.ls = σ.ls
  bs : ∀ k : Key, k.2 < σ.clk → k ≠ ks → σ'.bs k = σ.bs k
theorem Fr.refl (ks : Key) (σ : St) : Fr ks σ σ := ⟨Nat.le_refl _, rfl, fun _ _ _ => rfl⟩
theorem Fr.trans {ks : Key} {σ τ υ : St} (h : Fr ks σ τ) (g : Fr ks τ υ) : Fr ks σ υ :=
  ⟨Nat.le_trans h.clk g.clk, g.ls.trans h.ls, fun k h1 h2 => (g.bs k (Nat.lt_of_lt_of_le h1 h.clk) h2).trans (h.bs k h1 h2)⟩

theorem Fr.add {ks : Key} {σ τ : St} (h : Fr ks σ τ) (d : Nat) (b : Blk) : Fr ks σ (τ.add d b) :=
  ⟨Nat.le_trans h.clk (by simp only [add_clk]; omega), h.ls, fun k h1 h2 => by
    have h3 := h.clk
    have : ¬ k = (d, τ.clk) := by rintro rfl; simp at h1; omega
    simp only [add_bs, this, if_false]; exact h.bs k h1 h2⟩
theorem Fr.put {ks : Key} {σ τ : St} (h : Fr ks σ τ) {k : Key} (hk : k = ks ∨ σ.clk ≤ k.2) (b : Blk) : Fr ks σ (τ.put k b) :=
  ⟨h.clk, h.ls, fun j h1 h2 => by
    have : ¬ j = k := by rintro rfl; rcases hk with hk | hk; exact h2 hk; omega
    simp only [put_bs, this, if_false]; exact h.bs j h1 h2⟩
theorem Fr.kill {ks : Key} {σ τ : St} (h : Fr ks σ τ) {k : Key} (hk : σ.clk ≤ k.2) : Fr ks σ (τ.kill k) :=
  ⟨h.clk, h.ls, fun j h1 h2 => by
    have : ¬ j = k := by rintro rfl; omega
    simp only [kill_bs, this, if_false]; exact h.bs j h1 h2⟩
theorem SG.add {ks : Key} {n : Nt} {p : Pl} {a b : Int} {σ : St} (h : SG ks n p a b σ) (d : Nat) (x : Blk) : SG ks n p a b (σ.add d x) := by
  have hl := h.lt
  have : ¬ ks = (d, σ.clk) := by rintro rfl; simp at hl
  exact ⟨by simp only [add_bs, this, if_false]; exact h.bs, by simp only [add_clk]; omega⟩
theorem SG.put {ks : Key} {n : Nt} {p : Pl} {a b : Int} {σ : St} (h : SG ks n p a b σ) {k : Key} (hk : ¬ ks = k) (x : Blk) : SG ks n p a b (σ.put k x) :=
  ⟨by simp only [put_bs, hk, if_false]; exact h.bs, h.lt⟩
theorem SG.kill {ks : Key} {n : Nt} {p : Pl} {a b : Int} {σ : St} (h : SG ks n p a b σ) {k : Key} (hk : ¬ ks = k) : SG ks n p a b (σ.kill k) :=
  ⟨by simp only [kill_bs, hk, if_false]; exact h.bs, h.lt⟩
theorem SG.set {ks : Key} {n : Nt} {p : Pl} {a b : Int} {σ : St} (h : ks.2 < σ.clk) : SG ks n p a b (σ.put ks (.var ((stg n p a b).map .p))) :=
  ⟨by simp only [put_bs, if_true], h⟩

theorem port_ok (i j : Int) : eP S 66 [.a (.i .i64 i), .a (.i .i64 j)] = some (.g [.i .i64 i, .i .i64 j]) := by
  refine x_fn (orcS (by decide)) (fc := F66) rfl rfl ?_
  simp only [F66, fxa, fxc, fxE, fxL, fxI, nxE, evO, evR, cellsT, ldCells, mkT, lenA, binPV, Env.init, resV, resT, frT, klT, ownT, intT, O.adds, ownA, rowsA, over, wrOk, keysT, keysA, ne_eq, if_true, if_false, ite_self, Nat.reduceLT, Nat.reduceSub, Nat.reduceBEq, Nat.reduceEqDiff, Nat.reduceAdd, Nat.reduceLeDiff, reduceCtorEq, Nat.reduceMul]

theorem aMove_ok {ks : Key} {n : Nt} {pl : Pl} {a b : Int} {p q : Pt} {σ : St} (hn : n.Ok) (hp : wf p.n ∧ wf p.s) (hq : wf q.n ∧ wf q.s) (h : SG ks n pl a b σ) :
    ∃ σ', eS S (.f 71) [.a (.ptr ks 0 0), .g [.p (.i .i64 p.n), .p (.i .i64 p.s)], .g [.p (.i .i64 q.n), .p (.i .i64 q.s)]] σ = some (.u, σ') ∧ SG ks (moveR n p q).1 pl a b σ' ∧ Fr ks σ σ' := by
  refine x_fnR (fc := F71) rfl rfl ?_
  have c1 := Move_ok hn hp hq
  obtain ⟨⟨m, e⟩, hm⟩ : ∃ m, moveR n p q = m := ⟨_, rfl⟩
  rw [hm] at c1 ⊢
  have s1 := h.bs
  have hlt := h.lt
  have ne0 : ∀ d, ¬ ks = (d, σ.clk) := by rintro d rfl; simp at hlt
  have ne1 : ∀ d, ¬ ks = (d, σ.clk + 1) := by rintro d rfl; simp at hlt; omega
  simp only [encTE, encT, encP] at c1
  simp only [stg, List.map_cons, List.map_nil] at s1
  simp only [F71, s1, c1, ne0, ne1, fxa, fxc, fxE, fxL, fxI, nxE, evO, evR, cellsT, ldCells, mkT, lenA, binPV, Env.init, resV, resT, frT, klT, ownT, intT, O.adds, ownA, rowsA, over, wrOk, keysT, keysA, ne_eq, if_true, if_false, ite_self, Nat.reduceLT, Nat.reduceSub, Nat.reduceBEq, Nat.reduceEqDiff, Nat.reduceAdd, Nat.reduceLeDiff, reduceCtorEq, Nat.reduceMul]
  exact ⟨SG.set (n := m) (p := pl) (a := a) (b := b) (by simp only [add_clk]; omega), (((Fr.refl ks σ).add _ _).add _ _).put (.inl rfl) _⟩
theorem aJoin_ok {ks : Key} {n : Nt} {pl : Pl} {a b : Int} {p q : Pt} {σ : St} (hn : n.Ok) (hp : wf p.n ∧ wf p.s) (hq : wf q.n ∧ wf q.s) (h : SG ks n pl a b σ) :
    ∃ σ', eS S (.f 90) [.a (.ptr ks 0 0), .g [.p (.i .i64 p.n), .p (.i .i64 p.s)], .g [.p (.i .i64 q.n), .p (.i .i64 q.s)]] σ = some (.u, σ') ∧ SG ks (joinR n p q).1 pl a b σ' ∧ Fr ks σ σ' := by
  refine x_fnR (fc := F90) rfl rfl ?_
  have c1 := Join_ok hn hp hq
  obtain ⟨⟨m, e⟩, hm⟩ : ∃ m, joinR n p q = m := ⟨_, rfl⟩
  rw [hm] at c1 ⊢
  have s1 := h.bs
  have hlt := h.lt
  have ne0 : ∀ d, ¬ ks = (d, σ.clk) := by rintro d rfl; simp at hlt
  have ne1 : ∀ d, ¬ ks = (d, σ.clk + 1) := by rintro d rfl; simp at hlt; omega
  simp only [encTE, encT, encP] at c1
  simp only [stg, List.map_cons, List.map_nil] at s1
  simp only [F90, s1, c1, ne0, ne1, fxa, fxc, fxE, fxL, fxI, nxE, evO, evR, cellsT, ldCells, mkT, lenA, binPV, Env.init, resV, resT, frT, klT, ownT, intT, O.adds, ownA, rowsA, over, wrOk, keysT, keysA, ne_eq, if_true, if_false, ite_self, Nat.reduceLT, Nat.reduceSub, Nat.reduceBEq, Nat.reduceEqDiff, Nat.reduceAdd, Nat.reduceLeDiff, reduceCtorEq, Nat.reduceMul]
  exact ⟨SG.set (n := m) (p := pl) (a := a) (b := b) (by simp only [add_clk]; omega), (((Fr.refl ks σ).add _ _).add _ _).put (.inl rfl) _⟩
theorem aLink_ok {ks : Key} {n : Nt} {pl : Pl} {a b : Int} {p q : Pt} {σ : St} (hn : n.Ok) (hp : wf p.n ∧ wf p.s) (hq : wf q.n ∧ wf q.s) (h : SG ks n pl a b σ) :
    ∃ σ', eS S (.f 94) [.a (.ptr ks 0 0), .g [.p (.i .i64 p.n), .p (.i .i64 p.s)], .g [.p (.i .i64 q.n), .p (.i .i64 q.s)]] σ = some (.u, σ') ∧ SG ks (linkR n p q).1 pl a b σ' ∧ Fr ks σ σ' := by
  refine x_fnR (fc := F94) rfl rfl ?_
  have c1 := Link_ok hn hp hq
  obtain ⟨⟨m, e⟩, hm⟩ : ∃ m, linkR n p q = m := ⟨_, rfl⟩
  rw [hm] at c1 ⊢
  have s1 := h.bs
  have hlt := h.lt
  have ne0 : ∀ d, ¬ ks = (d, σ.clk) := by rintro d rfl; simp at hlt
  have ne1 : ∀ d, ¬ ks = (d, σ.clk + 1) := by rintro d rfl; simp at hlt; omega
  simp only [encTE, encT, encP] at c1
  simp only [stg, List.map_cons, List.map_nil] at s1
  simp only [F94, s1, c1, ne0, ne1, fxa, fxc, fxE, fxL, fxI, nxE, evO, evR, cellsT, ldCells, mkT, lenA, binPV, Env.init, resV, resT, frT, klT, ownT, intT, O.adds, ownA, rowsA, over, wrOk, keysT, keysA, ne_eq, if_true, if_false, ite_self, Nat.reduceLT, Nat.reduceSub, Nat.reduceBEq, Nat.reduceEqDiff, Nat.reduceAdd, Nat.reduceLeDiff, reduceCtorEq, Nat.reduceMul]
  exact ⟨SG.set (n := m) (p := pl) (a := a) (b := b) (by simp only [add_clk]; omega), (((Fr.refl ks σ).add _ _).add _ _).put (.inl rfl) _⟩

/-- a list in a node's cells: a value, or nil -/
def NC (rows : List (List PV)) (z : AV) : Prop := z = .p (.l rows) ∨ z = .nil ∧ rows = []
theorem NC.p (rows : List (List PV)) : NC rows (.p (.l rows)) := .inl rfl
theorem NC.nil : NC [] .nil := .inr ⟨rfl, rfl⟩
theorem aMade_ok {ks : Key} {n : Nt} {pl : Pl} {a b : Int} {x : Nd} {za zt : AV} {σ : St} (hn : n.Ok) (hbig : n.ns.length * 88 + 88 ≤ 140737488355328) (hx : x.Ok) (ha : NC (x.al.map encA) za) (ht : NC (x.to.map encP) zt) (h : SG ks n pl a b σ) :
    ∃ σ', eS S (.f 72) [.a (.ptr ks 0 0), .g [.p (.i .i64 x.k), .p (.i .i64 x.lv), .p (.i .i64 x.n), .p (.s x.s), za, zt]] σ = some (.a (.p (.i .i64 (makeR n x).2.1)), σ') ∧ SG ks (makeR n x).1 pl a b σ' ∧ Fr ks σ σ' := by
  refine x_fnR (fc := F72) rfl rfl ?_
  have c1 := sMake_ok hn hbig hx
  obtain ⟨⟨m, i, e⟩, hm⟩ : ∃ m, makeR n x = m := ⟨_, rfl⟩
  rw [hm] at c1 ⊢
  have s1 := h.bs
  have hlt := h.lt
  have ne0 : ∀ d, ¬ ks = (d, σ.clk) := by rintro d rfl; simp at hlt
  simp only [encTIE, encT, encN] at c1
  simp only [stg, List.map_cons, List.map_nil] at s1
  rcases ha with rfl | ⟨rfl, ha⟩
  all_goals rcases ht with rfl | ⟨rfl, ht⟩
  all_goals first | rw [ha, ht] at c1 | rw [ha] at c1 | rw [ht] at c1 | skip
  all_goals simp only [F72, s1, c1, ne0, encN, List.map_cons, List.map_nil, fxa, fxc, fxE, fxL, fxI, nxE, evO, evR, cellsT, ldCells, mkT, lenA, binPV, Env.init, resV, resT, frT, klT, ownT, intT, O.adds, ownA, rowsA, over, wrOk, keysT, keysA, ne_eq, if_true, if_false, ite_self, Nat.reduceLT, Nat.reduceSub, Nat.reduceBEq, Nat.reduceEqDiff, Nat.reduceAdd, Nat.reduceLeDiff, reduceCtorEq, Nat.reduceMul]
  all_goals exact ⟨SG.set (n := m) (p := pl) (a := a) (b := b) (by simp only [add_clk]; omega), ((Fr.refl ks σ).add _ _).put (.inl rfl) _⟩

theorem aNode_ok {ks : Key} {n : Nt} {pl : Pl} {a b i : Int} {σ : St} (h0 : 0 ≤ i) (h1 : i < n.ns.length) (h : SG ks n pl a b σ) :
    ∃ σ', eS S (.f 91) [.a (.ptr ks 0 0), .a (.p (.i .i64 i))] σ = some (.g ((encN (n.nd i)).map .p), σ') ∧ SG ks n pl a b σ' ∧ Fr ks σ σ' := by
  refine x_fnR (fc := F91) rfl rfl ?_
  have s1 := h.bs
  have hlt := h.lt
  have k1 := getN (l := n.ns) h0 h1
  obtain ⟨x, hx⟩ : ∃ x, n.nd i = x := ⟨_, rfl⟩
  have hx2 : n.ns.getD i.toNat zN = x := hx
  rw [hx2] at k1
  rw [hx]
  have ne0 : ∀ d, ¬ ks = (d, σ.clk) := by rintro d rfl; simp at hlt
  simp only [stg, List.map_cons, List.map_nil] at s1
  simp only [F91, s1, k1, h0, h1, ne0, encN, List.map_cons, List.map_nil, fxa, fxc, fxE, fxL, fxI, nxE, evO, evR, cellsT, ldCells, mkT, lenA, binPV, Env.init, resV, resT, frT, klT, ownT, intT, O.adds, ownA, rowsA, over, wrOk, keysT, keysA, ne_eq, if_true, if_false, ite_self, Nat.reduceLT, Nat.reduceSub, Nat.reduceBEq, Nat.reduceEqDiff, Nat.reduceAdd, Nat.reduceLeDiff, reduceCtorEq, Nat.reduceMul]
  exact ⟨((h.add _ _).put (ne0 4) _), ((Fr.refl ks σ).add _ _).put (.inr (Nat.le_refl _)) _⟩

theorem aLevel_ok {ks : Key} {n : Nt} {pl : Pl} {a b : Int} {σ : St} (h0 : 0 ≤ a) (h1 : a < n.ns.length) (h : SG ks n pl a b σ) :
    ∃ σ', eS S (.f 93) [.a (.ptr ks 0 0)] σ = some (.a (.p (.i .i64 (n.nd a).lv)), σ') ∧ SG ks n pl a b σ' ∧ Fr ks σ σ' := by
  refine x_fnR (fc := F93) rfl rfl ?_
  have s1 := h.bs
  obtain ⟨σ', c1, g1, g2⟩ := aNode_ok h0 h1 h
  simp only [stg, List.map_cons, List.map_nil] at s1
  simp only [encN, List.map_cons, List.map_nil] at c1
  simp only [F93, s1, c1, frA_ptr, fxa, fxc, fxE, fxL, fxI, nxE, evO, evR, cellsT, ldCells, mkT, lenA, binPV, Env.init, resV, resT, frT, klT, ownT, intT, O.adds, ownA, rowsA, over, wrOk, keysT, keysA, ne_eq, if_true, if_false, ite_self, Nat.reduceLT, Nat.reduceSub, Nat.reduceBEq, Nat.reduceEqDiff, Nat.reduceAdd, Nat.reduceLeDiff, reduceCtorEq, Nat.reduceMul]
  exact ⟨g1, g2⟩

/-- a slice of the call's own -/
def SL (c0 w : Nat) (t : TypeId) (rows : List (List PV)) (v : AV) (σ : St) : Prop :=
  v = .nil ∧ rows = [] ∨ ∃ k : Key, v = .own k 0 rows.length ∧ σ.bs k = some (.row w t rows) ∧ c0 ≤ k.2 ∧ k.2 < σ.clk
theorem SL.fr {c0 w : Nat} {t : TypeId} {rows : List (List PV)} {v : AV} {σ τ : St} {ks : Key} {n : Nt} {pl : Pl} {a b : Int} (h : SL c0 w t rows v σ) (hs : SG ks n pl a b σ) (hf : Fr ks σ τ) : SL c0 w t rows v τ := by
  rcases h with h | ⟨k, h1, h2, h3, h4⟩
  · exact .inl h
  · have : k ≠ ks := by rintro rfl; rw [hs.bs] at h2; cases h2
    exact .inr ⟨k, h1, by rw [hf.bs k h4 this]; exact h2, h3, Nat.lt_of_lt_of_le h4 hf.clk⟩

theorem aOthers_ok {ks : Key} {n : Nt} {pl : Pl} {a b i : Int} {j : Nat} {jz : Int} {σ : St} (hjz : jz = (j : Nat)) (hj : j ≤ 100) (h0 : 0 ≤ i) (h1 : i < n.ns.length) (ht : (n.nd i).to.length * 16 ≤ 140737488355328) (h : SG ks n pl a b σ) :
    ∃ σ' v, eS S (.f 76) [.a (.ptr ks 0 0), .a (.p (.i .i64 i)), .a (.p (.i .i64 jz))] σ = some (.a v, σ') ∧ SG ks n pl a b σ' ∧ Fr ks σ σ' ∧
      SL σ.clk 2 58 ((portsR i j (n.nd i).to.length).map encP) v σ' := by
  subst hjz
  obtain ⟨c0, hc0⟩ : ∃ c, σ.clk = c := ⟨_, rfl⟩
  have key : ∃ v σ', eS S (.f 76) [.a (.ptr ks 0 0), .a (.p (.i .i64 i)), .a (.p (.i .i64 (j : Nat)))] σ = some (v, σ') ∧ ∃ x, v = .a x ∧ SG ks n pl a b σ' ∧ Fr ks σ σ' ∧
      SL c0 2 58 ((portsR i j (n.nd i).to.length).map encP) x σ' := by
    refine x_fnS (fc := F76) rfl rfl ?_
    simp only [F76, fxa, fxc, fxE, fxL, fxI, nxE, evO, evR, cellsT, ldCells, mkT, lenA, binPV, Env.init, resV, resT, frT, klT, ownT, intT, O.adds, ownA, rowsA, over, wrOk, keysT, keysA, ne_eq, if_true, if_false, ite_self, Nat.reduceLT, Nat.reduceSub, Nat.reduceBEq, Nat.reduceEqDiff, Nat.reduceAdd, Nat.reduceLeDiff, reduceCtorEq, Nat.reduceMul]
    refine loop_nat (max j (n.nd i).to.length) (fun k e τ => j ≤ k ∧ e 0 = .a (.ptr ks 0 0) ∧ e 1 = .a (.p (.i .i64 i)) ∧ e 8 = .a (.p (.i .i64 (k : Nat))) ∧ SG ks n pl a b τ ∧ Fr ks σ τ ∧ ∃ x, e 7 = .a x ∧ SL c0 2 58 ((portsR i j k).map encP) x τ) (i0 := j) (by omega) ?_ ?_ ?_
    · refine ⟨Nat.le_refl _, ?_, ?_, ?_, h, Fr.refl ks σ, .nil, ?_, .inl ⟨rfl, by rw [portsR_nil (Nat.le_refl _)]; rfl⟩⟩ <;> simp only [fxa, fxc, fxE, fxL, fxI, nxE, evO, evR, cellsT, ldCells, mkT, lenA, binPV, Env.init, resV, resT, frT, klT, ownT, intT, O.adds, ownA, rowsA, over, wrOk, keysT, keysA, ne_eq, if_true, if_false, ite_self, Nat.reduceLT, Nat.reduceSub, Nat.reduceBEq, Nat.reduceEqDiff, Nat.reduceAdd, Nat.reduceLeDiff, reduceCtorEq, Nat.reduceMul]
    · rintro k e τ hk ⟨hjk, e0, e1, e8, hS, hF, x, e7, hL⟩
      obtain ⟨τ', c1, hS', hF'⟩ := aNode_ok h0 h1 hS
      have hF2 := hF.trans hF'
      have hL' := hL.fr hS hF'
      have hlt : ((k : Nat) : Int) < ((n.nd i).to.length : Int) := by omega
      have hsu := portsR_succ (i := i) hjk
      have hln := portsR_len i j k
      have c2 := port_ok i (k : Int)
      obtain ⟨y, hy⟩ : ∃ y, n.nd i = y := ⟨_, rfl⟩
      rw [hy] at c1 hlt ht
      obtain ⟨L, hLL⟩ : ∃ L, portsR i j k = L := ⟨_, rfl⟩
      rw [hLL] at hL' hsu hln
      rw [hsu]
      simp only [encN, List.map_cons, List.map_nil] at c1
      have hcl := hF2.clk
      have hcl2 := hS'.lt
      rcases hL' with ⟨rfl, hr⟩ | ⟨q, rfl, r2, r3, r4⟩
      · have hr2 : L = [] := List.map_eq_nil_iff.1 hr
        subst hr2
        simp only [F76b0, e0, e1, e7, e8, c1, c2, hlt, frA_ptr, Nat.zero_add, Nat.one_mul, Nat.reduceLeDiff, Nat.zero_lt_one, List.length_map, fxa, fxc, fxE, fxL, fxI, nxE, evO, evR, cellsT, ldCells, mkT, lenA, binPV, Env.init, resV, resT, frT, klT, ownT, intT, O.adds, ownA, rowsA, over, wrOk, keysT, keysA, ne_eq, if_true, if_false, ite_self, Nat.reduceLT, Nat.reduceSub, Nat.reduceBEq, Nat.reduceEqDiff, Nat.reduceAdd, Nat.reduceLeDiff, reduceCtorEq, Nat.reduceMul]
        exact ⟨by omega, by rw [wrap_succ k (by omega)], (hS'.add _ _).add _ _, (hF2.add _ _).add _ _, _, rfl, .inr ⟨(24, τ'.clk + 1), rfl, by simp only [add_bs, add_clk, if_true], by simp only; omega, by simp only [add_clk]; omega⟩⟩
      · have n2 : ¬ ks = q := by rintro rfl; rw [hS'.bs] at r2; cases r2
        have n1 : ∀ d, ¬ q = (d, τ'.clk) := by rintro d rfl; simp at r4
        have htk : List.take L.length (L.map encP) = L.map encP := List.take_of_length_le (by simp)
        have hbb : (L.length + 1) * 16 ≤ 140737488355328 := by omega
        rw [List.length_map] at e7
        simp only [F76b0, e0, e1, e7, e8, c1, c2, r2, hlt, frA_ptr, n1, htk, hbb, Nat.le_refl, Nat.zero_add, Nat.one_mul, Nat.reduceLeDiff, Nat.zero_lt_one, List.length_map, fxa, fxc, fxE, fxL, fxI, nxE, evO, evR, cellsT, ldCells, mkT, lenA, binPV, Env.init, resV, resT, frT, klT, ownT, intT, O.adds, ownA, rowsA, over, wrOk, keysT, keysA, ne_eq, if_true, if_false, ite_self, Nat.reduceLT, Nat.reduceSub, Nat.reduceBEq, Nat.reduceEqDiff, Nat.reduceAdd, Nat.reduceLeDiff, reduceCtorEq, Nat.reduceMul]
        exact ⟨by omega, by rw [wrap_succ k (by omega)], ((hS'.add _ _).kill n2).add _ _, ((hF2.add _ _).kill (by omega)).add _ _, _, rfl, .inr ⟨(24, τ'.clk + 1), by simp, by simp only [add_bs, add_clk, kill_clk, if_true, List.map_append, List.map_cons, List.map_nil, encP], by simp only; omega, by simp only [add_clk, kill_clk]; omega⟩⟩
    · rintro e τ ⟨hjk, e0, e1, e8, hS, hF, x, e7, hL⟩
      obtain ⟨τ', c1, hS', hF'⟩ := aNode_ok h0 h1 hS
      have hF2 := hF.trans hF'
      have hL' := hL.fr hS hF'
      have hlt : ¬ ((max j (n.nd i).to.length : Nat) : Int) < ((n.nd i).to.length : Int) := by omega
      obtain ⟨y, hy⟩ : ∃ y, n.nd i = y := ⟨_, rfl⟩
      rw [hy] at c1 hlt e8 hL' ⊢
      have hpp : portsR i j (max j y.to.length) = portsR i j y.to.length := by
        by_cases hjl : j ≤ y.to.length
        · rw [Nat.max_eq_right hjl]
        · rw [Nat.max_eq_left (by omega), portsR_nil (Nat.le_refl _), portsR_nil (by omega)]
      rw [hpp] at hL'
      simp only [encN, List.map_cons, List.map_nil] at c1
      simp only [F76b0, e0, e1, e7, e8, c1, hlt, frA_ptr, fxa, fxc, fxE, fxL, fxI, nxE, evO, evR, cellsT, ldCells, mkT, lenA, binPV, Env.init, resV, resT, frT, klT, ownT, intT, O.adds, ownA, rowsA, over, wrOk, keysT, keysA, ne_eq, if_true, if_false, ite_self, Nat.reduceLT, Nat.reduceSub, Nat.reduceBEq, Nat.reduceEqDiff, Nat.reduceAdd, Nat.reduceLeDiff, reduceCtorEq, Nat.reduceMul]
      exact ⟨x, rfl, hS', hF2, hL'⟩
  obtain ⟨_, σ', g1, x, rfl, g2, g3, g4⟩ := key
  exact ⟨σ', x, g1, g2, g3, hc0 ▸ g4⟩

theorem aLike_ok {ks : Key} {n : Nt} {pl : Pl} {a b : Int} {x : Nd} {za zt : AV} {m : Nat} {σ : St} (hn : n.Ok) (hx : x.Ok) (hza : NC (x.al.map encA) za) (hzt : NC (x.to.map encP) zt) (hb : (n.ns.length + m) * 88 + 88 ≤ 140737488355328) (h : SG ks n pl a b σ) :
    ∃ σ' v, eS S (.f 92) [.a (.ptr ks 0 0), .g [.p (.i .i64 x.k), .p (.i .i64 x.lv), .p (.i .i64 x.n), .p (.s x.s), za, zt], .a (.p (.i .i64 (m : Nat)))] σ = some (.a v, σ') ∧ SG ks (likeR n x m).1 pl a b σ' ∧ Fr ks σ σ' ∧
      SL σ.clk 1 3 ((likeR n x m).2.map encI) v σ' := by
  obtain ⟨c0, hc0⟩ : ∃ c, σ.clk = c := ⟨_, rfl⟩
  have key : ∃ v σ', eS S (.f 92) [.a (.ptr ks 0 0), .g [.p (.i .i64 x.k), .p (.i .i64 x.lv), .p (.i .i64 x.n), .p (.s x.s), za, zt], .a (.p (.i .i64 (m : Nat)))] σ = some (v, σ') ∧ ∃ y, v = .a y ∧ SG ks (likeR n x m).1 pl a b σ' ∧ Fr ks σ σ' ∧
      SL c0 1 3 ((likeR n x m).2.map encI) y σ' := by
    refine x_fnS (fc := F92) rfl rfl ?_
    simp only [F92, encN, List.map_cons, List.map_nil, fxa, fxc, fxE, fxL, fxI, nxE, evO, evR, cellsT, ldCells, mkT, lenA, binPV, Env.init, resV, resT, frT, klT, ownT, intT, O.adds, ownA, rowsA, over, wrOk, keysT, keysA, ne_eq, if_true, if_false, ite_self, Nat.reduceLT, Nat.reduceSub, Nat.reduceBEq, Nat.reduceEqDiff, Nat.reduceAdd, Nat.reduceLeDiff, reduceCtorEq, Nat.reduceMul]
    refine loop_nat m (fun k e τ => e 0 = .a (.ptr ks 0 0) ∧ e 4 = .a (.ptr (4, c0) 0 0) ∧ e 8 = .a (.p (.i .i64 (m : Nat))) ∧ e 9 = .a (.p (.i .i64 (k : Nat))) ∧ τ.bs (4, c0) = some (.var [.p (.i .i64 x.k), .p (.i .i64 x.lv), .p (.i .i64 x.n), .p (.s x.s), za, zt]) ∧ c0 < τ.clk ∧ SG ks (likeR n x k).1 pl a b τ ∧ Fr ks σ τ ∧ ∃ y, e 7 = .a y ∧ SL c0 1 3 ((likeR n x k).2.map encI) y τ) (i0 := 0) (Nat.zero_le _) ?_ ?_ ?_
    · refine ⟨?_, ?_, ?_, ?_, ?_, ?_, h.add _ _, (Fr.refl ks σ).add _ _, .nil, ?_, .inl ⟨rfl, rfl⟩⟩ <;> simp only [encN, hc0, List.map_cons, List.map_nil, fxa, fxc, fxE, fxL, fxI, nxE, evO, evR, cellsT, ldCells, mkT, lenA, binPV, Env.init, resV, resT, frT, klT, ownT, intT, O.adds, ownA, rowsA, over, wrOk, keysT, keysA, ne_eq, if_true, if_false, ite_self, Nat.reduceLT, Nat.reduceSub, Nat.reduceBEq, Nat.reduceEqDiff, Nat.reduceAdd, Nat.reduceLeDiff, reduceCtorEq, Nat.reduceMul]
      all_goals first | rfl | omega | skip
    · rintro k e τ hk ⟨e0, e4, e8, e9, s4, hc, hS, hF, y, e7, hL⟩
      obtain ⟨l1, l2, l3⟩ := likeR_Ok hn hx k (by omega)
      obtain ⟨τ', c1, hS', hF'⟩ := aMade_ok (x := x) l1 (by omega) hx hza hzt hS
      have hF2 := hF.trans hF'
      have hL' := hL.fr hS hF'
      have hlt : ((k : Nat) : Int) < (m : Int) := by omega
      obtain ⟨⟨n1, l⟩, hr⟩ : ∃ r, likeR n x k = r := ⟨_, rfl⟩
      have hsu : likeR n x (k + 1) = ((makeR n1 x).1, l ++ [(makeR n1 x).2.1]) := by simp only [likeR, hr]
      rw [hr] at hL' c1 hS' l3
      rw [hsu]
      simp only at hL' c1 hS' l3
      obtain ⟨⟨n2, i, ee⟩, hm⟩ : ∃ r, makeR n1 x = r := ⟨_, rfl⟩
      rw [hm] at hS' c1 ⊢
      simp only at hS' c1 ⊢
      have hcl := hF2.clk
      have hcl2 := hS'.lt
      have hne : (4, c0) ≠ ks := by rintro rfl; have := hS.lt; have := h.lt; simp at this; omega
      have s4' : τ'.bs (4, c0) = some (.var [.p (.i .i64 x.k), .p (.i .i64 x.lv), .p (.i .i64 x.n), .p (.s x.s), za, zt]) := by rw [hF'.bs _ hc hne]; exact s4
      have hc' := Nat.lt_of_lt_of_le hc hF'.clk
      have nc : ¬ c0 = τ'.clk ∧ ¬ c0 = τ'.clk + 1 := by omega
      rcases hL' with ⟨rfl, hr⟩ | ⟨q, rfl, r2, r3, r4⟩
      · have hr2 : l = [] := List.map_eq_nil_iff.1 hr
        subst hr2
        simp only [F92b0, e0, e4, e7, e8, e9, s4, c1, hlt, frA_ptr, Nat.zero_add, Nat.one_mul, Nat.reduceLeDiff, Nat.zero_lt_one, List.length_map, fxa, fxc, fxE, fxL, fxI, nxE, evO, evR, cellsT, ldCells, mkT, lenA, binPV, Env.init, resV, resT, frT, klT, ownT, intT, O.adds, ownA, rowsA, over, wrOk, keysT, keysA, ne_eq, if_true, if_false, ite_self, Nat.reduceLT, Nat.reduceSub, Nat.reduceBEq, Nat.reduceEqDiff, Nat.reduceAdd, Nat.reduceLeDiff, reduceCtorEq, Nat.reduceMul]
        refine ⟨by rw [wrap_succ k (by omega)], ?_, by omega, (hS'.add _ _).add _ _, (hF2.add _ _).add _ _, _, rfl, .inr ⟨(16, τ'.clk + 1), rfl, by simp only [add_bs, add_clk, if_true, encI], by simp only; omega, by simp only [add_clk]; omega⟩⟩
        exact s4'
      · have n2 : ¬ ks = q := by rintro rfl; rw [hS'.bs] at r2; cases r2
        have n1 : ∀ d, ¬ q = (d, τ'.clk) := by rintro d rfl; simp at r4
        have n3 : ¬ (4, c0) = q := by rintro rfl; rw [s4'] at r2; cases r2
        have htk : List.take l.length (l.map encI) = l.map encI := List.take_of_length_le (by simp)
        have hbb : (l.length + 1) * 8 ≤ 140737488355328 := by omega
        rw [List.length_map] at e7
        simp only [F92b0, e0, e4, e7, e8, e9, s4, c1, r2, hlt, frA_ptr, n1, n3, htk, hbb, Nat.le_refl, Nat.zero_add, Nat.one_mul, Nat.reduceLeDiff, Nat.zero_lt_one, List.length_map, fxa, fxc, fxE, fxL, fxI, nxE, evO, evR, cellsT, ldCells, mkT, lenA, binPV, Env.init, resV, resT, frT, klT, ownT, intT, O.adds, ownA, rowsA, over, wrOk, keysT, keysA, ne_eq, if_true, if_false, ite_self, Nat.reduceLT, Nat.reduceSub, Nat.reduceBEq, Nat.reduceEqDiff, Nat.reduceAdd, Nat.reduceLeDiff, reduceCtorEq, Nat.reduceMul]
        refine ⟨by rw [wrap_succ k (by omega)], ?_, by omega, ((hS'.add _ _).kill n2).add _ _, ((hF2.add _ _).kill (by omega)).add _ _, _, rfl, .inr ⟨(16, τ'.clk + 1), by simp, by simp only [add_bs, add_clk, kill_clk, if_true, List.map_append, List.map_cons, List.map_nil, encI], by simp only; omega, by simp only [add_clk, kill_clk]; omega⟩⟩
        exact s4'
    · rintro e τ ⟨e0, e4, e8, e9, s4, hc, hS, hF, y, e7, hL⟩
      have hlt : ¬ ((m : Nat) : Int) < (m : Int) := by omega
      simp only [F92b0, e0, e4, e7, e8, e9, hlt, fxa, fxc, fxE, fxL, fxI, nxE, evO, evR, cellsT, ldCells, mkT, lenA, binPV, Env.init, resV, resT, frT, klT, ownT, intT, O.adds, ownA, rowsA, over, wrOk, keysT, keysA, ne_eq, if_true, if_false, ite_self, Nat.reduceLT, Nat.reduceSub, Nat.reduceBEq, Nat.reduceEqDiff, Nat.reduceAdd, Nat.reduceLeDiff, reduceCtorEq, Nat.reduceMul]
      exact ⟨y, rfl, hS, hF, hL⟩
  obtain ⟨_, σ', g1, x, rfl, g2, g3, g4⟩ := key
  exact ⟨σ', x, g1, g2, g3, hc0 ▸ g4⟩
end Go.Proofs.Ytomcceambpneiaa
