/- What a sweep leaves: the program's function and the document's. -/
import Derived.Test.YtkpfjolcmkikeaaReach3
import Derived.Test.YtkpfjolcmkikeaaStoreP
set_option linter.unusedSimpArgs false
set_option linter.unusedVariables false
set_option maxHeartbeats 4000000
set_option maxRecDepth 10000
namespace Go.Proofs.Ytkpfjolcmkikeaa
open Go.Fx

/-! ### numbers in lists -/
theorem Ints_ok {a b : List Int} (ha : a.length * 8 ≤ 140737488355328) : eP S 19 [.a (.l (a.map encI)), .a (.l (b.map encI))] = some (.a (.b (bool (a = b)))) := by
  refine x_fnB (orcS (by decide)) (fc := F19) rfl rfl ?_
  by_cases h : a.length = b.length
  case neg =>
    have h' : ¬ (a.length : Int) = b.length := by omega
    simp only [F19, h', fxa, fxc, fxE, fxL, fxI, nxE, evO, evR, cellsT, ldCells, mkT, lenA, binPV, Env.init, resV, resT, frT, klT, ownT, intT, O.adds, ownA, rowsA, over, wrOk, keysT, keysA, ne_eq, if_true, if_false, ite_self, Nat.reduceLT, Nat.reduceSub, Nat.reduceBEq, Nat.reduceEqDiff, Nat.reduceAdd, Nat.reduceLeDiff, reduceCtorEq, Nat.reduceMul]; intro e; exact h (by rw [e])
  simp only [F19, h, fxa, fxc, fxE, fxL, fxI, nxE, evO, evR, cellsT, ldCells, mkT, lenA, binPV, Env.init, resV, resT, frT, klT, ownT, intT, O.adds, ownA, rowsA, over, wrOk, keysT, keysA, ne_eq, if_true, if_false, ite_self, Nat.reduceLT, Nat.reduceSub, Nat.reduceBEq, Nat.reduceEqDiff, Nat.reduceAdd, Nat.reduceLeDiff, reduceCtorEq, Nat.reduceMul]
  refine loop_nat b.length (fun i e σ => e 0 = .a (.p (.l (a.map encI))) ∧ e 1 = .a (.p (.l (b.map encI))) ∧ e 5 = .a (.p (.i .i64 (i : Nat))) ∧ ∀ j, j < i → a[j]? = b[j]?) (i0 := 0) (Nat.zero_le _) ?_ ?_ ?_
  · refine ⟨?_, ?_, ?_, fun j hj => by omega⟩ <;> simp only [fxa, fxc, fxE, fxL, fxI, nxE, evO, evR, cellsT, ldCells, mkT, lenA, binPV, Env.init, resV, resT, frT, klT, ownT, intT, O.adds, ownA, rowsA, over, wrOk, keysT, keysA, ne_eq, if_true, if_false, ite_self, Nat.reduceLT, Nat.reduceSub, Nat.reduceBEq, Nat.reduceEqDiff, Nat.reduceAdd, Nat.reduceLeDiff, reduceCtorEq, Nat.reduceMul]
    rfl
  · rintro i e σ hi ⟨e0, e1, e5, hall⟩
    obtain ⟨x, hx⟩ : ∃ x, a[i]? = some x := ⟨_, List.getElem?_eq_getElem (by omega)⟩
    obtain ⟨y, hy⟩ : ∃ y, b[i]? = some y := ⟨_, List.getElem?_eq_getElem hi⟩
    have hx' := mapGet encI hx
    have hy' := mapGet encI hy
    have hlt : ((i : Nat) : Int) < (a.length : Int) := by omega
    have hlt' : ((i : Nat) : Int) < (b.length : Int) := by omega
    have hge : (0 : Int) ≤ ((i : Nat) : Int) := by omega
    have hra : ∀ l : List Int, ((l.map encI).all fun r => decide (r.length = 1)) = true := fun l => by simp [encI]
    simp only [encI] at hx' hy' hra
    by_cases e : x = y
    · simp only [F19b0, e0, e1, e5, hlt, hlt', hge, hx', hy', hra, e, encI, fxa, fxc, fxE, fxL, fxI, nxE, evO, evR, cellsT, ldCells, mkT, lenA, binPV, Env.init, resV, resT, frT, klT, ownT, intT, O.adds, ownA, rowsA, over, wrOk, keysT, keysA, ne_eq, if_true, if_false, ite_self, Nat.reduceLT, Nat.reduceSub, Nat.reduceBEq, Nat.reduceEqDiff, Nat.reduceAdd, Nat.reduceLeDiff, reduceCtorEq, Nat.reduceMul]
      refine ⟨by rw [wrap_succ i (by omega)], fun j hj => ?_⟩
      by_cases e2 : j = i
      · rw [e2, hx, hy, e]
      · exact hall j (by omega)
    · simp only [F19b0, e0, e1, e5, hlt, hlt', hge, hx', hy', hra, e, encI, fxa, fxc, fxE, fxL, fxI, nxE, evO, evR, cellsT, ldCells, mkT, lenA, binPV, Env.init, resV, resT, frT, klT, ownT, intT, O.adds, ownA, rowsA, over, wrOk, keysT, keysA, ne_eq, if_true, if_false, ite_self, Nat.reduceLT, Nat.reduceSub, Nat.reduceBEq, Nat.reduceEqDiff, Nat.reduceAdd, Nat.reduceLeDiff, reduceCtorEq, Nat.reduceMul]
      intro h2; rw [h2, hy] at hx; exact e (Option.some.inj hx).symm
  · rintro e σ ⟨e0, e1, e5, hall⟩
    have hlt : ¬ ((b.length : Nat) : Int) < (a.length : Int) := by omega
    simp only [F19b0, e0, e1, e5, hlt, List.length_map, fxa, fxc, fxE, fxL, fxI, nxE, evO, evR, cellsT, ldCells, mkT, lenA, binPV, Env.init, resV, resT, frT, klT, ownT, intT, O.adds, ownA, rowsA, over, wrOk, keysT, keysA, ne_eq, if_true, if_false, ite_self, Nat.reduceLT, Nat.reduceSub, Nat.reduceBEq, Nat.reduceEqDiff, Nat.reduceAdd, Nat.reduceLeDiff, reduceCtorEq, Nat.reduceMul]
    exact list_ext h fun j hj => hall j (by omega)

theorem In_ok {l : List Int} (hl : l.length * 8 ≤ 140737488355328) (i : Int) : eP S 27 [.a (.l (l.map encI)), .a (.i .i64 i)] = some (.a (.b (l.any fun x => decide (x = i)))) := by
  refine x_fn (orcS (by decide)) (fc := F27) rfl rfl ?_
  simp only [F27, fxa, fxc, fxE, fxL, fxI, nxE, evO, evR, cellsT, ldCells, mkT, lenA, binPV, Env.init, resV, resT, frT, klT, ownT, intT, O.adds, ownA, rowsA, over, wrOk, keysT, keysA, ne_eq, if_true, if_false, ite_self, Nat.reduceLT, Nat.reduceSub, Nat.reduceBEq, Nat.reduceEqDiff, Nat.reduceAdd, Nat.reduceLeDiff, reduceCtorEq, Nat.reduceMul]
  refine loop_nat l.length (fun k e σ => e 0 = .a (.p (.l (l.map encI))) ∧ e 1 = .a (.p (.i .i64 i)) ∧ e 5 = .a (.p (.i .i64 (k : Nat))) ∧ ((l.take k).any fun x => decide (x = i)) = false) (i0 := 0) (Nat.zero_le _) ?_ ?_ ?_
  · refine ⟨?_, ?_, ?_, ?_⟩ <;> simp only [fxa, fxc, fxE, fxL, fxI, nxE, evO, evR, cellsT, ldCells, mkT, lenA, binPV, Env.init, resV, resT, frT, klT, ownT, intT, O.adds, ownA, rowsA, over, wrOk, keysT, keysA, ne_eq, if_true, if_false, ite_self, Nat.reduceLT, Nat.reduceSub, Nat.reduceBEq, Nat.reduceEqDiff, Nat.reduceAdd, Nat.reduceLeDiff, reduceCtorEq, Nat.reduceMul]
    all_goals rfl
  · rintro k e σ hk ⟨e0, e1, e5, hall⟩
    obtain ⟨x, hx⟩ : ∃ x, l[k]? = some x := ⟨_, List.getElem?_eq_getElem hk⟩
    have hx' := mapGet encI hx
    have hlt : ((k : Nat) : Int) < (l.length : Int) := by omega
    have hge : (0 : Int) ≤ ((k : Nat) : Int) := by omega
    have hra : ((l.map encI).all fun r => decide (r.length = 1)) = true := by simp [encI]
    have htk : ((l.take (k + 1)).any fun x => decide (x = i)) = decide (x = i) := by rw [List.take_add_one, hx]; simp [hall]
    simp only [encI] at hx' hra
    by_cases e : x = i
    · have hany : (l.any fun x => decide (x = i)) = true := by rw [List.any_eq_true]; exact ⟨x, List.mem_of_getElem? hx, by simpa using e⟩
      simp only [F27b0, e0, e1, e5, hlt, hge, hx', hra, e, hany, encI, fxa, fxc, fxE, fxL, fxI, nxE, evO, evR, cellsT, ldCells, mkT, lenA, binPV, Env.init, resV, resT, frT, klT, ownT, intT, O.adds, ownA, rowsA, over, wrOk, keysT, keysA, ne_eq, if_true, if_false, ite_self, Nat.reduceLT, Nat.reduceSub, Nat.reduceBEq, Nat.reduceEqDiff, Nat.reduceAdd, Nat.reduceLeDiff, reduceCtorEq, Nat.reduceMul]
    · simp only [F27b0, e0, e1, e5, hlt, hge, hx', hra, e, htk, encI, fxa, fxc, fxE, fxL, fxI, nxE, evO, evR, cellsT, ldCells, mkT, lenA, binPV, Env.init, resV, resT, frT, klT, ownT, intT, O.adds, ownA, rowsA, over, wrOk, keysT, keysA, ne_eq, if_true, if_false, ite_self, Nat.reduceLT, Nat.reduceSub, Nat.reduceBEq, Nat.reduceEqDiff, Nat.reduceAdd, Nat.reduceLeDiff, reduceCtorEq, Nat.reduceMul]
      rw [wrap_succ k (by omega)]
  · rintro e σ ⟨e0, e1, e5, hall⟩
    have hlt : ¬ ((l.length : Nat) : Int) < (l.length : Int) := by omega
    rw [List.take_length] at hall
    simp only [F27b0, e0, e1, e5, hlt, hall, List.length_map, fxa, fxc, fxE, fxL, fxI, nxE, evO, evR, cellsT, ldCells, mkT, lenA, binPV, Env.init, resV, resT, frT, klT, ownT, intT, O.adds, ownA, rowsA, over, wrOk, keysT, keysA, ne_eq, if_true, if_false, ite_self, Nat.reduceLT, Nat.reduceSub, Nat.reduceBEq, Nat.reduceEqDiff, Nat.reduceAdd, Nat.reduceLeDiff, reduceCtorEq, Nat.reduceMul]

theorem mem_liveTo {n : Nt} {k i : Nat} : (i : Int) ∈ liveTo n k ↔ i < k ∧ Rch n i := by
  unfold liveTo
  simp only [List.mem_map, List.mem_filter, List.mem_range, bool_iff]
  constructor
  · rintro ⟨j, ⟨h1, h2⟩, h3⟩
    have : j = i := by omega
    subst this; exact ⟨h1, h2⟩
  · intro h; exact ⟨i, h, rfl⟩
theorem in_live {n : Nt} {i : Nat} (hi : i < n.ns.length) : (n.live.any fun x => decide (x = (i : Int))) = bool (Rch n i) := by
  rw [Bool.eq_iff_iff, List.any_eq_true, bool_iff]
  simp only [decide_eq_true_eq, exists_eq_right]
  unfold Nt.live
  rw [mem_liveTo]
  exact ⟨fun h => h.2, fun h => ⟨hi, h⟩⟩
theorem live_last {n : Nt} : ∀ k, 0 < k → ∃ (m : Nat) (L : List Int), liveTo n k = L ++ [(m : Int)] ∧ m < k ∧ Rch n m ∧ ∀ i, m < i → i < k → ¬ Rch n i
  | 0, h => by omega
  | k + 1, _ => by
    rw [liveTo_succ]
    by_cases h : Rch n k
    · rw [bool_t h]; exact ⟨k, liveTo n k, rfl, by omega, h, fun i h1 h2 => by omega⟩
    · rw [bool_f h]
      rcases Nat.eq_zero_or_pos k with rfl | hk
      · exact absurd .root h
      · obtain ⟨m, L, h1, h2, h3, h4⟩ := live_last k hk
        refine ⟨m, L, h1, by omega, h3, fun i hi hik => ?_⟩
        by_cases e : i = k
        · rw [e]; exact h
        · exact h4 i hi (by omega)

/-! ### what is cleared -/
theorem rch_k {n : Nt} (hG : n.Good) {i : Nat} (h : Rch n i) : ∃ x, n.ns[i]? = some x ∧ x.k ≠ 0 := by
  cases h with
  | root => obtain ⟨x, hx, h1⟩ := good_root hG; exact ⟨x, hx, by omega⟩
  | step h1 h2 =>
    obtain ⟨y, q, hy, hq, hj⟩ := h2
    obtain ⟨p, hp⟩ := List.getElem?_of_mem hq
    have h3 := has_iff.1 ((hG.nds _ y hy).2.2.2 p q hp).2.1
    rw [hj] at h3
    obtain ⟨x, hx⟩ : ∃ x, n.ns[i]? = some x := ⟨_, List.getElem?_eq_getElem (by omega)⟩
    rw [nd_get hx] at h3
    obtain ⟨r, hr⟩ : ∃ r, x.to[q.s.toNat]? = some r := ⟨_, List.getElem?_eq_getElem (by omega)⟩
    exact ⟨x, hx, good_no_k hG hx hr⟩

noncomputable def clrFrom (n : Nt) (k : Nat) : List Nd := (List.range n.ns.length).map fun i => if k ≤ i ∧ bool (Rch n i) = false then zN else n.ns.getD i zN
noncomputable def Nt.swept (n : Nt) : Nt := ⟨trim (clrFrom n 0), n.cap⟩
theorem clr_len (n : Nt) (k : Nat) : (clrFrom n k).length = n.ns.length := by simp [clrFrom]
theorem clr_get {n : Nt} {k i : Nat} {x : Nd} (hx : n.ns[i]? = some x) : (clrFrom n k)[i]? = some (if k ≤ i ∧ bool (Rch n i) = false then zN else x) := by
  unfold clrFrom
  rw [List.getElem?_map, List.getElem?_range (List.getElem?_eq_some_iff.1 hx).1]
  simp only [Option.map_some, getD_of hx]
theorem clr_all (n : Nt) : clrFrom n n.ns.length = n.ns := by
  refine list_ext (clr_len n _) fun j hj => ?_
  rw [clr_len] at hj
  obtain ⟨x, hx⟩ : ∃ x, n.ns[j]? = some x := ⟨_, List.getElem?_eq_getElem hj⟩
  rw [clr_get hx, if_neg (by omega), hx]
theorem clr_same {n : Nt} {a : Nat} {x : Nd} (hx : n.ns[a]? = some x) (h : Rch n a ∨ x = zN) : clrFrom n a = clrFrom n (a + 1) := by
  refine list_ext (by rw [clr_len, clr_len]) fun j hj => ?_
  rw [clr_len] at hj
  obtain ⟨y, hy⟩ : ∃ y, n.ns[j]? = some y := ⟨_, List.getElem?_eq_getElem hj⟩
  rw [clr_get hy, clr_get hy]
  by_cases e : j = a
  · subst e
    rw [hx] at hy
    rw [← Option.some.inj hy]
    rw [if_neg (c := j + 1 ≤ j ∧ _) (by omega)]
    rcases h with h | h
    · rw [bool_t h, if_neg (by simp)]
    · rw [h]; simp
  · have : (a ≤ j ↔ a + 1 ≤ j) := by omega
    simp only [this]
theorem clr_set {n : Nt} {a : Nat} {x : Nd} (hx : n.ns[a]? = some x) (h : ¬ Rch n a) : (clrFrom n (a + 1)).set a zN = clrFrom n a := by
  refine list_ext (by rw [List.length_set, clr_len, clr_len]) fun j hj => ?_
  rw [List.length_set, clr_len] at hj
  obtain ⟨y, hy⟩ : ∃ y, n.ns[j]? = some y := ⟨_, List.getElem?_eq_getElem hj⟩
  rw [List.getElem?_set, clr_get hy, clr_get hy]
  by_cases e : a = j
  · subst e; rw [if_pos rfl, clr_len, if_pos hj, bool_f h, if_pos (by simp)]
  · rw [if_neg e]
    have : (a ≤ j ↔ a + 1 ≤ j) := by omega
    simp only [this]

theorem tl_skip {l : List Nd} {t : Nat} : ∀ k, t ≤ k → (∀ i, t ≤ i → i < k → (l.getD i zN).k = 0) → tl l k = tl l t
  | 0, h, _ => by rw [show t = 0 by omega]
  | k + 1, h, hf => by
    by_cases e : t = k + 1
    · rw [e]
    · have : isFree (l.getD k zN) = true := by simpa [isFree] using hf k (by omega) (by omega)
      rw [tl, if_pos this]
      exact tl_skip k (by omega) fun i h1 h2 => hf i h1 (by omega)
theorem tl_take {l : List Nd} {t : Nat} : ∀ k, k ≤ t → tl (l.take t) k = tl l k
  | 0, _ => rfl
  | k + 1, h => by
    have : (l.take t).getD k zN = l.getD k zN := by rw [List.getD_eq_getElem?_getD, List.getD_eq_getElem?_getD, List.getElem?_take_of_lt (by omega)]
    rw [tl, tl, this, tl_take k (by omega)]
theorem trim_take {l : List Nd} {t : Nat} (ht : t ≤ l.length) (h : ∀ i, t ≤ i → i < l.length → (l.getD i zN).k = 0) : trim (l.take t) = trim l := by
  unfold trim
  rw [List.length_take, Nat.min_eq_left ht, tl_take t (Nat.le_refl _), tl_skip l.length ht h, List.take_take, Nat.min_eq_left (tl_le l t)]
theorem trim_set {l : List Nd} {a : Nat} (ha : a < (trim l).length) : trim ((trim l).set a zN) = trim (l.set a zN) := by
  have e : (trim l).set a zN = (l.set a zN).take (tl l l.length) := by unfold trim; rw [List.take_set]
  rw [e]
  rw [trim_len] at ha
  refine trim_take (by rw [List.length_set]; exact tl_le _ _) fun i h1 h2 => ?_
  rw [List.length_set] at h2
  have := tl_free l l.length i h1 h2
  rw [List.getD_eq_getElem?_getD, List.getElem?_set_ne (by omega), ← List.getD_eq_getElem?_getD]; exact this
theorem trim_lt {l : List Nd} {a : Nat} {x : Nd} (hx : l[a]? = some x) (hk : x.k ≠ 0) : a < (trim l).length := by
  rw [trim_len]
  by_cases h : a < tl l l.length
  · exact h
  · exfalso
    have := tl_free l l.length a (by omega) (List.getElem?_eq_some_iff.1 hx).1
    rw [getD_of hx] at this; exact hk this

theorem mem_clr {n : Nt} {k : Nat} {x : Nd} (h : x ∈ clrFrom n k) : x = zN ∨ x ∈ n.ns := by
  unfold clrFrom at h
  obtain ⟨i, hi, rfl⟩ := List.mem_map.1 h
  split
  · exact .inl rfl
  · right
    rw [List.getD_eq_getElem?_getD, List.getElem?_eq_getElem (List.mem_range.1 hi)]; exact List.getElem_mem _
theorem clr_Ok {n : Nt} (hn : n.Ok) (k : Nat) : (⟨trim (clrFrom n k), n.cap⟩ : Nt).Ok := by
  have h1 := trim_le (clrFrom n k)
  rw [clr_len] at h1
  have h2 := hn.ns
  refine ⟨?_, hn.cap, fun x hx => ?_⟩
  · show (trim (clrFrom n k)).length * 88 ≤ _; omega
  · rcases mem_clr (mem_trim hx) with rfl | h
    · exact zN_ok
    · exact hn.nd x h

theorem sSweep_ok {n : Nt} (hn : n.Ok) : eP S 23 [.g (encT n)] = some (.g (encT (if bool n.Good then n.swept else n))) := by
  refine x_fn (orcS (by decide)) (fc := F23) rfl rfl ?_
  have hns := hn.ns
  have c1 := sCheck_ok hn
  by_cases hG : n.Good
  case neg =>
    rw [bool_f hG] at c1 ⊢
    simp only [Bool.false_eq_true, if_false, encT] at c1
    simp only [F23, c1, Int.reduceEq, fxa, fxc, fxE, fxL, fxI, nxE, evO, evR, cellsT, ldCells, mkT, lenA, binPV, Env.init, resV, resT, frT, klT, ownT, intT, O.adds, ownA, rowsA, over, wrOk, keysT, keysA, ne_eq, if_true, if_false, ite_self, Nat.reduceLT, Nat.reduceSub, Nat.reduceBEq, Nat.reduceEqDiff, Nat.reduceAdd, Nat.reduceLeDiff, reduceCtorEq, Nat.reduceMul]
  rw [bool_t hG] at c1 ⊢
  have c2 := sReached_ok hn hG
  have hb := good_big hG
  have hl1 := hG.ln1
  simp only [if_true, encT] at c1 c2
  obtain ⟨rows, hrows⟩ : ∃ rows, ((List.range n.ns.length).map fun i => bool (Rch n i)).map encB = rows := ⟨_, rfl⟩
  have hrl : rows.length = n.ns.length := by rw [← hrows]; simp
  have hrg : ∀ i, i < n.ns.length → rows[i]? = some [.b (bool (Rch n i))] := by
    intro i hi; rw [← hrows, List.getElem?_map, List.getElem?_map, List.getElem?_range hi]; rfl
  have hra : (rows.all fun r => decide (r.length = 1)) = true := by rw [← hrows]; simp [encB]
  have hw0 : IntKind.i64.wrap ((n.ns.length : Int) - 1) = (n.ns.length : Int) - 1 := wrap_in _ (by omega)
  rw [hrows] at c2
  have hsw : n.swept = ⟨trim (clrFrom n 1), n.cap⟩ := by
    obtain ⟨r, hr, _⟩ := good_root hG
    unfold Nt.swept; rw [clr_same hr (.inl .root)]
  rw [hsw]
  simp only [F23, c1, c2, hrl, hw0, fxa, fxc, fxE, fxL, fxI, nxE, evO, evR, cellsT, ldCells, mkT, lenA, binPV, Env.init, resV, resT, frT, klT, ownT, intT, O.adds, ownA, rowsA, over, wrOk, keysT, keysA, ne_eq, if_true, if_false, ite_self, Nat.reduceLT, Nat.reduceSub, Nat.reduceBEq, Nat.reduceEqDiff, Nat.reduceAdd, Nat.reduceLeDiff, reduceCtorEq, Nat.reduceMul]
  refine loop_nat (n.ns.length - 1) (fun q e σ => e 1 = .a (.ptr (1, 0) 0 0) ∧ e 2 = .a (.ptr (2, 1) 0 0) ∧ e 3 = .a (.p (.l (n.ns.map encN))) ∧ e 4 = .a (.p (.l rows)) ∧ e 5 = .a (.p (.i .i64 ((n.ns.length : Int) - 1 - (q : Nat)))) ∧
    σ.bs (1, 0) = some (.var [.p (.l ((trim (clrFrom n (n.ns.length - q))).map encN)), .p (.i .i64 n.cap)]) ∧ σ.bs (2, 1) = some (.var [.nil, .p (.i .i64 0)])) (i0 := 0) (Nat.zero_le _) ?_ ?_ ?_
  · refine ⟨?_, ?_, ?_, ?_, ?_, ?_, ?_⟩ <;> simp only [Nat.sub_zero, clr_all, good_trim hG, fxa, fxc, fxE, fxL, fxI, nxE, evO, evR, cellsT, ldCells, mkT, lenA, binPV, Env.init, resV, resT, frT, klT, ownT, intT, O.adds, ownA, rowsA, over, wrOk, keysT, keysA, ne_eq, if_true, if_false, ite_self, Nat.reduceLT, Nat.reduceSub, Nat.reduceBEq, Nat.reduceEqDiff, Nat.reduceAdd, Nat.reduceLeDiff, reduceCtorEq, Nat.reduceMul]
    simp
  · rintro q e σ hq ⟨e1, e2, e3, e4, e5, s1, s2⟩
    obtain ⟨a, ha⟩ : ∃ a, n.ns.length - q = a + 1 := ⟨n.ns.length - q - 1, by omega⟩
    have ha1 : 1 ≤ a := by omega
    have ha2 : n.ns.length - (q + 1) = a := by omega
    have ha3 : (n.ns.length : Int) - 1 - (q : Nat) = (a : Int) := by omega
    have ha4 : (n.ns.length : Int) - 1 - ((q + 1 : Nat) : Int) = (a : Int) - 1 := by omega
    have hal : a < n.ns.length := by omega
    rw [ha3] at e5
    rw [ha] at s1
    rw [ha2, ha4]
    obtain ⟨x, hx⟩ : ∃ x, n.ns[a]? = some x := ⟨_, List.getElem?_eq_getElem hal⟩
    have hx' := mapGet encN hx
    have hg := hrg a hal
    have hgt : (a : Int) > 0 := by omega
    have hlt : (a : Int) < (n.ns.length : Int) := by omega
    have hge : (0 : Int) ≤ (a : Int) := by omega
    have hw : IntKind.i64.wrap ((a : Int) - 1) = (a : Int) - 1 := wrap_in _ (by omega)
    by_cases hR : Rch n a
    · rw [bool_t hR] at hg
      rw [clr_same hx (.inl hR)]
      simp only [F23b0, e1, e2, e3, e4, e5, s1, s2, hgt, hlt, hge, hg, hrl, hra, hw, fxa, fxc, fxE, fxL, fxI, nxE, evO, evR, cellsT, ldCells, mkT, lenA, binPV, Env.init, resV, resT, frT, klT, ownT, intT, O.adds, ownA, rowsA, over, wrOk, keysT, keysA, ne_eq, if_true, if_false, ite_self, Nat.reduceLT, Nat.reduceSub, Nat.reduceBEq, Nat.reduceEqDiff, Nat.reduceAdd, Nat.reduceLeDiff, reduceCtorEq, Nat.reduceMul]
    · rw [bool_f hR] at hg
      by_cases hk : x.k = 0
      · have hz := free_zN (hG.nds a x hx).1 (hG.nds a x hx).2.1 hk
        rw [clr_same hx (.inr hz)]
        simp only [F23b0, e1, e2, e3, e4, e5, s1, s2, hgt, hlt, hge, hg, hrl, hra, hw, hx', hk, fxa, fxc, fxE, fxL, fxI, nxE, evO, evR, cellsT, ldCells, mkT, lenA, binPV, Env.init, resV, resT, frT, klT, ownT, intT, O.adds, ownA, rowsA, over, wrOk, keysT, keysA, ne_eq, if_true, if_false, ite_self, Nat.reduceLT, Nat.reduceSub, Nat.reduceBEq, Nat.reduceEqDiff, Nat.reduceAdd, Nat.reduceLeDiff, reduceCtorEq, Nat.reduceMul]
      · have hLa : (clrFrom n (a + 1))[a]? = some x := by rw [clr_get hx, if_neg (by omega)]
        have hlt2 := trim_lt hLa hk
        have hnd : (⟨trim (clrFrom n (a + 1)), n.cap⟩ : Nt).nd (a : Int) = x := by
          refine nd_get ?_
          show (trim (clrFrom n (a + 1)))[a]? = some x
          rw [trim_get hlt2]; exact hLa
        have c3 := sFree_ok (clr_Ok hn (a + 1)) (by have := trim_le (clrFrom n (a + 1)); rw [clr_len] at this; show (trim (clrFrom n (a + 1))).length * 88 + 88 ≤ _; omega) (a : Int)
        have hfr : freeR ⟨trim (clrFrom n (a + 1)), n.cap⟩ (a : Int) = (⟨trim (clrFrom n a), n.cap⟩, 0) := by
          unfold freeR
          rw [hnd, if_pos ⟨by omega, by show (a : Int) ≤ ((trim (clrFrom n (a + 1))).length : Int) - 1; omega, hk⟩]
          unfold Nt.free
          simp only [Int.toNat_natCast]
          rw [trim_set hlt2, clr_set hx hR]
        rw [hfr] at c3
        simp only [encTE, encT] at c3
        simp only [F23b0, e1, e2, e3, e4, e5, s1, s2, hgt, hlt, hge, hg, hrl, hra, hw, hx', hk, c3, fxa, fxc, fxE, fxL, fxI, nxE, evO, evR, cellsT, ldCells, mkT, lenA, binPV, Env.init, resV, resT, frT, klT, ownT, intT, O.adds, ownA, rowsA, over, wrOk, keysT, keysA, ne_eq, if_true, if_false, ite_self, Nat.reduceLT, Nat.reduceSub, Nat.reduceBEq, Nat.reduceEqDiff, Nat.reduceAdd, Nat.reduceLeDiff, reduceCtorEq, Nat.reduceMul]
  · rintro e σ ⟨e1, e2, e3, e4, e5, s1, s2⟩
    have h1 : n.ns.length - (n.ns.length - 1) = 1 := by omega
    have hgt : ¬ (n.ns.length : Int) - 1 - ((n.ns.length - 1 : Nat) : Int) > 0 := by omega
    rw [h1] at s1
    simp only [F23b0, e1, e2, e3, e4, e5, s1, s2, hgt, fxa, fxc, fxE, fxL, fxI, nxE, evO, evR, cellsT, ldCells, mkT, lenA, binPV, Env.init, resV, resT, frT, klT, ownT, intT, O.adds, ownA, rowsA, over, wrOk, keysT, keysA, ne_eq, if_true, if_false, ite_self, Nat.reduceLT, Nat.reduceSub, Nat.reduceBEq, Nat.reduceEqDiff, Nat.reduceAdd, Nat.reduceLeDiff, reduceCtorEq, Nat.reduceMul]

theorem rSweep_ok {n : Nt} (hn : n.Ok) : eP S 24 [.g (encT n)] = some (.g (encT (if bool n.Good then n.swept else n))) := by
  refine x_fn (orcS (by decide)) (fc := F24) rfl rfl ?_
  have hns := hn.ns
  have c1 := RCheck_ok hn
  by_cases hG : n.Good
  case neg =>
    rw [bool_f hG] at c1 ⊢
    simp only [Bool.false_eq_true, if_false, encT] at c1
    simp only [F24, c1, Int.reduceEq, fxa, fxc, fxE, fxL, fxI, nxE, evO, evR, cellsT, ldCells, mkT, lenA, binPV, Env.init, resV, resT, frT, klT, ownT, intT, O.adds, ownA, rowsA, over, wrOk, keysT, keysA, ne_eq, if_true, if_false, ite_self, Nat.reduceLT, Nat.reduceSub, Nat.reduceBEq, Nat.reduceEqDiff, Nat.reduceAdd, Nat.reduceLeDiff, reduceCtorEq, Nat.reduceMul]
  have c2 := rLive_ok hn
  rw [bool_t hG] at c1 c2 ⊢
  have hb := good_big hG
  have hl1 := hG.ln1
  obtain ⟨m, L, hL, hm, hR, hno⟩ := live_last (n := n) n.ns.length (by omega)
  have hll := liveTo_len n n.ns.length
  have hlive : n.live = L ++ [(m : Int)] := hL
  have hLl : n.live.length = L.length + 1 := by rw [hlive]; simp
  have hll2 : n.live.length ≤ n.ns.length := hll
  have hlast : (n.live.map encI)[L.length]? = some [.i .i64 (m : Int)] := by rw [hlive]; simp [encI]
  have hswl : (clrFrom n 0).take (m + 1) = trim (clrFrom n 0) := by
    unfold trim
    rw [tl_skip (t := m + 1) _ (by rw [clr_len]; omega) fun i h1 h2 => ?_, tl_full (by omega)]
    · obtain ⟨x, hx, hk⟩ := rch_k hG hR
      rw [Nat.add_sub_cancel, getD_of (clr_get hx), bool_t hR, if_neg (by simp)]; exact hk
    · rw [clr_len] at h2
      obtain ⟨x, hx⟩ : ∃ x, n.ns[i]? = some x := ⟨_, List.getElem?_eq_getElem h2⟩
      rw [getD_of (clr_get hx), bool_f (hno i (by omega) h2), if_pos (by simp)]; rfl
  have hsw : n.swept = ⟨(clrFrom n 0).take (m + 1), n.cap⟩ := by unfold Nt.swept; rw [hswl]
  rw [hsw]
  have hIn := fun i (hi : i < n.ns.length) => In_ok (l := n.live) (by omega) (i : Int)
  have hw0 : IntKind.i64.wrap (((L.length + 1 : Nat) : Int) - 1) = (L.length : Int) := by rw [wrap_in _ (by omega)]; omega
  have hltl : (L.length : Int) < ((L.length + 1 : Nat) : Int) := by omega
  have hgel : (0 : Int) ≤ (L.length : Int) := by omega
  have hra : ((n.live.map encI).all fun r => decide (r.length = 1)) = true := by simp [encI]
  simp only [if_true, encT] at c1 c2
  simp only [F24, c1, c2, fxa, fxc, fxE, fxL, fxI, nxE, evO, evR, cellsT, ldCells, mkT, lenA, binPV, Env.init, resV, resT, frT, klT, ownT, intT, O.adds, ownA, rowsA, over, wrOk, keysT, keysA, ne_eq, if_true, if_false, ite_self, Nat.reduceLT, Nat.reduceSub, Nat.reduceBEq, Nat.reduceEqDiff, Nat.reduceAdd, Nat.reduceLeDiff, reduceCtorEq, Nat.reduceMul]
  refine loop_nat (m + 1) (fun i e σ => e 1 = .a (.ptr (1, 0) 0 0) ∧ e 2 = .a (.ptr (2, 1) 0 0) ∧ e 3 = .a (.p (.l (n.live.map encI))) ∧ e 4 = .a (.ptr (4, 2) 0 0) ∧ e 5 = .a (.p (.i .i64 (i : Nat))) ∧ σ.bs (1, 0) = some (.var [.p (.l (n.ns.map encN)), .p (.i .i64 n.cap)]) ∧ σ.bs (2, 1) = some (.var [.nil, .p (.i .i64 0)]) ∧ 3 ≤ σ.clk ∧
    ∃ x, σ.bs (4, 2) = some (.var [x, .p (.i .i64 n.cap)]) ∧ (i = 0 ∧ x = .nil ∨ ∃ k : Key, x = .own k 0 i ∧ σ.bs k = some (.row 6 41 (((clrFrom n 0).take i).map encN)) ∧ 3 ≤ k.2 ∧ k.2 < σ.clk)) (i0 := 0) (Nat.zero_le _) ?_ ?_ ?_
  · refine ⟨?_, ?_, ?_, ?_, ?_, ?_, ?_, ?_, .nil, ?_, .inl ⟨rfl, rfl⟩⟩ <;> simp only [fxa, fxc, fxE, fxL, fxI, nxE, evO, evR, cellsT, ldCells, mkT, lenA, binPV, Env.init, resV, resT, frT, klT, ownT, intT, O.adds, ownA, rowsA, over, wrOk, keysT, keysA, ne_eq, if_true, if_false, ite_self, Nat.reduceLT, Nat.reduceSub, Nat.reduceBEq, Nat.reduceEqDiff, Nat.reduceAdd, Nat.reduceLeDiff, reduceCtorEq, Nat.reduceMul]
    rfl
  · rintro i e σ hi ⟨e1, e2, e3, e4, e5, s1, s2, hclk, x, s4, hx4⟩
    have hil : i < n.ns.length := by omega
    obtain ⟨y, hy⟩ : ∃ y, n.ns[i]? = some y := ⟨_, List.getElem?_eq_getElem hil⟩
    have hy' := mapGet encN hy
    have hle : (i : Int) ≤ (m : Int) := by omega
    have hlt : (i : Int) < (n.ns.length : Int) := by omega
    have hge : (0 : Int) ≤ (i : Int) := by omega
    have c3 := hIn i hil
    rw [in_live hil] at c3
    have hcg := clr_get (k := 0) hy
    have htk : ((clrFrom n 0).take (i + 1)).map encN = ((clrFrom n 0).take i).map encN ++ [encN (if 0 ≤ i ∧ Fx.bool (Rch n i) = false then zN else y)] := by rw [List.take_add_one, hcg]; simp
    have hbb : (i + 1) * 88 ≤ 140737488355328 := by omega
    have hlen : ((clrFrom n 0).take i).length = i := by rw [List.length_take, clr_len]; omega
    have htk2 : List.take i (((clrFrom n 0).take i).map encN) = ((clrFrom n 0).take i).map encN := List.take_of_length_le (by simp; omega)
    have hn4 : ¬ 2 = σ.clk ∧ ¬ 2 = σ.clk + 1 ∧ ¬ 0 = σ.clk ∧ ¬ 0 = σ.clk + 1 ∧ ¬ 1 = σ.clk ∧ ¬ 1 = σ.clk + 1 := by omega
    cases hb : Fx.bool (Rch n i) with
    | true =>
      rw [hb] at c3 htk
      have htk : ((clrFrom n 0).take (i + 1)).map encN = ((clrFrom n 0).take i).map encN ++ [encN y] := by rw [htk]; simp
      simp only [encN] at htk
      rcases hx4 with ⟨rfl, rfl⟩ | ⟨k, rfl, hk, hk1, hk2⟩
      · simp only [F24b0, e1, e2, e3, e4, e5, s1, s2, s4, hLl, hw0, hltl, hgel, hlast, hra, hle, hlt, hge, hy', c3, Int.toNat_natCast, Nat.zero_add, Nat.one_mul, Nat.reduceLeDiff, Nat.zero_lt_one, List.length_map, fxa, fxc, fxE, fxL, fxI, nxE, evO, evR, cellsT, ldCells, mkT, lenA, binPV, Env.init, resV, resT, frT, klT, ownT, intT, O.adds, ownA, rowsA, over, wrOk, keysT, keysA, ne_eq, if_true, if_false, ite_self, Nat.reduceLT, Nat.reduceSub, Nat.reduceBEq, Nat.reduceEqDiff, Nat.reduceAdd, Nat.reduceLeDiff, reduceCtorEq, Nat.reduceMul]
        refine ⟨by rw [wrap_succ 0 (by omega)], by omega, _, rfl, .inr ⟨(36, σ.clk + 1), rfl, ?_, by simp; omega, by simp⟩⟩
        rw [htk]; simp
      · have k1 : ∀ d, ¬ k = (d, σ.clk) := by rintro d rfl; simp at hk2
        have k2 : ∀ d, ¬ k = (d, σ.clk + 1) := by rintro d rfl; simp at hk2; omega
        have k3 : ¬ (4, 2) = k ∧ ¬ (1, 0) = k ∧ ¬ (2, 1) = k := by refine ⟨?_, ?_, ?_⟩ <;> (rintro rfl; simp at hk1)
        simp only [F24b0, e1, e2, e3, e4, e5, s1, s2, s4, hk, k1, k2, k3.1, k3.2.1, k3.2.2, hLl, hw0, hltl, hgel, hlast, hra, hle, hlt, hge, hy', c3, hbb, hlen, htk2, Int.toNat_natCast, Nat.zero_add, Nat.one_mul, Nat.reduceLeDiff, Nat.zero_lt_one, List.length_map, fxa, fxc, fxE, fxL, fxI, nxE, evO, evR, cellsT, ldCells, mkT, lenA, binPV, Env.init, resV, resT, frT, klT, ownT, intT, O.adds, ownA, rowsA, over, wrOk, keysT, keysA, ne_eq, if_true, if_false, ite_self, Nat.reduceLT, Nat.reduceSub, Nat.reduceBEq, Nat.reduceEqDiff, Nat.reduceAdd, Nat.reduceLeDiff, reduceCtorEq, Nat.reduceMul]
        refine ⟨by rw [wrap_succ i (by omega)], by omega, _, rfl, .inr ⟨(36, σ.clk + 1), rfl, ?_, by simp; omega, by simp⟩⟩
        rw [htk]; simp
    | false =>
      rw [hb] at c3 htk
      have htk : ((clrFrom n 0).take (i + 1)).map encN = ((clrFrom n 0).take i).map encN ++ [encN zN] := by rw [htk]; simp
      simp only [encN, zN, List.map_nil] at htk
      rcases hx4 with ⟨rfl, rfl⟩ | ⟨k, rfl, hk, hk1, hk2⟩
      · simp only [F24b0, e1, e2, e3, e4, e5, s1, s2, s4, hLl, hw0, hltl, hgel, hlast, hra, hle, hlt, hge, hy', c3, Int.toNat_natCast, Nat.zero_add, Nat.one_mul, Nat.reduceLeDiff, Nat.zero_lt_one, List.length_map, fxa, fxc, fxE, fxL, fxI, nxE, evO, evR, cellsT, ldCells, mkT, lenA, binPV, Env.init, resV, resT, frT, klT, ownT, intT, O.adds, ownA, rowsA, over, wrOk, keysT, keysA, ne_eq, if_true, if_false, ite_self, Nat.reduceLT, Nat.reduceSub, Nat.reduceBEq, Nat.reduceEqDiff, Nat.reduceAdd, Nat.reduceLeDiff, reduceCtorEq, Nat.reduceMul]
        refine ⟨by rw [wrap_succ 0 (by omega)], by omega, _, rfl, .inr ⟨(42, σ.clk + 1), rfl, ?_, by simp; omega, by simp⟩⟩
        rw [htk]; simp
      · have k1 : ∀ d, ¬ k = (d, σ.clk) := by rintro d rfl; simp at hk2
        have k2 : ∀ d, ¬ k = (d, σ.clk + 1) := by rintro d rfl; simp at hk2; omega
        have k3 : ¬ (4, 2) = k ∧ ¬ (1, 0) = k ∧ ¬ (2, 1) = k := by refine ⟨?_, ?_, ?_⟩ <;> (rintro rfl; simp at hk1)
        simp only [F24b0, e1, e2, e3, e4, e5, s1, s2, s4, hk, k1, k2, k3.1, k3.2.1, k3.2.2, hLl, hw0, hltl, hgel, hlast, hra, hle, hlt, hge, hy', c3, hbb, hlen, htk2, Int.toNat_natCast, Nat.zero_add, Nat.one_mul, Nat.reduceLeDiff, Nat.zero_lt_one, List.length_map, fxa, fxc, fxE, fxL, fxI, nxE, evO, evR, cellsT, ldCells, mkT, lenA, binPV, Env.init, resV, resT, frT, klT, ownT, intT, O.adds, ownA, rowsA, over, wrOk, keysT, keysA, ne_eq, if_true, if_false, ite_self, Nat.reduceLT, Nat.reduceSub, Nat.reduceBEq, Nat.reduceEqDiff, Nat.reduceAdd, Nat.reduceLeDiff, reduceCtorEq, Nat.reduceMul]
        refine ⟨by rw [wrap_succ i (by omega)], by omega, _, rfl, .inr ⟨(42, σ.clk + 1), rfl, ?_, by simp; omega, by simp⟩⟩
        rw [htk]; simp
  · rintro e σ ⟨e1, e2, e3, e4, e5, s1, s2, hclk, x, s4, hx4⟩
    have hle : ¬ ((m + 1 : Nat) : Int) ≤ (m : Int) := by omega
    rcases hx4 with ⟨h0, _⟩ | ⟨k, rfl, hk, hk1, hk2⟩
    · omega
    · have k3 : ¬ k = (2, 1) := by rintro rfl; simp at hk1
      have hlen : ((clrFrom n 0).take (m + 1)).length = m + 1 := by rw [List.length_take, clr_len]; omega
      have htk2 : List.take (m + 1) (((clrFrom n 0).take (m + 1)).map encN) = ((clrFrom n 0).take (m + 1)).map encN := List.take_of_length_le (by simp; omega)
      have hle2 : m + 1 ≤ (((clrFrom n 0).take (m + 1)).map encN).length := by rw [List.length_map, hlen]; exact Nat.le_refl _
      simp only [F24b0, e1, e2, e3, e4, e5, s1, s2, s4, hk, k3, hLl, hw0, hltl, hgel, hlast, hra, hle, hle2, htk2, Int.toNat_natCast, List.length_map, hlen, Nat.le_refl, fxa, fxc, fxE, fxL, fxI, nxE, evO, evR, cellsT, ldCells, mkT, lenA, binPV, Env.init, resV, resT, frT, klT, ownT, intT, O.adds, ownA, rowsA, over, wrOk, keysT, keysA, ne_eq, if_true, if_false, ite_self, Nat.reduceLT, Nat.reduceSub, Nat.reduceBEq, Nat.reduceEqDiff, Nat.reduceAdd, Nat.reduceLeDiff, reduceCtorEq, Nat.reduceMul]
end Go.Proofs.Ytkpfjolcmkikeaa
