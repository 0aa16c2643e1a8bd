/- What making and freeing do, in plain Lean. -/
import Derived.Test.YtomcceambpneiaaStore5
set_option linter.unusedSimpArgs false
set_option linter.unusedVariables false
set_option maxHeartbeats 4000000
set_option maxRecDepth 10000
namespace Go.Proofs.Ytomcceambpneiaa
open Go.Fx

theorem usedL_nil : usedL [] = 0 := rfl
theorem usedL_cons (x : Nd) (l : List Nd) : usedL (x :: l) = (if x.k = 0 then 0 else 1) + usedL l := by
  unfold usedL
  rw [List.countP_cons]
  by_cases hk : x.k = 0
  · simp [hk]
  · simp [hk]; omega
theorem usedL_app (l m : List Nd) : usedL (l ++ m) = usedL l + usedL m := by
  unfold usedL; rw [List.countP_append]; omega
theorem usedL_set : ∀ {l : List Nd} {i : Nat} {x : Nd} (y : Nd), l[i]? = some x → usedL (l.set i y) = usedL l - (if x.k = 0 then 0 else 1) + (if y.k = 0 then 0 else 1)
  | [], i, x, y, h => by simp at h
  | z :: l, 0, x, y, h => by
    simp only [List.getElem?_cons_zero, Option.some.injEq] at h; subst h
    rw [List.set_cons_zero, usedL_cons, usedL_cons]; omega
  | z :: l, i + 1, x, y, h => by
    simp only [List.getElem?_cons_succ] at h
    rw [List.set_cons_succ, usedL_cons, usedL_cons, usedL_set y h]; omega

theorem getD_of {l : List Nd} {i : Nat} {x : Nd} (h : l[i]? = some x) : l.getD i zN = x := by
  rw [List.getD_eq_getElem?_getD, h]; rfl
theorem tl_le (l : List Nd) : ∀ k, tl l k ≤ k
  | 0 => Nat.le_refl _
  | k + 1 => by
    simp only [tl]
    split
    · have := tl_le l k; omega
    · omega
/-- what is cut off is free -/
theorem tl_free (l : List Nd) : ∀ k i, tl l k ≤ i → i < k → (l.getD i zN).k = 0
  | 0, i, h1, h2 => by omega
  | k + 1, i, h1, h2 => by
    simp only [tl] at h1
    split at h1
    · rename_i hf
      by_cases e : i = k
      · subst e; simpa [isFree] using hf
      · exact tl_free l k i h1 (by omega)
    · omega
/-- the last that is left is not free -/
theorem tl_last (l : List Nd) : ∀ k, 0 < tl l k → (l.getD (tl l k - 1) zN).k ≠ 0
  | 0, h => by simp [tl] at h
  | k + 1, h => by
    simp only [tl] at h ⊢
    split
    · rename_i hf; rw [if_pos hf] at h; exact tl_last l k h
    · rename_i hf; simpa [isFree] using hf
theorem tl_full {l : List Nd} {k : Nat} (hk : 0 < k) (h : (l.getD (k - 1) zN).k ≠ 0) : tl l k = k := by
  cases k with
  | zero => omega
  | succ k => simp only [tl]; rw [if_neg]; simpa [isFree] using h
theorem trim_len (l : List Nd) : (trim l).length = tl l l.length := by
  unfold trim; rw [List.length_take]; have := tl_le l l.length; omega
theorem trim_get {l : List Nd} {i : Nat} (h : i < (trim l).length) : (trim l)[i]? = l[i]? := by
  rw [trim_len] at h
  unfold trim; rw [List.getElem?_take_of_lt h]
theorem usedL_take_free {l : List Nd} : ∀ (j : Nat), j ≤ l.length → ∀ k, k ≤ j → (∀ i, k ≤ i → i < j → (l.getD i zN).k = 0) → usedL (l.take j) = usedL (l.take k)
  | 0, _, k, hk, _ => by rw [show k = 0 by omega]
  | j + 1, hj, k, hk, h => by
    by_cases e : k = j + 1
    · rw [e]
    · obtain ⟨x, hx⟩ : ∃ x, l[j]? = some x := ⟨_, List.getElem?_eq_getElem (by omega)⟩
      rw [usedL_take hx, if_pos (by rw [← getD_of hx]; exact h j (by omega) (by omega)), Int.add_zero]
      exact usedL_take_free j (by omega) k (by omega) fun i h1 h2 => h i h1 (by omega)
theorem usedL_trim (l : List Nd) : usedL (trim l) = usedL l := by
  have := usedL_take_free (l := l) l.length (Nat.le_refl _) (tl l l.length) (tl_le _ _) (fun i h1 h2 => tl_free l _ i h1 h2)
  rw [List.take_length] at this
  exact this.symm

/-- a place that is free, of a net that may be, has nothing -/
theorem free_zN {x : Nd} (hm : x.may) (ht : (x.to.length : Int) = x.ports) (hk : x.k = 0) : x = zN := by
  obtain ⟨k, lv, n, s, al, to⟩ := x
  simp only at hk
  subst hk
  have h1 := hm.lv0
  have h2 := hm.lv2 (by simp)
  have h3 := hm.nm
  have h4 := hm.nn
  have h5 := hm.aln (by simp)
  have hp : (Nd.mk 0 lv n s al to).ports = 0 := by unfold Nd.ports; simp
  rw [hp] at ht
  simp only at ht h1 h2 h3 h4 h5
  have e1 : lv = 0 := by omega
  have e2 : n = 0 := by
    by_cases h : n = 0
    · exact h
    · have := h4 h; omega
  have e3 : s = [] := by
    by_cases h : s = []
    · exact h
    · have := h3.1 h; omega
  have e4 : al = [] := List.eq_nil_of_length_eq_zero (by omega)
  have e5 : to = [] := List.eq_nil_of_length_eq_zero (by omega)
  rw [e1, e2, e3, e4, e5]; rfl
theorem good_trim {n : Nt} (hG : n.Good) : trim n.ns = n.ns := by
  have h1 := hG.ln1
  have h2 := hG.last
  unfold trim
  rw [tl_full (by omega), List.take_length]
  unfold Nt.nd at h2
  rw [show ((n.ns.length : Int) - 1).toNat = n.ns.length - 1 by omega] at h2
  exact h2
theorem good_set {n : Nt} (hG : n.Good) {i : Nat} {x : Nd} (hx : n.ns[i]? = some x) (hk : x.k = 0) : n.ns.set i zN = n.ns := by
  have h := hG.nds i x hx
  have := free_zN h.1 h.2.1 hk
  rw [← this]
  obtain ⟨h1, h2⟩ := List.getElem?_eq_some_iff.1 hx
  rw [← h2, List.set_getElem_self]
end Go.Proofs.Ytomcceambpneiaa
