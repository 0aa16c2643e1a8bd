/- Sizes, depths, uses, and what may be, of terms in which something is put; no program in sight. -/
import Derived.Test.YtlgekplmbmkcmaaDeb
set_option linter.unusedSimpArgs false
set_option linter.unusedVariables false
namespace Go.Proofs.Ytlgekplmbmkcmaa
open Go.Fx

/-! ### depths and sizes -/
mutual
def sizeZ : T → Int
  | .mk _ _ _ l => sizeLZ l + 1
def sizeLZ : List T → Int
  | [] => 0
  | t :: r => sizeZ t + sizeLZ r
end
theorem sizeLZ_pos {l : List T} (h : ∀ t, t ∈ l → 1 ≤ sizeZ t) : 0 ≤ sizeLZ l := by
  induction l with
  | nil => simp [sizeLZ]
  | cons t l ih => have := h t (by simp); have := ih fun u hu => h u (by simp [hu]); simp only [sizeLZ]; omega
theorem sizeZ_pos (t : T) : 1 ≤ sizeZ t := by
  induction t using T.ind with
  | h k n s l ih => have := sizeLZ_pos ih; simp only [sizeZ]; omega
theorem sizeLZ_nn (l : List T) : 0 ≤ sizeLZ l := sizeLZ_pos fun t _ => sizeZ_pos t
theorem sizeLZ_mem {l : List T} {t : T} (h : t ∈ l) : sizeZ t ≤ sizeLZ l := by
  induction l with
  | nil => simp at h
  | cons x l ih =>
    have := sizeLZ_nn l; have := sizeZ_pos x
    simp only [sizeLZ]
    rcases List.mem_cons.1 h with rfl | h
    · omega
    · have := ih h; omega

mutual
theorem few_all : ∀ (t : T) (x y : Int), x ≤ 1099511627776 → y ≤ 1000 → few t x y ≥ 0 → (dep t : Int) ≤ y ∧ few t x y = x - sizeZ t
  | .mk k n s l, x, y, hx, hy, h => by
    simp only [few] at h ⊢
    split at h
    · omega
    · rename_i h1
      split at h
      · omega
      · rename_i h2
        rw [if_neg h1, if_neg h2]
        rw [w_id _ (by omega), w_id _ (by omega)] at h ⊢
        obtain ⟨h3, h4⟩ := few_allL l (x - 1) (y - 1) (by omega) (by omega) (by omega) h
        simp only [dep, sizeZ]; omega
theorem few_allL : ∀ (l : List T) (x y : Int), x ≤ 1099511627776 → 0 ≤ y → y ≤ 1000 → fewL l x y ≥ 0 → (depL l : Int) ≤ y ∧ fewL l x y = x - sizeLZ l
  | [], x, y, hx, hy0, hy, h => by simp only [fewL, depL, sizeLZ]; omega
  | t :: l, x, y, hx, hy0, hy, h => by
    simp only [fewL] at h ⊢
    split at h
    · omega
    · rename_i h1
      rw [if_neg h1]
      obtain ⟨h3, h4⟩ := few_all t x y hx hy (by omega)
      have := sizeZ_pos t
      obtain ⟨h5, h6⟩ := few_allL l (few t x y) y (by omega) hy0 hy h
      simp only [depL, sizeLZ]; omega
end
theorem small_all {t : T} {x : Int} (hx : x ≤ 1099511627776) (h : small t x = true) : dep t ≤ 600 ∧ sizeZ t ≤ x := by
  unfold small at h
  obtain ⟨h1, h2⟩ := few_all t x 600 hx (by omega) (by simpa using h)
  have : few t x 600 ≥ 0 := by simpa using h
  omega

mutual
theorem size_Z : ∀ (t : T), sizeZ t ≤ 1152921504606846976 → size t = sizeZ t
  | .mk k n s l, h => by
    simp only [sizeZ] at h ⊢
    simp only [size]
    rw [size_ZL l 1 (by omega) (by omega)]; omega
theorem size_ZL : ∀ (l : List T) (a : Int), 1 ≤ a → a + sizeLZ l ≤ 1152921504606846977 → sizeL l a = a + sizeLZ l
  | [], a, _, _ => by simp [sizeL, sizeLZ]
  | t :: l, a, ha, h => by
    have := sizeLZ_nn l; have := sizeZ_pos t
    simp only [sizeLZ] at h ⊢
    simp only [sizeL]
    rw [size_Z t (by omega), w_id _ (by omega), size_ZL l _ (by omega) (by omega)]; omega
end

theorem sizeLZ_map (l : List T) (f : T → T) (h : ∀ t, t ∈ l → sizeZ (f t) = sizeZ t) : sizeLZ (l.map f) = sizeLZ l := by
  induction l with
  | nil => rfl
  | cons t l ih => simp only [List.map_cons, sizeLZ]; rw [h t (by simp), ih fun u hu => h u (by simp [hu])]
theorem size_ren (t : T) : ∀ r : Int → Int, sizeZ (ren r t) = sizeZ t := by
  induction t using T.ind with
  | h k n s l ih =>
    intro r
    rw [ren_mk]
    split
    · rfl
    · simp only [sizeZ]; rw [sizeLZ_map l _ fun t ht => ih t ht _]

/-! ### uses -/
mutual
def usesZ : T → Int → Int
  | .mk k n s l, q => if k = 1 then (if n = q then 1 else 0) else usesLZ l (q + T.more (.mk k n s l))
def usesLZ : List T → Int → Int
  | [], _ => 0
  | t :: r, q => usesZ t q + usesLZ r q
end
theorem usesLZ_b {l : List T} (h : ∀ t, t ∈ l → ∀ q, 0 ≤ usesZ t q ∧ usesZ t q ≤ sizeZ t) (q : Int) : 0 ≤ usesLZ l q ∧ usesLZ l q ≤ sizeLZ l := by
  induction l with
  | nil => simp [usesLZ, sizeLZ]
  | cons t l ih => have := h t (by simp) q; have := ih fun u hu => h u (by simp [hu]); simp only [sizeLZ, usesLZ]; omega
theorem usesZ_b (t : T) : ∀ q, 0 ≤ usesZ t q ∧ usesZ t q ≤ sizeZ t := by
  induction t using T.ind with
  | h k n s l ih =>
    intro q
    have := usesLZ_b ih (q + T.more (.mk k n s l))
    have := sizeLZ_nn l
    unfold usesZ; simp only [sizeZ]
    split
    · split <;> omega
    · omega

theorem usesL_Z {l : List T} {q : Int} (h : ∀ t, t ∈ l → uses t q = usesZ t q) : ∀ a, 0 ≤ a → a + sizeLZ l ≤ 1152921504606846977 → usesL l q a = a + usesLZ l q := by
  induction l with
  | nil => intro a _ _; simp [usesL, usesLZ]
  | cons t l ih =>
    intro a ha hs
    have := usesZ_b t q
    have := sizeLZ_nn l
    simp only [sizeLZ] at hs
    simp only [usesL, usesLZ]
    rw [h t (by simp), w_id _ (by omega), ih (fun u hu => h u (by simp [hu])) _ (by omega) (by omega)]; omega
theorem uses_Z {t : T} : ∀ {f q : Int} {D : Nat}, V t f D → -1000 ≤ q → q + 8 * D ≤ 1152921504606846976 → sizeZ t ≤ 1152921504606846976 → uses t q = usesZ t q := by
  induction t using T.ind with
  | h k n s l ih =>
    intro f q D h hq hb hs
    rw [V_mk] at h
    unfold uses usesZ
    split
    · rfl
    · rename_i hk; rw [if_neg hk] at h
      rw [w_id _ (by omega)]
      simp only [sizeZ] at hs
      rw [usesL_Z (q := q + T.more (.mk k n s l)) (fun t ht => ih t ht (h.2.2.2 t ht) (by omega) (by omega) (by have := sizeLZ_mem ht; omega)) 0 (by omega) (by omega)]
      omega

theorem usesLZ_zero {l : List T} {q : Int} (h : usesLZ l q = 0) : ∀ t, t ∈ l → usesZ t q = 0 := by
  induction l with
  | nil => simp
  | cons t l ih =>
    simp only [usesLZ] at h
    have := usesZ_b t q
    have := usesLZ_b (fun t _ => usesZ_b t) q (l := l)
    intro u hu
    rcases List.mem_cons.1 hu with rfl | hu
    · omega
    · exact ih (by omega) u hu

theorem sub_unused {t : T} : ∀ {f q : Int} {D : Nat} {σ τ : Int → T}, V t f D → 0 ≤ q → usesZ t q = 0 → (∀ n, 0 ≤ n → n < f → n ≠ q → σ n = τ n) → sub σ t = sub τ t := by
  induction t using T.ind with
  | h k n s l ih =>
    intro f q D σ τ h hq hu hr
    rw [V_mk] at h
    rw [sub_mk, sub_mk]
    unfold usesZ at hu
    split
    · rename_i hk; rw [if_pos hk] at h hu
      refine hr n h.1 h.2.1 fun e => ?_
      rw [if_pos e] at hu; omega
    · rename_i hk; rw [if_neg hk] at h hu
      congr 1
      refine map_ext fun t ht => ih t ht (h.2.2.2 t ht) (by omega) (usesLZ_zero hu t ht) fun m h0 hm hne => ?_
      unfold ls
      split
      · rfl
      · rw [hr _ (by omega) (by omega) (by omega)]

/-- sizes, where all but one place takes a variable -/
theorem size_sub {t : T} : ∀ {f q : Int} {D : Nat} {σ : Int → T} {z : Int}, V t f D → 0 ≤ q → sizeZ (σ q) = z → (∀ n, 0 ≤ n → n < f → n ≠ q → sizeZ (σ n) = 1) → sizeZ (sub σ t) = sizeZ t + usesZ t q * (z - 1) := by
  induction t using T.ind with
  | h k n s l ih =>
    intro f q D σ z h hq hz hr
    rw [V_mk] at h
    rw [sub_mk]
    unfold usesZ
    split
    · rename_i hk; rw [if_pos hk] at h
      obtain ⟨h0, h1, rfl, rfl, _⟩ := h
      by_cases e : n = q
      · rw [if_pos e, e, hz]; simp only [sizeZ, sizeLZ]; omega
      · rw [if_neg e, hr n h0 h1 e]; simp only [sizeZ, sizeLZ]; omega
    · rename_i hk; rw [if_neg hk] at h
      simp only [sizeZ]
      have : ∀ r : List T, (∀ t, t ∈ r → t ∈ l) → sizeLZ (r.map (sub (ls (T.more (.mk k n s l)) σ))) = sizeLZ r + usesLZ r (q + T.more (.mk k n s l)) * (z - 1) := by
        intro r
        induction r with
        | nil => intro _; simp [sizeLZ, usesLZ]
        | cons t r ihr =>
          intro hm
          have ht : t ∈ l := hm t (by simp)
          simp only [List.map_cons, sizeLZ, usesLZ]
          rw [ihr fun u hu => hm u (by simp [hu]), ih t ht (h.2.2.2 t ht) (q := q + T.more (.mk k n s l)) (z := z) (by omega) ?_ ?_, Int.add_mul]
          · omega
          · unfold ls
            rw [if_neg (by omega), size_ren]
            have : q + T.more (.mk k n s l) - T.more (.mk k n s l) = q := by omega
            rw [this, hz]
          · intro m h0 hm hne
            unfold ls
            split
            · rfl
            · rw [size_ren]; exact hr _ (by omega) (by omega) (by omega)
      rw [this l fun t ht => ht]; omega

theorem dep_mono {l : List T} {f : T → T} {d : Nat} (h : ∀ t, t ∈ l → dep (f t) ≤ d) : depL (l.map f) ≤ d := by
  induction l with
  | nil => simp [depL]
  | cons t l ih => have := h t (by simp); have := ih fun u hu => h u (by simp [hu]); simp only [List.map_cons, depL]; omega

/-! ### what may be -/
theorem head_var {k n : Int} {s : List UInt8} {l : List T} {f : Int} {a : Bool} (h : head (.mk k n s l) f a = true) : (k = 1 → a = false ∧ 0 ≤ n ∧ n < f ∧ s = [] ∧ l = []) ∧ (k = 6 ↔ a = true) ∧ 0 ≤ T.more (.mk k n s l) ∧ T.more (.mk k n s l) ≤ 8 := by
  have e : head (.mk k n s l) f a = headC k n s l.length f a := rfl
  have em : T.more (.mk k n s l) = if k = 2 then 1 else if k = 6 then n else 0 := rfl
  rw [e] at h
  rw [em]
  unfold headC at h
  split at h
  · simp only [Bool.and_eq_true, decide_eq_true_eq] at h
    rename_i ha
    subst ha
    obtain ⟨⟨⟨⟨h1, h2⟩, h3⟩, h4⟩, h5⟩ := h
    subst h1
    simp; omega
  · rename_i ha
    have ha : a = false := by simpa using ha
    subst ha
    by_cases h1 : k = 1
    · subst h1
      simp at h
      simp
      exact ⟨h.1.2, h.2, h.1.1.1, h.1.1.2⟩
    · have h6 : k ≠ 6 := by
        rintro rfl
        simp at h
      simp [h1, h6]
      split <;> omega

theorem head_same {k n : Int} {s : List UInt8} {l l' : List T} {f g : Int} {a : Bool} (hk : k ≠ 1) (hl : l'.length = l.length) (h : head (.mk k n s l) f a = true) : head (.mk k n s l') g a = true := by
  have e : head (.mk k n s l) f a = headC k n s l.length f a := rfl
  have e' : head (.mk k n s l') g a = headC k n s l'.length g a := rfl
  rw [e] at h
  rw [e', hl]
  unfold headC at h ⊢
  rw [if_neg hk] at h ⊢
  exact h

theorem mayL_iff (k : Int) (all : List T) (free : Int) : ∀ (l : List T) (i : Nat), mayL k all l i free = true ↔ ∀ j t, l[j]? = some t → may t free (decide (k = 5) && decide (((i + j : Nat) : Int) > 0)) = true ∧ (k = 5 → dup all (i + j) t.s = false)
  | [], i => by simp [mayL]
  | t :: r, i => by
    simp only [mayL, Bool.and_eq_true]
    rw [mayL_iff k all free r (i + 1)]
    constructor
    · rintro ⟨⟨h1, h2⟩, h3⟩ j u hj
      cases j with
      | zero =>
        simp only [List.getElem?_cons_zero, Option.some.injEq] at hj
        subst hj
        refine ⟨by simpa using h1, fun hk => ?_⟩
        simpa [hk] using h2
      | succ j =>
        simp only [List.getElem?_cons_succ] at hj
        have := h3 j u hj
        rwa [show i + 1 + j = i + (j + 1) by omega] at this
    · intro h
      refine ⟨⟨?_, ?_⟩, fun j u hj => ?_⟩
      · simpa using (h 0 t rfl).1
      · by_cases hk : k = 5
        · have := (h 0 t rfl).2 hk
          simp [hk]; simpa using this
        · simp [hk]
      · have := h (j + 1) u (by simpa using hj)
        rwa [show i + (j + 1) = i + 1 + j by omega] at this

theorem may_iff {k n : Int} {s : List UInt8} {l : List T} {f : Int} {a : Bool} (hf : 0 ≤ f) (hb : f + 8 ≤ 9223372036854775807) : may (.mk k n s l) f a = true ↔ head (.mk k n s l) f a = true ∧ ∀ j t, l[j]? = some t → may t (f + T.more (.mk k n s l)) (decide (k = 5) && decide (((j : Nat) : Int) > 0)) = true ∧ (k = 5 → dup l j t.s = false) := by
  have e : may (.mk k n s l) f a = if f < 0 then false else if head (.mk k n s l) f a then mayL k l l 0 (if k = 2 then w (f + 1) else if k = 6 then w (f + n) else f) else false := rfl
  rw [e, if_neg (by omega)]
  by_cases hh : head (.mk k n s l) f a = true
  · rw [if_pos hh, mayL_iff]
    have hm := (head_var hh).2.2
    have em : T.more (.mk k n s l) = if k = 2 then 1 else if k = 6 then n else 0 := rfl
    have hw : (if k = 2 then w (f + 1) else if k = 6 then w (f + n) else f) = f + T.more (.mk k n s l) := by
      rw [em] at hm ⊢
      split
      · rw [w_id _ (by omega)]
      · rename_i h2
        rw [if_neg h2] at hm
        split
        · rename_i h6; rw [if_pos h6] at hm; rw [w_id _ (by omega)]
        · omega
    rw [hw]
    simp only [hh, true_and, Nat.zero_add]
  · simp only [hh, if_false, false_and]; simp

theorem may_V {t : T} : ∀ {f : Int} {a : Bool} {D : Nat}, may t f a = true → dep t ≤ D → 0 ≤ f → f + 8 * D ≤ 1152921504606846976 → V t f D := by
  induction t using T.ind with
  | h k n s l ih =>
    intro f a D h hd hf hb
    simp only [dep] at hd
    rw [may_iff hf (by omega)] at h
    obtain ⟨h1, h2⟩ := h
    obtain ⟨h3, h4, h5, h6⟩ := head_var h1
    rw [V_mk]
    split
    · rename_i hk; obtain ⟨_, h7, h8, h9, h10⟩ := h3 hk; exact ⟨h7, h8, h9, h10, by omega⟩
    · refine ⟨h5, h6, by omega, fun t ht => ?_⟩
      obtain ⟨j, hj⟩ := List.getElem?_of_mem ht
      exact ih t ht (h2 j t hj).1 (by have := depL_mem ht; omega) (by omega) (by omega)

theorem may_var {n f : Int} (h0 : 0 ≤ n) (h : n < f) : may (var n) f false = true := by
  have e : may (var n) f false = if f < 0 then false else if head (.mk 1 n [] []) f false then mayL 1 [] [] 0 (if (1 : Int) = 2 then w (f + 1) else if (1 : Int) = 6 then w (f + n) else f) else false := rfl
  rw [e, if_neg (by omega)]
  have e1 : head (.mk 1 n [] []) f false = headC 1 n [] 0 f false := rfl
  rw [e1, if_pos]
  · rfl
  · simp [headC, h0, h]

theorem dup_map {l : List T} {f : T → T} (h : ∀ j t, l[j]? = some t → 0 < j → (f t).s = t.s) (i : Nat) (s : List UInt8) (hi : i ≤ l.length) : dup (l.map f) i s = dup l i s := by
  unfold dup
  rw [← List.map_take, ← List.map_drop, List.any_map, Bool.eq_iff_iff, List.any_eq_true, List.any_eq_true]
  have key : ∀ t, t ∈ (l.take i).drop 1 → (f t).s = t.s := by
    intro t ht
    obtain ⟨j, hj⟩ := List.getElem?_of_mem ht
    rw [List.getElem?_drop] at hj
    by_cases hji : 1 + j < i
    · rw [List.getElem?_take_of_lt hji] at hj
      exact h _ t hj (by omega)
    · rw [List.getElem?_take_eq_none (by omega)] at hj; cases hj
  exact ⟨fun ⟨t, ht, h1⟩ => ⟨t, ht, by rw [Function.comp_apply, key t ht] at h1; exact h1⟩, fun ⟨t, ht, h1⟩ => ⟨t, ht, by rw [Function.comp_apply, key t ht]; exact h1⟩⟩

theorem may_s {t : T} {f : Int} (hf : 0 ≤ f) (hb : f + 8 ≤ 9223372036854775807) (h : may t f true = true) : t.k = 6 := by
  obtain ⟨k, n, s, l⟩ := t
  rw [may_iff hf hb] at h
  exact (head_var h.1).2.1.2 rfl

theorem ren_s (t : T) (r : Int → Int) : (ren r t).s = t.s := by
  obtain ⟨k, n, s, l⟩ := t
  rw [ren_mk]; split <;> rfl
theorem sub_s {t : T} {σ : Int → T} (h : t.k = 6) : (sub σ t).s = t.s := by
  obtain ⟨k, n, s, l⟩ := t
  have h : k = 6 := h
  rw [sub_mk, if_neg (by omega)]; rfl

theorem may_ren {t : T} : ∀ {f g : Int} {D : Nat} {r : Int → Int} {a : Bool}, may t f a = true → dep t ≤ D → (∀ n, 0 ≤ n → n < f → 0 ≤ r n ∧ r n < g) → 0 ≤ f → 0 ≤ g → f + 8 * D ≤ 1152921504606846976 → g + 8 * D ≤ 1152921504606846976 → may (ren r t) g a = true := by
  induction t using T.ind with
  | h k n s l ih =>
    intro f g D r a h hd hr hf hg hb hb2
    simp only [dep] at hd
    rw [may_iff hf (by omega)] at h
    obtain ⟨h1, h2⟩ := h
    obtain ⟨h3, h4, h5, h6⟩ := head_var h1
    rw [ren_mk]
    split
    · rename_i hk; obtain ⟨rfl, h7, h8, rfl, rfl⟩ := h3 hk
      rw [hk]; exact may_var (hr n h7 h8).1 (hr n h7 h8).2
    · rename_i hk
      rw [may_iff hg (by omega)]
      refine ⟨head_same hk (by simp) h1, fun j t hj => ?_⟩
      rw [List.getElem?_map, Option.map_eq_some_iff] at hj
      obtain ⟨u, hu, rfl⟩ := hj
      obtain ⟨h7, h8⟩ := h2 j u hu
      have hm := List.mem_of_getElem? hu
      have hjl : j < l.length := (List.getElem?_eq_some_iff.1 hu).1
      have e : T.more (.mk k n s (l.map (ren (lr (T.more (.mk k n s l)) r)))) = T.more (.mk k n s l) := rfl
      rw [e]
      refine ⟨ih u hm h7 (D := D - 1) (by have := depL_mem hm; omega) (fun m h0 hm => ?_) (by omega) (by omega) (by omega) (by omega), fun hk5 => ?_⟩
      · unfold lr
        split
        · omega
        · have := hr (m - T.more (.mk k n s l)) (by omega) (by omega); omega
      · rw [dup_map (fun j t _ _ => ren_s t _) j _ (by omega), ren_s]; exact h8 hk5

theorem may_sub {t : T} : ∀ {f g : Int} {D E : Nat} {σ : Int → T} {a : Bool}, may t f a = true → dep t ≤ D → (∀ n, 0 ≤ n → n < f → may (σ n) g false = true ∧ dep (σ n) ≤ E) → 0 ≤ f → 0 ≤ g → f + 8 * D ≤ 1152921504606846976 → g + 8 * D + 8 * E ≤ 1152921504606846976 → 1 ≤ E → may (sub σ t) g a = true := by
  induction t using T.ind with
  | h k n s l ih =>
    intro f g D E σ a h hd hr hf hg hb hb2 hE
    simp only [dep] at hd
    rw [may_iff hf (by omega)] at h
    obtain ⟨h1, h2⟩ := h
    obtain ⟨h3, h4, h5, h6⟩ := head_var h1
    rw [sub_mk]
    split
    · rename_i hk; obtain ⟨rfl, h7, h8, rfl, rfl⟩ := h3 hk
      exact (hr n h7 h8).1
    · rename_i hk
      rw [may_iff hg (by omega)]
      refine ⟨head_same hk (by simp) h1, fun j t hj => ?_⟩
      rw [List.getElem?_map, Option.map_eq_some_iff] at hj
      obtain ⟨u, hu, rfl⟩ := hj
      obtain ⟨h7, h8⟩ := h2 j u hu
      have hm := List.mem_of_getElem? hu
      have hjl : j < l.length := (List.getElem?_eq_some_iff.1 hu).1
      have e : T.more (.mk k n s (l.map (sub (ls (T.more (.mk k n s l)) σ)))) = T.more (.mk k n s l) := rfl
      rw [e]
      refine ⟨ih u hm h7 (D := D - 1) (E := E) (by have := depL_mem hm; omega) (fun m h0 hm => ?_) (by omega) (by omega) (by omega) (by omega) hE, fun hk5 => ?_⟩
      · unfold ls
        split
        · exact ⟨may_var h0 (by omega), hE⟩
        · obtain ⟨h9, h10⟩ := hr (m - T.more (.mk k n s l)) (by omega) (by omega)
          refine ⟨may_ren (D := E) h9 h10 (fun i h0 hi => by omega) (by omega) (by omega) (by omega) (by omega), ?_⟩
          have : ∀ (t : T) (r : Int → Int), dep (ren r t) = dep t := by
            intro t
            induction t using T.ind with
            | h k n s l ih =>
              intro r
              rw [ren_mk]
              split
              · rfl
              · simp only [dep]
                congr 1
                have : ∀ l' : List T, (∀ t, t ∈ l' → t ∈ l) → depL (l'.map (ren (lr (T.more (.mk k n s l)) r))) = depL l' := by
                  intro l'
                  induction l' with
                  | nil => intro _; rfl
                  | cons x l' ihl => intro hm; simp only [List.map_cons, depL]; rw [ih x (hm x (by simp)), ihl fun u hu => hm u (by simp [hu])]
                exact this l fun t ht => ht
          rw [this]; exact h10
      · have hs : ∀ j t, l[j]? = some t → 0 < j → (sub (ls (T.more (.mk k n s l)) σ) t).s = t.s := by
          intro j t hj h0
          refine sub_s ?_
          have := (h2 j t hj).1
          have hp : (decide (k = 5) && decide (((j : Nat) : Int) > 0)) = true := by simp [hk5, h0]
          rw [hp] at this
          exact may_s (by omega) (by omega) this
        rw [dup_map hs j _ (by omega)]
        cases j with
        | zero => simp [dup]
        | succ j => rw [hs _ u hu (by omega)]; exact h8 hk5

theorem dep_sub {t : T} : ∀ {f : Int} {D E : Nat} {σ : Int → T}, V t f D → (∀ n, 0 ≤ n → n < f → dep (σ n) ≤ E) → 1 ≤ E → dep (sub σ t) ≤ D + E := by
  have hren : ∀ (t : T) (r : Int → Int), dep (ren r t) = dep t := by
    intro t
    induction t using T.ind with
    | h k n s l ih =>
      intro r
      rw [ren_mk]
      split
      · rfl
      · simp only [dep]
        congr 1
        have : ∀ l' : List T, (∀ t, t ∈ l' → t ∈ l) → depL (l'.map (ren (lr (T.more (.mk k n s l)) r))) = depL l' := by
          intro l'
          induction l' with
          | nil => intro _; rfl
          | cons x l' ihl => intro hm; simp only [List.map_cons, depL]; rw [ih x (hm x (by simp)), ihl fun u hu => hm u (by simp [hu])]
        exact this l fun t ht => ht
  induction t using T.ind with
  | h k n s l ih =>
    intro f D E σ h hr hE
    rw [V_mk] at h
    rw [sub_mk]
    split
    · rename_i hk; rw [if_pos hk] at h; have := hr n h.1 h.2.1; omega
    · rename_i hk; rw [if_neg hk] at h
      simp only [dep]
      have := dep_mono (l := l) (f := sub (ls (T.more (.mk k n s l)) σ)) (d := D - 1 + E) fun t ht => ih t ht (h.2.2.2 t ht) (fun m h0 hm => ?_) hE
      · omega
      · unfold ls
        split
        · exact hE
        · rw [hren]; exact hr _ (by omega) (by omega)

end Go.Proofs.Ytlgekplmbmkcmaa
