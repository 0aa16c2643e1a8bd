/- Terms with numbered variables: renaming, substitution, and what they are one behind the other; no program in sight. -/
import Derived.Test.YtlgekplmbmkcmaaInst
set_option linter.unusedSimpArgs false
set_option linter.unusedVariables false
namespace Go.Proofs.Ytlgekplmbmkcmaa
open Go.Fx

theorem T.ind {P : T → Prop} (h : ∀ k n s l, (∀ t, t ∈ l → P t) → P (.mk k n s l)) : ∀ t, P t := by
  intro t
  refine T.rec (motive_1 := P) (motive_2 := fun l => ∀ t, t ∈ l → P t) (fun k n s l ih => h k n s l ih) (by simp) (fun t l h1 h2 u hu => ?_) t
  rcases List.mem_cons.1 hu with rfl | hu
  · exact h1
  · exact h2 u hu

def var (n : Int) : T := .mk 1 n [] []

mutual
/-- variables of 0 on, below f, further in more; at most 8 binders at once; at most D deep -/
def V : T → Int → Nat → Prop
  | .mk k n s l, f, D => if k = 1 then 0 ≤ n ∧ n < f ∧ s = [] ∧ l = [] ∧ 1 ≤ D else 0 ≤ T.more (.mk k n s l) ∧ T.more (.mk k n s l) ≤ 8 ∧ 1 ≤ D ∧ VL l (f + T.more (.mk k n s l)) (D - 1)
def VL : List T → Int → Nat → Prop
  | [], _, _ => True
  | t :: r, f, D => V t f D ∧ VL r f D
end
theorem VL_all (l : List T) (f : Int) (D : Nat) : VL l f D ↔ ∀ t, t ∈ l → V t f D := by
  induction l with
  | nil => simp [VL]
  | cons t l ih => simp [VL, ih]
theorem V_mk (k n : Int) (s : List UInt8) (l : List T) (f : Int) (D : Nat) : V (.mk k n s l) f D ↔ if k = 1 then 0 ≤ n ∧ n < f ∧ s = [] ∧ l = [] ∧ 1 ≤ D else 0 ≤ T.more (.mk k n s l) ∧ T.more (.mk k n s l) ≤ 8 ∧ 1 ≤ D ∧ ∀ t, t ∈ l → V t (f + T.more (.mk k n s l)) (D - 1) := by
  rw [← VL_all]; rfl
theorem V_var {n f : Int} {D : Nat} (h0 : 0 ≤ n) (h : n < f) (hD : 1 ≤ D) : V (var n) f D := by unfold var; rw [V_mk, if_pos rfl]; exact ⟨h0, h, rfl, rfl, hD⟩

theorem V_mono {t : T} : ∀ {f g : Int} {D E : Nat}, V t f D → f ≤ g → D ≤ E → V t g E := by
  induction t using T.ind with
  | h k n s l ih =>
    intro f g D E h hf hD
    rw [V_mk] at h ⊢
    split
    · rename_i hk; rw [if_pos hk] at h; exact ⟨h.1, by omega, h.2.2.1, h.2.2.2.1, by omega⟩
    · rename_i hk; rw [if_neg hk] at h
      exact ⟨h.1, h.2.1, by omega, fun t ht => ih t ht (h.2.2.2 t ht) (by omega) (by omega)⟩

def lr (m : Int) (r : Int → Int) : Int → Int := fun n => if n < m then n else r (n - m) + m
mutual
def ren (r : Int → Int) : T → T
  | .mk k n s l => if k = 1 then .mk k (r n) s l else .mk k n s (renL (lr (T.more (.mk k n s l)) r) l)
def renL (r : Int → Int) : List T → List T
  | [] => []
  | t :: l => ren r t :: renL r l
end
theorem renL_map (r : Int → Int) (l : List T) : renL r l = l.map (ren r) := by
  induction l with
  | nil => rfl
  | cons t l ih => simp [renL, ih]
theorem ren_mk (r : Int → Int) (k n : Int) (s : List UInt8) (l : List T) : ren r (.mk k n s l) = if k = 1 then .mk k (r n) s l else .mk k n s (l.map (ren (lr (T.more (.mk k n s l)) r))) := by rw [← renL_map]; rfl

def ls (m : Int) (σ : Int → T) : Int → T := fun n => if n < m then var n else ren (· + m) (σ (n - m))
mutual
def sub (σ : Int → T) : T → T
  | .mk k n s l => if k = 1 then σ n else .mk k n s (subL (ls (T.more (.mk k n s l)) σ) l)
def subL (σ : Int → T) : List T → List T
  | [] => []
  | t :: l => sub σ t :: subL σ l
end
theorem subL_map (σ : Int → T) (l : List T) : subL σ l = l.map (sub σ) := by
  induction l with
  | nil => rfl
  | cons t l ih => simp [subL, ih]
theorem sub_mk (σ : Int → T) (k n : Int) (s : List UInt8) (l : List T) : sub σ (.mk k n s l) = if k = 1 then σ n else .mk k n s (l.map (sub (ls (T.more (.mk k n s l)) σ))) := by rw [← subL_map]; rfl
theorem sub_v (σ : Int → T) (n : Int) : sub σ (var n) = σ n := by unfold var; rw [sub_mk, if_pos rfl]
theorem ren_v (r : Int → Int) (n : Int) : ren r (var n) = var (r n) := by unfold var; rw [ren_mk, if_pos rfl]

theorem map_ext {l : List T} {f g : T → T} (h : ∀ t, t ∈ l → f t = g t) : l.map f = l.map g := List.map_congr_left h

theorem ren_ext {t : T} : ∀ {f : Int} {D : Nat} {r q : Int → Int}, V t f D → (∀ n, 0 ≤ n → n < f → r n = q n) → ren r t = ren q t := by
  induction t using T.ind with
  | h k n s l ih =>
    intro f D r q h hr
    rw [V_mk] at h
    rw [ren_mk, ren_mk]
    split
    · rename_i hk; rw [if_pos hk] at h; rw [hr n h.1 h.2.1]
    · rename_i hk; rw [if_neg hk] at h
      congr 1
      refine map_ext fun t ht => ih t ht (h.2.2.2 t ht) fun m h0 hm => ?_
      unfold lr
      split
      · rfl
      · rw [hr _ (by omega) (by omega)]

theorem V_ren {t : T} : ∀ {f g : Int} {D : Nat} {r : Int → Int}, V t f D → (∀ n, 0 ≤ n → n < f → 0 ≤ r n ∧ r n < g) → 0 ≤ g → V (ren r t) g D := by
  induction t using T.ind with
  | h k n s l ih =>
    intro f g D r h hr hg
    rw [V_mk] at h
    rw [ren_mk]
    split
    · rename_i hk; rw [if_pos hk] at h; rw [V_mk, if_pos hk]; exact ⟨(hr n h.1 h.2.1).1, (hr n h.1 h.2.1).2, h.2.2⟩
    · rename_i hk; rw [if_neg hk] at h
      rw [V_mk, if_neg hk]
      refine ⟨h.1, h.2.1, h.2.2.1, fun t ht => ?_⟩
      obtain ⟨u, hu, rfl⟩ := List.mem_map.1 ht
      have e : T.more (.mk k n s (l.map (ren (lr (T.more (.mk k n s l)) r)))) = T.more (.mk k n s l) := rfl
      rw [e]
      refine ih u hu (h.2.2.2 u hu) (fun m h0 hm => ?_) (by omega)
      unfold lr
      split
      · exact ⟨h0, by omega⟩
      · have := hr (m - T.more (.mk k n s l)) (by omega) (by omega)
        exact ⟨by omega, by omega⟩

theorem ren_ren {t : T} : ∀ {f : Int} {D : Nat} {r q : Int → Int}, V t f D → (∀ n, 0 ≤ n → n < f → 0 ≤ r n) → ren q (ren r t) = ren (fun n => q (r n)) t := by
  induction t using T.ind with
  | h k n s l ih =>
    intro f D r q h hr
    rw [V_mk] at h
    rw [ren_mk, ren_mk]
    split
    · rename_i hk; rw [ren_mk, if_pos hk]
    · rename_i hk; rw [if_neg hk] at h
      rw [ren_mk, if_neg hk, List.map_map]
      have e : T.more (.mk k n s (l.map (ren (lr (T.more (.mk k n s l)) r)))) = T.more (.mk k n s l) := rfl
      rw [e]
      congr 1
      refine map_ext fun t ht => ?_
      have hV := h.2.2.2 t ht
      rw [Function.comp_apply, ih t ht hV (fun m h0 hm => ?_)]
      · refine ren_ext hV fun m h0 hm => ?_
        unfold lr
        by_cases h1 : m < T.more (.mk k n s l)
        · simp only [h1, if_true]
        · simp only [h1, if_false]
          have := hr (m - T.more (.mk k n s l)) (by omega) (by omega)
          rw [if_neg (by omega)]
          congr 2; omega
      · unfold lr
        split
        · exact h0
        · have := hr (m - T.more (.mk k n s l)) (by omega) (by omega)
          omega

theorem ren_id {t : T} : ∀ {f : Int} {D : Nat} {r : Int → Int}, V t f D → (∀ n, 0 ≤ n → n < f → r n = n) → ren r t = t := by
  induction t using T.ind with
  | h k n s l ih =>
    intro f D r h hr
    rw [V_mk] at h
    rw [ren_mk]
    split
    · rename_i hk; rw [if_pos hk] at h; rw [hr n h.1 h.2.1]
    · rename_i hk; rw [if_neg hk] at h
      congr 1
      conv => rhs; rw [← List.map_id l]
      refine map_ext fun t ht => ih t ht (h.2.2.2 t ht) fun m h0 hm => ?_
      unfold lr
      split
      · rfl
      · rw [hr _ (by omega) (by omega)]; omega

theorem sub_ext {t : T} : ∀ {f : Int} {D : Nat} {σ τ : Int → T}, V t f D → (∀ n, 0 ≤ n → n < f → σ n = τ n) → sub σ t = sub τ t := by
  induction t using T.ind with
  | h k n s l ih =>
    intro f D σ τ h hr
    rw [V_mk] at h
    rw [sub_mk, sub_mk]
    split
    · rename_i hk; rw [if_pos hk] at h; rw [hr n h.1 h.2.1]
    · rename_i hk; rw [if_neg hk] at h
      congr 1
      refine map_ext fun t ht => ih t ht (h.2.2.2 t ht) fun m h0 hm => ?_
      unfold ls
      split
      · rfl
      · rw [hr _ (by omega) (by omega)]

theorem V_ls {σ : Int → T} {f g m : Int} {E : Nat} (h : ∀ n, 0 ≤ n → n < f → V (σ n) g E) (hg : 0 ≤ g) (hE : 1 ≤ E) (hm : 0 ≤ m) : ∀ n, 0 ≤ n → n < f + m → V (ls m σ n) (g + m) E := by
  intro n h0 hn
  unfold ls
  split
  · exact V_var h0 (by omega) hE
  · exact V_ren (h _ (by omega) (by omega)) (fun j h0 hj => ⟨by omega, by omega⟩) (by omega)

theorem V_sub {t : T} : ∀ {f g : Int} {D E : Nat} {σ : Int → T}, V t f D → (∀ n, 0 ≤ n → n < f → V (σ n) g E) → 0 ≤ g → 1 ≤ E → V (sub σ t) g (D + E) := by
  induction t using T.ind with
  | h k n s l ih =>
    intro f g D E σ h hr hg hE
    rw [V_mk] at h
    rw [sub_mk]
    split
    · rename_i hk; rw [if_pos hk] at h; exact V_mono (hr n h.1 h.2.1) (by omega) (by omega)
    · rename_i hk; rw [if_neg hk] at h
      rw [V_mk, if_neg hk]
      refine ⟨h.1, h.2.1, by omega, fun t ht => ?_⟩
      obtain ⟨u, hu, rfl⟩ := List.mem_map.1 ht
      have e : T.more (.mk k n s (l.map (sub (ls (T.more (.mk k n s l)) σ)))) = T.more (.mk k n s l) := rfl
      rw [e]
      exact V_mono (ih u hu (h.2.2.2 u hu) (V_ls hr hg hE h.1) (by omega) hE) (by omega) (by omega)

theorem sub_ren {t : T} : ∀ {f : Int} {D : Nat} {σ : Int → T} {r : Int → Int}, V t f D → (∀ n, 0 ≤ n → n < f → 0 ≤ r n) → sub σ (ren r t) = sub (fun n => σ (r n)) t := by
  induction t using T.ind with
  | h k n s l ih =>
    intro f D σ r h hr
    rw [V_mk] at h
    rw [ren_mk, sub_mk (fun n => σ (r n))]
    split
    · rename_i hk; rw [sub_mk, if_pos hk]
    · rename_i hk; rw [if_neg hk] at h
      rw [sub_mk, if_neg hk, List.map_map]
      have e : T.more (.mk k n s (l.map (ren (lr (T.more (.mk k n s l)) r)))) = T.more (.mk k n s l) := rfl
      rw [e]
      congr 1
      refine map_ext fun t ht => ?_
      have hV := h.2.2.2 t ht
      rw [Function.comp_apply, ih t ht hV (fun m h0 hm => ?_)]
      · refine sub_ext hV fun m h0 hm => ?_
        unfold lr ls
        by_cases h1 : m < T.more (.mk k n s l)
        · simp only [h1, if_true]
        · simp only [h1, if_false]
          have := hr (m - T.more (.mk k n s l)) (by omega) (by omega)
          rw [if_neg (by omega)]
          congr 2; omega
      · unfold lr
        split
        · exact h0
        · have := hr (m - T.more (.mk k n s l)) (by omega) (by omega)
          omega

theorem ren_sub {t : T} : ∀ {f g : Int} {D E : Nat} {σ : Int → T} {r : Int → Int}, V t f D → (∀ n, 0 ≤ n → n < f → V (σ n) g E) → (∀ n, 0 ≤ n → n < g → 0 ≤ r n) → 0 ≤ g → 1 ≤ E → ren r (sub σ t) = sub (fun n => ren r (σ n)) t := by
  induction t using T.ind with
  | h k n s l ih =>
    intro f g D E σ r h hσ hr hg hE
    rw [V_mk] at h
    rw [sub_mk, sub_mk]
    split
    · rfl
    · rename_i hk; rw [if_neg hk] at h
      rw [ren_mk, if_neg hk, List.map_map]
      have e : T.more (.mk k n s (l.map (sub (ls (T.more (.mk k n s l)) σ)))) = T.more (.mk k n s l) := rfl
      rw [e]
      congr 1
      refine map_ext fun t ht => ?_
      have hV := h.2.2.2 t ht
      rw [Function.comp_apply, ih t ht hV (V_ls hσ hg hE h.1) (fun m h0 hm => ?_) (by omega) hE]
      · refine sub_ext hV fun m h0 hm => ?_
        unfold ls
        by_cases h1 : m < T.more (.mk k n s l)
        · simp only [h1, if_true]
          rw [ren_v]; simp only [lr, h1, if_true]
        · simp only [h1, if_false]
          have hx := hσ (m - T.more (.mk k n s l)) (by omega) (by omega)
          rw [ren_ren hx (by omega), ren_ren hx hr]
          refine ren_ext hx fun j h0 hj => ?_
          unfold lr
          rw [if_neg (by omega)]
          congr 2; omega
      · unfold lr
        split
        · exact h0
        · have := hr (m - T.more (.mk k n s l)) (by omega) (by omega)
          omega

theorem sub_sub {t : T} : ∀ {f g h : Int} {D E H : Nat} {σ τ : Int → T}, V t f D → (∀ n, 0 ≤ n → n < f → V (σ n) g E) → (∀ n, 0 ≤ n → n < g → V (τ n) h H) → 0 ≤ g → 0 ≤ h → 1 ≤ E → 1 ≤ H → sub τ (sub σ t) = sub (fun n => sub τ (σ n)) t := by
  induction t using T.ind with
  | h k n s l ih =>
    intro f g h D E H σ τ hV hσ hτ hg hh hE hH
    rw [V_mk] at hV
    rw [sub_mk, sub_mk (fun n => sub τ (σ n))]
    split
    · rfl
    · rename_i hk; rw [if_neg hk] at hV
      rw [sub_mk, if_neg hk, List.map_map]
      have e : T.more (.mk k n s (l.map (sub (ls (T.more (.mk k n s l)) σ)))) = T.more (.mk k n s l) := rfl
      rw [e]
      congr 1
      refine map_ext fun t ht => ?_
      have hVt := hV.2.2.2 t ht
      rw [Function.comp_apply, ih t ht hVt (V_ls hσ hg hE hV.1) (V_ls hτ hh hH hV.1) (by omega) (by omega) hE hH]
      refine sub_ext hVt fun m h0 hm => ?_
      unfold ls
      by_cases h1 : m < T.more (.mk k n s l)
      · simp only [h1, if_true]
        rw [sub_v]; simp only [h1, if_true]
      · simp only [h1, if_false]
        have hx := hσ (m - T.more (.mk k n s l)) (by omega) (by omega)
        rw [sub_ren hx (by omega), ren_sub hx hτ (by omega) hh hH]
        refine sub_ext hx fun j h0 hj => ?_
        rw [if_neg (by omega)]
        congr 2; omega

theorem sub_id {t : T} : ∀ {f : Int} {D : Nat} {σ : Int → T}, V t f D → (∀ n, 0 ≤ n → n < f → σ n = var n) → sub σ t = t := by
  induction t using T.ind with
  | h k n s l ih =>
    intro f D σ h hr
    rw [V_mk] at h
    rw [sub_mk]
    split
    · rename_i hk; rw [if_pos hk] at h; obtain ⟨h0, h1, rfl, rfl, _⟩ := h; rw [hr n h0 h1, hk]; rfl
    · rename_i hk; rw [if_neg hk] at h
      congr 1
      conv => rhs; rw [← List.map_id l]
      refine map_ext fun t ht => ih t ht (h.2.2.2 t ht) fun m h0 hm => ?_
      unfold ls
      split
      · rfl
      · rw [hr _ (by omega) (by omega), ren_v]; congr 1; omega

/-! ### what the program's functions are -/
theorem up_ren {t : T} : ∀ {g b f : Int} {D : Nat}, V t g D → 0 ≤ f → 0 ≤ b → g + b + 8 * D ≤ 1152921504606846976 → f + 8 * D ≤ 1152921504606846976 → up b f t = ren (fun n => if n ≥ f then n + b else n) t := by
  induction t using T.ind with
  | h k n s l ih =>
    intro g b f D h hf hb h1 h2
    rw [V_mk] at h
    unfold up
    rw [ren_mk]
    split
    · rename_i hk; rw [if_pos hk] at h
      split
      · rw [w_id _ (by omega)]
      · rfl
    · rename_i hk; rw [if_neg hk] at h
      rw [upL_map, w_id _ (by omega)]
      congr 1
      refine map_ext fun t ht => ?_
      rw [ih t ht (h.2.2.2 t ht) (by omega) hb (by omega) (by omega)]
      refine ren_ext (h.2.2.2 t ht) fun m h0 hm => ?_
      unfold lr
      by_cases h3 : m < T.more (.mk k n s l)
      · rw [if_pos h3, if_neg (by omega)]
      · rw [if_neg h3]
        by_cases h4 : m ≥ f + T.more (.mk k n s l)
        · rw [if_pos h4]; show _ = (if m - T.more (.mk k n s l) ≥ f then m - T.more (.mk k n s l) + b else m - T.more (.mk k n s l)) + T.more (.mk k n s l); rw [if_pos (by omega)]; omega
        · rw [if_neg h4]; show _ = (if m - T.more (.mk k n s l) ≥ f then m - T.more (.mk k n s l) + b else m - T.more (.mk k n s l)) + T.more (.mk k n s l); rw [if_neg (by omega)]; omega

theorem up0_ren {t : T} {g b : Int} {D : Nat} (h : V t g D) (hb : 0 ≤ b) (h1 : g + b + 8 * D ≤ 1152921504606846976) (hg : 0 ≤ g) : up b 0 t = ren (· + b) t := by
  rw [up_ren h (by omega) hb h1 (by omega)]
  exact ren_ext h fun n h0 _ => by rw [if_pos h0]

def sput (p : Int) (u : T) (b : Int) : Int → T := fun n => if n = p + b then ren (· + b) u else if n > p + b then var (n - 1) else var n
theorem put_sub {t u : T} {p h : Int} {E : Nat} (hu : V u h E) (hp : 0 ≤ p) (hh : 0 ≤ h) : ∀ {g b : Int} {D : Nat}, V t g D → 0 ≤ b → h + b + 8 * D + 8 * E ≤ 1152921504606846976 → g + 8 * D ≤ 1152921504606846976 → p + b + 8 * D ≤ 1152921504606846976 → put p u t b = sub (sput p u b) t := by
  induction t using T.ind with
  | h k n s l ih =>
    intro g b D hV hb h1 h2 h3
    rw [V_mk] at hV
    unfold put
    rw [sub_mk]
    split
    · rename_i hk; rw [if_pos hk] at hV
      unfold sput
      rw [w_id _ (by omega)]
      split
      · rw [up0_ren hu hb (by omega) hh]
      · split
        · rw [w_id _ (by omega)]; obtain ⟨_, _, rfl, rfl, _⟩ := hV; rw [hk]; rfl
        · obtain ⟨_, _, rfl, rfl, _⟩ := hV; rw [hk]; rfl
    · rename_i hk; rw [if_neg hk] at hV
      rw [putL_map, w_id _ (by omega)]
      congr 1
      refine map_ext fun t ht => ?_
      rw [ih t ht (hV.2.2.2 t ht) (by omega) (by omega) (by omega) (by omega)]
      refine sub_ext (hV.2.2.2 t ht) fun m h0 hm => ?_
      unfold ls sput
      by_cases h4 : m < T.more (.mk k n s l)
      · rw [if_pos h4, if_neg (by omega), if_neg (by omega)]
      · rw [if_neg h4]
        by_cases h5 : m = p + (b + T.more (.mk k n s l))
        · rw [if_pos h5, if_pos (by omega), ren_ren hu (by omega)]
          refine ren_ext hu fun j h0 hj => by omega
        · rw [if_neg h5, if_neg (c := m - T.more (.mk k n s l) = p + b) (by omega)]
          by_cases h6 : m > p + (b + T.more (.mk k n s l))
          · rw [if_pos h6, if_pos (by omega), ren_v]; congr 1; omega
          · rw [if_neg h6, if_neg (by omega), ren_v]; congr 1; omega

def sinst (ts : List T) (b : Int) : Int → T := fun n => if n < b then var n else if n < b + ts.length then ren (· + b) (ts.getD (ts.length - 1 - (n - b)).toNat (.mk 0 0 [] [])) else var (n - ts.length)
theorem inst_sub {t : T} {ts : List T} {h : Int} {E : Nat} (hts : ∀ u, u ∈ ts → V u h E) (hh : 0 ≤ h) : ∀ {g b : Int} {D : Nat}, V t g D → 0 ≤ b → h + b + 8 * D + 8 * E ≤ 1152921504606846976 → g + 8 * D ≤ 1152921504606846976 → inst ts t b = sub (sinst ts b) t := by
  induction t using T.ind with
  | h k n s l ih =>
    intro g b D hV hb h1 h2
    have hget : ∀ m : Int, b ≤ m → m < b + ts.length → V (ts.getD (ts.length - 1 - (m - b)).toNat (.mk 0 0 [] [])) h E := by
      intro m hm1 hm2
      rw [List.getD_eq_getElem?_getD, List.getElem?_eq_getElem (by omega)]
      exact hts _ (List.getElem_mem _)
    rw [V_mk] at hV
    unfold inst
    rw [sub_mk]
    split
    · rename_i hk; rw [if_pos hk] at hV
      unfold sinst
      obtain ⟨h0, h3, rfl, rfl, _⟩ := hV
      split
      · rw [hk]; rfl
      · split
        · rw [up0_ren (hget n (by omega) (by omega)) hb (by omega) hh]
        · rw [hk]; rfl
    · rename_i hk; rw [if_neg hk] at hV
      rw [instL_map]
      congr 1
      refine map_ext fun t ht => ?_
      rw [ih t ht (hV.2.2.2 t ht) (by omega) (by omega) (by omega)]
      refine sub_ext (hV.2.2.2 t ht) fun m h0 hm => ?_
      unfold ls sinst
      by_cases h4 : m < T.more (.mk k n s l)
      · rw [if_pos h4, if_pos (by omega)]
      · rw [if_neg h4]
        by_cases h5 : m < b + T.more (.mk k n s l)
        · rw [if_pos h5, if_pos (by omega), ren_v]; congr 1; omega
        · rw [if_neg h5, if_neg (c := m - T.more (.mk k n s l) < b) (by omega)]
          by_cases h6 : m < b + T.more (.mk k n s l) + ts.length
          · rw [if_pos h6, if_pos (by omega)]
            have hx := hget (m - T.more (.mk k n s l)) (by omega) (by omega)
            rw [ren_ren hx (by omega)]
            have e : (ts.length : Int) - 1 - (m - (b + T.more (.mk k n s l))) = ts.length - 1 - (m - T.more (.mk k n s l) - b) := by omega
            rw [e]
            exact ren_ext hx fun j h0 hj => by omega
          · rw [if_neg h6, if_neg (by omega), ren_v]; congr 1; omega

end Go.Proofs.Ytlgekplmbmkcmaa
