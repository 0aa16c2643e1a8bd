/- What two nodes do, plain: where a plan comes from; how many nodes it needs. -/
import Derived.Test.YtomcceambpneiaaRuleP
set_option linter.unusedSimpArgs false
set_option linter.unusedVariables false
set_option maxHeartbeats 4000000
set_option maxRecDepth 10000
namespace Go.Proofs.Ytomcceambpneiaa
open Go.Fx

inductive Src (x y : Nd) : Pl × Int → Prop
  | no : Src x y (noR 140)
  | drop : x.k = 7 → Src x y (plainR 8)
  | join : cls x.k = 3 → x.k = y.k → x.lv = y.lv → Src x y (plainR 6)
  | pass : cls x.k = 3 → Src x y (passR x y)
  | ask : cls x.k = 1 → cls y.k = 2 → Src x y (askR x y)
theorem of_src (a b : Nd) : Src a b (ofR a b) ∨ ∃ r, Src b a r ∧ ofR a b = swapR r := by
  unfold ofR
  split
  · exact .inl .no
  split
  · rename_i h; exact .inl (.drop ((cls_4 _).1 h))
  split
  · rename_i h; exact .inr ⟨_, .drop ((cls_4 _).1 h), rfl⟩
  split
  · rename_i h; exact .inl (.join h.1 h.2.2.2 h.2.2.1)
  split
  · rename_i h; exact .inl (.pass h.1)
  split
  · rename_i h; exact .inr ⟨_, .pass h, rfl⟩
  split
  · rename_i h; exact .inl (.ask h.1 h.2)
  split
  · rename_i h; exact .inr ⟨_, .ask h.2 h.1, rfl⟩
  · exact .inl .no

theorem wr_in {z : Int} (h : -9223372036854775808 ≤ z ∧ z ≤ 9223372036854775807) : wr z = z := wrap_in z h
theorem passLv_in {x y : Nd} (hy : 0 ≤ y.lv ∧ y.lv ≤ 60) : passLv x y = if x.k = 5 then y.lv - 1 else if x.k = 6 then y.lv + 1 else y.lv := by
  unfold passLv
  rw [wr_in (by omega), wr_in (by omega)]

def KindP (x y : Nd) (p : Pl) : Prop :=
  (p.k = 8 ∧ x.k = 7) ∨ (p.k = 6 ∧ cls x.k = 3 ∧ x.k = y.k ∧ x.lv = y.lv) ∨ (p.k = 7 ∧ cls x.k = 3 ∧ x.lv < y.lv ∧ 0 ≤ p.lv ∧ p.lv ≤ 60 ∧ x.lv ≤ p.lv) ∨
  (p.k = 4 ∧ x.k = 12 ∧ p.nd.lv = x.lv ∧ p.nd.may ∧ (p.nd.k = 10 ∨ p.nd.to.length = 1)) ∨ (¬ p.k = 8 ∧ ¬ p.k = 6 ∧ ¬ p.k = 7 ∧ ¬ p.k = 4 ∧ cls x.k = 1 ∧ cls y.k = 2 ∧ 1 ≤ p.k ∧ p.k ≤ 5)

theorem out_may {x y : Nd} (hx : x.may) : ({ outN x y with lv := x.lv } : Nd).may ∧ ((outN x y).k = 10 ∨ (outN x y).to.length = 1) := by
  have h0 := hx.lv0
  have h1 := hx.lv1
  have int : ∀ z : Int, (⟨10, x.lv, z, [], [], []⟩ : Nd).may := fun z => ⟨by show (0 : Int) ≤ 10; omega, by show (10 : Int) ≤ 13; omega, h0, h1, fun h => by have h : (10 : Int) < 2 := h; omega, by simp, fun _ => .inl rfl, fun h => by have h : (10 : Int) = 8 := h; omega, fun h => by have h : (10 : Int) = 9 := h; omega, fun _ => by simp, by simp, fun i a h => by simp at h⟩
  have tr : ∀ b : Bool, ({ truthN b with lv := x.lv } : Nd).may := fun b => ⟨by show (0 : Int) ≤ 8; omega, by show (8 : Int) ≤ 13; omega, h0, h1, fun h => by have h : (8 : Int) < 2 := h; omega, by simp [truthN]; cases b <;> simp, fun h => absurd rfl h, fun _ => by simp [truthN], fun h => by have h : (8 : Int) = 9 := h; omega, fun _ => by simp [truthN], by simp [truthN], fun i a h => by simp [truthN] at h⟩
  unfold outN
  split
  · exact ⟨int _, .inl rfl⟩
  split
  · exact ⟨int _, .inl rfl⟩
  split
  · exact ⟨int _, .inl rfl⟩
  split
  · exact ⟨int _, .inl rfl⟩
  split
  · exact ⟨tr _, .inr rfl⟩
  split
  · exact ⟨tr _, .inr rfl⟩
  · exact ⟨int _, .inl rfl⟩

theorem src_kind {x y : Nd} (hx : x.may) (hy : y.may) {r : Pl × Int} (h : Src x y r) : (r.2 = 0 ∨ r.2 = 140 ∨ r.2 = 141) ∧ (r.2 = 0 → KindP x y r.1) ∧ r.1.sw = false := by
  have y0 := hy.lv0
  have y1 := hy.lv1
  have x0 := hx.lv0
  cases h with
  | no => exact ⟨.inr (.inl rfl), fun h => by have h : (140 : Int) = 0 := h; omega, rfl⟩
  | drop h => exact ⟨.inl rfl, fun _ => .inl ⟨rfl, h⟩, rfl⟩
  | join h1 h2 h3 => exact ⟨.inl rfl, fun _ => .inr (.inl ⟨rfl, h1, h2, h3⟩), rfl⟩
  | pass h1 =>
    unfold passR
    split
    · exact ⟨.inr (.inl rfl), fun h => by have h : (140 : Int) = 0 := h; omega, rfl⟩
    split
    · exact ⟨.inr (.inr rfl), fun h => by have h : (141 : Int) = 0 := h; omega, rfl⟩
    · rename_i h2 h3
      rw [passLv_in ⟨y0, y1⟩] at h3 ⊢
      refine ⟨.inl rfl, fun _ => .inr (.inr (.inl ⟨rfl, h1, by omega, ?_, ?_, ?_⟩)), rfl⟩ <;> simp only <;> split <;> first | omega | (split <;> omega)
  | ask h1 h2 =>
    have oth : ∀ k : Int, 1 ≤ k → k ≤ 5 → ¬ k = 4 → KindP x y ⟨k, false, 0, 0, zN⟩ := fun k a b c => .inr (.inr (.inr (.inr ⟨by simp only; omega, by simp only; omega, by simp only; omega, c, h1, h2, a, b⟩)))
    have pl : ∀ k : Int, 1 ≤ k → k ≤ 5 → ¬ k = 4 → ((plainR k).2 = 0 ∨ (plainR k).2 = 140 ∨ (plainR k).2 = 141) ∧ ((plainR k).2 = 0 → KindP x y (plainR k).1) ∧ (plainR k).1.sw = false := fun k a b c => ⟨.inl rfl, fun _ => oth k a b c, rfl⟩
    have no : ((noR 140).2 = 0 ∨ (noR 140).2 = 140 ∨ (noR 140).2 = 141) ∧ ((noR 140).2 = 0 → KindP x y (noR 140).1) ∧ (noR 140).1.sw = false := ⟨.inr (.inl rfl), fun h => by have h : (140 : Int) = 0 := h; omega, rfl⟩
    unfold askR pickR outR
    split
    · split
      · exact no
      · exact pl 1 (by omega) (by omega) (by omega)
    split
    · split
      · exact no
      · split
        · exact pl 5 (by omega) (by omega) (by omega)
        · exact ⟨.inl rfl, fun _ => .inr (.inr (.inr (.inr ⟨by show ¬ (2 : Int) = 8; omega, by show ¬ (2 : Int) = 6; omega, by show ¬ (2 : Int) = 7; omega, by show ¬ (2 : Int) = 4; omega, h1, h2, by show (1 : Int) ≤ 2; omega, by show (2 : Int) ≤ 5; omega⟩))), rfl⟩
    split
    · exact pl 3 (by omega) (by omega) (by omega)
    split
    · rename_i h12
      split
      · exact pl 5 (by omega) (by omega) (by omega)
      · have := out_may (y := y) hx
        exact ⟨.inl rfl, fun _ => .inr (.inr (.inr (.inl ⟨rfl, h12.1, rfl, this.1, this.2⟩))), rfl⟩
    · exact pl 5 (by omega) (by omega) (by omega)

theorem to_le {x : Nd} (hm : x.may) (h : (x.to.length : Int) ≤ x.ports) : (x.to.length : Int) ≤ 10 ∧ (cls x.k = 2 → (x.to.length : Int) ≤ 9) ∧ 0 ≤ x.ports := by
  have h1 := hm.to8
  have h2 := hm.al8
  have h3 := cls_2 x.k
  have h4 : x.ports ≤ 10 ∧ (cls x.k = 2 → x.ports ≤ 9) := by
    unfold Nd.ports
    rw [h3]
    repeat' split
    all_goals omega
  omega
theorem idx_lt {α : Type} {f : α → Bool} {l : List α} (h : ¬ idx f l < 0) : ∃ (i : Nat) (x : α), idx f l = (i : Int) ∧ l[i]? = some x := by
  unfold idx at h ⊢
  cases hf : l.findIdx? f with
  | none => rw [hf] at h; simp at h
  | some i =>
    rw [List.findIdx?_eq_some_iff_getElem] at hf
    exact ⟨i, _, rfl, List.getElem?_eq_getElem hf.1⟩
theorem oth_in {x : Nd} (h : (x.to.length : Int) ≤ 10) : oth x = max ((x.to.length : Int) - 1) 0 := by unfold oth; rw [wr_in (by omega)]

theorem asks_spec {a b : Nd} (ha : a.may) (hb : b.may) (ta : (a.to.length : Int) ≤ a.ports) (tb : (b.to.length : Int) ≤ b.ports) (h1 : cls a.k = 1) (h2 : cls b.k = 2)
    (hbd : ¬ ((a.k = 3 ∧ b.k = 2 ∨ a.k = 9 ∧ b.k = 8) ∧ a.lv ≠ b.lv)) : (askR a b).2 = 0 ∧ (askR a b).1.sw = false ∧ 1 ≤ (askR a b).1.k ∧ (askR a b).1.k ≤ 5 ∧ 0 ≤ needR (askR a b).1 a b ∧ needR (askR a b).1 a b ≤ 17 := by
  have la := to_le ha ta
  have lb := to_le hb tb
  have oa := oth_in la.1
  have ob := oth_in lb.1
  have lb2 := lb.2.1 h2
  have nd : ∀ p : Pl, p.sw = false → needR p a b = needX p a b := fun p h => by unfold needR; rw [if_neg (by simp [h])]
  have n5 : 0 ≤ needX (plainR 5).1 a b ∧ needX (plainR 5).1 a b ≤ 17 := by
    unfold needX plainR
    simp only [Int.reduceEq, if_false, or_self, if_true]
    rw [oa, ob, wr_in (z := max ((a.to.length : Int) - 1) 0 - 1) (by omega), wr_in (z := 1 + max (max ((a.to.length : Int) - 1) 0 - 1) 0) (by omega), wr_in (by omega)]
    omega
  have fl : (plainR 5).2 = 0 ∧ (plainR 5).1.sw = false ∧ 1 ≤ (plainR 5).1.k ∧ (plainR 5).1.k ≤ 5 ∧ 0 ≤ needR (plainR 5).1 a b ∧ needR (plainR 5).1 a b ≤ 17 := by
    rw [nd _ rfl]; exact ⟨rfl, rfl, by show (1 : Int) ≤ 5; omega, by show (5 : Int) ≤ 5; omega, n5⟩
  unfold askR pickR outR
  split
  · rename_i h
    rw [if_neg (fun h3 => hbd ⟨.inl h, h3⟩), nd _ rfl]
    refine ⟨rfl, rfl, by show (1 : Int) ≤ 1; omega, by show (1 : Int) ≤ 5; omega, ?_⟩
    unfold needX plainR
    simp only [Int.reduceEq, if_false, or_self, if_true]; omega
  split
  · rename_i h0 h
    rw [if_neg (fun h3 => hbd ⟨.inr h, h3⟩)]
    split
    · exact fl
    · rename_i h3
      obtain ⟨i, x, e1, e2⟩ := idx_lt h3
      have e1 : pickIx a b = (i : Int) := e1
      rw [nd _ rfl, e1]
      refine ⟨rfl, rfl, by show (1 : Int) ≤ 2; omega, by show (2 : Int) ≤ 5; omega, ?_⟩
      have hal := ha.al8
      have hx := ha.alt i x e2
      have hil := (List.getElem?_eq_some_iff.1 e2).1
      unfold needX
      simp only [if_true]
      rw [if_neg (by omega), Int.toNat_natCast, List.getD_eq_getElem?_getD, e2]
      simp only [Option.getD_some]
      rw [wr_in (z := x.n + (a.al.length : Int)) (by omega), wr_in (by omega)]
      omega
  split
  · rw [nd _ rfl]
    refine ⟨rfl, rfl, by show (1 : Int) ≤ 3; omega, by show (3 : Int) ≤ 5; omega, ?_⟩
    unfold needX plainR
    simp only [Int.reduceEq, if_false, true_or, if_true]; omega
  split
  · split
    · exact fl
    · rw [nd _ rfl]
      refine ⟨rfl, rfl, by show (1 : Int) ≤ 4; omega, by show (4 : Int) ≤ 5; omega, ?_⟩
      unfold needX
      simp only [Int.reduceEq, if_false, or_true, if_true]; omega
  · exact fl

end Go.Proofs.Ytomcceambpneiaa
