/- What two nodes do, plain: whichever is named first. -/
import Derived.Test.YtomcceambpneiaaRule2
set_option linter.unusedSimpArgs false
set_option linter.unusedVariables false
set_option maxHeartbeats 4000000
set_option maxRecDepth 10000
namespace Go.Proofs.Ytomcceambpneiaa
open Go.Fx

theorem cls_1 (k : Int) : cls k = 1 ↔ k = 3 ∨ k = 9 ∨ k = 11 ∨ k = 12 := by
  unfold cls; repeat' split
  all_goals omega
theorem cls_2 (k : Int) : cls k = 2 ↔ k = 2 ∨ k = 8 ∨ k = 10 ∨ k = 13 := by
  unfold cls; repeat' split
  all_goals omega
theorem cls_3 (k : Int) : cls k = 3 ↔ k = 4 ∨ k = 5 ∨ k = 6 := by
  unfold cls; repeat' split
  all_goals omega
theorem cls_4 (k : Int) : cls k = 4 ↔ k = 7 := by
  unfold cls; repeat' split
  all_goals omega
theorem cls_le (k : Int) : 0 ≤ cls k ∧ cls k ≤ 4 := by
  unfold cls; repeat' split
  all_goals omega

/-- a plan of the first one: not swapped, no join; an error has none -/
structure Pln (r : Pl × Int) : Prop where
  sw : r.1.sw = false
  k6 : r.1.k ≠ 6
  er : r.2 ≠ 0 → r.1 = p0
theorem pln_no {e : Int} : Pln (noR e) := ⟨rfl, by show (0 : Int) ≠ 6; omega, fun _ => rfl⟩
theorem pln_plain {k : Int} (h : k ≠ 6) : Pln (plainR k) := ⟨rfl, h, fun h => absurd rfl h⟩
theorem pass_pln (x y : Nd) : Pln (passR x y) := by
  unfold passR
  split
  · exact pln_no
  · split
    · exact pln_no
    · exact ⟨rfl, by show (7 : Int) ≠ 6; omega, fun h => absurd rfl h⟩
theorem ask_pln (x y : Nd) : Pln (askR x y) := by
  unfold askR
  split
  · split
    · exact pln_no
    · exact pln_plain (by omega)
  split
  · unfold pickR
    split
    · exact pln_no
    · split
      · exact pln_plain (by omega)
      · exact ⟨rfl, by show (2 : Int) ≠ 6; omega, fun h => absurd rfl h⟩
  split
  · exact pln_plain (by omega)
  split
  · unfold outR
    split
    · exact pln_plain (by omega)
    · exact ⟨rfl, by show (4 : Int) ≠ 6; omega, fun h => absurd rfl h⟩
  · exact pln_plain (by omega)

structure TurnOk (a b : Nd) (x y : Pl × Int) : Prop where
  e : x.2 = y.2
  no : x.2 ≠ 0 → x.1 = p0 ∧ y.1 = p0
  same : x.2 = 0 → (x.1.k = 6 ∨ a.k = 7 ∧ b.k = 7) → x.1.sw = false ∧ y.1.sw = false ∧ x.1.k = y.1.k ∧ (x.1.k ≠ 6 ∨ a.k = b.k ∧ a.lv = b.lv)
  other : x.2 = 0 → ¬ (x.1.k = 6 ∨ a.k = 7 ∧ b.k = 7) → x.1.sw ≠ y.1.sw ∧ x.1 = ⟨y.1.k, x.1.sw, y.1.lv, y.1.alt, y.1.nd⟩ ∧ needR x.1 a b = needR y.1 b a

theorem turn_sw {a b : Nd} {r : Pl × Int} (h : Pln r) (hn : ¬ (a.k = 7 ∧ b.k = 7)) : TurnOk a b r (swapR r) := by
  obtain ⟨⟨k, sw, lv, alt, nd⟩, e⟩ := r
  have h1 := h.sw
  simp only at h1; subst h1
  unfold swapR
  by_cases he : e = 0
  · subst he
    rw [if_pos rfl]
    exact ⟨rfl, fun h => absurd rfl h, fun _ h2 => absurd h2 (fun h2 => h2.elim h.k6 hn), fun _ _ => ⟨by simp, rfl, by simp [needR]; rfl⟩⟩
  · rw [if_neg he]
    exact ⟨rfl, fun h2 => ⟨h.er h2, h.er h2⟩, fun h2 => absurd h2 he, fun h2 => absurd h2 he⟩
theorem turn_ws {a b : Nd} {r : Pl × Int} (h : Pln r) (hn : ¬ (a.k = 7 ∧ b.k = 7)) : TurnOk a b (swapR r) r := by
  obtain ⟨⟨k, sw, lv, alt, nd⟩, e⟩ := r
  have h1 := h.sw
  simp only at h1; subst h1
  unfold swapR
  by_cases he : e = 0
  · subst he
    rw [if_pos rfl]
    exact ⟨rfl, fun h => absurd rfl h, fun _ h2 => absurd h2 (fun h2 => h2.elim h.k6 hn), fun _ _ => ⟨by simp, rfl, by simp [needR]; rfl⟩⟩
  · rw [if_neg he]
    exact ⟨rfl, fun h2 => ⟨h.er h2, h.er h2⟩, fun h2 => absurd h2 he, fun h2 => absurd h2 he⟩
theorem turn_no {a b : Nd} : TurnOk a b (noR 140) (noR 140) := ⟨rfl, fun _ => ⟨rfl, rfl⟩, fun h => absurd h (by show ¬ (140 : Int) = 0; omega), fun h => absurd h (by show ¬ (140 : Int) = 0; omega)⟩
theorem pass_no {x y : Nd} (h : x.lv ≥ y.lv) : passR x y = noR 140 := by unfold passR; rw [if_pos h]

theorem turn_law (a b : Nd) : TurnOk a b (ofR a b) (ofR b a) := by
  have e4a := cls_4 a.k
  have e4b := cls_4 b.k
  have la := cls_le a.k
  have lb := cls_le b.k
  unfold ofR
  obtain ⟨ca, hca⟩ : ∃ c, cls a.k = c := ⟨_, rfl⟩
  obtain ⟨cb, hcb⟩ : ∃ c, cls b.k = c := ⟨_, rfl⟩
  rw [hca] at e4a la
  rw [hcb] at e4b lb
  rw [hca, hcb]
  have ha : ca = 0 ∨ ca = 1 ∨ ca = 2 ∨ ca = 3 ∨ ca = 4 := by omega
  have hb : cb = 0 ∨ cb = 1 ∨ cb = 2 ∨ cb = 3 ∨ cb = 4 := by omega
  by_cases h44 : ca = 4 ∧ cb = 4
  · obtain ⟨rfl, rfl⟩ := h44
    simp only [Int.reduceEq, or_self, if_true, if_false]
    exact ⟨rfl, fun h => absurd rfl h, fun _ _ => ⟨rfl, rfl, rfl, .inl (by show (8 : Int) ≠ 6; omega)⟩, fun _ h => absurd (.inr ⟨e4a.1 rfl, e4b.1 rfl⟩) h⟩
  have hn : ¬ (a.k = 7 ∧ b.k = 7) := fun h => h44 ⟨e4a.2 h.1, e4b.2 h.2⟩
  by_cases h33 : ca = 3 ∧ cb = 3
  · obtain ⟨rfl, rfl⟩ := h33
    by_cases hj : a.lv = b.lv ∧ a.k = b.k
    · simp only [hj.1, hj.2, Int.reduceEq, or_self, and_self, if_true, if_false]
      exact ⟨rfl, fun h => absurd rfl h, fun _ _ => ⟨rfl, rfl, rfl, .inr ⟨hj.2, hj.1⟩⟩, fun _ h => absurd (.inl rfl) h⟩
    have hj' : ¬ (b.lv = a.lv ∧ b.k = a.k) := fun h => hj ⟨h.1.symm, h.2.symm⟩
    by_cases hle : a.lv ≤ b.lv
    · by_cases hge : b.lv ≤ a.lv
      · simp only [hj, hj', hle, hge, ne_eq, not_true_eq_false, Int.reduceEq, or_self, or_true, and_self, and_true, true_and, if_true, if_false, pass_no hge, pass_no hle]
        exact turn_no
      · simp only [hj, hj', hle, hge, ne_eq, not_true_eq_false, Int.reduceEq, or_self, or_true, and_self, and_true, true_and, if_true, if_false]
        exact turn_sw (pass_pln a b) hn
    · have hge : b.lv ≤ a.lv := by omega
      simp only [hj, hj', hle, hge, ne_eq, not_true_eq_false, Int.reduceEq, or_self, or_true, and_self, and_true, true_and, if_true, if_false]
      exact turn_ws (pass_pln b a) hn
  rcases ha with rfl | rfl | rfl | rfl | rfl <;> rcases hb with rfl | rfl | rfl | rfl | rfl <;>
    simp only [ne_eq, not_true_eq_false, not_false_eq_true, Int.reduceEq, or_self, or_true, true_or, or_false, false_or, and_self, and_true, true_and, and_false, false_and, if_true, if_false] at h44 h33 ⊢ <;>
    first
      | exact turn_no
      | exact turn_sw (pln_plain (by omega)) hn
      | exact turn_ws (pln_plain (by omega)) hn
      | exact turn_sw (pass_pln a b) hn
      | exact turn_ws (pass_pln b a) hn
      | exact turn_sw (ask_pln a b) hn
      | exact turn_ws (ask_pln b a) hn

/-! ### what a plan's node is -/
theorem wf_wr (z : Int) : wf (wr z) := by unfold wf wr; rw [IntKind.wrap_i64]; omega
theorem wf_s {i : Int} (h : -1000 ≤ i ∧ i ≤ 1000) : wf i := by unfold wf; omega
theorem truth_Ok (b : Bool) : (truthN b).Ok := by
  unfold truthN
  cases b <;> exact ⟨wf_s (i := 8) (by decide), wf_s (i := 0) (by decide), wf_s (i := 0) (by decide), by simp, by simp, by simp, by simp, fun p hp => by
    simp only [List.mem_cons, List.not_mem_nil, or_false] at hp
    rw [hp]; exact ⟨wf_s (i := 0) (by decide), wf_s (i := 0) (by decide)⟩⟩
theorem zN_Ok' : zN.Ok := ⟨wf_s (i := 0) (by decide), wf_s (i := 0) (by decide), wf_s (i := 0) (by decide), by simp [zN], by simp [zN], by simp [zN], by simp [zN], by simp [zN]⟩
theorem int_Ok {z l : Int} (h : wf z) (hl : wf l) : (⟨10, l, z, [], [], []⟩ : Nd).Ok := ⟨wf_s (i := 10) (by decide), hl, h, by simp, by simp, by simp, by simp, by simp⟩
theorem lv_Ok {x : Nd} (h : x.Ok) {l : Int} (hl : wf l) : ({ x with lv := l } : Nd).Ok := ⟨h.k, hl, h.n, h.s, h.al, h.to, h.ap, h.tp⟩
theorem out_Ok (x y : Nd) : (outN x y).Ok := by
  unfold outN
  split
  · exact int_Ok (wf_wr _) (wf_s (by decide))
  split
  · exact int_Ok (wf_wr _) (wf_s (by decide))
  split
  · exact int_Ok (wf_wr _) (wf_s (by decide))
  split
  · exact int_Ok (wf_wr _) (wf_s (by decide))
  split
  · exact truth_Ok _
  split
  · exact truth_Ok _
  · exact int_Ok (wf_s (by decide)) (wf_s (by decide))
theorem swap_nd (r : Pl × Int) : (swapR r).1.nd = r.1.nd := by unfold swapR; split <;> rfl
theorem pass_nd (x y : Nd) : (passR x y).1.nd = zN := by
  unfold passR
  split
  · rfl
  · split <;> rfl
theorem ask_nd {x y : Nd} (hx : x.Ok) : (askR x y).1.nd.Ok := by
  unfold askR pickR outR
  repeat' split
  all_goals first | exact zN_Ok' | exact lv_Ok (out_Ok x y) hx.lv
theorem of_nd {a b : Nd} (ha : a.Ok) (hb : b.Ok) : (ofR a b).1.nd.Ok := by
  unfold ofR
  repeat' split
  all_goals first | exact zN_Ok' | (rw [swap_nd]; exact zN_Ok') | (rw [pass_nd]; exact zN_Ok') | (rw [swap_nd, pass_nd]; exact zN_Ok') | exact ask_nd ha | (rw [swap_nd]; exact ask_nd hb)
end Go.Proofs.Ytomcceambpneiaa
