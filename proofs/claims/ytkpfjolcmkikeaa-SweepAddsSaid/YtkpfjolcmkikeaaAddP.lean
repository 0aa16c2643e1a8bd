/- Nodes that are linked among themselves alone are swept: of nets alone. -/
import Derived.Test.YtkpfjolcmkikeaaSweepP
import Derived.Test.YtkpfjolcmkikeaaStoreP
set_option linter.unusedSimpArgs false
set_option linter.unusedVariables false
set_option maxHeartbeats 4000000
set_option maxRecDepth 10000
namespace Go.Proofs.Ytkpfjolcmkikeaa
open Go.Fx

/-- two nodes more, linked to one another alone -/
structure Two (n K : Nt) (i j : Nat) (x y : Nd) : Prop where
  ne : i ≠ j
  cap : K.cap = n.cap
  li : i < K.ns.length
  lj : j < K.ns.length
  gi : K.ns[i]? = some x
  gj : K.ns[j]? = some y
  wi : ∀ z, n.ns[i]? = some z → z.k = 0
  wj : ∀ z, n.ns[j]? = some z → z.k = 0
  rest : ∀ a, a ≠ i → a ≠ j → K.ns[a]? = n.ns[a]?
  len : n.ns.length ≤ K.ns.length
  mx : x.may
  my : y.may
  tx : x.to = [⟨j, 0⟩]
  ty : y.to = [⟨i, 0⟩]
  px : x.ports = 1
  py : y.ports = 1
  kx : x.k ≠ 0 ∧ x.k ≠ 1
  ky : y.k ≠ 0 ∧ y.k ≠ 1

variable {n K : Nt} {i j : Nat} {x y : Nd}

theorem Two.used (h : Two n K i j x y) {a : Nat} {z : Nd} (hz : n.ns[a]? = some z) (hk : z.k ≠ 0) : a ≠ i ∧ a ≠ j :=
  ⟨fun e => hk (h.wi z (e ▸ hz)), fun e => hk (h.wj z (e ▸ hz))⟩
theorem Two.rch (h : Two n K i j x y) (hG : n.Good) (a : Nat) : Rch K a ↔ Rch n a := by
  constructor
  · intro hr
    induction hr with
    | root => exact .root
    | step h1 h2 ih =>
      rename_i a b
      obtain ⟨z, q, hz, hq, hb⟩ := h2
      obtain ⟨w, hw, hk⟩ := rch_k hG ih
      obtain ⟨e1, e2⟩ := h.used hw hk
      rw [h.rest a e1 e2] at hz
      exact .step ih ⟨z, q, hz, hq, hb⟩
  · intro hr
    induction hr with
    | root => exact .root
    | step h1 h2 ih =>
      rename_i a b
      obtain ⟨w, hw, hk⟩ := rch_k hG h1
      obtain ⟨e1, e2⟩ := h.used hw hk
      obtain ⟨z, q, hz, hq, hb⟩ := h2
      rw [← h.rest a e1 e2] at hz
      exact .step ih ⟨z, q, hz, hq, hb⟩

theorem tl_ext {l m : List Nd} (h : ∀ a, l.getD a zN = m.getD a zN) : ∀ k, tl l k = tl m k
  | 0 => rfl
  | k + 1 => by simp only [tl, h k, tl_ext h k]
theorem trim_ext {l m : List Nd} (h : ∀ a, l.getD a zN = m.getD a zN) : trim l = trim m := by
  have far : ∀ (l : List Nd) (k : Nat), l.length ≤ k → tl l k = tl l l.length := fun l k hk => tl_skip k hk fun a h1 _ => by
    rw [List.getD_eq_getElem?_getD, List.getElem?_eq_none h1]; rfl
  have e : tl l l.length = tl m m.length := by
    rw [← far l (max l.length m.length) (Nat.le_max_left _ _), ← far m (max l.length m.length) (Nat.le_max_right _ _), tl_ext h]
  have hl : (trim l).length = (trim m).length := by rw [trim_len, trim_len, e]
  refine List.ext_getElem? fun a => ?_
  by_cases ha : a < (trim l).length
  · rw [trim_get ha, trim_get (hl ▸ ha)]
    have h1 := tl_le l l.length
    have h2 := tl_le m m.length
    rw [trim_len] at ha
    have h3 := h a
    rw [List.getD_eq_getElem?_getD, List.getD_eq_getElem?_getD, List.getElem?_eq_getElem (by omega), List.getElem?_eq_getElem (by omega)] at h3
    rw [List.getElem?_eq_getElem (by omega), List.getElem?_eq_getElem (by omega)]
    simpa using h3
  · rw [List.getElem?_eq_none (by omega), List.getElem?_eq_none (by omega)]

theorem clr_getD (n : Nt) (a : Nat) : (clrFrom n 0).getD a zN = if Fx.bool (Rch n a) then n.ns.getD a zN else zN := by
  rw [List.getD_eq_getElem?_getD, List.getD_eq_getElem?_getD]
  cases hx : n.ns[a]? with
  | none =>
    have h1 : n.ns.length ≤ a := List.getElem?_eq_none_iff.1 hx
    rw [List.getElem?_eq_none (by rw [clr_len]; exact h1)]; simp
  | some x =>
    rw [clr_get hx]
    cases Fx.bool (Rch n a) <;> simp
theorem Two.swept (h : Two n K i j x y) (hG : n.Good) : K.swept = n.swept := by
  unfold Nt.swept
  rw [h.cap, trim_ext (m := clrFrom n 0)]
  intro a
  rw [clr_getD, clr_getD, bool_congr (h.rch hG a)]
  by_cases hR : Rch n a
  · obtain ⟨w, hw, hk⟩ := rch_k hG hR
    obtain ⟨e1, e2⟩ := h.used hw hk
    rw [List.getD_eq_getElem?_getD, List.getD_eq_getElem?_getD, h.rest a e1 e2]
  · rw [bool_f hR]; rfl
theorem Two.live (h : Two n K i j x y) (hG : n.Good) : K.live = n.live := by
  unfold Nt.live
  have e : ∀ k, liveTo K k = liveTo n k := by
    intro k
    induction k with
    | zero => rfl
    | succ k ih => rw [liveTo_succ, liveTo_succ, ih, bool_congr (h.rch hG k)]
  have far : ∀ d, liveTo n (n.ns.length + d) = liveTo n n.ns.length := by
    intro d
    induction d with
    | zero => rfl
    | succ d ih =>
      rw [show n.ns.length + (d + 1) = (n.ns.length + d) + 1 from rfl, liveTo_succ, ih, bool_f, if_neg (by simp)]
      intro hR
      obtain ⟨w, hw, _⟩ := rch_k hG hR
      have := (List.getElem?_eq_some_iff.1 hw).1
      omega
  rw [e, ← far (K.ns.length - n.ns.length)]
  have := h.len
  rw [show n.ns.length + (K.ns.length - n.ns.length) = K.ns.length by omega]

theorem Two.good (h : Two n K i j x y) (hG : n.Good) (hlen : (K.ns.length : Int) ≤ n.cap) : K.Good := by
  have hnd : ∀ {a : Nat} {z : Nd}, K.ns[a]? = some z → K.nd a = z := by
    intro a z hz; unfold Nt.nd; rw [List.getD_eq_getElem?_getD, Int.toNat_natCast, hz]; rfl
  have hlk : ∀ {a : Nat} {z : Nd} {p : Pt}, K.ns[a]? = some z → z.to = [p] → K.has ⟨a, 0⟩ = true ∧ K.lk ⟨a, 0⟩ = p := by
    intro a z p hz ht
    have hl := (List.getElem?_eq_some_iff.1 hz).1
    refine ⟨has_iff.2 ?_, ?_⟩
    · rw [hnd hz, ht]; simp only [List.length_cons, List.length_nil]; omega
    · unfold Nt.lk Nd.tt; rw [hnd hz, ht]; rfl
  have hi1 := hlk h.gi h.tx
  have hj1 := hlk h.gj h.ty
  have hL := h.len
  have hli := h.li
  have hlj := h.lj
  refine ⟨by rw [h.cap]; exact hG.cap1, by rw [h.cap]; exact hG.cap2, by have := hG.ln1; omega, by rw [h.cap]; exact hlen, ?_, ?_⟩
  · obtain ⟨z, hz⟩ : ∃ z, K.ns[K.ns.length - 1]? = some z := ⟨_, List.getElem?_eq_getElem (by omega)⟩
    have hcast : ((K.ns.length : Int) - 1) = ((K.ns.length - 1 : Nat) : Int) := by omega
    rw [hcast, hnd hz]
    by_cases e1 : K.ns.length - 1 = i
    · rw [e1, h.gi] at hz; rw [← Option.some.inj hz]; exact h.kx.1
    by_cases e2 : K.ns.length - 1 = j
    · rw [e2, h.gj] at hz; rw [← Option.some.inj hz]; exact h.ky.1
    rw [h.rest _ e1 e2] at hz
    have h1 := (List.getElem?_eq_some_iff.1 hz).1
    have h2 := hG.last
    have h3 : ((n.ns.length : Int) - 1) = ((K.ns.length - 1 : Nat) : Int) := by omega
    rw [h3] at h2
    unfold Nt.nd at h2
    rw [List.getD_eq_getElem?_getD, Int.toNat_natCast, hz] at h2
    exact h2
  · intro a z hz
    by_cases e2 : a = j
    · subst e2
      rw [h.gj] at hz; rw [← Option.some.inj hz]
      refine ⟨h.my, by rw [h.ty, h.py]; rfl, ⟨fun e => ?_, fun e => absurd e h.ky.2⟩, fun s q hq => ?_⟩
      · obtain ⟨r, hr, hr1⟩ := good_root hG
        have : a = 0 := by omega
        have := h.wj r (this ▸ hr); omega
      · rw [h.ty] at hq
        cases s with
        | succ s => simp at hq
        | zero =>
          simp only [List.getElem?_cons_zero, Option.some.injEq] at hq
          subst hq
          refine ⟨fun e => h.ne ?_, hi1.1, hi1.2⟩
          have := congrArg Pt.n e; simp only at this; omega
    by_cases e1 : a = i
    · subst e1
      rw [h.gi] at hz; rw [← Option.some.inj hz]
      refine ⟨h.mx, by rw [h.tx, h.px]; rfl, ⟨fun e => ?_, fun e => absurd e h.kx.2⟩, fun s q hq => ?_⟩
      · obtain ⟨r, hr, hr1⟩ := good_root hG
        have : a = 0 := by omega
        have := h.wi r (this ▸ hr); omega
      · rw [h.tx] at hq
        cases s with
        | succ s => simp at hq
        | zero =>
          simp only [List.getElem?_cons_zero, Option.some.injEq] at hq
          subst hq
          refine ⟨fun e => h.ne ?_, hj1.1, hj1.2⟩
          have := congrArg Pt.n e; simp only at this; omega
    rw [h.rest a e1 e2] at hz
    obtain ⟨g1, g2, g3, g4⟩ := hG.nds a z hz
    refine ⟨g1, g2, g3, fun s q hq => ?_⟩
    obtain ⟨l1, l2, l3⟩ := g4 s q hq
    obtain ⟨b, t, w, hb, hw, ht⟩ := link_back hG hz hq
    subst hb
    have hbn : b ≠ i ∧ b ≠ j := by
      refine h.used hw fun hk => ?_
      have h2 := (hG.nds b w hw).2.1
      have : w.ports = 0 := by unfold Nd.ports; rw [hk]; simp
      rw [this] at h2
      have : w.to = [] := List.eq_nil_of_length_eq_zero (by omega)
      rw [this] at ht; simp at ht
    have hKb : K.ns[b]? = some w := by rw [h.rest b hbn.1 hbn.2]; exact hw
    have ht2 := (List.getElem?_eq_some_iff.1 ht).1
    have hbl := (List.getElem?_eq_some_iff.1 hKb).1
    refine ⟨l1, has_iff.2 ?_, ?_⟩
    · rw [hnd hKb]; simp only; omega
    · unfold Nt.lk Nd.tt; rw [hnd hKb]; simp only [Int.toNat_natCast]; rw [List.getD_eq_getElem?_getD, ht]; rfl
end Go.Proofs.Ytkpfjolcmkikeaa
