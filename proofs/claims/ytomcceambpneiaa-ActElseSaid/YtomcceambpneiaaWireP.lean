/- Links, plain: what linking, moving and back leave; no program in sight. -/
import Derived.Test.YtomcceambpneiaaNet3
set_option linter.unusedSimpArgs false
set_option linter.unusedVariables false
namespace Go.Proofs.Ytomcceambpneiaa
open Go.Fx

/-- the same, but for links -/
def Shp (n m : Nt) : Prop := n.ns.length = m.ns.length ∧ n.cap = m.cap ∧ ∀ i : Int, 0 ≤ i → (m.nd i).k = (n.nd i).k ∧ (m.nd i).lv = (n.nd i).lv ∧ (m.nd i).n = (n.nd i).n ∧ (m.nd i).s = (n.nd i).s ∧ (m.nd i).al = (n.nd i).al ∧ (m.nd i).to.length = (n.nd i).to.length
theorem Shp.refl (n : Nt) : Shp n n := ⟨rfl, rfl, fun _ _ => ⟨rfl, rfl, rfl, rfl, rfl, rfl⟩⟩
theorem Shp.trans {a b c : Nt} (h : Shp a b) (k : Shp b c) : Shp a c :=
  ⟨h.1.trans k.1, h.2.1.trans k.2.1, fun i hi => by
    obtain ⟨a1, a2, a3, a4, a5, a6⟩ := h.2.2 i hi
    obtain ⟨b1, b2, b3, b4, b5, b6⟩ := k.2.2 i hi
    exact ⟨b1.trans a1, b2.trans a2, b3.trans a3, b4.trans a4, b5.trans a5, b6.trans a6⟩⟩
theorem Shp.has {n m : Nt} (h : Shp n m) (p : Pt) : m.has p = n.has p := by
  rw [Bool.eq_iff_iff, has_iff, has_iff, ← h.1]
  constructor
  · rintro ⟨h1, h2, h3, h4⟩; rw [(h.2.2 p.n h1).2.2.2.2.2] at h4; exact ⟨h1, h2, h3, h4⟩
  · rintro ⟨h1, h2, h3, h4⟩; rw [← (h.2.2 p.n h1).2.2.2.2.2] at h4; exact ⟨h1, h2, h3, h4⟩
theorem Shp.set {n : Nt} {p : Pt} (q : Pt) (hp : n.has p = true) : Shp n (n.set p q) := by
  refine ⟨(len_set n p q).symm, rfl, fun i hi => ?_⟩
  rw [nd_set n p q hp i hi]
  split
  · rename_i e; subst e; exact ⟨rfl, rfl, rfl, rfl, rfl, by simp⟩
  · exact ⟨rfl, rfl, rfl, rfl, rfl, rfl⟩

theorem nd_get {n : Nt} {i : Nat} {x : Nd} (h : n.ns[i]? = some x) : n.nd (i : Int) = x := by
  unfold Nt.nd; rw [Int.toNat_natCast, List.getD_eq_getElem?_getD, h]; rfl
theorem get_nd {n : Nt} {i : Int} (h0 : 0 ≤ i) (h1 : i < n.ns.length) : n.ns[i.toNat]? = some (n.nd i) := by
  unfold Nt.nd; rw [List.getD_eq_getElem?_getD, List.getElem?_eq_getElem (by omega)]; rfl
theorem tt_get {x : Nd} {j : Nat} {q : Pt} (h : x.to[j]? = some q) : x.tt (j : Int) = q := by
  unfold Nd.tt; rw [Int.toNat_natCast, List.getD_eq_getElem?_getD, h]; rfl
theorem get_tt {x : Nd} {j : Int} (h0 : 0 ≤ j) (h1 : j < x.to.length) : x.to[j.toNat]? = some (x.tt j) := by
  unfold Nd.tt; rw [List.getD_eq_getElem?_getD, List.getElem?_eq_getElem (by omega)]; rfl
theorem has_get {n : Nt} {i j : Nat} {x : Nd} (h : n.ns[i]? = some x) (hj : j < x.to.length) : n.has ⟨i, j⟩ = true := by
  rw [has_iff]
  have hi := (List.getElem?_eq_some_iff.1 h).1
  refine ⟨by simp, by simp; omega, by simp, ?_⟩
  simp only
  rw [nd_get h]; omega
theorem lk_get {n : Nt} {i j : Nat} {x : Nd} {q : Pt} (h : n.ns[i]? = some x) (hq : x.to[j]? = some q) : n.lk ⟨i, j⟩ = q := by
  unfold Nt.lk; simp only; rw [nd_get h, tt_get hq]

/-- all ports but some have the same links -/
theorem oth_of {n m : Nt} {but : List Pt} (hs : Shp n m) (h : ∀ p, n.has p = true → p ∉ but → m.lk p = n.lk p) :
    n.ns.length = m.ns.length ∧ ∀ (i : Nat) (x y : Nd), n.ns[i]? = some x → m.ns[i]? = some y → x.to.length = y.to.length ∧ x.k = y.k ∧ ∀ j : Nat, (⟨i, j⟩ : Pt) ∉ but → x.to[j]? = y.to[j]? := by
  refine ⟨hs.1, fun i x y hx hy => ?_⟩
  have h1 := hs.2.2 (i : Int) (by omega)
  rw [nd_get hx, nd_get hy] at h1
  refine ⟨h1.2.2.2.2.2.symm, h1.1.symm, fun j hj => ?_⟩
  by_cases hlt : j < x.to.length
  · obtain ⟨p, hp⟩ : ∃ p, x.to[j]? = some p := ⟨_, List.getElem?_eq_getElem hlt⟩
    obtain ⟨q, hq⟩ : ∃ q, y.to[j]? = some q := ⟨_, List.getElem?_eq_getElem (by have := h1.2.2.2.2.2; omega)⟩
    have := h ⟨i, j⟩ (has_get hx hlt) hj
    rw [lk_get hx hp, lk_get hy hq] at this
    rw [hp, hq, this]
  · rw [List.getElem?_eq_none (by omega), List.getElem?_eq_none (by have := h1.2.2.2.2.2; omega)]

/-- nets that have the same links are the same -/
theorem net_ext {n m : Nt} (hs : Shp n m) (h : ∀ p, n.has p = true → m.lk p = n.lk p) : m = n := by
  obtain ⟨ns, nc⟩ := n
  obtain ⟨ms, mc⟩ := m
  have hc : nc = mc := hs.2.1
  subst hc
  congr 1
  refine list_ext hs.1.symm fun i hi => ?_
  have hi' : i < ns.length := by have := hs.1; simp only at this; omega
  obtain ⟨x, hx⟩ : ∃ x, ns[i]? = some x := ⟨_, List.getElem?_eq_getElem hi'⟩
  obtain ⟨y, hy⟩ : ∃ y, ms[i]? = some y := ⟨_, List.getElem?_eq_getElem hi⟩
  have h1 := hs.2.2 (i : Int) (by omega)
  rw [nd_get (n := ⟨ns, nc⟩) hx, nd_get (n := ⟨ms, nc⟩) hy] at h1
  have h2 : y.to = x.to := by
    refine list_ext h1.2.2.2.2.2 fun j hj => ?_
    have hj' : j < x.to.length := by have := h1.2.2.2.2.2; omega
    obtain ⟨p, hp⟩ : ∃ p, x.to[j]? = some p := ⟨_, List.getElem?_eq_getElem hj'⟩
    obtain ⟨q, hq⟩ : ∃ q, y.to[j]? = some q := ⟨_, List.getElem?_eq_getElem hj⟩
    have := h ⟨i, j⟩ (has_get (n := ⟨ns, nc⟩) hx hj')
    rw [lk_get (n := ⟨ns, nc⟩) hx hp, lk_get (n := ⟨ms, nc⟩) hy hq] at this
    rw [hp, hq, this]
  rw [hx, hy]
  congr 1
  obtain ⟨xk, xl, xn, x0, xa, x1⟩ := x
  obtain ⟨yk, yl, yn, y0, ya, y1⟩ := y
  simp only at h1 h2
  obtain ⟨a1, a2, a3, a4, a5, a6⟩ := h1
  subst a1 a2 a3 a4 a5 h2
  rfl

theorem good_link {n : Nt} (hg : n.Good) {p : Pt} (hp : n.has p = true) : n.lk p ≠ p ∧ n.has (n.lk p) = true ∧ n.lk (n.lk p) = p := by
  have h := has_iff.1 hp
  have hx := get_nd (n := n) h.1 h.2.1
  have hq := get_tt (x := n.nd p.n) h.2.2.1 h.2.2.2
  obtain ⟨_, _, _, h4⟩ := hg.nds _ _ hx
  have h5 := h4 _ _ hq
  have e : (⟨(p.n.toNat : Int), (p.s.toNat : Int)⟩ : Pt) = p := by
    obtain ⟨a, b⟩ := p
    simp only at h
    simp only [Pt.mk.injEq]; omega
  rw [e] at h5
  exact h5

/-- two ports linked to one another -/
def Nt.ln (n : Nt) (p q : Pt) : Nt := (n.set p q).set q p
theorem ln_shp {n : Nt} {p q : Pt} (hp : n.has p = true) (hq : n.has q = true) : Shp n (n.ln p q) := (Shp.set q hp).trans (Shp.set p (by rw [has_set q q hp]; exact hq))
theorem ln_lk {n : Nt} {p q r : Pt} (hp : n.has p = true) (hq : n.has q = true) (hr : n.has r = true) : (n.ln p q).lk r = if r = q then p else if r = p then q else n.lk r := by
  unfold Nt.ln
  rw [lk_set p r (by rw [has_set q q hp]; exact hq) (by rw [has_set q r hp]; exact hr), lk_set q r hp hr]
theorem linkR_ok {n : Nt} {p q : Pt} (hp : n.has p = true) (hq : n.has q = true) (h : p ≠ q) : linkR n p q = (n.ln p q, 0) := by
  unfold linkR Nt.ln; simp [hp, hq, h]
theorem linkR_no {n : Nt} {p q : Pt} (h : ¬ (n.has p = true ∧ n.has q = true ∧ p ≠ q)) : linkR n p q = (n, 130) := by
  unfold linkR
  rw [if_neg]
  simp only [Bool.and_eq_true, Bool.not_eq_true', decide_eq_false_iff_not]
  rintro ⟨⟨a, b⟩, c⟩; exact h ⟨a, b, c⟩

theorem ln_again {n : Nt} {p q : Pt} (hp : n.has p = true) (hq : n.has q = true) (h : p ≠ q) : (n.ln p q).ln q p = n.ln p q := by
  have hs := ln_shp hp hq
  refine net_ext (ln_shp (by rw [hs.has]; exact hq) (by rw [hs.has]; exact hp)) fun r hr => ?_
  rw [hs.has] at hr
  rw [ln_lk (by rw [hs.has]; exact hq) (by rw [hs.has]; exact hp) (by rw [hs.has]; exact hr), ln_lk hp hq hr]
  by_cases h1 : r = p
  · subst h1; rw [if_pos rfl, if_neg h, if_pos rfl]
  · rw [if_neg h1]
    by_cases h2 : r = q
    · subst h2; rw [if_pos rfl, if_pos rfl]
    · rw [if_neg h2, if_neg h2]

theorem moveR_good {n : Nt} {p q : Pt} (hg : n.Good) (hp : n.has p = true) (hq : n.has q = true) (h : p ≠ q) : moveR n p q = if n.lk p = q then (n, 0) else (n.ln q (n.lk p), 0) := by
  obtain ⟨h1, h2, h3⟩ := good_link hg hp
  unfold moveR
  rw [if_pos (by simp [hp, hq, h, h2])]
  split
  · rfl
  · rename_i h4; exact linkR_ok hq h2 fun e => h4 e.symm
theorem joinR_good {n : Nt} {p q : Pt} (hg : n.Good) (hp : n.has p = true) (hq : n.has q = true) (h : p ≠ q) : joinR n p q = if n.lk p = q then (n, 0) else (n.ln (n.lk p) (n.lk q), 0) := by
  obtain ⟨h1, h2, h3⟩ := good_link hg hp
  obtain ⟨k1, k2, k3⟩ := good_link hg hq
  unfold joinR
  rw [if_pos (by simp [hp, hq, h, h2, k2])]
  split
  · rfl
  · exact linkR_ok h2 k2 fun e => h (by rw [← h3, ← k3, e])

/-- moved, and moved back -/
theorem move_back {n : Nt} {p q : Pt} (hg : n.Good) (hp : n.has p = true) (hq : n.has q = true) (h : p ≠ q) (ha : n.lk p ≠ q) :
    moveR (n.ln q (n.lk p)) q p = (((n.ln q (n.lk p)).ln p (n.lk p)), 0) ∧ ((n.ln q (n.lk p)).ln p (n.lk p)).lk p = n.lk p ∧ ((n.ln q (n.lk p)).ln p (n.lk p)).lk (n.lk p) = p ∧
    Shp n ((n.ln q (n.lk p)).ln p (n.lk p)) ∧ ∀ r, n.has r = true → r ∉ [q] → ((n.ln q (n.lk p)).ln p (n.lk p)).lk r = n.lk r := by
  obtain ⟨h1, h2, h3⟩ := good_link hg hp
  have hs := ln_shp hq h2
  have hh : ∀ r, n.has r = true → (n.ln q (n.lk p)).has r = true := fun r hr => by rw [hs.has]; exact hr
  have lq : (n.ln q (n.lk p)).lk q = n.lk p := by rw [ln_lk hq h2 hq, if_neg (fun e => ha e.symm), if_pos rfl]
  have hs2 := hs.trans (ln_shp (hh p hp) (hh _ h2))
  have lk2 : ∀ r, n.has r = true → ((n.ln q (n.lk p)).ln p (n.lk p)).lk r = if r = n.lk p then p else if r = p then n.lk p else if r = q then n.lk p else n.lk r := by
    intro r hr
    rw [ln_lk (hh p hp) (hh _ h2) (hh r hr), ln_lk hq h2 hr]
    by_cases e : r = n.lk p
    · rw [if_pos e, if_pos e]
    · rw [if_neg e, if_neg e, if_neg e]
  refine ⟨?_, ?_, ?_, hs2, fun r hr hn => ?_⟩
  · unfold moveR
    rw [if_pos (by rw [lq]; simp [hh, hp, hq, h2, Ne.symm h]), if_neg (by rw [lq]; exact h1), lq]
    exact linkR_ok (hh p hp) (hh _ h2) fun e => h1 e.symm
  · rw [lk2 p hp, if_neg fun e => h1 e.symm, if_pos rfl]
  · rw [lk2 _ h2, if_pos rfl]
  · rw [lk2 r hr]
    by_cases e : r = n.lk p
    · rw [if_pos e, e, h3]
    · rw [if_neg e]
      by_cases e2 : r = p
      · rw [if_pos e2, e2]
      · rw [if_neg e2, if_neg (fun e3 => hn (by simp [e3]))]

end Go.Proofs.Ytomcceambpneiaa
