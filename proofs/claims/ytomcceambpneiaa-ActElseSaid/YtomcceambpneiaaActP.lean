/- Nets with ports that are open: what making, linking, moving, joining, freeing leave. Plain. -/
import Derived.Test.YtomcceambpneiaaStoreP
import Derived.Test.YtomcceambpneiaaWireO
set_option linter.unusedSimpArgs false
set_option linter.unusedVariables false
set_option maxHeartbeats 4000000
namespace Go.Proofs.Ytomcceambpneiaa
open Go.Fx

/-- a net that may be, but for its open ports -/
structure Semi (n : Nt) (X : Pt → Prop) : Prop where
  cap1 : 1 ≤ n.cap
  cap2 : n.cap ≤ 4000
  ln1 : 1 ≤ (n.ns.length : Int)
  ln2 : (n.ns.length : Int) ≤ n.cap
  last : (n.nd (n.ns.length - 1)).k ≠ 0
  nds : ∀ (i : Nat) (x : Nd), n.ns[i]? = some x → x.may ∧ (x.to.length : Int) = x.ports ∧ ((i : Int) = 0 ↔ x.k = 1)
  xs : ∀ p, X p → n.has p = true
  ln : ∀ p, n.has p = true → ¬ X p → n.lk p ≠ p ∧ n.has (n.lk p) = true ∧ ¬ X (n.lk p) ∧ n.lk (n.lk p) = p

theorem Semi.iff {n : Nt} {X Y : Pt → Prop} (h : Semi n X) (e : ∀ p, X p ↔ Y p) : Semi n Y := by
  have : X = Y := funext fun p => propext (e p)
  exact this ▸ h
theorem Nt.Good.semi {n : Nt} (h : n.Good) : Semi n fun _ => False :=
  ⟨h.cap1, h.cap2, h.ln1, h.ln2, h.last, fun i x hx => ⟨(h.nds i x hx).1, (h.nds i x hx).2.1, (h.nds i x hx).2.2.1⟩, fun _ h => h.elim, fun p hp _ => by
    obtain ⟨h1, h2, h3⟩ := good_link h hp
    exact ⟨h1, h2, id, h3⟩⟩
theorem Semi.good {n : Nt} (h : Semi n fun _ => False) : n.Good :=
  ⟨h.cap1, h.cap2, h.ln1, h.ln2, h.last, fun i x hx => ⟨(h.nds i x hx).1, (h.nds i x hx).2.1, (h.nds i x hx).2.2, fun j q hq => by
    have hj := (List.getElem?_eq_some_iff.1 hq).1
    obtain ⟨h1, h2, _, h3⟩ := h.ln ⟨i, j⟩ (has_get hx hj) id
    rw [lk_get hx hq] at h1 h2 h3
    exact ⟨h1, h2, h3⟩⟩⟩

theorem may_to {x : Nd} {t : List Pt} (h : x.may) (ht : t.length = x.to.length) : ({ x with to := t } : Nd).may :=
  ⟨h.k0, h.k1, h.lv0, h.lv1, h.lv2, h.nm, h.nn, by simp only [ht]; exact h.to8, h.al9, h.aln, h.al8, h.alt⟩
theorem ports_to {x : Nd} {t : List Pt} (ht : t.length = x.to.length) : ({ x with to := t } : Nd).ports = x.ports := by unfold Nd.ports; simp only [ht]
theorem Shp.get {n m : Nt} (h : Shp n m) {i : Nat} {y : Nd} (hy : m.ns[i]? = some y) : ∃ x, n.ns[i]? = some x ∧ y = { x with to := y.to } ∧ y.to.length = x.to.length := by
  have hl := (List.getElem?_eq_some_iff.1 hy).1
  obtain ⟨x, hx⟩ : ∃ x, n.ns[i]? = some x := ⟨_, List.getElem?_eq_getElem (by rw [h.1]; exact hl)⟩
  have h1 := h.2.2 (i : Int) (by omega)
  rw [nd_get hx, nd_get hy] at h1
  obtain ⟨xk, xl, xn, x0, xa, x1⟩ := x
  obtain ⟨yk, yl, yn, y0, ya, y1⟩ := y
  simp only at h1
  obtain ⟨a1, a2, a3, a4, a5, a6⟩ := h1
  subst a1 a2 a3 a4 a5
  exact ⟨_, hx, rfl, a6⟩
theorem Shp.get' {n m : Nt} (h : Shp n m) {i : Nat} {x : Nd} (hx : n.ns[i]? = some x) : ∃ y, m.ns[i]? = some y ∧ y = { x with to := y.to } ∧ y.to.length = x.to.length := by
  have hl := (List.getElem?_eq_some_iff.1 hx).1
  obtain ⟨y, hy⟩ : ∃ y, m.ns[i]? = some y := ⟨_, List.getElem?_eq_getElem (by rw [← h.1]; exact hl)⟩
  obtain ⟨x', hx', h1, h2⟩ := h.get hy
  rw [hx] at hx'
  obtain rfl := Option.some.inj hx'
  exact ⟨y, hy, h1, h2⟩
theorem Shp.used {n m : Nt} (h : Shp n m) : m.used = n.used := by
  have key : ∀ (l l' : List Nd), l.length = l'.length → (∀ (i : Nat) (x y : Nd), l[i]? = some x → l'[i]? = some y → y.k = x.k) → usedL l' = usedL l := by
    intro l
    induction l with
    | nil => intro l' hl _; rw [List.eq_nil_of_length_eq_zero hl.symm]
    | cons x l ih =>
      intro l' hl hk
      cases l' with
      | nil => simp at hl
      | cons y l' =>
        rw [usedL_cons, usedL_cons, ih l' (by simpa using hl) (fun i a b ha hb => hk (i + 1) a b (by simpa using ha) (by simpa using hb)), hk 0 x y rfl rfl]
  refine key _ _ h.1 fun i x y hx hy => ?_
  obtain ⟨x', hx', h1, _⟩ := h.get hy
  rw [hx] at hx'
  obtain rfl := Option.some.inj hx'
  rw [h1]
theorem Shp.semi {n m : Nt} (h : Shp n m) {X Y : Pt → Prop} (hn : Semi n X) (hY : ∀ p, Y p → n.has p = true)
    (hl : ∀ p, n.has p = true → ¬ Y p → m.lk p ≠ p ∧ n.has (m.lk p) = true ∧ ¬ Y (m.lk p) ∧ m.lk (m.lk p) = p) : Semi m Y := by
  have hc := h.2.1
  have hlen := h.1
  have hl1 := hn.ln1
  refine ⟨hc ▸ hn.cap1, hc ▸ hn.cap2, hlen ▸ hn.ln1, by rw [← hc, ← hlen]; exact hn.ln2, ?_, fun i y hy => ?_, fun p hp => by rw [h.has]; exact hY p hp, fun p hp hy => ?_⟩
  · rw [← hlen, (h.2.2 _ (by omega)).1]; exact hn.last
  · obtain ⟨x, hx, h1, h2⟩ := h.get hy
    obtain ⟨g1, g2, g3⟩ := hn.nds i x hx
    refine ⟨by rw [h1]; exact may_to g1 h2, ?_, by rw [h1]; exact g3⟩
    rw [h2, g2, h1]
    exact (ports_to (x := x) h2).symm
  · rw [h.has] at hp
    obtain ⟨h1, h2, h3, h4⟩ := hl p hp hy
    exact ⟨h1, by rw [h.has]; exact h2, h3, h4⟩

/-- two open ports linked -/
theorem Semi.link {n : Nt} {X : Pt → Prop} (h : Semi n X) {p q : Pt} (hp : X p) (hq : X q) (hne : p ≠ q) : linkR n p q = (n.ln p q, 0) ∧ Semi (n.ln p q) fun r => X r ∧ r ≠ p ∧ r ≠ q := by
  have hp1 := h.xs p hp
  have hq1 := h.xs q hq
  refine ⟨linkR_ok hp1 hq1 hne, (ln_shp hp1 hq1).semi h (fun r hr => h.xs r hr.1) fun r hr hX => ?_⟩
  have hpl : (n.ln p q).lk p = q := by rw [ln_lk hp1 hq1 hp1, if_neg hne, if_pos rfl]
  have hql : (n.ln p q).lk q = p := by rw [ln_lk hp1 hq1 hq1, if_pos rfl]
  by_cases e1 : r = p
  · subst e1; rw [hpl, hql]; exact ⟨Ne.symm hne, hq1, fun k => k.2.2 rfl, rfl⟩
  by_cases e2 : r = q
  · subst e2; rw [hql, hpl]; exact ⟨hne, hp1, fun k => k.2.1 rfl, rfl⟩
  have hX' : ¬ X r := fun k => hX ⟨k, e1, e2⟩
  obtain ⟨h1, h2, h3, h4⟩ := h.ln r hr hX'
  have e : (n.ln p q).lk r = n.lk r := by rw [ln_lk hp1 hq1 hr, if_neg e2, if_neg e1]
  rw [e]
  refine ⟨h1, h2, fun k => h3 k.1, ?_⟩
  rw [ln_lk hp1 hq1 h2, if_neg (fun k : n.lk r = q => h3 (k ▸ hq)), if_neg (fun k : n.lk r = p => h3 (k ▸ hp)), h4]
theorem Semi.inj {n : Nt} {X : Pt → Prop} (h : Semi n X) {p q : Pt} (hp : n.has p = true) (hq : n.has q = true) (hp' : ¬ X p) (hq' : ¬ X q) (e : n.lk p = n.lk q) : p = q := by
  rw [← (h.ln p hp hp').2.2.2, ← (h.ln q hq hq').2.2.2, e]
/-- what a port is linked to moved to an open port -/
theorem Semi.move {n : Nt} {X : Pt → Prop} (h : Semi n X) {p q : Pt} (hp1 : n.has p = true) (hp : ¬ X p) (hq : X q) : moveR n p q = (n.ln q (n.lk p), 0) ∧ Semi (n.ln q (n.lk p)) fun r => X r ∧ r ≠ q ∨ r = p := by
  have hq1 := h.xs q hq
  obtain ⟨k1, k2, k3, k4⟩ := h.ln p hp1 hp
  have hpq : p ≠ q := fun e => hp (e ▸ hq)
  have hne : n.lk p ≠ q := fun e => k3 (e ▸ hq)
  refine ⟨?_, (ln_shp hq1 k2).semi h (fun r hr => hr.elim (fun k => h.xs r k.1) (fun e => e ▸ hp1)) fun r hr hX => ?_⟩
  · unfold moveR
    rw [if_pos (by simp [hp1, hq1, hpq, k2]), if_neg hne]
    exact linkR_ok hq1 k2 (Ne.symm hne)
  have hql : (n.ln q (n.lk p)).lk q = n.lk p := by rw [ln_lk hq1 k2 hq1, if_neg (Ne.symm hne), if_pos rfl]
  have hpl : (n.ln q (n.lk p)).lk (n.lk p) = q := by rw [ln_lk hq1 k2 k2, if_pos rfl]
  by_cases e1 : r = q
  · subst e1; rw [hql, hpl]; exact ⟨hne, k2, fun k => k.elim (fun k => k3 k.1) k1, rfl⟩
  by_cases e2 : r = n.lk p
  · subst e2; rw [hpl, hql]; exact ⟨Ne.symm hne, hq1, fun k => k.elim (fun k => k.2 rfl) (Ne.symm hpq), rfl⟩
  have hX' : ¬ X r := fun k => hX (.inl ⟨k, e1⟩)
  have hrp : r ≠ p := fun k => hX (.inr k)
  obtain ⟨h1, h2, h3, h4⟩ := h.ln r hr hX'
  have e : (n.ln q (n.lk p)).lk r = n.lk r := by rw [ln_lk hq1 k2 hr, if_neg e2, if_neg e1]
  rw [e]
  refine ⟨h1, h2, fun k => k.elim (fun k => h3 k.1) (fun k => e2 (by rw [← k, h4])), ?_⟩
  rw [ln_lk hq1 k2 h2, if_neg (fun k => hrp (h.inj hr hp1 hX' hp k)), if_neg (fun k : n.lk r = q => h3 (k ▸ hq)), h4]
/-- two ports joined -/
theorem Semi.join {n : Nt} {X : Pt → Prop} (h : Semi n X) {p q : Pt} (hp1 : n.has p = true) (hp : ¬ X p) (hq1 : n.has q = true) (hq : ¬ X q) (hpq : p ≠ q) :
    joinR n p q = (if n.lk p = q then n else n.ln (n.lk p) (n.lk q), 0) ∧ Semi (if n.lk p = q then n else n.ln (n.lk p) (n.lk q)) fun r => X r ∨ r = p ∨ r = q := by
  obtain ⟨k1, k2, k3, k4⟩ := h.ln p hp1 hp
  obtain ⟨j1, j2, j3, j4⟩ := h.ln q hq1 hq
  have hxs : ∀ r, (X r ∨ r = p ∨ r = q) → n.has r = true := fun r hr => by
    rcases hr with hr | rfl | rfl
    · exact h.xs r hr
    · exact hp1
    · exact hq1
  by_cases e : n.lk p = q
  · rw [if_pos e]
    refine ⟨?_, (Shp.refl n).semi h hxs fun r hr hX => ?_⟩
    · unfold joinR; rw [if_pos (by simp [hp1, hq1, hpq, k2, j2]), if_pos e]
    · obtain ⟨h1, h2, h3, h4⟩ := h.ln r hr fun k => hX (.inl k)
      refine ⟨h1, h2, fun k => ?_, h4⟩
      rcases k with k | k | k
      · exact h3 k
      · exact hX (.inr (.inr (by rw [← h4, k, e])))
      · exact hX (.inr (.inl (by rw [← h4, k, ← e, k4])))
  · rw [if_neg e]
    have hne : n.lk p ≠ n.lk q := fun k => hpq (h.inj hp1 hq1 hp hq k)
    refine ⟨?_, (ln_shp k2 j2).semi h hxs fun r hr hX => ?_⟩
    · unfold joinR
      rw [if_pos (by simp [hp1, hq1, hpq, k2, j2]), if_neg e]
      exact linkR_ok k2 j2 hne
    have hpl : (n.ln (n.lk p) (n.lk q)).lk (n.lk p) = n.lk q := by rw [ln_lk k2 j2 k2, if_neg hne, if_pos rfl]
    have hql : (n.ln (n.lk p) (n.lk q)).lk (n.lk q) = n.lk p := by rw [ln_lk k2 j2 j2, if_pos rfl]
    have e' : n.lk q ≠ p := fun k => e (by rw [← k, j4])
    by_cases e1 : r = n.lk p
    · subst e1; rw [hpl, hql]; exact ⟨Ne.symm hne, j2, fun k => k.elim j3 fun k => k.elim e' j1, rfl⟩
    by_cases e2 : r = n.lk q
    · subst e2; rw [hql, hpl]; exact ⟨hne, k2, fun k => k.elim k3 fun k => k.elim k1 e, rfl⟩
    have hX' : ¬ X r := fun k => hX (.inl k)
    have hrp : r ≠ p := fun k => hX (.inr (.inl k))
    have hrq : r ≠ q := fun k => hX (.inr (.inr k))
    obtain ⟨h1, h2, h3, h4⟩ := h.ln r hr hX'
    have el : (n.ln (n.lk p) (n.lk q)).lk r = n.lk r := by rw [ln_lk k2 j2 hr, if_neg e2, if_neg e1]
    rw [el]
    refine ⟨h1, h2, fun k => k.elim h3 fun k => k.elim (fun k => e1 (by rw [← k, h4])) (fun k => e2 (by rw [← k, h4])), ?_⟩
    rw [ln_lk k2 j2 h2, if_neg (fun k => hrq (h.inj hr hq1 hX' hq k)), if_neg (fun k => hrp (h.inj hr hp1 hX' hp k)), h4]

/-! ### making -/
theorem semi_big {n : Nt} {X : Pt → Prop} (h : Semi n X) : n.ns.length ≤ 4000 := by
  have := h.ln2; have := h.cap2; omega
theorem semi_root {n : Nt} {X : Pt → Prop} (h : Semi n X) : ∃ y, n.ns[0]? = some y ∧ y.k = 1 := by
  have := h.ln1
  obtain ⟨y, hy⟩ : ∃ y, n.ns[0]? = some y := ⟨_, List.getElem?_eq_getElem (by omega)⟩
  exact ⟨y, hy, (h.nds 0 y hy).2.2.1 (by simp)⟩
/-- a place that is free has no ports -/
theorem semi_zN {n : Nt} {X : Pt → Prop} (h : Semi n X) {i : Nat} {x : Nd} (hx : n.ns[i]? = some x) (hk : x.k = 0) : x = zN := free_zN (h.nds i x hx).1 (h.nds i x hx).2.1 hk
theorem semi_k {n : Nt} {X : Pt → Prop} (h : Semi n X) {p : Pt} (hp : n.has p = true) : (n.nd p.n).k ≠ 0 := by
  intro hk
  have h1 := has_iff.1 hp
  have := semi_zN h (get_nd h1.1 h1.2.1) hk
  rw [this] at h1; simp [zN] at h1; omega

structure MadeS (n : Nt) (x : Nd) (a : Nt) (t : Nat) : Prop where
  one : 1 ≤ t
  le : t ≤ n.ns.length
  was : ∀ y, n.ns[t]? = some y → y.k = 0
  now : a.ns[t]? = some x.fresh
  cap : a.cap = n.cap
  rest : ∀ i : Nat, i ≠ t → a.ns[i]? = n.ns[i]?
  len : a.ns.length = n.ns.length ∧ t < n.ns.length ∨ a.ns.length = n.ns.length + 1 ∧ t = n.ns.length ∧ n.used = n.ns.length
theorem used_all {l : List Nd} (h : ∀ x ∈ l, isFree x = false) : usedL l = l.length := by
  induction l with
  | nil => rfl
  | cons x l ih =>
    rw [usedL_cons, ih fun y hy => h y (by simp [hy])]
    have := h x (by simp)
    simp only [isFree, decide_eq_false_iff_not] at this
    rw [if_neg this]; simp only [List.length_cons]; omega
theorem madeS {n : Nt} {X : Pt → Prop} (h : Semi n X) (x : Nd) : MadeS n x (n.make x) n.at := by
  obtain ⟨r, hr, hr1⟩ := semi_root h
  have hl := h.ln1
  cases hf : n.ns.findIdx? isFree with
  | some i =>
    obtain ⟨hi, hfi, hbef⟩ := List.findIdx?_eq_some_iff_getElem.1 hf
    have e1 : n.at = i := by unfold Nt.at; rw [hf]
    have e2 : n.make x = ⟨n.ns.set i x.fresh, n.cap⟩ := by unfold Nt.make; rw [hf]
    have hy : n.ns[i]? = some n.ns[i] := List.getElem?_eq_getElem hi
    have hyk : (n.ns[i]).k = 0 := by simpa [isFree] using hfi
    rw [e1, e2]
    refine ⟨?_, by omega, fun y h => ?_, by simp [List.getElem?_set, hi], rfl, fun j hj => List.getElem?_set_ne (Ne.symm hj), .inl ⟨by simp, hi⟩⟩
    · rcases Nat.eq_zero_or_pos i with rfl | h
      · rw [hr] at hy; simp only [Option.some.injEq] at hy; rw [← hy, hr1] at hyk; omega
      · exact h
    · rw [hy] at h; rw [← Option.some.inj h]; exact hyk
  | none =>
    have hnone := List.findIdx?_eq_none_iff.1 hf
    have e1 : n.at = n.ns.length := by unfold Nt.at; rw [hf]
    have e2 : n.make x = ⟨n.ns ++ [x.fresh], n.cap⟩ := by unfold Nt.make; rw [hf]
    rw [e1, e2]
    refine ⟨by omega, Nat.le_refl _, fun y h => ?_, by simp, rfl, fun j hj => ?_, .inr ⟨by simp, rfl, used_all fun y hy => by simpa using hnone y hy⟩⟩
    · rw [List.getElem?_eq_none (Nat.le_refl _)] at h; cases h
    · by_cases hjl : j < n.ns.length
      · exact List.getElem?_append_left hjl
      · rw [List.getElem?_append_right (by omega), List.getElem?_eq_none (l := n.ns) (by omega), List.getElem?_eq_none]; simp; omega
theorem MadeS.nd {n a : Nt} {x : Nd} {t : Nat} (h : MadeS n x a t) {i : Int} (h0 : 0 ≤ i) (hi : i ≠ t) : a.nd i = n.nd i := by
  unfold Nt.nd; rw [List.getD_eq_getElem?_getD, List.getD_eq_getElem?_getD, h.rest i.toNat (by omega)]
theorem MadeS.nd_now {n a : Nt} {x : Nd} {t : Nat} (h : MadeS n x a t) : a.nd t = x.fresh := nd_get h.now
theorem MadeS.lt {n a : Nt} {x : Nd} {t : Nat} (h : MadeS n x a t) : t < a.ns.length := (List.getElem?_eq_some_iff.1 h.now).1
theorem fresh_len {x : Nd} (hx : x.Ok) : (x.fresh.to.length : Int) = x.ports := by
  have hp := ports_b hx
  simp only [Nd.fresh, List.length_replicate]; omega
theorem MadeS.has {n a : Nt} {x : Nd} {t : Nat} (h : MadeS n x a t) (hx : x.Ok) {X : Pt → Prop} (hs : Semi n X) (p : Pt) : a.has p = true ↔ n.has p = true ∨ p.n = t ∧ 0 ≤ p.s ∧ p.s < x.ports := by
  have hlt := h.lt
  have hfl := fresh_len hx
  by_cases e : p.n = t
  · constructor
    · intro k
      have k1 := has_iff.1 k
      rw [e, h.nd_now, hfl] at k1
      exact .inr ⟨e, k1.2.2.1, k1.2.2.2⟩
    · rintro (k | k)
      · exfalso
        have k1 := has_iff.1 k
        have := h.was _ (by have := get_nd (n := n) k1.1 k1.2.1; rw [e] at this; simpa using this)
        have hk := semi_k hs k
        rw [e] at hk; exact hk this
      · rw [has_iff, e, h.nd_now, hfl]; exact ⟨by omega, by omega, k.2.1, k.2.2⟩
  · rw [has_iff, has_iff]
    constructor
    · rintro ⟨k1, k2, k3, k4⟩
      rw [h.nd k1 e] at k4
      refine .inl ⟨k1, ?_, k3, k4⟩
      rcases h.len with ⟨l1, _⟩ | ⟨l1, l2, _⟩ <;> omega
    · rintro (⟨k1, k2, k3, k4⟩ | k)
      · rw [h.nd k1 e]
        refine ⟨k1, ?_, k3, k4⟩
        rcases h.len with ⟨l1, _⟩ | ⟨l1, l2, _⟩ <;> omega
      · exact absurd k.1 e
theorem MadeS.lk {n a : Nt} {x : Nd} {t : Nat} (h : MadeS n x a t) {X : Pt → Prop} (hs : Semi n X) {p : Pt} (hp : n.has p = true) : p.n ≠ t ∧ a.lk p = n.lk p := by
  have k1 := has_iff.1 hp
  have e : p.n ≠ t := fun e => by
    have := h.was _ (by have := get_nd (n := n) k1.1 k1.2.1; rw [e] at this; simpa using this)
    have hk := semi_k hs hp
    rw [e] at hk; exact hk this
  exact ⟨e, by unfold Nt.lk; rw [h.nd k1.1 e]⟩
theorem fresh_may {x : Nd} (hx : x.Ok) (h : x.may) : x.fresh.may := by
  refine ⟨h.k0, h.k1, h.lv0, h.lv1, h.lv2, h.nm, h.nn, fun h8 => ?_, h.al9, h.aln, h.al8, h.alt⟩
  have h8' : x.k = 8 := h8
  have hp : x.ports = x.to.length := by unfold Nd.ports; rw [h8']; simp
  rw [fresh_len hx, hp]; exact h.to8 h8'
theorem Semi.make {n : Nt} {X : Pt → Prop} (h : Semi n X) {x : Nd} (hx : x.Ok) (hm : x.may) (hk0 : x.k ≠ 0) (hk1 : x.k ≠ 1) (hu : n.used < n.cap) :
    makeR n x = (n.make x, (n.at : Int), 0) ∧ Semi (n.make x) fun r => X r ∨ r.n = n.at ∧ 0 ≤ r.s ∧ r.s < x.ports := by
  have hM := madeS h x
  obtain ⟨t, ht⟩ : ∃ t, n.at = t := ⟨_, rfl⟩
  obtain ⟨a, ha⟩ : ∃ a, n.make x = a := ⟨_, rfl⟩
  rw [ht, ha] at hM
  refine ⟨?_, ?_⟩
  · unfold makeR
    rw [bool_t hm, if_neg (by simp [hk0, hk1]), if_neg (by omega)]
  rw [ht, ha]
  have hl1 := h.ln1
  refine ⟨hM.cap ▸ h.cap1, hM.cap ▸ h.cap2, ?_, ?_, ?_, fun i y hy => ?_, fun p hp => (hM.has hx h p).2 (hp.imp (h.xs p) id), fun p hp hX => ?_⟩
  · rcases hM.len with ⟨l1, _⟩ | ⟨l1, _⟩ <;> omega
  · have := h.ln2
    rw [hM.cap]
    rcases hM.len with ⟨l1, _⟩ | ⟨l1, _, l3⟩ <;> omega
  · rcases hM.len with ⟨l1, l2⟩ | ⟨l1, l2, _⟩
    · rw [l1, hM.nd (by omega) ?_]
      · exact h.last
      · intro e
        have := h.last
        rw [e] at this
        obtain ⟨y, hy⟩ : ∃ y, n.ns[t]? = some y := ⟨_, List.getElem?_eq_getElem l2⟩
        rw [nd_get hy] at this
        exact this (hM.was y hy)
    · rw [l1, show ((n.ns.length + 1 : Nat) : Int) - 1 = ((t : Nat) : Int) by omega, hM.nd_now]; exact hk0
  · by_cases e : i = t
    · subst e
      rw [hM.now] at hy
      obtain rfl := Option.some.inj hy
      have h1 := hM.one
      refine ⟨fresh_may hx hm, by rw [fresh_len hx, fresh_ports hx], ?_⟩
      constructor
      · intro e; omega
      · intro e; exact absurd e hk1
    · rw [hM.rest i e] at hy; exact h.nds i y hy
  · have hp' : n.has p = true := ((hM.has hx h p).1 hp).resolve_right fun k => hX (.inr k)
    obtain ⟨e1, e2⟩ := hM.lk h hp'
    obtain ⟨h1, h2, h3, h4⟩ := h.ln p hp' fun k => hX (.inl k)
    rw [e2]
    refine ⟨h1, (hM.has hx h _).2 (.inl h2), fun k => k.elim h3 fun k => (hM.lk h h2).1 k.1, by rw [(hM.lk h h2).2, h4]⟩

/-! ### freeing -/
theorem Semi.free {n : Nt} {X : Pt → Prop} (h : Semi n X) {i : Nat} {x : Nd} (hx : n.ns[i]? = some x) (hi : 1 ≤ i) (hk : x.k ≠ 0) (hX : ∀ p, n.has p = true → p.n = i → X p) :
    freeR n i = (n.free i, 0) ∧ Semi (n.free i) (fun r => X r ∧ r.n ≠ i) ∧ (n.free i).used = n.used - 1 ∧ (∀ p, (n.free i).has p = true ↔ n.has p = true ∧ p.n ≠ i) ∧ ∀ p, n.has p = true → p.n ≠ i → (n.free i).lk p = n.lk p := by
  have hil := (List.getElem?_eq_some_iff.1 hx).1
  obtain ⟨r, hr, hr1⟩ := semi_root h
  have hlen := free_len n (i : Int)
  have hr2 := free_get (i := i) hr (by omega) (by omega)
  have hl0 := (List.getElem?_eq_some_iff.1 hr2).1
  have hc : (n.free (i : Int)).cap = n.cap := rfl
  have hhas : ∀ p, (n.free (i : Int)).has p = true ↔ n.has p = true ∧ p.n ≠ i := by
    intro p
    constructor
    · intro k
      have k1 := has_iff.1 k
      have g := get_nd (n := n.free (i : Int)) k1.1 k1.2.1
      rcases free_get_inv g with ⟨e1, e2⟩ | ⟨e1, e2⟩
      · rw [e2] at k1; simp [zN] at k1; omega
      · refine ⟨has_iff.2 ⟨k1.1, by have := (List.getElem?_eq_some_iff.1 e2).1; omega, k1.2.2.1, ?_⟩, by omega⟩
        have := nd_get e2
        rw [show ((p.n.toNat : Nat) : Int) = p.n by omega] at this
        rw [this]; exact k1.2.2.2
    · rintro ⟨k, e⟩
      have k1 := has_iff.1 k
      have g := free_get (i := i) (get_nd (n := n) k1.1 k1.2.1) (by omega) (semi_k h k)
      have := nd_get g
      rw [show ((p.n.toNat : Nat) : Int) = p.n by omega] at this
      exact has_iff.2 ⟨k1.1, by have := (List.getElem?_eq_some_iff.1 g).1; omega, k1.2.2.1, by rw [this]; exact k1.2.2.2⟩
  have hlk : ∀ p, n.has p = true → p.n ≠ i → (n.free (i : Int)).lk p = n.lk p := by
    intro p k e
    have k1 := has_iff.1 k
    have g := free_get (i := i) (get_nd (n := n) k1.1 k1.2.1) (by omega) (semi_k h k)
    have := nd_get g
    rw [show ((p.n.toNat : Nat) : Int) = p.n by omega] at this
    unfold Nt.lk; rw [this]
  refine ⟨?_, ⟨h.cap1, h.cap2, by omega, ?_, ?_, fun m y hy => ?_, fun p hp => (hhas p).2 ⟨h.xs p hp.1, hp.2⟩, fun p hp hX' => ?_⟩, free_used hx hk, hhas, hlk⟩
  · unfold freeR
    rw [if_pos ⟨by omega, by omega, by rw [nd_get hx]; exact hk⟩]
  · have := h.ln2; rw [hc]; omega
  · have e : (n.free (i : Int)).ns.length = tl (n.ns.set (i : Int).toNat zN) (n.ns.set (i : Int).toNat zN).length := trim_len _
    have h1 := tl_last (n.ns.set (i : Int).toNat zN) (n.ns.set (i : Int).toNat zN).length (by omega)
    obtain ⟨z, hz⟩ : ∃ z, (n.free (i : Int)).ns[(n.free (i : Int)).ns.length - 1]? = some z := ⟨_, List.getElem?_eq_getElem (by omega)⟩
    have h2 : (trim (n.ns.set (i : Int).toNat zN))[(n.free (i : Int)).ns.length - 1]? = some z := hz
    rw [trim_get (by show _ < (n.free (i : Int)).ns.length; omega)] at h2
    rw [← e, getD_of h2] at h1
    have h3 : (((n.free (i : Int)).ns.length : Nat) : Int) - 1 = (((n.free (i : Int)).ns.length - 1 : Nat) : Int) := by omega
    rw [h3, nd_get hz]; exact h1
  · rcases free_get_inv hy with ⟨rfl, rfl⟩ | ⟨hmi, hy0⟩
    · refine ⟨⟨by decide, by decide, by decide, by decide, by decide, by decide, by decide, by decide, by decide, by decide, by decide, fun i a h => by simp [zN] at h⟩, by decide, ?_⟩
      constructor
      · intro e; omega
      · intro e; simp [zN] at e
    · exact h.nds m y hy0
  · obtain ⟨g1, g2⟩ := (hhas p).1 hp
    have hX1 : ¬ X p := fun k => hX' ⟨k, g2⟩
    obtain ⟨h1, h2, h3, h4⟩ := h.ln p g1 hX1
    have h5 : (n.lk p).n ≠ i := fun e => h3 (hX _ h2 e)
    rw [hlk p g1 g2]
    exact ⟨h1, (hhas _).2 ⟨h2, h5⟩, fun k => h3 k.1, by rw [hlk _ h2 h5, h4]⟩
end Go.Proofs.Ytomcceambpneiaa
