/- Part 5 of what is proved for the law PairsOrder: it returns true,whatever the input. No condition. -/
import Derived.Test.YtkpfjolcmkikeaaPPairsOrderd
section
set_option linter.unusedSimpArgs false
set_option linter.unusedVariables false
set_option maxHeartbeats 4000000
namespace Go.Proofs.Ytkpfjolcmkikeaa
open Go.Fx
structure Semi (n : Nt) (X : Pt → Prop) : Prop where
  cap1 : 1 ≤ n.cap
  cap2 : n.cap ≤ 4000
  ln1 : 1 ≤ (n.ns.length : Int)
  ln2 : (n.ns.length : Int) ≤ n.cap
  last : (n.nd (n.ns.length - 1)).k ≠ 0
  nds : ∀ (i : Nat) (x : Nd),n.ns[i]? = some x → x.may ∧ (x.to.length : Int) = x.ports ∧ ((i : Int) = 0 ↔ x.k = 1)
  xs : ∀ p,X p → n.has p = true
  ln : ∀ p,n.has p = true → ¬ X p → n.lk p ≠ p ∧ n.has (n.lk p) = true ∧ ¬ X (n.lk p) ∧ n.lk (n.lk p) = p
theorem Semi.iff {n : Nt} {X Y : Pt → Prop} (h : Semi n X) (e : ∀ p,X p ↔ Y p) : Semi n Y := by
  have : X = Y := funext fun p => propext (e p)
  exact this ▸ h
theorem Nt.Good.semi {n : Nt} (h : n.Good) : Semi n fun _ => False :=
  ⟨h.cap1,h.cap2,h.ln1,h.ln2,h.last,fun i x hx => ⟨(h.nds i x hx).1,(h.nds i x hx).2.1,(h.nds i x hx).2.2.1⟩,fun _ h => h.elim,fun p hp _ => by
    obtain ⟨h1,h2,h3⟩ := good_link h hp
    exact ⟨h1,h2,id,h3⟩⟩
theorem Semi.good {n : Nt} (h : Semi n fun _ => False) : n.Good :=
  ⟨h.cap1,h.cap2,h.ln1,h.ln2,h.last,fun i x hx => ⟨(h.nds i x hx).1,(h.nds i x hx).2.1,(h.nds i x hx).2.2,fun j q hq => by
    have hj := (List.getElem?_eq_some_iff.1 hq).1
    obtain ⟨h1,h2,_,h3⟩ := h.ln ⟨i,j⟩ (has_get hx hj) id
    rw [lk_get hx hq] at h1 h2 h3
    exact ⟨h1,h2,h3⟩⟩⟩
theorem may_to {x : Nd} {t : List Pt} (h : x.may) (ht : t.length = x.to.length) : ({ x with to := t } : Nd).may :=
  ⟨h.k0,h.k1,h.lv0,h.lv1,h.lv2,h.nm,h.nn,by simp only [ht]; exact h.to8,h.al9,h.aln,h.al8,h.alt⟩
theorem ports_to {x : Nd} {t : List Pt} (ht : t.length = x.to.length) : ({ x with to := t } : Nd).ports = x.ports := by unfold Nd.ports; simp only [ht]
theorem Shp.get {n m : Nt} (h : Shp n m) {i : Nat} {y : Nd} (hy : m.ns[i]? = some y) : ∃ x,n.ns[i]? = some x ∧ y = { x with to := y.to } ∧ y.to.length = x.to.length := by
  have hl := (List.getElem?_eq_some_iff.1 hy).1
  obtain ⟨x,hx⟩ : ∃ x,n.ns[i]? = some x := ⟨_,List.getElem?_eq_getElem (by rw [h.1]; exact hl)⟩
  have h1 := h.2.2 (i : Int) (by omega)
  rw [nd_get hx,nd_get hy] at h1
  obtain ⟨xk,xl,xn,x0,xa,x1⟩ := x
  obtain ⟨yk,yl,yn,y0,ya,y1⟩ := y
  simp only at h1
  obtain ⟨a1,a2,a3,a4,a5,a6⟩ := h1
  subst a1 a2 a3 a4 a5
  exact ⟨_,hx,rfl,a6⟩
theorem Shp.get' {n m : Nt} (h : Shp n m) {i : Nat} {x : Nd} (hx : n.ns[i]? = some x) : ∃ y,m.ns[i]? = some y ∧ y = { x with to := y.to } ∧ y.to.length = x.to.length := by
  have hl := (List.getElem?_eq_some_iff.1 hx).1
  obtain ⟨y,hy⟩ : ∃ y,m.ns[i]? = some y := ⟨_,List.getElem?_eq_getElem (by rw [← h.1]; exact hl)⟩
  obtain ⟨x',hx',h1,h2⟩ := h.get hy
  rw [hx] at hx'
  obtain rfl := Option.some.inj hx'
  exact ⟨y,hy,h1,h2⟩
theorem Shp.used {n m : Nt} (h : Shp n m) : m.used = n.used := by
  have key : ∀ (l l' : List Nd),l.length = l'.length → (∀ (i : Nat) (x y : Nd),l[i]? = some x → l'[i]? = some y → y.k = x.k) → usedL l' = usedL l := by
    intro l
    induction l with
    | nil => intro l' hl _; rw [List.eq_nil_of_length_eq_zero hl.symm]
    | cons x l ih =>
      intro l' hl hk
      cases l' with
      | nil => simp at hl
      | cons y l' =>
        rw [usedL_cons,usedL_cons,ih l' (by simpa using hl) (fun i a b ha hb => hk (i + 1) a b (by simpa using ha) (by simpa using hb)),hk 0 x y rfl rfl]
  refine key _ _ h.1 fun i x y hx hy => ?_
  obtain ⟨x',hx',h1,_⟩ := h.get hy
  rw [hx] at hx'
  obtain rfl := Option.some.inj hx'
  rw [h1]
theorem Shp.semi {n m : Nt} (h : Shp n m) {X Y : Pt → Prop} (hn : Semi n X) (hY : ∀ p,Y p → n.has p = true)
    (hl : ∀ p,n.has p = true → ¬ Y p → m.lk p ≠ p ∧ n.has (m.lk p) = true ∧ ¬ Y (m.lk p) ∧ m.lk (m.lk p) = p) : Semi m Y := by
  have hc := h.2.1
  have hlen := h.1
  have hl1 := hn.ln1
  refine ⟨hc ▸ hn.cap1,hc ▸ hn.cap2,hlen ▸ hn.ln1,by rw [← hc,← hlen]; exact hn.ln2,?_,fun i y hy => ?_,fun p hp => by rw [h.has]; exact hY p hp,fun p hp hy => ?_⟩
  · rw [← hlen,(h.2.2 _ (by omega)).1]; exact hn.last
  · obtain ⟨x,hx,h1,h2⟩ := h.get hy
    obtain ⟨g1,g2,g3⟩ := hn.nds i x hx
    refine ⟨by rw [h1]; exact may_to g1 h2,?_,by rw [h1]; exact g3⟩
    rw [h2,g2,h1]
    exact (ports_to (x := x) h2).symm
  · rw [h.has] at hp
    obtain ⟨h1,h2,h3,h4⟩ := hl p hp hy
    exact ⟨h1,by rw [h.has]; exact h2,h3,h4⟩
theorem Semi.link {n : Nt} {X : Pt → Prop} (h : Semi n X) {p q : Pt} (hp : X p) (hq : X q) (hne : p ≠ q) : linkR n p q = (n.ln p q,0) ∧ Semi (n.ln p q) fun r => X r ∧ r ≠ p ∧ r ≠ q := by
  have hp1 := h.xs p hp
  have hq1 := h.xs q hq
  refine ⟨linkR_ok hp1 hq1 hne,(ln_shp hp1 hq1).semi h (fun r hr => h.xs r hr.1) fun r hr hX => ?_⟩
  have hpl : (n.ln p q).lk p = q := by rw [ln_lk hp1 hq1 hp1,if_neg hne,if_pos rfl]
  have hql : (n.ln p q).lk q = p := by rw [ln_lk hp1 hq1 hq1,if_pos rfl]
  by_cases e1 : r = p
  · subst e1; rw [hpl,hql]; exact ⟨Ne.symm hne,hq1,fun k => k.2.2 rfl,rfl⟩
  by_cases e2 : r = q
  · subst e2; rw [hql,hpl]; exact ⟨hne,hp1,fun k => k.2.1 rfl,rfl⟩
  have hX' : ¬ X r := fun k => hX ⟨k,e1,e2⟩
  obtain ⟨h1,h2,h3,h4⟩ := h.ln r hr hX'
  have e : (n.ln p q).lk r = n.lk r := by rw [ln_lk hp1 hq1 hr,if_neg e2,if_neg e1]
  rw [e]
  refine ⟨h1,h2,fun k => h3 k.1,?_⟩
  rw [ln_lk hp1 hq1 h2,if_neg (fun k : n.lk r = q => h3 (k ▸ hq)),if_neg (fun k : n.lk r = p => h3 (k ▸ hp)),h4]
theorem Semi.inj {n : Nt} {X : Pt → Prop} (h : Semi n X) {p q : Pt} (hp : n.has p = true) (hq : n.has q = true) (hp' : ¬ X p) (hq' : ¬ X q) (e : n.lk p = n.lk q) : p = q := by
  rw [← (h.ln p hp hp').2.2.2,← (h.ln q hq hq').2.2.2,e]
theorem Semi.move {n : Nt} {X : Pt → Prop} (h : Semi n X) {p q : Pt} (hp1 : n.has p = true) (hp : ¬ X p) (hq : X q) : moveR n p q = (n.ln q (n.lk p),0) ∧ Semi (n.ln q (n.lk p)) fun r => X r ∧ r ≠ q ∨ r = p := by
  have hq1 := h.xs q hq
  obtain ⟨k1,k2,k3,k4⟩ := h.ln p hp1 hp
  have hpq : p ≠ q := fun e => hp (e ▸ hq)
  have hne : n.lk p ≠ q := fun e => k3 (e ▸ hq)
  refine ⟨?_,(ln_shp hq1 k2).semi h (fun r hr => hr.elim (fun k => h.xs r k.1) (fun e => e ▸ hp1)) fun r hr hX => ?_⟩
  · unfold moveR
    rw [if_pos (by simp [hp1,hq1,hpq,k2]),if_neg hne]
    exact linkR_ok hq1 k2 (Ne.symm hne)
  have hql : (n.ln q (n.lk p)).lk q = n.lk p := by rw [ln_lk hq1 k2 hq1,if_neg (Ne.symm hne),if_pos rfl]
  have hpl : (n.ln q (n.lk p)).lk (n.lk p) = q := by rw [ln_lk hq1 k2 k2,if_pos rfl]
  by_cases e1 : r = q
  · subst e1; rw [hql,hpl]; exact ⟨hne,k2,fun k => k.elim (fun k => k3 k.1) k1,rfl⟩
  by_cases e2 : r = n.lk p
  · subst e2; rw [hpl,hql]; exact ⟨Ne.symm hne,hq1,fun k => k.elim (fun k => k.2 rfl) (Ne.symm hpq),rfl⟩
  have hX' : ¬ X r := fun k => hX (.inl ⟨k,e1⟩)
  have hrp : r ≠ p := fun k => hX (.inr k)
  obtain ⟨h1,h2,h3,h4⟩ := h.ln r hr hX'
  have e : (n.ln q (n.lk p)).lk r = n.lk r := by rw [ln_lk hq1 k2 hr,if_neg e2,if_neg e1]
  rw [e]
  refine ⟨h1,h2,fun k => k.elim (fun k => h3 k.1) (fun k => e2 (by rw [← k,h4])),?_⟩
  rw [ln_lk hq1 k2 h2,if_neg (fun k => hrp (h.inj hr hp1 hX' hp k)),if_neg (fun k : n.lk r = q => h3 (k ▸ hq)),h4]
theorem Semi.join {n : Nt} {X : Pt → Prop} (h : Semi n X) {p q : Pt} (hp1 : n.has p = true) (hp : ¬ X p) (hq1 : n.has q = true) (hq : ¬ X q) (hpq : p ≠ q) :
    joinR n p q = (if n.lk p = q then n else n.ln (n.lk p) (n.lk q),0) ∧ Semi (if n.lk p = q then n else n.ln (n.lk p) (n.lk q)) fun r => X r ∨ r = p ∨ r = q := by
  obtain ⟨k1,k2,k3,k4⟩ := h.ln p hp1 hp
  obtain ⟨j1,j2,j3,j4⟩ := h.ln q hq1 hq
  have hxs : ∀ r,(X r ∨ r = p ∨ r = q) → n.has r = true := fun r hr => by
    rcases hr with hr | rfl | rfl
    · exact h.xs r hr
    · exact hp1
    · exact hq1
  by_cases e : n.lk p = q
  · rw [if_pos e]
    refine ⟨?_,(Shp.refl n).semi h hxs fun r hr hX => ?_⟩
    · unfold joinR; rw [if_pos (by simp [hp1,hq1,hpq,k2,j2]),if_pos e]
    · obtain ⟨h1,h2,h3,h4⟩ := h.ln r hr fun k => hX (.inl k)
      refine ⟨h1,h2,fun k => ?_,h4⟩
      rcases k with k | k | k
      · exact h3 k
      · exact hX (.inr (.inr (by rw [← h4,k,e])))
      · exact hX (.inr (.inl (by rw [← h4,k,← e,k4])))
  · rw [if_neg e]
    have hne : n.lk p ≠ n.lk q := fun k => hpq (h.inj hp1 hq1 hp hq k)
    refine ⟨?_,(ln_shp k2 j2).semi h hxs fun r hr hX => ?_⟩
    · unfold joinR
      rw [if_pos (by simp [hp1,hq1,hpq,k2,j2]),if_neg e]
      exact linkR_ok k2 j2 hne
    have hpl : (n.ln (n.lk p) (n.lk q)).lk (n.lk p) = n.lk q := by rw [ln_lk k2 j2 k2,if_neg hne,if_pos rfl]
    have hql : (n.ln (n.lk p) (n.lk q)).lk (n.lk q) = n.lk p := by rw [ln_lk k2 j2 j2,if_pos rfl]
    have e' : n.lk q ≠ p := fun k => e (by rw [← k,j4])
    by_cases e1 : r = n.lk p
    · subst e1; rw [hpl,hql]; exact ⟨Ne.symm hne,j2,fun k => k.elim j3 fun k => k.elim e' j1,rfl⟩
    by_cases e2 : r = n.lk q
    · subst e2; rw [hql,hpl]; exact ⟨hne,k2,fun k => k.elim k3 fun k => k.elim k1 e,rfl⟩
    have hX' : ¬ X r := fun k => hX (.inl k)
    have hrp : r ≠ p := fun k => hX (.inr (.inl k))
    have hrq : r ≠ q := fun k => hX (.inr (.inr k))
    obtain ⟨h1,h2,h3,h4⟩ := h.ln r hr hX'
    have el : (n.ln (n.lk p) (n.lk q)).lk r = n.lk r := by rw [ln_lk k2 j2 hr,if_neg e2,if_neg e1]
    rw [el]
    refine ⟨h1,h2,fun k => k.elim h3 fun k => k.elim (fun k => e1 (by rw [← k,h4])) (fun k => e2 (by rw [← k,h4])),?_⟩
    rw [ln_lk k2 j2 h2,if_neg (fun k => hrq (h.inj hr hq1 hX' hq k)),if_neg (fun k => hrp (h.inj hr hp1 hX' hp k)),h4]
theorem semi_big {n : Nt} {X : Pt → Prop} (h : Semi n X) : n.ns.length ≤ 4000 := by
  have := h.ln2; have := h.cap2; omega
theorem semi_root {n : Nt} {X : Pt → Prop} (h : Semi n X) : ∃ y,n.ns[0]? = some y ∧ y.k = 1 := by
  have := h.ln1
  obtain ⟨y,hy⟩ : ∃ y,n.ns[0]? = some y := ⟨_,List.getElem?_eq_getElem (by omega)⟩
  exact ⟨y,hy,(h.nds 0 y hy).2.2.1 (by simp)⟩
theorem semi_zN {n : Nt} {X : Pt → Prop} (h : Semi n X) {i : Nat} {x : Nd} (hx : n.ns[i]? = some x) (hk : x.k = 0) : x = zN := free_zN (h.nds i x hx).1 (h.nds i x hx).2.1 hk
theorem semi_k {n : Nt} {X : Pt → Prop} (h : Semi n X) {p : Pt} (hp : n.has p = true) : (n.nd p.n).k ≠ 0 := by
  intro hk
  have h1 := has_iff.1 hp
  have := semi_zN h (get_nd h1.1 h1.2.1) hk
  rw [this] at h1; simp [zN] at h1; omega
structure MadeS (n : Nt) (x : Nd) (a : Nt) (t : Nat) : Prop where
  one : 1 ≤ t
  le : t ≤ n.ns.length
  was : ∀ y,n.ns[t]? = some y → y.k = 0
  now : a.ns[t]? = some x.fresh
  cap : a.cap = n.cap
  rest : ∀ i : Nat,i ≠ t → a.ns[i]? = n.ns[i]?
  len : a.ns.length = n.ns.length ∧ t < n.ns.length ∨ a.ns.length = n.ns.length + 1 ∧ t = n.ns.length ∧ n.used = n.ns.length
theorem used_all {l : List Nd} (h : ∀ x ∈ l,isFree x = false) : usedL l = l.length := by
  induction l with
  | nil => rfl
  | cons x l ih =>
    rw [usedL_cons,ih fun y hy => h y (by simp [hy])]
    have := h x (by simp)
    simp only [isFree,decide_eq_false_iff_not] at this
    rw [if_neg this]; simp only [List.length_cons]; omega
theorem madeS {n : Nt} {X : Pt → Prop} (h : Semi n X) (x : Nd) : MadeS n x (n.make x) n.at := by
  obtain ⟨r,hr,hr1⟩ := semi_root h
  have hl := h.ln1
  cases hf : n.ns.findIdx? isFree with
  | some i =>
    obtain ⟨hi,hfi,hbef⟩ := List.findIdx?_eq_some_iff_getElem.1 hf
    have e1 : n.at = i := by unfold Nt.at; rw [hf]
    have e2 : n.make x = ⟨n.ns.set i x.fresh,n.cap⟩ := by unfold Nt.make; rw [hf]
    have hy : n.ns[i]? = some n.ns[i] := List.getElem?_eq_getElem hi
    have hyk : (n.ns[i]).k = 0 := by simpa [isFree] using hfi
    rw [e1,e2]
    refine ⟨?_,by omega,fun y h => ?_,by simp [List.getElem?_set,hi],rfl,fun j hj => List.getElem?_set_ne (Ne.symm hj),.inl ⟨by simp,hi⟩⟩
    · rcases Nat.eq_zero_or_pos i with rfl | h
      · rw [hr] at hy; simp only [Option.some.injEq] at hy; rw [← hy,hr1] at hyk; omega
      · exact h
    · rw [hy] at h; rw [← Option.some.inj h]; exact hyk
  | none =>
    have hnone := List.findIdx?_eq_none_iff.1 hf
    have e1 : n.at = n.ns.length := by unfold Nt.at; rw [hf]
    have e2 : n.make x = ⟨n.ns ++ [x.fresh],n.cap⟩ := by unfold Nt.make; rw [hf]
    rw [e1,e2]
    refine ⟨by omega,Nat.le_refl _,fun y h => ?_,by simp,rfl,fun j hj => ?_,.inr ⟨by simp,rfl,used_all fun y hy => by simpa using hnone y hy⟩⟩
    · rw [List.getElem?_eq_none (Nat.le_refl _)] at h; cases h
    · by_cases hjl : j < n.ns.length
      · exact List.getElem?_append_left hjl
      · rw [List.getElem?_append_right (by omega),List.getElem?_eq_none (l := n.ns) (by omega),List.getElem?_eq_none]; simp; omega
theorem MadeS.nd {n a : Nt} {x : Nd} {t : Nat} (h : MadeS n x a t) {i : Int} (h0 : 0 ≤ i) (hi : i ≠ t) : a.nd i = n.nd i := by
  unfold Nt.nd; rw [List.getD_eq_getElem?_getD,List.getD_eq_getElem?_getD,h.rest i.toNat (by omega)]
theorem MadeS.nd_now {n a : Nt} {x : Nd} {t : Nat} (h : MadeS n x a t) : a.nd t = x.fresh := nd_get h.now
theorem MadeS.lt {n a : Nt} {x : Nd} {t : Nat} (h : MadeS n x a t) : t < a.ns.length := (List.getElem?_eq_some_iff.1 h.now).1
theorem fresh_len {x : Nd} (hx : x.Ok) : (x.fresh.to.length : Int) = x.ports := by
  have hp := ports_b hx
  simp only [Nd.fresh,List.length_replicate]; omega
theorem MadeS.has {n a : Nt} {x : Nd} {t : Nat} (h : MadeS n x a t) (hx : x.Ok) {X : Pt → Prop} (hs : Semi n X) (p : Pt) : a.has p = true ↔ n.has p = true ∨ p.n = t ∧ 0 ≤ p.s ∧ p.s < x.ports := by
  have hlt := h.lt
  have hfl := fresh_len hx
  by_cases e : p.n = t
  · constructor
    · intro k
      have k1 := has_iff.1 k
      rw [e,h.nd_now,hfl] at k1
      exact .inr ⟨e,k1.2.2.1,k1.2.2.2⟩
    · rintro (k | k)
      · exfalso
        have k1 := has_iff.1 k
        have := h.was _ (by have := get_nd (n := n) k1.1 k1.2.1; rw [e] at this; simpa using this)
        have hk := semi_k hs k
        rw [e] at hk; exact hk this
      · rw [has_iff,e,h.nd_now,hfl]; exact ⟨by omega,by omega,k.2.1,k.2.2⟩
  · rw [has_iff,has_iff]
    constructor
    · rintro ⟨k1,k2,k3,k4⟩
      rw [h.nd k1 e] at k4
      refine .inl ⟨k1,?_,k3,k4⟩
      rcases h.len with ⟨l1,_⟩ | ⟨l1,l2,_⟩ <;> omega
    · rintro (⟨k1,k2,k3,k4⟩ | k)
      · rw [h.nd k1 e]
        refine ⟨k1,?_,k3,k4⟩
        rcases h.len with ⟨l1,_⟩ | ⟨l1,l2,_⟩ <;> omega
      · exact absurd k.1 e
theorem MadeS.lk {n a : Nt} {x : Nd} {t : Nat} (h : MadeS n x a t) {X : Pt → Prop} (hs : Semi n X) {p : Pt} (hp : n.has p = true) : p.n ≠ t ∧ a.lk p = n.lk p := by
  have k1 := has_iff.1 hp
  have e : p.n ≠ t := fun e => by
    have := h.was _ (by have := get_nd (n := n) k1.1 k1.2.1; rw [e] at this; simpa using this)
    have hk := semi_k hs hp
    rw [e] at hk; exact hk this
  exact ⟨e,by unfold Nt.lk; rw [h.nd k1.1 e]⟩
theorem fresh_may {x : Nd} (hx : x.Ok) (h : x.may) : x.fresh.may := by
  refine ⟨h.k0,h.k1,h.lv0,h.lv1,h.lv2,h.nm,h.nn,fun h8 => ?_,h.al9,h.aln,h.al8,h.alt⟩
  have h8' : x.k = 8 := h8
  have hp : x.ports = x.to.length := by unfold Nd.ports; rw [h8']; simp
  rw [fresh_len hx,hp]; exact h.to8 h8'
theorem Semi.make {n : Nt} {X : Pt → Prop} (h : Semi n X) {x : Nd} (hx : x.Ok) (hm : x.may) (hk0 : x.k ≠ 0) (hk1 : x.k ≠ 1) (hu : n.used < n.cap) :
    makeR n x = (n.make x,(n.at : Int),0) ∧ Semi (n.make x) fun r => X r ∨ r.n = n.at ∧ 0 ≤ r.s ∧ r.s < x.ports := by
  have hM := madeS h x
  obtain ⟨t,ht⟩ : ∃ t,n.at = t := ⟨_,rfl⟩
  obtain ⟨a,ha⟩ : ∃ a,n.make x = a := ⟨_,rfl⟩
  rw [ht,ha] at hM
  refine ⟨?_,?_⟩
  · unfold makeR
    rw [bool_t hm,if_neg (by simp [hk0,hk1]),if_neg (by omega)]
  rw [ht,ha]
  have hl1 := h.ln1
  refine ⟨hM.cap ▸ h.cap1,hM.cap ▸ h.cap2,?_,?_,?_,fun i y hy => ?_,fun p hp => (hM.has hx h p).2 (hp.imp (h.xs p) id),fun p hp hX => ?_⟩
  · rcases hM.len with ⟨l1,_⟩ | ⟨l1,_⟩ <;> omega
  · have := h.ln2
    rw [hM.cap]
    rcases hM.len with ⟨l1,_⟩ | ⟨l1,_,l3⟩ <;> omega
  · rcases hM.len with ⟨l1,l2⟩ | ⟨l1,l2,_⟩
    · rw [l1,hM.nd (by omega) ?_]
      · exact h.last
      · intro e
        have := h.last
        rw [e] at this
        obtain ⟨y,hy⟩ : ∃ y,n.ns[t]? = some y := ⟨_,List.getElem?_eq_getElem l2⟩
        rw [nd_get hy] at this
        exact this (hM.was y hy)
    · rw [l1,show ((n.ns.length + 1 : Nat) : Int) - 1 = ((t : Nat) : Int) by omega,hM.nd_now]; exact hk0
  · by_cases e : i = t
    · subst e
      rw [hM.now] at hy
      obtain rfl := Option.some.inj hy
      have h1 := hM.one
      refine ⟨fresh_may hx hm,by rw [fresh_len hx,fresh_ports hx],?_⟩
      constructor
      · intro e; omega
      · intro e; exact absurd e hk1
    · rw [hM.rest i e] at hy; exact h.nds i y hy
  · have hp' : n.has p = true := ((hM.has hx h p).1 hp).resolve_right fun k => hX (.inr k)
    obtain ⟨e1,e2⟩ := hM.lk h hp'
    obtain ⟨h1,h2,h3,h4⟩ := h.ln p hp' fun k => hX (.inl k)
    rw [e2]
    refine ⟨h1,(hM.has hx h _).2 (.inl h2),fun k => k.elim h3 fun k => (hM.lk h h2).1 k.1,by rw [(hM.lk h h2).2,h4]⟩
theorem Semi.free {n : Nt} {X : Pt → Prop} (h : Semi n X) {i : Nat} {x : Nd} (hx : n.ns[i]? = some x) (hi : 1 ≤ i) (hk : x.k ≠ 0) (hX : ∀ p,n.has p = true → p.n = i → X p) :
    freeR n i = (n.free i,0) ∧ Semi (n.free i) (fun r => X r ∧ r.n ≠ i) ∧ (n.free i).used = n.used - 1 ∧ (∀ p,(n.free i).has p = true ↔ n.has p = true ∧ p.n ≠ i) ∧ ∀ p,n.has p = true → p.n ≠ i → (n.free i).lk p = n.lk p := by
  have hil := (List.getElem?_eq_some_iff.1 hx).1
  obtain ⟨r,hr,hr1⟩ := semi_root h
  have hlen := free_len n (i : Int)
  have hr2 := free_get (i := i) hr (by omega) (by omega)
  have hl0 := (List.getElem?_eq_some_iff.1 hr2).1
  have hc : (n.free (i : Int)).cap = n.cap := rfl
  have hhas : ∀ p,(n.free (i : Int)).has p = true ↔ n.has p = true ∧ p.n ≠ i := by
    intro p
    constructor
    · intro k
      have k1 := has_iff.1 k
      have g := get_nd (n := n.free (i : Int)) k1.1 k1.2.1
      rcases free_get_inv g with ⟨e1,e2⟩ | ⟨e1,e2⟩
      · rw [e2] at k1; simp [zN] at k1; omega
      · refine ⟨has_iff.2 ⟨k1.1,by have := (List.getElem?_eq_some_iff.1 e2).1; omega,k1.2.2.1,?_⟩,by omega⟩
        have := nd_get e2
        rw [show ((p.n.toNat : Nat) : Int) = p.n by omega] at this
        rw [this]; exact k1.2.2.2
    · rintro ⟨k,e⟩
      have k1 := has_iff.1 k
      have g := free_get (i := i) (get_nd (n := n) k1.1 k1.2.1) (by omega) (semi_k h k)
      have := nd_get g
      rw [show ((p.n.toNat : Nat) : Int) = p.n by omega] at this
      exact has_iff.2 ⟨k1.1,by have := (List.getElem?_eq_some_iff.1 g).1; omega,k1.2.2.1,by rw [this]; exact k1.2.2.2⟩
  have hlk : ∀ p,n.has p = true → p.n ≠ i → (n.free (i : Int)).lk p = n.lk p := by
    intro p k e
    have k1 := has_iff.1 k
    have g := free_get (i := i) (get_nd (n := n) k1.1 k1.2.1) (by omega) (semi_k h k)
    have := nd_get g
    rw [show ((p.n.toNat : Nat) : Int) = p.n by omega] at this
    unfold Nt.lk; rw [this]
  refine ⟨?_,⟨h.cap1,h.cap2,by omega,?_,?_,fun m y hy => ?_,fun p hp => (hhas p).2 ⟨h.xs p hp.1,hp.2⟩,fun p hp hX' => ?_⟩,free_used hx hk,hhas,hlk⟩
  · unfold freeR
    rw [if_pos ⟨by omega,by omega,by rw [nd_get hx]; exact hk⟩]
  · have := h.ln2; rw [hc]; omega
  · have e : (n.free (i : Int)).ns.length = tl (n.ns.set (i : Int).toNat zN) (n.ns.set (i : Int).toNat zN).length := trim_len _
    have h1 := tl_last (n.ns.set (i : Int).toNat zN) (n.ns.set (i : Int).toNat zN).length (by omega)
    obtain ⟨z,hz⟩ : ∃ z,(n.free (i : Int)).ns[(n.free (i : Int)).ns.length - 1]? = some z := ⟨_,List.getElem?_eq_getElem (by omega)⟩
    have h2 : (trim (n.ns.set (i : Int).toNat zN))[(n.free (i : Int)).ns.length - 1]? = some z := hz
    rw [trim_get (by show _ < (n.free (i : Int)).ns.length; omega)] at h2
    rw [← e,getD_of h2] at h1
    have h3 : (((n.free (i : Int)).ns.length : Nat) : Int) - 1 = (((n.free (i : Int)).ns.length - 1 : Nat) : Int) := by omega
    rw [h3,nd_get hz]; exact h1
  · rcases free_get_inv hy with ⟨rfl,rfl⟩ | ⟨hmi,hy0⟩
    · refine ⟨⟨by decide,by decide,by decide,by decide,by decide,by decide,by decide,by decide,by decide,by decide,by decide,fun i a h => by simp [zN] at h⟩,by decide,?_⟩
      constructor
      · intro e; omega
      · intro e; simp [zN] at e
    · exact h.nds m y hy0
  · obtain ⟨g1,g2⟩ := (hhas p).1 hp
    have hX1 : ¬ X p := fun k => hX' ⟨k,g2⟩
    obtain ⟨h1,h2,h3,h4⟩ := h.ln p g1 hX1
    have h5 : (n.lk p).n ≠ i := fun e => h3 (hX _ h2 e)
    rw [hlk p g1 g2]
    exact ⟨h1,(hhas _).2 ⟨h2,h5⟩,fun k => h3 k.1,by rw [hlk _ h2 h5,h4]⟩
end Go.Proofs.Ytkpfjolcmkikeaa
end
section
set_option linter.unusedSimpArgs false
set_option linter.unusedVariables false
set_option maxHeartbeats 4000000
namespace Go.Proofs.Ytkpfjolcmkikeaa
open Go.Fx
theorem linkR_shp (n : Nt) (p q : Pt) : Shp n (linkR n p q).1 := by
  unfold linkR
  split
  · rename_i h
    simp only [Bool.and_eq_true] at h
    exact ln_shp h.1.1 h.1.2
  · exact Shp.refl n
theorem moveR_shp (n : Nt) (p q : Pt) : Shp n (moveR n p q).1 := by
  unfold moveR
  split
  · split
    · exact Shp.refl n
    · exact linkR_shp _ _ _
  · exact Shp.refl n
theorem joinR_shp (n : Nt) (p q : Pt) : Shp n (joinR n p q).1 := by
  unfold joinR
  split
  · split
    · exact Shp.refl n
    · exact linkR_shp _ _ _
  · exact Shp.refl n
theorem Op.shp (n : Nt) (o : Op) : Shp n (o.run n) := by
  cases o with
  | mv p q => exact moveR_shp n p q
  | jn p q => exact joinR_shp n p q
  | ln p q => exact linkR_shp n p q
theorem runs_shp : ∀ (l : List Op) (n : Nt),Shp n (runs n l)
  | [],n => Shp.refl n
  | o :: l,n => (Op.shp n o).trans (runs_shp l (o.run n))
theorem has_wf {n : Nt} (hn : n.Ok) (hb : n.ns.length ≤ 4000) {p : Pt} (h : n.has p = true) : wfP p := by
  have h1 := has_iff.1 h
  have := (hn.nd _ (nd_mem h1.1 h1.2.1)).to
  unfold wfP wf; omega
structure Run (n0 : Nt) (a b : Int) (c : Int) (n : Nt) (L : List Pt) : Prop where
  good : n0.Good
  nod : L.Nodup
  semi : Semi n (· ∈ L)
  cap : n.cap = n0.cap
  used : n.used = n0.used + c
  old : ∀ (i : Nat) (x : Nd),n0.ns[i]? = some x → x.k ≠ 0 → ∃ y,n.ns[i]? = some y ∧ y = { x with to := y.to } ∧ y.to.length = x.to.length
  keep : ∀ r,n0.has r = true → r.n ≠ a → r.n ≠ b → (n0.lk r).n ≠ a → (n0.lk r).n ≠ b → r ∉ L ∧ n.lk r = n0.lk r
  ok : n.Ok
section
variable {n0 n : Nt} {a b c : Int} {L : List Pt}
theorem Run.perm {M : List Pt} (h : Run n0 a b c n L) (p : L.Perm M) : Run n0 a b c n M :=
  ⟨h.good,p.nodup_iff.1 h.nod,h.semi.iff fun r => p.mem_iff,h.cap,h.used,h.old,fun r h1 h2 h3 h4 h5 => ⟨fun k => (h.keep r h1 h2 h3 h4 h5).1 (p.mem_iff.2 k),(h.keep r h1 h2 h3 h4 h5).2⟩,h.ok⟩
theorem old_shp {m : Nt} (h : ∀ (i : Nat) (x : Nd),n0.ns[i]? = some x → x.k ≠ 0 → ∃ y,n.ns[i]? = some y ∧ y = { x with to := y.to } ∧ y.to.length = x.to.length) (hs : Shp n m) :
    ∀ (i : Nat) (x : Nd),n0.ns[i]? = some x → x.k ≠ 0 → ∃ y,m.ns[i]? = some y ∧ y = { x with to := y.to } ∧ y.to.length = x.to.length := by
  intro i x hx hk
  obtain ⟨y,h1,h2,h3⟩ := h i x hx hk
  obtain ⟨z,g1,g2,g3⟩ := hs.get' h1
  exact ⟨z,g1,by rw [g2,h2],g3.trans h3⟩
theorem Run.has0 (h : Run n0 a b c n L) {p : Pt} (hp : n0.has p = true) : n.has p = true := by
  have h1 := has_iff.1 hp
  have hk := semi_k h.good.semi hp
  obtain ⟨y,g1,g2,g3⟩ := h.old _ _ (get_nd h1.1 h1.2.1) hk
  have := nd_get g1
  rw [show ((p.n.toNat : Nat) : Int) = p.n by omega] at this
  exact has_iff.2 ⟨h1.1,by have := (List.getElem?_eq_some_iff.1 g1).1; omega,h1.2.2.1,by rw [this,g3]; exact h1.2.2.2⟩
theorem Run.link {p q : Pt} (h : Run n0 a b c n (p :: q :: L)) : Run n0 a b c (linkR n p q).1 L := by
  have hnd := h.nod
  simp only [List.nodup_cons,List.mem_cons,not_or] at hnd
  obtain ⟨⟨hpq,hpL⟩,hqL,hL⟩ := hnd
  have hp1 := h.semi.xs p (by simp)
  have hq1 := h.semi.xs q (by simp)
  obtain ⟨e,hs⟩ := h.semi.link (p := p) (q := q) (by simp) (by simp) hpq
  have hsh := linkR_shp n p q
  have hok := linkR_Ok h.ok (has_wf h.ok (semi_big h.semi) hp1) (has_wf h.ok (semi_big h.semi) hq1)
  rw [e] at hsh hok ⊢
  refine ⟨h.good,hL,hs.iff fun r => ?_,hsh.2.1.symm.trans h.cap,hsh.used.trans h.used,old_shp h.old hsh,fun r h1 h2 h3 h4 h5 => ?_,hok⟩
  · constructor
    · rintro ⟨k,k1,k2⟩
      simp only [List.mem_cons] at k
      exact (k.resolve_left k1).resolve_left k2
    · intro k
      exact ⟨by simp [k],fun e => hpL (e ▸ k),fun e => hqL (e ▸ k)⟩
  · obtain ⟨k1,k2⟩ := h.keep r h1 h2 h3 h4 h5
    simp only [List.mem_cons,not_or] at k1
    exact ⟨k1.2.2,by rw [ln_lk hp1 hq1 (h.has0 h1),if_neg k1.2.1,if_neg k1.1,k2]⟩
theorem Run.move {p q : Pt} (h : Run n0 a b c n (q :: L)) (hp1 : n.has p = true) (hp : p ∉ q :: L) (hab : p.n = a ∨ p.n = b) : Run n0 a b c (moveR n p q).1 (p :: L) := by
  have hnd := h.nod
  simp only [List.nodup_cons] at hnd
  simp only [List.mem_cons,not_or] at hp
  have hq1 := h.semi.xs q (by simp)
  obtain ⟨e,hs⟩ := h.semi.move (p := p) (q := q) hp1 (by simp [hp]) (by simp)
  obtain ⟨l1,l2,l3,l4⟩ := h.semi.ln p hp1 (by simp [hp])
  have hsh := moveR_shp n p q
  have hok := moveR_Ok h.ok (has_wf h.ok (semi_big h.semi) hp1) (has_wf h.ok (semi_big h.semi) hq1)
  rw [e] at hsh hok ⊢
  refine ⟨h.good,List.nodup_cons.2 ⟨hp.2,hnd.2⟩,hs.iff fun r => ?_,hsh.2.1.symm.trans h.cap,hsh.used.trans h.used,old_shp h.old hsh,fun r h1 h2 h3 h4 h5 => ?_,hok⟩
  · simp only [List.mem_cons]
    constructor
    · rintro (⟨k,k1⟩ | k)
      · exact .inr (k.resolve_left k1)
      · exact .inl k
    · rintro (k | k)
      · exact .inr k
      · exact .inl ⟨.inr k,fun e => hnd.1 (e ▸ k)⟩
  · obtain ⟨k1,k2⟩ := h.keep r h1 h2 h3 h4 h5
    simp only [List.mem_cons,not_or] at k1 ⊢
    have e1 : r ≠ n.lk p := fun e => by
      have : n0.lk r = p := by rw [← k2,e,l4]
      rw [this] at h4 h5
      exact hab.elim h4 h5
    exact ⟨⟨fun e => by rw [e] at h2 h3; exact hab.elim h2 h3,k1.2⟩,by rw [ln_lk hq1 l2 (h.has0 h1),if_neg e1,if_neg k1.1,k2]⟩
theorem Run.join {p q : Pt} (h : Run n0 a b c n L) (hp1 : n.has p = true) (hq1 : n.has q = true) (hp : p ∉ L) (hq : q ∉ L) (hpq : p ≠ q) (hpa : p.n = a ∨ p.n = b) (hqa : q.n = a ∨ q.n = b) : Run n0 a b c (joinR n p q).1 (p :: q :: L) := by
  obtain ⟨e,hs⟩ := h.semi.join hp1 hp hq1 hq hpq
  obtain ⟨l1,l2,l3,l4⟩ := h.semi.ln p hp1 hp
  obtain ⟨m1,m2,m3,m4⟩ := h.semi.ln q hq1 hq
  have hsh := joinR_shp n p q
  have hok := joinR_Ok h.ok (has_wf h.ok (semi_big h.semi) hp1) (has_wf h.ok (semi_big h.semi) hq1)
  rw [e] at hsh hok ⊢
  refine ⟨h.good,List.nodup_cons.2 ⟨by simp [hpq,hp],List.nodup_cons.2 ⟨hq,h.nod⟩⟩,hs.iff fun r => ?_,hsh.2.1.symm.trans h.cap,hsh.used.trans h.used,old_shp h.old hsh,fun r h1 h2 h3 h4 h5 => ?_,hok⟩
  · simp only [List.mem_cons]
    constructor
    · rintro (k | k | k)
      · exact .inr (.inr k)
      · exact .inl k
      · exact .inr (.inl k)
    · rintro (k | k | k)
      · exact .inr (.inl k)
      · exact .inr (.inr k)
      · exact .inl k
  · obtain ⟨k1,k2⟩ := h.keep r h1 h2 h3 h4 h5
    simp only [List.mem_cons,not_or]
    refine ⟨⟨fun e => by rw [e] at h2 h3; exact hpa.elim h2 h3,fun e => by rw [e] at h2 h3; exact hqa.elim h2 h3,k1⟩,?_⟩
    have e1 : r ≠ n.lk p := fun e => by
      have : n0.lk r = p := by rw [← k2,e,l4]
      rw [this] at h4 h5
      exact hpa.elim h4 h5
    have e2 : r ≠ n.lk q := fun e => by
      have : n0.lk r = q := by rw [← k2,e,m4]
      rw [this] at h4 h5
      exact hqa.elim h4 h5
    show (if n.lk p = q then n else n.ln (n.lk p) (n.lk q)).lk r = n0.lk r
    split
    · exact k2
    · rw [ln_lk l2 m2 (h.has0 h1),if_neg e2,if_neg e1,k2]
def newP (x : Nd) (t : Int) : List Pt := portsR t 0 x.ports.toNat
structure MadeQ (n : Nt) (x : Nd) (m : Nt) (t : Int) : Prop where
  one : 1 ≤ t
  new : ∀ p,n.has p = true → p.n ≠ t
  has : ∀ p,m.has p = true ↔ n.has p = true ∨ p.n = t ∧ 0 ≤ p.s ∧ p.s < x.ports
  lk : ∀ p,n.has p = true → m.lk p = n.lk p
  nd : m.nd t = x.fresh
  oth : ∀ i : Int,0 ≤ i → i ≠ t → m.nd i = n.nd i
  free : (n.nd t).k = 0
theorem Run.make (h : Run n0 a b c n L) {x : Nd} (hx : x.Ok) (hm : x.may) (hk0 : x.k ≠ 0) (hk1 : x.k ≠ 1) (hu : n0.used + c < n0.cap) :
    ∃ t,(makeR n x).2 = (t,0) ∧ MadeQ n x (makeR n x).1 t ∧ Run n0 a b (c + 1) (makeR n x).1 (newP x t ++ L) := by
  have hM := madeS h.semi x
  obtain ⟨e,hs⟩ := h.semi.make hx hm hk0 hk1 (by rw [h.used,h.cap]; exact hu)
  have hok := (makeR_Ok h.ok hx (by have := semi_big h.semi; omega)).1
  have hus := make_used (n := n) hk0
  rw [e] at hok ⊢
  obtain ⟨m,hm⟩ : ∃ m,n.make x = m := ⟨_,rfl⟩
  obtain ⟨t,ht⟩ : ∃ t,n.at = t := ⟨_,rfl⟩
  simp only at hok ⊢
  rw [hm,ht] at hM hs
  rw [hm] at hok hus ⊢
  rw [ht]
  have hpb := ports_b hx
  have hnew : ∀ p,n.has p = true → p.n ≠ t := fun p hp => (hM.lk h.semi hp).1
  have hfree : (n.nd (t : Int)).k = 0 := by
    rcases Nat.lt_or_ge t n.ns.length with hl | hl
    · obtain ⟨y,hy⟩ : ∃ y,n.ns[t]? = some y := ⟨_,List.getElem?_eq_getElem hl⟩
      rw [nd_get hy]; exact hM.was y hy
    · unfold Nt.nd; rw [Int.toNat_natCast,List.getD_eq_getElem?_getD,List.getElem?_eq_none hl]; rfl
  have hmem : ∀ r : Pt,r ∈ newP x t ↔ r.n = t ∧ 0 ≤ r.s ∧ r.s < x.ports := fun r => by
    unfold newP; rw [mem_portsR]
    constructor
    · rintro ⟨h1,h2,h3⟩; exact ⟨h1,by omega,by omega⟩
    · rintro ⟨h1,h2,h3⟩; exact ⟨h1,by omega,by omega⟩
  refine ⟨t,rfl,⟨by have := hM.one; omega,hnew,fun p => hM.has hx h.semi p,fun p hp => (hM.lk h.semi hp).2,hM.nd_now,fun i h0 hi => hM.nd h0 hi,hfree⟩,?_⟩
  refine ⟨h.good,?_,hs.iff fun r => ?_,hM.cap.trans h.cap,by rw [hus,h.used]; omega,fun i y hy hk => ?_,fun r h1 h2 h3 h4 h5 => ?_,hok⟩
  · rw [List.nodup_append]
    refine ⟨portsR_nodup _ _ _,h.nod,fun p hp q hq e => ?_⟩
    subst e
    exact hnew p (h.semi.xs p hq) ((hmem p).1 hp).1
  · rw [List.mem_append,hmem]
    exact ⟨fun k => k.elim .inr .inl,fun k => k.elim .inr .inl⟩
  · obtain ⟨z,g1,g2,g3⟩ := h.old i y hy hk
    have e : i ≠ t := fun e => by
      subst e
      have := hM.was z g1
      rw [g2] at this; exact hk this
    exact ⟨z,by rw [hM.rest i e]; exact g1,g2,g3⟩
  · obtain ⟨k1,k2⟩ := h.keep r h1 h2 h3 h4 h5
    have hr := h.has0 h1
    refine ⟨?_,by rw [(hM.lk h.semi hr).2,k2]⟩
    rw [List.mem_append,hmem]
    exact fun k => k.elim (fun k => hnew r hr k.1) k1
structure LikeQ (n : Nt) (x : Nd) (m : Nt) (ds : List Int) : Prop where
  nod : ds.Nodup
  one : ∀ d ∈ ds,1 ≤ d
  new : ∀ d ∈ ds,∀ p,n.has p = true → p.n ≠ d
  has : ∀ p,m.has p = true ↔ n.has p = true ∨ p.n ∈ ds ∧ 0 ≤ p.s ∧ p.s < x.ports
  lk : ∀ p,n.has p = true → m.lk p = n.lk p
  nd : ∀ d ∈ ds,m.nd d = x.fresh
  oth : ∀ i : Int,0 ≤ i → i ∉ ds → m.nd i = n.nd i
  free : ∀ d ∈ ds,(n.nd d).k = 0
theorem Run.likes (h : Run n0 a b c n L) {x : Nd} (hx : x.Ok) (hm : x.may) (hk0 : x.k ≠ 0) (hk1 : x.k ≠ 1) (hp : 0 < x.ports) : ∀ k : Nat,n0.used + c + k ≤ n0.cap →
    LikeQ n x (likeR n x k).1 (likeR n x k).2 ∧ (likeR n x k).2.length = k ∧ Run n0 a b (c + k) (likeR n x k).1 ((likeR n x k).2.flatMap (newP x) ++ L)
  | 0,_ => ⟨⟨List.nodup_nil,by simp [likeR],by simp [likeR],by simp [likeR],fun _ _ => rfl,by simp [likeR],fun _ _ _ => rfl,by simp [likeR]⟩,rfl,by simpa [likeR] using h⟩
  | k + 1,hu => by
    obtain ⟨h1,h2,h3⟩ := Run.likes h hx hm hk0 hk1 hp k (by omega)
    obtain ⟨t,g1,g2,g3⟩ := h3.make hx hm hk0 hk1 (by omega)
    have hd : ∀ d ∈ (likeR n x k).2,d ≠ t := fun d hd => g2.new ⟨d,0⟩ ((h1.has _).2 (.inr ⟨hd,by simp,hp⟩))
    have ht : (makeR (likeR n x k).1 x).2.1 = t := by rw [g1]
    simp only [likeR,ht]
    refine ⟨⟨?_,?_,?_,fun p => ?_,fun p hp => ?_,fun d hd' => ?_,fun i h0 hi => ?_,fun d hd' => ?_⟩,by simp [h2],?_⟩
    · rw [List.nodup_append]
      exact ⟨h1.nod,by simp,fun u hu v hv e => by simp at hv; exact hd u hu (e.trans hv)⟩
    · intro d hd
      rcases List.mem_append.1 hd with hd | hd
      · exact h1.one d hd
      · simp at hd; rw [hd]; exact g2.one
    · intro d hd p hp
      rcases List.mem_append.1 hd with hd | hd
      · exact h1.new d hd p hp
      · simp at hd; rw [hd]; exact g2.new p ((h1.has p).2 (.inl hp))
    · rw [g2.has,h1.has]
      simp only [List.mem_append,List.mem_cons,List.not_mem_nil,or_false]
      constructor
      · rintro ((k | ⟨k1,k2⟩) | ⟨k1,k2⟩)
        · exact .inl k
        · exact .inr ⟨.inl k1,k2⟩
        · exact .inr ⟨.inr k1,k2⟩
      · rintro (k | ⟨k1 | k1,k2⟩)
        · exact .inl (.inl k)
        · exact .inl (.inr ⟨k1,k2⟩)
        · exact .inr ⟨k1,k2⟩
    · rw [g2.lk p ((h1.has p).2 (.inl hp)),h1.lk p hp]
    · rcases List.mem_append.1 hd' with hd' | hd'
      · rw [g2.oth d (by have := h1.one d hd'; omega) (hd d hd'),h1.nd d hd']
      · simp at hd'; rw [hd']; exact g2.nd
    · simp only [List.mem_append,List.mem_cons,List.not_mem_nil,or_false,not_or] at hi
      rw [g2.oth i h0 hi.2,h1.oth i h0 hi.1]
    · rcases List.mem_append.1 hd' with hd' | hd'
      · exact h1.free d hd'
      · simp at hd'; subst hd'
        have := g2.free
        rw [h1.oth d (by have := g2.one; omega) (fun k => hd d k rfl)] at this
        exact this
    · have e : (c + ((k + 1 : Nat) : Int)) = c + k + 1 := by omega
      rw [e]
      refine g3.perm ?_
      rw [List.flatMap_append,List.append_assoc]
      simp only [List.flatMap_cons,List.flatMap_nil,List.append_nil]
      rw [← List.append_assoc,← List.append_assoc]
      exact List.Perm.append_right _ List.perm_append_comm
theorem Run.moves : ∀ (l : List Pt) (ds : List Int) {n : Nt} {L : List Pt},Run n0 a b c n (ds.map (fun d => ⟨d,0⟩) ++ L) → l.length = ds.length → l.Nodup →
    (∀ p ∈ l,n.has p = true ∧ p ∉ L ∧ p.n ∉ ds ∧ (p.n = a ∨ p.n = b)) → Run n0 a b c (runs n (dropOps l ds)) (l ++ L)
  | [],[],n,L,h,_,_,_ => h
  | [],_ :: _,n,L,h,hl,_,_ => by simp at hl
  | _ :: _,[],n,L,h,hl,_,_ => by simp at hl
  | p :: l,d :: ds,n,L,h,hl,hn,hp => by
    obtain ⟨p1,p2,p3,p4⟩ := hp p (by simp)
    have hn' := List.nodup_cons.1 hn
    simp only [List.mem_cons,not_or] at p3
    have h : Run n0 a b c n (⟨d,0⟩ :: (ds.map (fun d => (⟨d,0⟩ : Pt)) ++ L)) := h
    have h1 := Run.move (p := p) h p1 (by
      simp only [List.mem_cons,List.mem_append,List.mem_map,not_or,not_exists,not_and]
      exact ⟨fun e => p3.1 (by rw [e]),fun x hx e => p3.2 (by rw [← e]; exact hx),p2⟩) p4
    have h2 := Run.moves l ds (L := p :: L) (h1.perm (by exact List.perm_middle.symm)) (by simpa using hl) hn'.2 (fun q hq => by
      obtain ⟨q1,q2,q3,q4⟩ := hp q (by simp [hq])
      simp only [List.mem_cons,not_or] at q3 ⊢
      exact ⟨by rw [(moveR_shp n p ⟨d,0⟩).has]; exact q1,⟨fun e => hn'.1 (e ▸ hq),q2⟩,q3.2,q4⟩)
    exact h2.perm List.perm_middle
end
end Go.Proofs.Ytkpfjolcmkikeaa
end
section
set_option linter.unusedSimpArgs false
set_option linter.unusedVariables false
set_option maxHeartbeats 4000000
namespace Go.Proofs.Ytkpfjolcmkikeaa
open Go.Fx
section
variable {n0 n : Nt} {a b c : Int} {L : List Pt}
theorem Run.start (hn : n0.Ok) (hG : n0.Good) (ha : n0.has ⟨a,0⟩ = true) (hlk : n0.lk ⟨a,0⟩ = ⟨b,0⟩) (hab : a ≠ b) : Run n0 a b 0 n0 [⟨a,0⟩,⟨b,0⟩] := by
  obtain ⟨g1,g2,g3⟩ := good_link hG ha
  rw [hlk] at g1 g2 g3
  refine ⟨hG,by simp [hab],⟨hG.cap1,hG.cap2,hG.ln1,hG.ln2,hG.last,hG.semi.nds,fun p hp => ?_,fun p hp hX => ?_⟩,rfl,by omega,fun i x hx hk => ⟨x,hx,rfl,rfl⟩,fun r h1 h2 h3 h4 h5 => ⟨?_,rfl⟩,hn⟩
  · simp only [List.mem_cons,List.not_mem_nil,or_false] at hp
    rcases hp with rfl | rfl
    · exact ha
    · exact g2
  · simp only [List.mem_cons,List.not_mem_nil,or_false,not_or] at hX ⊢
    obtain ⟨h1,h2,h3⟩ := good_link hG hp
    refine ⟨h1,h2,⟨fun e => ?_,fun e => ?_⟩,h3⟩
    · rw [e,hlk] at h3; exact hX.2 h3.symm
    · rw [e,g3] at h3; exact hX.1 h3.symm
  · simp only [List.mem_cons,List.not_mem_nil,or_false,not_or]
    exact ⟨fun e => h2 (by rw [e]),fun e => h3 (by rw [e])⟩
theorem Run.joins (hab : a ≠ b) : ∀ (l : List Nat) {n : Nt} {L : List Pt},Run n0 a b c n L → l.Nodup → (∀ s ∈ l,n.has ⟨a,s⟩ = true ∧ n.has ⟨b,s⟩ = true ∧ (⟨a,s⟩ : Pt) ∉ L ∧ (⟨b,s⟩ : Pt) ∉ L) →
    Run n0 a b c (runs n (joinOps a b l)) (l.map (fun s : Nat => (⟨a,s⟩ : Pt)) ++ (l.map (fun s : Nat => (⟨b,s⟩ : Pt)) ++ L))
  | [],n,L,h,_,_ => h
  | s :: l,n,L,h,hn,hp => by
    obtain ⟨p1,p2,p3,p4⟩ := hp s (by simp)
    have hn' := List.nodup_cons.1 hn
    have h1 := h.join p1 p2 p3 p4 (fun e => hab (by simpa using e)) (.inl rfl) (.inr rfl)
    have h2 := Run.joins hab l h1 hn'.2 (fun t ht => by
      obtain ⟨q1,q2,q3,q4⟩ := hp t (by simp [ht])
      have hts : ¬ ((t : Int) = (s : Int)) := fun e => hn'.1 (by have : t = s := by omega
                                                                 exact this ▸ ht)
      have hsh := joinR_shp n ⟨a,s⟩ ⟨b,s⟩
      refine ⟨by rw [hsh.has]; exact q1,by rw [hsh.has]; exact q2,?_,?_⟩
      · simp only [List.mem_cons,Pt.mk.injEq,hts,and_false,false_or]; exact q3
      · simp only [List.mem_cons,Pt.mk.injEq,hts,and_false,false_or]; exact q4)
    refine h2.perm ?_
    simp only [List.map_cons,List.cons_append]
    rw [List.perm_iff_count]
    intro r
    simp only [List.count_append,List.count_cons]
    omega
theorem newP3 {x : Nd} (h : x.ports = 3) (t : Int) : newP x t = [⟨t,0⟩,⟨t,1⟩,⟨t,2⟩] := by unfold newP; rw [h]; rfl
theorem newP2 {x : Nd} (h : x.ports = 2) (t : Int) : newP x t = [⟨t,0⟩,⟨t,1⟩] := by unfold newP; rw [h]; rfl
theorem newP1 {x : Nd} (h : x.ports = 1) (t : Int) : newP x t = [⟨t,0⟩] := by unfold newP; rw [h]; rfl
theorem flat1 {x : Nd} (h : x.ports = 1) (ds : List Int) : ds.flatMap (newP x) = ds.map fun d => ⟨d,0⟩ := by
  induction ds with
  | nil => rfl
  | cons d ds ih => rw [List.flatMap_cons,newP1 h,ih]; rfl
theorem Run.picks {apps : List Int} {lv : Int} : ∀ (r : List Int) (d : Int) (i : Nat) {n : Nt} {L : List Pt},Run n0 a b c n (⟨d,1⟩ :: ⟨d,2⟩ :: (r.flatMap (newP (appN lv)) ++ L)) →
    (∀ s : Nat,i < s → s ≤ i + 1 + r.length → n.has ⟨b,s⟩ = true ∧ (⟨b,s⟩ : Pt) ∉ L) → n.has ⟨a,1⟩ = true → (⟨a,1⟩ : Pt) ∉ L → a ∉ d :: r → b ∉ d :: r → a ≠ b →
    Run n0 a b c (runs n (pickOps a b i (d :: r))) (⟨a,1⟩ :: (portsR b (i + 1) (i + 2 + r.length) ++ L))
  | [],d,i,n,L,h,hb,ha,haL,had,hbd,hab => by
    obtain ⟨b1,b2⟩ := hb (i + 1) (by omega) (by simp)
    rw [show ((i + 1 : Nat) : Int) = (i : Int) + 1 by omega] at b1 b2
    simp only [List.mem_cons,List.not_mem_nil,or_false] at had hbd
    have h1 := Run.move (p := ⟨b,(i : Int) + 1⟩) (q := ⟨d,2⟩) (h.perm (List.Perm.swap ..)) b1 (by simpa [hbd] using b2) (.inr rfl)
    have h2 := Run.move (p := ⟨a,1⟩) (q := ⟨d,1⟩) (h1.perm (List.Perm.swap ..)) (by rw [(moveR_shp _ _ _).has]; exact ha) (by simpa [had,hab] using haL) (.inl rfl)
    have e : portsR b (i + 1) (i + 2 + 0) = [⟨b,(i : Int) + 1⟩] := by
      rw [portsR_cons (by omega),portsR_nil (by omega)]; rfl
    rw [List.length_nil,e]
    exact h2
  | e :: r,d,i,n,L,h,hb,ha,haL,had,hbd,hab => by
    obtain ⟨b1,b2⟩ := hb (i + 1) (by omega) (by omega)
    rw [show ((i + 1 : Nat) : Int) = (i : Int) + 1 by omega] at b1 b2
    simp only [List.mem_cons,not_or] at had hbd
    rw [List.flatMap_cons,newP3 rfl] at h
    have hbn : ∀ s : Int,(⟨b,s⟩ : Pt) ∉ r.flatMap (newP (appN lv)) := fun s k => by
      obtain ⟨t,ht,hs⟩ := List.mem_flatMap.1 k
      have e : t = b := (mem_portsR.1 hs).1.symm
      subst e; exact hbd.2.2 ht
    have h1 := Run.move (p := ⟨b,(i : Int) + 1⟩) (q := ⟨d,2⟩) (h.perm (List.Perm.swap ..)) b1 (by
      simp only [List.mem_cons,List.mem_append,Pt.mk.injEq,hbd,false_and,List.not_mem_nil,or_false,false_or,not_or,List.cons_append]
      exact ⟨hbn _,b2⟩) (.inr rfl)
    have h2 := Run.link (p := ⟨d,1⟩) (q := ⟨e,0⟩) (L := ⟨b,(i : Int) + 1⟩ :: ⟨e,1⟩ :: ⟨e,2⟩ :: (r.flatMap (newP (appN lv)) ++ L)) (h1.perm (by
      rw [List.perm_iff_count]; intro r; simp only [List.cons_append,List.nil_append,List.count_cons,List.count_append]; omega))
    have h3 := Run.picks (apps := apps) (lv := lv) r e (i + 1) (L := ⟨b,(i : Int) + 1⟩ :: L) (h2.perm (by
      rw [List.perm_iff_count]; intro r; simp only [List.cons_append,List.nil_append,List.count_cons,List.count_append]; omega)) (fun s h1 h2 => by
        obtain ⟨c1,c2⟩ := hb s (by omega) (by simp only [List.length_cons]; omega)
        refine ⟨by rw [(linkR_shp _ _ _).has,(moveR_shp _ _ _).has]; exact c1,?_⟩
        have : ¬ (s : Int) = (i : Int) + 1 := by omega
        simp only [List.mem_cons,Pt.mk.injEq,this,and_false,false_or]; exact c2) (by rw [(linkR_shp _ _ _).has,(moveR_shp _ _ _).has]; exact ha) (by
        simp only [List.mem_cons,Pt.mk.injEq,hab,false_and,false_or]; exact haL) (by simp only [List.mem_cons,not_or]; exact had.2) (by simp only [List.mem_cons,not_or]; exact hbd.2) hab
    have e' : portsR b (i + 1) (i + 2 + (e :: r).length) = ⟨b,(i : Int) + 1⟩ :: portsR b (i + 1 + 1) (i + 1 + 2 + r.length) := by
      rw [List.length_cons,portsR_cons (by omega),show i + 2 + (r.length + 1) = i + 1 + 2 + r.length by omega]; rfl
    rw [e']
    refine h3.perm ?_
    rw [List.perm_iff_count]; intro r; simp only [List.cons_append,List.nil_append,List.count_cons,List.count_append]; omega
theorem flat_cons {α : Type} (f : α → Pt) (g : α → List Pt) (cs : List α) : (cs.flatMap fun c => f c :: g c).Perm (cs.map f ++ cs.flatMap g) := by
  induction cs with
  | nil => exact List.Perm.refl _
  | cons d cs ih =>
    rw [List.flatMap_cons,List.map_cons,List.flatMap_cons,List.cons_append,List.cons_append]
    refine List.Perm.cons _ ?_
    refine (List.Perm.append_left (g d) ih).trans ?_
    rw [List.perm_iff_count]; intro r; simp only [List.count_append]; omega
theorem Run.lns {m : Int} {k : Nat} : ∀ (cs : List Int) (i : Nat) {n : Nt} {L : List Pt},Run n0 a b c n (portsR m (i + 1) (i + 1 + cs.length) ++ (cs.map (fun d => (⟨d,(k : Int) + 1⟩ : Pt)) ++ L)) → Run n0 a b c (runs n (lnOps m k i cs)) L
  | [],i,n,L,h => by rw [portsR_nil (by simp)] at h; exact h
  | d :: cs,i,n,L,h => by
    rw [List.length_cons,portsR_cons (by omega),show i + 1 + (cs.length + 1) = i + 1 + 1 + cs.length by omega] at h
    have h1 := Run.link (p := ⟨m,(i : Int) + 1⟩) (q := ⟨d,(k : Int) + 1⟩) (L := portsR m (i + 1 + 1) (i + 1 + 1 + cs.length) ++ (cs.map (fun d => (⟨d,(k : Int) + 1⟩ : Pt)) ++ L)) (h.perm (by
      rw [List.perm_iff_count]; intro r
      simp only [List.map_cons,List.cons_append,List.count_cons,List.count_append,Int.natCast_add,Int.cast_ofNat_Int]; omega))
    exact Run.lns cs (i + 1) h1
theorem runs_cons (n : Nt) (o : Op) (l : List Op) : runs n (o :: l) = runs (o.run n) l := rfl
theorem Run.passes {x : Nd} {cs : List Int} (hx : x.ports.toNat = cs.length + 1) : ∀ (r : List Int) (k : Nat) {n : Nt} {L : List Pt},Run n0 a b c n (r.flatMap (newP x) ++ (cs.flatMap (fun d => portsR d (k + 1) (k + 1 + r.length)) ++ L)) →
    (∀ s : Nat,k < s → s < k + 1 + r.length → n.has ⟨b,s⟩ = true ∧ (⟨b,s⟩ : Pt) ∉ L) → b ∉ r → b ∉ cs →
    Run n0 a b c (runs n (passOps b cs k r)) (portsR b (k + 1) (k + 1 + r.length) ++ L)
  | [],k,n,L,h,hb,hbr,hbc => by
    rw [portsR_nil (by simp)]
    have : (cs.flatMap fun d => portsR d (k + 1) (k + 1 + ([] : List Int).length)) = [] := by
      rw [List.flatMap_eq_nil_iff]; intro d _; exact portsR_nil (by simp)
    rw [this] at h
    exact h
  | m :: r,k,n,L,h,hb,hbr,hbc => by
    obtain ⟨b1,b2⟩ := hb (k + 1) (by omega) (by simp only [List.length_cons]; omega)
    rw [show ((k + 1 : Nat) : Int) = (k : Int) + 1 by omega] at b1 b2
    simp only [List.mem_cons,not_or] at hbr
    have hcs : ∀ (j u : Nat),(⟨b,(k : Int) + 1⟩ : Pt) ∉ cs.flatMap fun d => portsR d j u := fun j u hm => by
      obtain ⟨t,ht,hs⟩ := List.mem_flatMap.1 hm
      have e : t = b := (mem_portsR.1 hs).1.symm
      subst e; exact hbc ht
    have hrn : (⟨b,(k : Int) + 1⟩ : Pt) ∉ r.flatMap (newP x) := fun hm => by
      obtain ⟨t,ht,hs⟩ := List.mem_flatMap.1 hm
      have e : t = b := (mem_portsR.1 hs).1.symm
      subst e; exact hbr.2 ht
    have e1 : newP x m = ⟨m,0⟩ :: portsR m 1 (1 + cs.length) := by
      unfold newP; rw [hx,portsR_cons (by omega),show cs.length + 1 = 1 + cs.length by omega]; rfl
    rw [List.flatMap_cons,e1] at h
    have h1 := Run.move (p := ⟨b,(k : Int) + 1⟩) (q := ⟨m,0⟩) (by simpa only [List.cons_append] using h) b1 (by
      have hpm : (⟨b,(k : Int) + 1⟩ : Pt) ∉ portsR m 1 (1 + cs.length) := fun hm => hbr.1 (mem_portsR.1 hm).1
      simp only [List.mem_cons,List.mem_append,Pt.mk.injEq,hbr,false_and,not_or,not_false_eq_true,true_and]
      exact ⟨⟨hpm,hrn⟩,hcs _ _,b2⟩) (.inr rfl)
    have p1 : (cs.flatMap fun d => portsR d (k + 1) (k + 1 + (m :: r).length)).Perm (cs.map (fun d => (⟨d,(k : Int) + 1⟩ : Pt)) ++ cs.flatMap fun d => portsR d (k + 1 + 1) (k + 1 + 1 + r.length)) := by
      have e : (fun d : Int => portsR d (k + 1) (k + 1 + (m :: r).length)) = fun d => (⟨d,(k : Int) + 1⟩ : Pt) :: portsR d (k + 1 + 1) (k + 1 + 1 + r.length) := by
        funext d
        rw [List.length_cons,portsR_cons (by omega),show k + 1 + (r.length + 1) = k + 1 + 1 + r.length by omega]; rfl
      rw [e]; exact flat_cons _ _ _
    have h2 := Run.lns (m := m) (k := k) cs 0 (L := r.flatMap (newP x) ++ ((cs.flatMap fun d => portsR d (k + 1 + 1) (k + 1 + 1 + r.length)) ++ ⟨b,(k : Int) + 1⟩ :: L)) (h1.perm (by
      rw [List.perm_iff_count]; intro q
      have := (List.perm_iff_count.1 p1) q
      simp only [List.cons_append,List.count_cons,List.count_append,Nat.zero_add] at this ⊢
      rw [this]; omega))
    have h3 := Run.passes hx r (k + 1) h2 (fun s h1 h2 => by
      obtain ⟨c1,c2⟩ := hb s (by omega) (by simp only [List.length_cons]; omega)
      refine ⟨by rw [(runs_shp _ _).has,(moveR_shp _ _ _).has]; exact c1,?_⟩
      have : ¬ (s : Int) = (k : Int) + 1 := by omega
      simp only [List.mem_cons,Pt.mk.injEq,this,and_false,false_or]; exact c2) hbr.2 hbc
    have e2 : portsR b (k + 1) (k + 1 + (m :: r).length) = ⟨b,(k : Int) + 1⟩ :: portsR b (k + 1 + 1) (k + 1 + 1 + r.length) := by
      rw [List.length_cons,portsR_cons (by omega),show k + 1 + (r.length + 1) = k + 1 + 1 + r.length by omega]; rfl
    have e3 : runs n (passOps b cs k (m :: r)) = runs (runs (moveR n ⟨b,(k : Int) + 1⟩ ⟨m,0⟩).1 (lnOps m k 0 cs)) (passOps b cs (k + 1) r) := by
      simp only [passOps,runs_cons,runs_app]; rfl
    rw [e2,e3]
    refine h3.perm ?_
    rw [List.perm_iff_count]; intro q; simp only [List.cons_append,List.count_cons,List.count_append]; omega
end
end Go.Proofs.Ytkpfjolcmkikeaa
end
section
set_option linter.unusedSimpArgs false
set_option linter.unusedVariables false
set_option maxHeartbeats 4000000
namespace Go.Proofs.Ytkpfjolcmkikeaa
open Go.Fx
structure Meet (n : Nt) (a b : Int) : Prop where
  ok : n.Ok
  good : n.Good
  ab : a ≠ b
  a0 : 0 ≤ a
  a1 : a < n.ns.length
  b0 : 0 ≤ b
  b1 : b < n.ns.length
  ma : (n.nd a).may
  mb : (n.nd b).may
  ka : (n.nd a).Ok
  kb : (n.nd b).Ok
  pa : ((n.nd a).to.length : Int) = (n.nd a).ports
  pb : ((n.nd b).to.length : Int) = (n.nd b).ports
  ha : n.has ⟨a,0⟩ = true
  hb : n.has ⟨b,0⟩ = true
  la : n.lk ⟨a,0⟩ = ⟨b,0⟩
  lb : n.lk ⟨b,0⟩ = ⟨a,0⟩
theorem Meet.of {n : Nt} {a b : Int} (hn : n.Ok) (hG : n.Good) (ha : n.has ⟨a,0⟩ = true) (hl : n.lk ⟨a,0⟩ = ⟨b,0⟩) : Meet n a b := by
  obtain ⟨g1,g2,g3⟩ := good_link hG ha
  rw [hl] at g1 g2 g3
  have h1 := has_iff.1 ha
  have h2 := has_iff.1 g2
  simp only at h1 h2
  have q1 := hG.nds _ _ (get_nd h1.1 h1.2.1)
  have q2 := hG.nds _ _ (get_nd h2.1 h2.2.1)
  exact ⟨hn,hG,fun e => g1 (by rw [e]),h1.1,h1.2.1,h2.1,h2.2.1,q1.1,q2.1,hn.nd _ (nd_mem h1.1 h1.2.1),hn.nd _ (nd_mem h2.1 h2.2.1),q1.2.1,q2.2.1,ha,g2,hl,g3⟩
theorem Meet.swap {n : Nt} {a b : Int} (h : Meet n a b) : Meet n b a := Meet.of h.ok h.good h.hb h.lb
theorem Meet.start {n : Nt} {a b : Int} (h : Meet n a b) : Run n a b 0 n [⟨a,0⟩,⟨b,0⟩] := Run.start h.ok h.good h.ha h.la h.ab
theorem Meet.hasA {n : Nt} {a b : Int} (h : Meet n a b) {s : Nat} (hs : s < (n.nd a).to.length) : n.has ⟨a,s⟩ = true := has_iff.2 ⟨h.a0,h.a1,by simp,by simp only; omega⟩
theorem Meet.hasB {n : Nt} {a b : Int} (h : Meet n a b) {s : Nat} (hs : s < (n.nd b).to.length) : n.has ⟨b,s⟩ = true := has_iff.2 ⟨h.b0,h.b1,by simp,by simp only; omega⟩
theorem Meet.kA {n : Nt} {a b : Int} (h : Meet n a b) : (n.nd a).k ≠ 0 := semi_k h.good.semi h.ha
theorem Meet.kB {n : Nt} {a b : Int} (h : Meet n a b) : (n.nd b).k ≠ 0 := semi_k h.good.semi h.hb
theorem Meet.lenA {n : Nt} {a b : Int} (h : Meet n a b) : 1 ≤ (n.nd a).to.length := by have := has_iff.1 h.ha; simp only at this; omega
theorem Meet.lenB {n : Nt} {a b : Int} (h : Meet n a b) : 1 ≤ (n.nd b).to.length := h.swap.lenA
theorem portsA (a : Int) {k : Nat} (h : 1 ≤ k) : portsR a 0 k = ⟨a,0⟩ :: portsR a 1 k := by rw [portsR_cons (by omega)]; rfl
theorem portsA1 (a : Int) {k : Nat} (h : 2 ≤ k) : portsR a 1 k = ⟨a,1⟩ :: portsR a 2 k := by rw [portsR_cons (by omega)]; rfl
theorem len_of {x : Nd} {k : Nat} (h : (x.to.length : Int) = x.ports) (e : x.ports = k) : x.to.length = k := by omega
theorem to10 {x : Nd} (hm : x.may) (h : (x.to.length : Int) = x.ports) : x.to.length ≤ 10 := by have := (to_le hm (by omega)).1; omega
theorem dropN_may {z : Int} (h0 : 0 ≤ z) (h1 : z ≤ 60) : (dropN z).may :=
  ⟨by show (0 : Int) ≤ 7; omega,by show (7 : Int) ≤ 13; omega,h0,h1,fun h => by have h : (7 : Int) < 2 := h; omega,by simp [dropN],by simp [dropN],by simp [dropN],by simp [dropN],by simp [dropN],by simp [dropN],fun i a h => by simp [dropN] at h⟩
theorem appN_may {z : Int} (h0 : 0 ≤ z) (h1 : z ≤ 60) : (appN z).may :=
  ⟨by show (0 : Int) ≤ 3; omega,by show (3 : Int) ≤ 13; omega,h0,h1,fun h => by have h : (3 : Int) < 2 := h; omega,by simp [appN],by simp [appN],by simp [appN],by simp [appN],by simp [appN],by simp [appN],fun i a h => by simp [appN] at h⟩
theorem fail1_may {z : Int} (h0 : 0 ≤ z) (h1 : z ≤ 60) : (fail1 z).may :=
  ⟨by show (0 : Int) ≤ 13; omega,by show (13 : Int) ≤ 13; omega,h0,h1,fun h => by have h : (13 : Int) < 2 := h; omega,by simp [fail1],by simp [fail1],by simp [fail1],by simp [fail1],by simp [fail1],by simp [fail1],fun i a h => by simp [fail1] at h⟩
theorem appN_Ok {z : Int} (h : wf z) : (appN z).Ok := ⟨by show wf 3; decide,h,by show wf 0; decide,by simp [appN],by simp [appN],by simp [appN],by simp [appN],by simp [appN]⟩
theorem fail1_Ok {z : Int} (h : wf z) : (fail1 z).Ok := ⟨by show wf 13; decide,h,by show wf 0; decide,by simp [fail1],by simp [fail1],by simp [fail1],by simp [fail1],by simp [fail1]⟩
theorem halfN_may {x y : Nd} (hx : x.may) (hk : x.k = 11) : (halfN x y).may :=
  ⟨by show (0 : Int) ≤ 12; omega,by show (12 : Int) ≤ 13; omega,hx.lv0,hx.lv1,fun h => by have h : (12 : Int) < 2 := h; omega,by simp only [halfN]; exact ⟨fun _ => by simp,fun _ => hx.nm.2 (by simp [hk])⟩,by simp [halfN],by simp [halfN],by simp [halfN],by simp [halfN],by simp [halfN],fun i a h => by simp [halfN] at h⟩
theorem halfN_Ok {x y : Nd} (hx : x.Ok) (hy : y.Ok) : (halfN x y).Ok := ⟨by show wf 12; decide,hx.lv,hy.n,hx.s,by simp [halfN],by simp [halfN],by simp [halfN],by simp [halfN]⟩
def endL (n : Nt) (a b : Int) : List Pt := portsR a 0 (n.nd a).to.length ++ portsR b 0 (n.nd b).to.length
section
variable {n : Nt} {a b : Int}
theorem done_join (h : Meet n a b) (he : (n.nd a).to.length = (n.nd b).to.length) : Run n a b 0 (joinD n a b) (endL n a b) := by
  have hl := h.lenA
  have h1 := Run.joins h.ab (List.range' 1 ((n.nd a).to.length - 1)) h.start (List.nodup_range' ..) (fun s hs => by
    rw [List.mem_range'_1] at hs
    have e : ¬ s = 0 := by omega
    refine ⟨h.hasA (by omega),h.hasB (by omega),?_,?_⟩ <;> simp [e])
  refine h1.perm ?_
  unfold endL
  rw [← he,portsA a hl,portsA b hl]
  unfold portsR
  rw [List.perm_iff_count]; intro q; simp only [List.cons_append,List.count_cons,List.count_append,List.count_nil]; omega
theorem done_half (h : Meet n a b) (hx : (n.nd a).k = 11) (hy : (n.nd b).k = 10) (hu : n.used + 1 ≤ n.cap) : Run n a b 1 (halfD n a b) (endL n a b) := by
  obtain ⟨t,g1,g2,g3⟩ := h.start.make (halfN_Ok h.ka h.kb) (halfN_may (y := n.nd b) h.ma hx) (by show ¬ (12 : Int) = 0; omega) (by show ¬ (12 : Int) = 1; omega) (by omega)
  have e3 : (n.nd a).to.length = 3 := len_of h.pa (by unfold Nd.ports; rw [hx]; rfl)
  have e1 : (n.nd b).to.length = 1 := len_of h.pb (by unfold Nd.ports; rw [hy]; rfl)
  rw [newP2 rfl] at g3
  have ht : (makeR n (halfN (n.nd a) (n.nd b))).2.1 = t := by rw [g1]
  have a1 := h.hasA (s := 1) (by omega)
  have a2 := h.hasA (s := 2) (by omega)
  have na : a ≠ t := g2.new _ a1
  have h1 := Run.move (p := ⟨a,2⟩) (q := ⟨t,0⟩) (L := [⟨t,1⟩,⟨a,0⟩,⟨b,0⟩]) g3 ((g2.has _).2 (.inl a2)) (by simp [na]) (.inl rfl)
  have h2 := Run.move (p := ⟨a,1⟩) (q := ⟨t,1⟩) (L := [⟨a,2⟩,⟨a,0⟩,⟨b,0⟩]) (h1.perm (List.Perm.swap ..)) (by rw [(moveR_shp _ _ _).has]; exact (g2.has _).2 (.inl a1)) (by simp [na]) (.inl rfl)
  have e : halfD n a b = (moveR (moveR (makeR n (halfN (n.nd a) (n.nd b))).1 ⟨a,2⟩ ⟨t,0⟩).1 ⟨a,1⟩ ⟨t,1⟩).1 := by unfold halfD; simp only [ht]
  rw [e]
  refine h2.perm ?_
  unfold endL
  rw [e3,e1]
  show List.Perm [(⟨a,1⟩ : Pt),⟨a,2⟩,⟨a,0⟩,⟨b,0⟩] [⟨a,0⟩,⟨a,1⟩,⟨a,2⟩,⟨b,0⟩]
  rw [List.perm_iff_count]; intro q; simp only [List.count_cons,List.count_nil]; omega
theorem done_out (h : Meet n a b) (hx : (n.nd a).k = 12) (hy : (n.nd b).k = 10) {x : Nd} (h1 : x.may) (h2 : x.Ok) (h3 : x.ports = 1) (h4 : x.k ≠ 0) (h5 : x.k ≠ 1) (hu : n.used + 1 ≤ n.cap) : Run n a b 1 (outD n x a) (endL n a b) := by
  obtain ⟨t,g1,g2,g3⟩ := h.start.make h2 h1 h4 h5 (by omega)
  have e3 : (n.nd a).to.length = 2 := len_of h.pa (by unfold Nd.ports; rw [hx]; rfl)
  have e1 : (n.nd b).to.length = 1 := len_of h.pb (by unfold Nd.ports; rw [hy]; rfl)
  rw [newP1 h3] at g3
  have ht : (makeR n x).2.1 = t := by rw [g1]
  have a1 := h.hasA (s := 1) (by omega)
  have na : a ≠ t := g2.new _ a1
  have h1 := Run.move (p := ⟨a,1⟩) (q := ⟨t,0⟩) (L := [⟨a,0⟩,⟨b,0⟩]) g3 ((g2.has _).2 (.inl a1)) (by simp [na]) (.inl rfl)
  have e : outD n x a = (moveR (makeR n x).1 ⟨a,1⟩ ⟨t,0⟩).1 := by unfold outD; simp only [ht]
  rw [e]
  refine h1.perm ?_
  unfold endL
  rw [e3,e1]
  show List.Perm [(⟨a,1⟩ : Pt),⟨a,0⟩,⟨b,0⟩] [⟨a,0⟩,⟨a,1⟩,⟨b,0⟩]
  exact List.Perm.swap ..
theorem done_drop (h : Meet n a b) (hx : (n.nd a).k = 7) (hu : n.used + ((n.nd b).to.length - 1) ≤ n.cap) : Run n a b ((n.nd b).to.length - 1) (dropD n a b) (endL n a b) := by
  have hl := h.lenB
  have e1 : (n.nd a).to.length = 1 := len_of h.pa (by unfold Nd.ports; rw [hx]; rfl)
  have el : (portsR b 1 (n.nd b).to.length).length = (n.nd b).to.length - 1 := portsR_len _ _ _
  obtain ⟨g1,g2,g3⟩ := h.start.likes (dropN_Ok h.ka.lv) (dropN_may h.ma.lv0 h.ma.lv1) (by show ¬ (7 : Int) = 0; omega) (by show ¬ (7 : Int) = 1; omega) (by show (0 : Int) < 1; omega) ((portsR b 1 (n.nd b).to.length).length) (by omega)
  rw [flat1 rfl] at g3
  have h1 := Run.moves (portsR b 1 (n.nd b).to.length) (likeR n (dropN (n.nd a).lv) (portsR b 1 (n.nd b).to.length).length).2 g3 g2.symm (portsR_nodup _ _ _) (fun p hp => by
    obtain ⟨q1,q2,q3⟩ := mem_portsR.1 hp
    have hh : n.has p = true := has_iff.2 ⟨by rw [q1]; exact h.b0,by rw [q1]; exact h.b1,by omega,by rw [q1]; omega⟩
    refine ⟨(g1.has p).2 (.inl hh),?_,fun hd => g1.new _ hd p hh rfl,.inr q1⟩
    have : ¬ p.s = 0 := by omega
    simp only [List.mem_cons,List.not_mem_nil,or_false,not_or]
    exact ⟨fun e => this (by rw [e]),fun e => this (by rw [e])⟩)
  have e : (0 : Int) + ((portsR b 1 (n.nd b).to.length).length : Nat) = (n.nd b).to.length - 1 := by omega
  rw [e] at h1
  refine Run.perm (n := dropD n a b) h1 ?_
  unfold endL
  rw [portsA b hl,e1]
  show List.Perm _ ([(⟨a,0⟩ : Pt)] ++ _)
  rw [List.perm_iff_count]; intro q; simp only [List.cons_append,List.count_cons,List.count_append,List.count_nil]; omega
theorem done_fail (h : Meet n a b) (hx : 2 ≤ (n.nd a).to.length) (hu : n.used + (1 + ((n.nd a).to.length - 2) + ((n.nd b).to.length - 1)) ≤ n.cap) : Run n a b (1 + ((n.nd a).to.length - 2) + ((n.nd b).to.length - 1)) (failD n a b) (endL n a b) := by
  have hl := h.lenB
  obtain ⟨t,g1,g2,g3⟩ := h.start.make (fail1_Ok h.ka.lv) (fail1_may h.ma.lv0 h.ma.lv1) (by show ¬ (13 : Int) = 0; omega) (by show ¬ (13 : Int) = 1; omega) (by omega)
  rw [newP1 rfl] at g3
  have ht : (makeR n (fail1 (n.nd a).lv)).2.1 = t := by rw [g1]
  obtain ⟨m,hm⟩ : ∃ m,(makeR n (fail1 (n.nd a).lv)).1 = m := ⟨_,rfl⟩
  rw [hm] at g2 g3
  have na : a ≠ t := g2.new _ h.ha
  have nb : b ≠ t := g2.new _ h.hb
  have ea : m.nd a = n.nd a := g2.oth a h.a0 na
  have eb : m.nd b = n.nd b := g2.oth b h.b0 nb
  have ef : failD n a b = runs (moveR (likeR m (dropN (n.nd a).lv) (portsR a 2 (n.nd a).to.length ++ portsR b 1 (n.nd b).to.length).length).1 ⟨a,1⟩ ⟨t,0⟩).1
      (dropOps (portsR a 2 (n.nd a).to.length ++ portsR b 1 (n.nd b).to.length) (likeR m (dropN (n.nd a).lv) (portsR a 2 (n.nd a).to.length ++ portsR b 1 (n.nd b).to.length).length).2) := by
    unfold failD; simp only [hm,ht,ea,eb]
  obtain ⟨l,hl0⟩ : ∃ l,portsR a 2 (n.nd a).to.length ++ portsR b 1 (n.nd b).to.length = l := ⟨_,rfl⟩
  rw [hl0] at ef
  have el : l.length = (n.nd a).to.length - 2 + ((n.nd b).to.length - 1) := by rw [← hl0,List.length_append,portsR_len,portsR_len]
  have hmem : ∀ p ∈ l,(p.n = a ∧ 2 ≤ p.s ∧ p.s < (n.nd a).to.length) ∨ (p.n = b ∧ 1 ≤ p.s ∧ p.s < (n.nd b).to.length) := fun p hp => by
    rw [← hl0,List.mem_append,mem_portsR,mem_portsR] at hp; exact hp
  have hnod : l.Nodup := by
    rw [← hl0,List.nodup_append]
    refine ⟨portsR_nodup _ _ _,portsR_nodup _ _ _,fun p hp q hq e => ?_⟩
    subst e
    exact h.ab ((mem_portsR.1 hp).1.symm.trans (mem_portsR.1 hq).1)
  obtain ⟨k1,k2,k3⟩ := g3.likes (dropN_Ok h.ka.lv) (dropN_may h.ma.lv0 h.ma.lv1) (by show ¬ (7 : Int) = 0; omega) (by show ¬ (7 : Int) = 1; omega) (by show (0 : Int) < 1; omega) l.length (by omega)
  rw [flat1 rfl] at k3
  obtain ⟨⟨m2,ds⟩,hr⟩ : ∃ r,likeR m (dropN (n.nd a).lv) l.length = r := ⟨_,rfl⟩
  rw [hr] at k1 k2 k3 ef
  simp only at k1 k2 k3 ef
  have a1 := h.hasA (s := 1) (by omega)
  have a1m : m.has ⟨a,1⟩ = true := (g2.has _).2 (.inl a1)
  have had : a ∉ ds := fun hd => k1.new _ hd _ a1m rfl
  have hbd : b ∉ ds := fun hd => k1.new _ hd _ ((g2.has _).2 (.inl h.hb)) rfl
  have htd : t ∉ ds := fun hd => k1.new _ hd ⟨t,0⟩ ((g2.has _).2 (.inr ⟨rfl,by simp,by show (0 : Int) < 1; omega⟩)) rfl
  have h1 := Run.move (p := ⟨a,1⟩) (q := ⟨t,0⟩) (L := ds.map (fun d => (⟨d,0⟩ : Pt)) ++ [⟨a,0⟩,⟨b,0⟩]) (k3.perm (by
    rw [List.perm_iff_count]; intro q; simp only [List.cons_append,List.count_cons,List.count_append,List.count_nil,List.nil_append]; omega)) ((k1.has _).2 (.inl a1m)) (by
      simp only [List.mem_cons,List.mem_append,List.mem_map,Pt.mk.injEq,na,false_and,List.not_mem_nil,or_false,false_or,not_or,not_exists,not_and]
      refine ⟨fun x hx e => absurd (e ▸ hx) had,by simp,by simp⟩) (.inl rfl)
  have h2 := Run.moves l ds (L := [⟨a,1⟩,⟨a,0⟩,⟨b,0⟩]) (h1.perm (by
    rw [List.perm_iff_count]; intro q; simp only [List.cons_append,List.count_cons,List.count_append,List.count_nil,List.nil_append]; omega)) k2.symm hnod (fun p hp => by
      have hp2 := hmem p hp
      have hh : n.has p = true := by
        rcases hp2 with ⟨q1,q2,q3⟩ | ⟨q1,q2,q3⟩
        · exact has_iff.2 ⟨by rw [q1]; exact h.a0,by rw [q1]; exact h.a1,by omega,by rw [q1]; omega⟩
        · exact has_iff.2 ⟨by rw [q1]; exact h.b0,by rw [q1]; exact h.b1,by omega,by rw [q1]; omega⟩
      refine ⟨by rw [(moveR_shp _ _ _).has]; exact (k1.has p).2 (.inl ((g2.has p).2 (.inl hh))),?_,?_,hp2.imp (·.1) (·.1)⟩
      · simp only [List.mem_cons,List.not_mem_nil,or_false,not_or]
        have hab := h.ab
        refine ⟨fun e => ?_,fun e => ?_,fun e => ?_⟩ <;> rw [e] at hp2 <;> simp only at hp2 <;> omega
      · intro hd
        exact k1.new _ hd p ((g2.has p).2 (.inl hh)) rfl)
  rw [← ef] at h2
  have e : (0 : Int) + 1 + (l.length : Nat) = 1 + ((n.nd a).to.length - 2) + ((n.nd b).to.length - 1) := by omega
  rw [e] at h2
  refine Run.perm h2 ?_
  unfold endL
  rw [portsA b hl,portsA a (by omega),portsA1 a (by omega),← hl0]
  rw [List.perm_iff_count]; intro q; simp only [List.cons_append,List.count_cons,List.count_append,List.count_nil]; omega
end
end Go.Proofs.Ytkpfjolcmkikeaa
end
section
set_option linter.unusedSimpArgs false
set_option linter.unusedVariables false
set_option maxHeartbeats 4000000
namespace Go.Proofs.Ytkpfjolcmkikeaa
open Go.Fx
section
variable {n : Nt} {a b : Int}
theorem rest_perm {l : List Pt} (hn : l.Nodup) {q : Pt} (hq : q ∈ l) : l.Perm (q :: l.filter fun r => !decide (r = q)) := by
  refine (List.perm_ext_iff_of_nodup hn (List.nodup_cons.2 ⟨by simp,hn.sublist List.filter_sublist⟩)).2 fun r => ?_
  simp only [List.mem_cons,List.mem_filter,Bool.not_eq_true',decide_eq_false_iff_not]
  constructor
  · intro h
    by_cases e : r = q
    · exact .inl e
    · exact .inr ⟨h,e⟩
  · rintro (h | h)
    · rw [h]; exact hq
    · exact h.1
theorem done_pick (h : Meet n a b) (hx : (n.nd a).k = 9) (hy : (n.nd b).k = 8) {i : Nat} {A : Ar} (hA : (n.nd a).al[i]? = some A) (hN : A.n = ((n.nd b).to.length : Int) - 1) (hu : n.used + (A.n + (n.nd a).al.length - 1) ≤ n.cap) :
    Run n a b (A.n + (n.nd a).al.length - 1) (pickD n i a b) (endL n a b) := by
  have hl := h.lenB
  have hil := (List.getElem?_eq_some_iff.1 hA).1
  have e1 : (n.nd a).to.length = 2 + (n.nd a).al.length := by
    have := h.pa
    unfold Nd.ports at this; rw [hx] at this
    simp at this; omega
  have hA2 : (n.nd a).al.getD i zA = A := by rw [List.getD_eq_getElem?_getD,hA]; rfl
  obtain ⟨k,hk⟩ : ∃ k : Nat,A.n = k := ⟨A.n.toNat,by omega⟩
  have el : (n.nd b).to.length = k + 1 := by omega
  obtain ⟨g1,g2,g3⟩ := h.start.likes (appN_Ok h.ka.lv) (appN_may h.ma.lv0 h.ma.lv1) (by show ¬ (3 : Int) = 0; omega) (by show ¬ (3 : Int) = 1; omega) (by show (0 : Int) < 3; omega) k (by omega)
  obtain ⟨⟨m,apps⟩,hr⟩ : ∃ r,likeR n (appN (n.nd a).lv) k = r := ⟨_,rfl⟩
  rw [hr] at g1 g2 g3
  simp only at g1 g2 g3
  have haa : a ∉ apps := fun hd => g1.new _ hd _ h.ha rfl
  have hba : b ∉ apps := fun hd => g1.new _ hd _ h.hb rfl
  have ea : m.nd a = n.nd a := g1.oth a h.a0 haa
  obtain ⟨l,hl0⟩ : ∃ l,restR m a i = l := ⟨_,rfl⟩
  have hl1 : l = (portsR a 2 (n.nd a).to.length).filter fun r => !decide (r = ⟨a,(i : Int) + 2⟩) := by rw [← hl0]; unfold restR; rw [ea]
  have hq2 : (⟨a,(i : Int) + 2⟩ : Pt) ∈ portsR a 2 (n.nd a).to.length := mem_portsR.2 ⟨rfl,by simp only; omega,by simp only; omega⟩
  have hpl := rest_perm (portsR_nodup a 2 (n.nd a).to.length) hq2
  rw [← hl1] at hpl
  have hll : l.length = (n.nd a).al.length - 1 := by
    have := hpl.length_eq
    rw [portsR_len,List.length_cons] at this; omega
  have hnl : l.Nodup := (List.nodup_cons.1 (hpl.nodup_iff.1 (portsR_nodup _ _ _))).2
  have hql : (⟨a,(i : Int) + 2⟩ : Pt) ∉ l := (List.nodup_cons.1 (hpl.nodup_iff.1 (portsR_nodup _ _ _))).1
  have hml : ∀ p ∈ l,p.n = a ∧ 2 ≤ p.s ∧ p.s < (n.nd a).to.length ∧ p ≠ ⟨a,(i : Int) + 2⟩ := fun p hp => by
    have h1 := mem_portsR.1 (hpl.mem_iff.2 (List.mem_cons_of_mem _ hp))
    exact ⟨h1.1,h1.2.1,h1.2.2,fun e => hql (e ▸ hp)⟩
  obtain ⟨k1,k2,k3⟩ := g3.likes (dropN_Ok h.ka.lv) (dropN_may h.ma.lv0 h.ma.lv1) (by show ¬ (7 : Int) = 0; omega) (by show ¬ (7 : Int) = 1; omega) (by show (0 : Int) < 1; omega) l.length (by omega)
  rw [flat1 rfl] at k3
  obtain ⟨⟨m2,ds⟩,hr2⟩ : ∃ r,likeR m (dropN (n.nd a).lv) l.length = r := ⟨_,rfl⟩
  rw [hr2] at k1 k2 k3
  simp only at k1 k2 k3
  have hm : ∀ p,n.has p = true → m2.has p = true := fun p hp => (k1.has p).2 (.inl ((g1.has p).2 (.inl hp)))
  have had : a ∉ ds := fun hd => k1.new _ hd _ ((g1.has _).2 (.inl h.ha)) rfl
  have hbd : b ∉ ds := fun hd => k1.new _ hd _ ((g1.has _).2 (.inl h.hb)) rfl
  have hdd : ∀ d ∈ apps,d ∉ ds := fun d hd hd2 => k1.new _ hd2 ⟨d,0⟩ ((g1.has _).2 (.inr ⟨hd,by simp,by show (0 : Int) < 3; omega⟩)) rfl
  have a1 := h.hasA (s := 1) (by omega)
  have aq : n.has ⟨a,(i : Int) + 2⟩ = true := by have := h.hasA (s := i + 2) (by omega); exact this
  have nds : ∀ (u v : Int),u = a ∨ u = b → (⟨u,v⟩ : Pt) ∉ ds.map fun d => (⟨d,0⟩ : Pt) := fun u v hu hm => by
    simp only [List.mem_map,Pt.mk.injEq] at hm
    obtain ⟨x,hx,e,_⟩ := hm
    rcases hu with hu | hu
    · exact had (hu ▸ e ▸ hx)
    · exact hbd (hu ▸ e ▸ hx)
  have hab := h.ab
  have hba' : ¬ b = a := fun e => hab e.symm
  have i0 : ¬ (i : Int) + 2 = 0 := by omega
  have i1 : ¬ (i : Int) + 2 = 1 := by omega
  have fin : ∀ (m3 : Nt),(∀ p,n.has p = true → m3.has p = true) → Run n a b (0 + k + l.length) m3 (ds.map (fun d => (⟨d,0⟩ : Pt)) ++ (⟨a,1⟩ :: ⟨a,(i : Int) + 2⟩ :: (portsR b 1 (k + 1) ++ [⟨a,0⟩,⟨b,0⟩]))) →
      Run n a b (A.n + (n.nd a).al.length - 1) (runs m3 (dropOps l ds)) (endL n a b) := by
    intro m3 hm3 hR
    have h2 := Run.moves l ds hR k2.symm hnl (fun p hp => by
      obtain ⟨q1,q2,q3,q4⟩ := hml p hp
      refine ⟨hm3 p (has_iff.2 ⟨by rw [q1]; exact h.a0,by rw [q1]; exact h.a1,by omega,by rw [q1]; omega⟩),?_,by rw [q1]; exact had,.inl q1⟩
      simp only [List.mem_cons,List.mem_append,mem_portsR,List.not_mem_nil,or_false,not_or]
      refine ⟨fun e => ?_,q4,fun e => ?_,fun e => ?_,fun e => ?_⟩
      · rw [e] at q2; simp only at q2; omega
      · rw [q1] at e; exact hab e.1
      · rw [e] at q2; simp only at q2; omega
      · rw [e] at q1; exact hba' q1)
    have e : (0 : Int) + k + (l.length : Nat) = A.n + (n.nd a).al.length - 1 := by omega
    rw [e] at h2
    refine Run.perm h2 ?_
    unfold endL
    rw [portsA b hl,portsA a (by omega),portsA1 a (by omega),el]
    rw [List.perm_iff_count]; intro q
    have hc := List.perm_iff_count.1 hpl q
    simp only [List.cons_append,List.count_cons,List.count_append,List.count_nil] at hc ⊢
    rw [hc]; omega
  cases apps with
  | nil =>
    have hk0 : k = 0 := by rw [← g2]; rfl
    subst hk0
    have e : pickD n i a b = runs (joinR m2 ⟨a,(i : Int) + 2⟩ ⟨a,1⟩).1 (dropOps l ds) := by
      unfold pickD
      simp only [Int.toNat_natCast,hA2,hk,hr,hl0,ea,hr2]
      rfl
    rw [e]
    have h1 := k3.join (p := ⟨a,(i : Int) + 2⟩) (q := ⟨a,1⟩) (hm _ aq) (hm _ a1) (by
      simp only [List.flatMap_nil,List.nil_append,List.mem_append,List.mem_cons,Pt.mk.injEq,i0,hab,and_false,false_and,List.not_mem_nil,or_false]; exact nds _ _ (.inl rfl)) (by
      simp only [List.flatMap_nil,List.nil_append,List.mem_append,List.mem_cons,Pt.mk.injEq,hab,and_false,false_and,List.not_mem_nil,or_false,not_or]; exact ⟨nds _ _ (.inl rfl),by omega⟩) (by
      intro e; simp only [Pt.mk.injEq] at e; exact i1 e.2) (.inl rfl) (.inl rfl)
    refine fin _ (fun p hp => by rw [(joinR_shp _ _ _).has]; exact hm p hp) (h1.perm ?_)
    rw [portsR_nil (by omega)]
    rw [List.perm_iff_count]; intro q; simp only [List.flatMap_nil,List.nil_append,List.cons_append,List.count_cons,List.count_append,List.count_nil]; omega
  | cons d r =>
    have e : pickD n i a b = runs (runs (moveR m2 ⟨a,(i : Int) + 2⟩ ⟨d,0⟩).1 (pickOps a b 0 (d :: r))) (dropOps l ds) := by
      unfold pickD
      simp only [Int.toNat_natCast,hA2,hk,hr,hl0,ea,hr2]
    rw [e]
    rw [List.flatMap_cons,newP3 rfl] at k3
    have nrr : ∀ (u v : Int),u = a ∨ u = b → (⟨u,v⟩ : Pt) ∉ r.flatMap (newP (appN (n.nd a).lv)) := fun u v hu hm => by
      obtain ⟨t,ht,hs⟩ := List.mem_flatMap.1 hm
      have this : u = t := (mem_portsR.1 hs).1
      rcases hu with hu | hu
      · exact haa (List.mem_cons_of_mem _ (by rw [← hu,this]; exact ht))
      · exact hba (List.mem_cons_of_mem _ (by rw [← hu,this]; exact ht))
    have had' : ¬ a = d := fun e => haa (by simp [e])
    have hbd' : ¬ b = d := fun e => hba (by simp [e])
    have h1 := Run.move (p := ⟨a,(i : Int) + 2⟩) (q := ⟨d,0⟩) (L := ⟨d,1⟩ :: ⟨d,2⟩ :: (r.flatMap (newP (appN (n.nd a).lv)) ++ (ds.map (fun d => (⟨d,0⟩ : Pt)) ++ [⟨a,0⟩,⟨b,0⟩]))) (k3.perm (by
      rw [List.perm_iff_count]; intro q; simp only [List.nil_append,List.cons_append,List.count_cons,List.count_append,List.count_nil]; omega)) (hm _ aq) (by
        simp only [List.mem_append,List.mem_cons,Pt.mk.injEq,i0,hab,had',and_false,false_and,List.not_mem_nil,or_false,false_or,not_or]; exact ⟨nrr _ _ (.inl rfl),nds _ _ (.inl rfl)⟩) (.inl rfl)
    have h2 := Run.picks (apps := []) (lv := (n.nd a).lv) r d 0 (L := ⟨a,(i : Int) + 2⟩ :: (ds.map (fun d => (⟨d,0⟩ : Pt)) ++ [⟨a,0⟩,⟨b,0⟩])) (h1.perm (by
      rw [List.perm_iff_count]; intro q; simp only [List.nil_append,List.cons_append,List.count_cons,List.count_append,List.count_nil]; omega)) (fun s s1 s2 => by
        have hlen : r.length + 1 = k := by rw [← g2]; rfl
        refine ⟨by rw [(moveR_shp _ _ _).has]; exact hm _ (h.hasB (by omega)),?_⟩
        have s0 : ¬ (s : Int) = 0 := by omega
        simp only [List.mem_append,List.mem_cons,Pt.mk.injEq,s0,hba',and_false,false_and,List.not_mem_nil,or_false,false_or]; exact nds _ _ (.inr rfl)) (by rw [(moveR_shp _ _ _).has]; exact hm _ a1) (by
        simp only [List.mem_append,List.mem_cons,Pt.mk.injEq,hab,false_and,List.not_mem_nil,or_false,true_and,not_or]
        exact ⟨by omega,nds _ _ (.inl rfl),by omega⟩) haa hba hab
    have hlen : r.length + 1 = k := by rw [← g2]; rfl
    refine fin _ (fun p hp => by rw [(runs_shp _ _).has,(moveR_shp _ _ _).has]; exact hm p hp) (h2.perm ?_)
    rw [show 0 + 2 + r.length = k + 1 by omega]
    rw [List.perm_iff_count]; intro q; simp only [Nat.zero_add,List.nil_append,List.cons_append,List.count_cons,List.count_append,List.count_nil]; omega
theorem lv_may {y : Nd} (hy : y.may) {lv : Int} (h0 : 0 ≤ lv) (h1 : lv ≤ 60) (hk : ¬ y.k < 2) : ({ y with lv := lv } : Nd).may :=
  ⟨hy.k0,hy.k1,h0,h1,fun h => absurd h hk,hy.nm,hy.nn,hy.to8,hy.al9,hy.aln,hy.al8,hy.alt⟩
theorem cls_ne {k : Int} (h : cls k ≠ 0) : k ≠ 0 ∧ k ≠ 1 ∧ ¬ k < 2 := by
  have h1 := cls_1 k
  have h2 := cls_2 k
  have h3 := cls_3 k
  have h4 := cls_4 k
  have h5 := cls_le k
  omega
theorem done_pass (h : Meet n a b) {lv : Int} (hx : cls (n.nd a).k = 3) (hy : cls (n.nd b).k ≠ 0) (h0 : 0 ≤ lv) (h1 : lv ≤ 60) (hu : n.used + (((n.nd a).to.length - 1 : Int) + ((n.nd b).to.length - 1)) ≤ n.cap) :
    Run n a b (((n.nd a).to.length - 1 : Int) + ((n.nd b).to.length - 1)) (passD n lv a b) (endL n a b) := by
  have la := h.lenA
  have lb := h.lenB
  obtain ⟨c0,c1,c2⟩ := cls_ne hy
  obtain ⟨x0,x1,x2⟩ := cls_ne (k := (n.nd a).k) (by omega)
  have hab := h.ab
  have hba' : ¬ b = a := fun e => hab e.symm
  obtain ⟨y,hy0⟩ : ∃ y : Nd,({ n.nd b with lv := lv } : Nd) = y := ⟨_,rfl⟩
  have yk : y.k = (n.nd b).k := by rw [← hy0]
  have yt : y.to = (n.nd b).to := by rw [← hy0]
  have yp : y.ports = (n.nd b).ports := by rw [← hy0]; rfl
  have ym : y.may := by rw [← hy0]; exact lv_may h.mb h0 h1 c2
  have yo : y.Ok := by rw [← hy0]; exact lv_Ok h.kb (by unfold wf; omega)
  have pa := h.pa
  have pb := h.pb
  obtain ⟨g1,g2,g3⟩ := h.start.likes yo ym (by rw [yk]; exact c0) (by rw [yk]; exact c1) (by rw [yp]; omega) ((n.nd a).to.length - 1) (by omega)
  obtain ⟨⟨m,cs⟩,hr⟩ : ∃ r,likeR n y ((n.nd a).to.length - 1) = r := ⟨_,rfl⟩
  rw [hr] at g1 g2 g3
  simp only at g1 g2 g3
  obtain ⟨k1,k2,k3⟩ := g3.likes h.ka h.ma x0 x1 (by omega) ((n.nd b).to.length - 1) (by omega)
  obtain ⟨⟨m2,ds⟩,hr2⟩ : ∃ r,likeR m (n.nd a) ((n.nd b).to.length - 1) = r := ⟨_,rfl⟩
  rw [hr2] at k1 k2 k3
  simp only at k1 k2 k3
  have hm : ∀ p,n.has p = true → m2.has p = true := fun p hp => (k1.has p).2 (.inl ((g1.has p).2 (.inl hp)))
  have hac : a ∉ cs := fun hd => g1.new _ hd _ h.ha rfl
  have hbc : b ∉ cs := fun hd => g1.new _ hd _ h.hb rfl
  have had : a ∉ ds := fun hd => k1.new _ hd _ ((g1.has _).2 (.inl h.ha)) rfl
  have hbd : b ∉ ds := fun hd => k1.new _ hd _ ((g1.has _).2 (.inl h.hb)) rfl
  have e : passD n lv a b = runs (runs m2 (dropOps (portsR a 1 (n.nd a).to.length) cs)) (passOps b cs 0 ds) := by
    unfold passD; simp only [hy0,hr,yt,hr2]
  rw [e]
  have ey : (newP y) = fun d => (⟨d,0⟩ : Pt) :: portsR d 1 (n.nd b).to.length := by
    funext d
    unfold newP
    rw [yp,show (n.nd b).ports.toNat = (n.nd b).to.length by omega,portsA d lb]
  have p1 := flat_cons (fun d : Int => (⟨d,0⟩ : Pt)) (fun d => portsR d 1 (n.nd b).to.length) cs
  rw [ey] at k3
  have nin : ∀ (u v : Int) (f : Int → List Pt) (l : List Int),(∀ d p,p ∈ f d → p.n = d) → u ∉ l → (⟨u,v⟩ : Pt) ∉ l.flatMap f := fun u v f l hf hu hm => by
    obtain ⟨t,ht,hs⟩ := List.mem_flatMap.1 hm
    have := hf t _ hs
    simp only at this
    exact hu (this ▸ ht)
  have h1 := Run.moves (portsR a 1 (n.nd a).to.length) cs (L := ds.flatMap (newP (n.nd a)) ++ ((cs.flatMap fun d => portsR d 1 (n.nd b).to.length) ++ [⟨a,0⟩,⟨b,0⟩])) (k3.perm (by
    rw [List.perm_iff_count]; intro q
    have := List.perm_iff_count.1 p1 q
    simp only [List.nil_append,List.cons_append,List.count_cons,List.count_append,List.count_nil] at this ⊢; omega)) (by rw [portsR_len]; exact g2.symm) (portsR_nodup _ _ _) (fun p hp => by
      obtain ⟨q1,q2,q3⟩ := mem_portsR.1 hp
      obtain ⟨u,v⟩ := p
      simp only at q1 q2 q3
      subst q1
      refine ⟨hm _ (has_iff.2 ⟨h.a0,h.a1,by simp only; omega,by simp only; omega⟩),?_,hac,.inl rfl⟩
      have v0 : ¬ v = 0 := by omega
      simp only [List.mem_append,List.mem_cons,Pt.mk.injEq,v0,and_false,List.not_mem_nil,or_false,not_or]
      exact ⟨nin _ _ _ _ (fun d p hp => (mem_portsR.1 hp).1) had,nin _ _ _ _ (fun d p hp => (mem_portsR.1 hp).1) hac⟩)
  have h2 := Run.passes (x := n.nd a) (cs := cs) (by omega) ds 0 (L := portsR a 1 (n.nd a).to.length ++ [⟨a,0⟩,⟨b,0⟩]) (h1.perm (by
    rw [show 0 + 1 + ds.length = (n.nd b).to.length by omega]
    rw [List.perm_iff_count]; intro q
    simp only [List.nil_append,List.cons_append,List.count_cons,List.count_append,List.count_nil,Nat.zero_add]; omega)) (fun s s1 s2 => by
      refine ⟨by rw [(runs_shp _ _).has]; exact hm _ (h.hasB (by omega)),?_⟩
      have s0 : ¬ (s : Int) = 0 := by omega
      simp only [List.mem_append,List.mem_cons,mem_portsR,Pt.mk.injEq,s0,hba',false_and,and_false,List.not_mem_nil,or_false,not_false_eq_true]) hbd hbc
  have ec : (0 : Int) + (((n.nd a).to.length - 1 : Nat) : Int) + (((n.nd b).to.length - 1 : Nat) : Int) = ((n.nd a).to.length - 1 : Int) + ((n.nd b).to.length - 1) := by omega
  rw [ec] at h2
  refine Run.perm h2 ?_
  unfold endL
  rw [portsA b lb,portsA a la,show 0 + 1 + ds.length = (n.nd b).to.length by omega]
  rw [List.perm_iff_count]; intro q; simp only [List.nil_append,List.cons_append,List.count_cons,List.count_append,List.count_nil,Nat.zero_add]; omega
theorem done_run (h : Meet n a b) {p : Pl} (hp : PlanX (n.nd a) (n.nd b) p) (hu : n.used + needX p (n.nd a) (n.nd b) ≤ n.cap) : Run n a b (needX p (n.nd a) (n.nd b)) (doneR n p a b) (endL n a b) := by
  have la := h.lenA
  have lb := h.lenB
  have ta := to10 h.ma h.pa
  have tb := to10 h.mb h.pb
  have oa : oth (n.nd a) = (n.nd a).to.length - 1 := by rw [oth_in (by omega)]; omega
  have ob : oth (n.nd b) = (n.nd b).to.length - 1 := by rw [oth_in (by omega)]; omega
  have pa := h.pa
  have pb := h.pb
  cases hp with
  | beta h1 hx hy =>
    have e : needX p (n.nd a) (n.nd b) = 0 := by unfold needX; rw [h1]; simp
    have e2 : doneR n p a b = joinD n a b := by unfold doneR; rw [h1]; simp
    rw [e,e2]
    refine done_join h ?_
    unfold Nd.ports at pa pb; rw [hx] at pa; rw [hy] at pb
    simp at pa pb; omega
  | join h1 hx hy =>
    have e : needX p (n.nd a) (n.nd b) = 0 := by unfold needX; rw [h1]; simp
    have e2 : doneR n p a b = joinD n a b := by unfold doneR; rw [h1]; simp
    rw [e,e2]
    refine done_join h ?_
    have hx2 := (cls_3 _).1 hx
    have e3 : (n.nd a).ports = (n.nd b).ports := by
      unfold Nd.ports; rw [← hy]
      rcases hx2 with h | h | h <;> rw [h] <;> simp
    omega
  | pick i A h1 hx hy h2 h3 h4 =>
    have hil := (List.getElem?_eq_some_iff.1 h3).1
    have hal := h.ma.al8
    have hA2 : (n.nd a).al.getD i zA = A := by rw [List.getD_eq_getElem?_getD,h3]; rfl
    have e : needX p (n.nd a) (n.nd b) = A.n + (n.nd a).al.length - 1 := by
      unfold needX; rw [if_pos h1,if_neg (by omega),h2,Int.toNat_natCast,hA2,wr_in (z := A.n + (n.nd a).al.length) (by omega),wr_in (by omega)]
    have e2 : doneR n p a b = pickD n i a b := by unfold doneR; rw [h1,h2]; simp
    rw [e] at hu ⊢
    rw [e2]
    exact done_pick h hx hy h3 h4 hu
  | half h1 hx hy =>
    have e : needX p (n.nd a) (n.nd b) = 1 := by unfold needX; rw [h1]; simp
    have e2 : doneR n p a b = halfD n a b := by unfold doneR; rw [h1]; simp
    rw [e] at hu ⊢
    rw [e2]
    exact done_half h hx hy hu
  | out h1 hx hy g1 g2 g3 g4 g5 =>
    have e : needX p (n.nd a) (n.nd b) = 1 := by unfold needX; rw [h1]; simp
    have e2 : doneR n p a b = outD n p.nd a := by unfold doneR; rw [h1]; simp
    rw [e] at hu ⊢
    rw [e2]
    exact done_out h hx hy g1 g2 g3 g4 g5 hu
  | fail h1 hx hy =>
    have hx2 := (cls_1 _).1 hx
    have hal := h.ma.al8
    have l2 : 2 ≤ (n.nd a).to.length := by
      unfold Nd.ports at pa
      rcases hx2 with h | h | h | h <;> rw [h] at pa <;> simp at pa <;> omega
    have e : needX p (n.nd a) (n.nd b) = 1 + ((n.nd a).to.length - 2) + ((n.nd b).to.length - 1) := by
      unfold needX; rw [h1]
      simp only [Int.reduceEq,if_false,or_self,if_true]
      rw [oa,ob,wr_in (z := (n.nd a).to.length - 1 - 1) (by omega),wr_in (z := 1 + max ((n.nd a).to.length - 1 - 1 : Int) 0) (by omega),wr_in (by omega)]
      omega
    have e2 : doneR n p a b = failD n a b := by unfold doneR; rw [h1]; simp
    rw [e] at hu ⊢
    rw [e2]
    exact done_fail h l2 hu
  | pass h1 hx hy g1 g2 =>
    have hx2 := (cls_3 _).1 hx
    have e : needX p (n.nd a) (n.nd b) = ((n.nd a).to.length - 1 : Int) + ((n.nd b).to.length - 1) := by
      unfold needX; rw [h1]
      simp only [Int.reduceEq,if_false,or_self,if_true]
      rw [ob]
      unfold Nd.ports at pa
      by_cases h4 : (n.nd a).k = 4
      · rw [if_pos h4,wr_in (by omega)]
        rw [h4] at pa; simp at pa; omega
      · rw [if_neg h4,wr_in (by omega)]
        rcases hx2 with h | h | h
        · exact absurd h h4
        · rw [h] at pa; simp at pa; omega
        · rw [h] at pa; simp at pa; omega
    have e2 : doneR n p a b = passD n p.lv a b := by unfold doneR; rw [h1]; simp
    rw [e] at hu ⊢
    rw [e2]
    exact done_pass h hx hy g1 g2 hu
  | drop h1 hx hy =>
    have e : needX p (n.nd a) (n.nd b) = (n.nd b).to.length - 1 := by unfold needX; rw [h1]; simp [ob]
    have e2 : doneR n p a b = dropD n a b := by unfold doneR; rw [h1]; simp
    rw [e] at hu ⊢
    rw [e2]
    exact done_drop h hx hu
end
end Go.Proofs.Ytkpfjolcmkikeaa
end
section
set_option linter.unusedSimpArgs false
set_option linter.unusedVariables false
set_option maxHeartbeats 4000000
set_option maxRecDepth 10000
namespace Go.Proofs.Ytkpfjolcmkikeaa
open Go.Fx
theorem Meet.two {n : Nt} {a b : Int} (h : Meet n a b) : Two n a b 4000 :=
  ⟨h.ok,good_big h.good,h.a0,h.a1,h.b0,h.b1,by have := to10 h.ma h.pa; omega,by have := to10 h.mb h.pb; omega,h.kA,h.kB⟩
theorem freeR_Ok {n : Nt} (hn : n.Ok) (i : Int) : (freeR n i).1.Ok ∧ (freeR n i).1.ns.length ≤ n.ns.length := by
  unfold freeR
  split
  · exact ⟨free_Ok hn i,free_len n i⟩
  · exact ⟨hn,Nat.le_refl _⟩
theorem aDo_ok {ks : Key} {n : Nt} {pl : Pl} {a b : Int} {σ : St} (hM : Meet n a b) (hp : PlanX (n.nd a) (n.nd b) pl) (hu : n.used + needX pl (n.nd a) (n.nd b) ≤ n.cap) (h : SG ks n pl a b σ) :
    ∃ σ',eS S (.f 73) [.a (.ptr ks 0 0)] σ = some (.u,σ') ∧ SG ks (stepR n pl a b) pl a b σ' ∧ Fr ks σ σ' := by
  have hT := hM.two
  have hR := done_run hM hp hu
  have hbig := semi_big hR.semi
  have s0 := h.bs
  simp only [stg,List.map_cons,List.map_nil] at s0
  have hmx : (if b > a then b else a) = max a b := by omega
  have hmn : (if b < a then b else a) = min a b := by omega
  obtain ⟨Z,hZ⟩ : ∃ Z : C,(.seq (.reg [
ir 58 (.mv (.t 0)),ir 59 (.nck (.t 58)),ir 60 (.fad 12 (.t 59)),ir 61 (.ld 1 false (.t 60)),ir 62 (.mv (.t 0)),ir 63 (.nck (.t 62)),ir 64 (.fad 13 (.t 63)),ir 65 (.ld 1 false (.t 64)),ir 66 (.mx (.t 61) (.t 65)),
ir 67 (.mv (.t 0)),ir 68 (.nck (.t 67)),ir 69 (.fad 12 (.t 68)),ir 70 (.ld 1 false (.t 69)),ir 71 (.mv (.t 0)),ir 72 (.nck (.t 71)),ir 73 (.fad 13 (.t 72)),ir 74 (.ld 1 false (.t 73)),ir 75 (.mn (.t 70) (.t 74)),
⟨some 76,none,.bsl 1 3 [(.p (.i .i64 0))] 2 [(0,.t 66),(1,.t 75)],.ad⟩,ir 77 (.len false (.t 76)),ir 78 (.mv (ci 0))]) (.block 1 (.loop F73b0))) = Z := ⟨_,rfl⟩
  have rest : ∀ (e : Env) (σ1 : St),e 0 = .a (.ptr ks 0 0) → SG ks (doneR n pl a b) pl a b σ1 → Fr ks σ σ1 → wp S false Z e σ1 (RetS [] fun v σ' => v = .u ∧ SG ks (stepR n pl a b) pl a b σ' ∧ Fr ks σ σ') := by
    intro e σ1 e0 hS hF
    rw [← hZ]
    have c1 := sFree_ok (n := doneR n pl a b) hR.ok (by omega) (max a b)
    obtain ⟨o1,o2⟩ := freeR_Ok hR.ok (max a b)
    have c2 := sFree_ok (n := (freeR (doneR n pl a b) (max a b)).1) o1 (by omega) (min a b)
    have hst : stepR n pl a b = (freeR (freeR (doneR n pl a b) (max a b)).1 (min a b)).1 := rfl
    rw [hst]
    obtain ⟨m,hm⟩ : ∃ m,doneR n pl a b = m := ⟨_,rfl⟩
    rw [hm] at hS c1 c2 ⊢
    obtain ⟨⟨m1,e1⟩,hm1⟩ : ∃ r,freeR m (max a b) = r := ⟨_,rfl⟩
    rw [hm1] at c1 c2 ⊢
    simp only at c1 c2 ⊢
    obtain ⟨⟨m2,e2⟩,hm2⟩ : ∃ r,freeR m1 (min a b) = r := ⟨_,rfl⟩
    rw [hm2] at c2 ⊢
    have t1 := hS.bs
    have hlt := hS.lt
    have ne0 : ∀ d,¬ ks = (d,σ1.clk) := by rintro d rfl; simp at hlt
    have ne1 : ∀ d,¬ (d,σ1.clk) = ks := fun d e => ne0 d e.symm
    simp only [stg,List.map_cons,List.map_nil] at t1
    simp only [encT,encTE] at c1 c2
    simp only [F73b0,x_loop,e0,t1,hmx,hmn,c1,c2,ne0,ne1,frA_ptr,rowK,Int.toNat_natCast,Nat.zero_add,Int.cast_ofNat_Int,Int.reduceLE,Int.reduceLT,Int.reduceToNat,Int.reduceAdd,Int.reduceSub,Int.reduceNeg,Int.le_refl,wrap_in 1 (by decide),wrap_in 2 (by decide),evI_cl,clOk,ldKeeps,ldKeeps1,iasKeeps,rowK,nwKeeps,sameC,sameL,sameA,sameP,sameR,sameRR_rfl,decide_true,frA_ptr,capsOf,fxa,fxc,fxE,fxL,fxI,nxE,evO,evR,cellsT,ldCells,mkT,lenA,binPV,Env.init,resV,resT,frT,klT,ownT,intT,O.adds,ownA,rowsA,over,wrOk,keysT,keysA,ne_eq,if_true,if_false,ite_self,Nat.reduceLT,Nat.reduceSub,Nat.reduceBEq,Nat.reduceEqDiff,Nat.reduceAdd,Nat.reduceLeDiff,reduceCtorEq,Nat.reduceMul]
    exact ⟨SG.set (n := m2) (p := pl) (a := a) (b := b) (by simp only [put_clk,add_clk]; omega),((hF.add _ _).put (.inl rfl) _).put (.inl rfl) _⟩
  refine x_fnR (fc := F73) rfl rfl ?_
  have fin : ∀ (e : Env) (σ1 : St),e 0 = .a (.ptr ks 0 0) → SG ks (doneR n pl a b) pl a b σ1 → Fr ks σ σ1 → blkQ 0 (seqQ S false Z (RetS [] fun v σ' => v = .u ∧ SG ks (stepR n pl a b) pl a b σ' ∧ Fr ks σ σ')) .norm e σ1 := by
    intro e σ1 h1 h2 h3
    simp only [blkQ_norm,seqQ_norm]
    exact rest e σ1 h1 h2 h3
  have hta := hT.ta
  have htb := hT.tb
  cases hp with
  | beta h1 hx hy =>
    obtain ⟨σ1,q1,hS1,hF1⟩ := aJoinAll_ok hT (by omega) h
    have e2 : doneR n pl a b = joinD n a b := by unfold doneR; rw [h1]; simp
    rw [← e2] at hS1
    rw [h1] at s0
    simp only [F73,hZ,s0,q1,Int.reduceEq,evI_cl,clOk,ldKeeps,ldKeeps1,iasKeeps,rowK,nwKeeps,sameC,sameL,sameA,sameP,sameR,sameRR_rfl,decide_true,frA_ptr,capsOf,fxa,fxc,fxE,fxL,fxI,nxE,evO,evR,cellsT,ldCells,mkT,lenA,binPV,Env.init,resV,resT,frT,klT,ownT,intT,O.adds,ownA,rowsA,over,wrOk,keysT,keysA,ne_eq,if_true,if_false,ite_self,Nat.reduceLT,Nat.reduceSub,Nat.reduceBEq,Nat.reduceEqDiff,Nat.reduceAdd,Nat.reduceLeDiff,reduceCtorEq,Nat.reduceMul]
    exact rest _ _ (by simp only [fxa,fxc,fxE,fxL,fxI,nxE,evO,evR,cellsT,ldCells,mkT,lenA,binPV,Env.init,resV,resT,frT,klT,ownT,intT,O.adds,ownA,rowsA,over,wrOk,keysT,keysA,ne_eq,if_true,if_false,ite_self,Nat.reduceLT,Nat.reduceSub,Nat.reduceBEq,Nat.reduceEqDiff,Nat.reduceAdd,Nat.reduceLeDiff,reduceCtorEq,Nat.reduceMul]) hS1 hF1
  | join h1 hx hy =>
    obtain ⟨σ1,q1,hS1,hF1⟩ := aJoinAll_ok hT (by omega) h
    have e2 : doneR n pl a b = joinD n a b := by unfold doneR; rw [h1]; simp
    rw [← e2] at hS1
    rw [h1] at s0
    simp only [F73,hZ,s0,q1,Int.reduceEq,evI_cl,clOk,ldKeeps,ldKeeps1,iasKeeps,rowK,nwKeeps,sameC,sameL,sameA,sameP,sameR,sameRR_rfl,decide_true,frA_ptr,capsOf,fxa,fxc,fxE,fxL,fxI,nxE,evO,evR,cellsT,ldCells,mkT,lenA,binPV,Env.init,resV,resT,frT,klT,ownT,intT,O.adds,ownA,rowsA,over,wrOk,keysT,keysA,ne_eq,if_true,if_false,ite_self,Nat.reduceLT,Nat.reduceSub,Nat.reduceBEq,Nat.reduceEqDiff,Nat.reduceAdd,Nat.reduceLeDiff,reduceCtorEq,Nat.reduceMul]
    exact rest _ _ (by simp only [fxa,fxc,fxE,fxL,fxI,nxE,evO,evR,cellsT,ldCells,mkT,lenA,binPV,Env.init,resV,resT,frT,klT,ownT,intT,O.adds,ownA,rowsA,over,wrOk,keysT,keysA,ne_eq,if_true,if_false,ite_self,Nat.reduceLT,Nat.reduceSub,Nat.reduceBEq,Nat.reduceEqDiff,Nat.reduceAdd,Nat.reduceLeDiff,reduceCtorEq,Nat.reduceMul]) hS1 hF1
  | pick i A h1 hx hy h2 h3 h4 =>
    have hal := hM.ma.al8
    have ha8 := hM.ma.alt i A h3
    obtain ⟨σ1,q1,hS1,hF1⟩ := aPick_ok hT (by omega) h2 h3 ha8.2.1 (by omega) (by omega) h
    have e2 : doneR n pl a b = pickD n pl.alt a b := by unfold doneR; rw [h1]; simp
    rw [← e2] at hS1
    rw [h1] at s0
    simp only [F73,hZ,s0,q1,Int.reduceEq,evI_cl,clOk,ldKeeps,ldKeeps1,iasKeeps,rowK,nwKeeps,sameC,sameL,sameA,sameP,sameR,sameRR_rfl,decide_true,frA_ptr,capsOf,fxa,fxc,fxE,fxL,fxI,nxE,evO,evR,cellsT,ldCells,mkT,lenA,binPV,Env.init,resV,resT,frT,klT,ownT,intT,O.adds,ownA,rowsA,over,wrOk,keysT,keysA,ne_eq,if_true,if_false,ite_self,Nat.reduceLT,Nat.reduceSub,Nat.reduceBEq,Nat.reduceEqDiff,Nat.reduceAdd,Nat.reduceLeDiff,reduceCtorEq,Nat.reduceMul]
    exact rest _ _ (by simp only [fxa,fxc,fxE,fxL,fxI,nxE,evO,evR,cellsT,ldCells,mkT,lenA,binPV,Env.init,resV,resT,frT,klT,ownT,intT,O.adds,ownA,rowsA,over,wrOk,keysT,keysA,ne_eq,if_true,if_false,ite_self,Nat.reduceLT,Nat.reduceSub,Nat.reduceBEq,Nat.reduceEqDiff,Nat.reduceAdd,Nat.reduceLeDiff,reduceCtorEq,Nat.reduceMul]) hS1 hF1
  | half h1 hx hy =>
    obtain ⟨σ1,q1,hS1,hF1⟩ := aHalf_ok hT (by omega) h
    have e2 : doneR n pl a b = halfD n a b := by unfold doneR; rw [h1]; simp
    rw [← e2] at hS1
    rw [h1] at s0
    simp only [F73,hZ,s0,q1,Int.reduceEq,evI_cl,clOk,ldKeeps,ldKeeps1,iasKeeps,rowK,nwKeeps,sameC,sameL,sameA,sameP,sameR,sameRR_rfl,decide_true,frA_ptr,capsOf,fxa,fxc,fxE,fxL,fxI,nxE,evO,evR,cellsT,ldCells,mkT,lenA,binPV,Env.init,resV,resT,frT,klT,ownT,intT,O.adds,ownA,rowsA,over,wrOk,keysT,keysA,ne_eq,if_true,if_false,ite_self,Nat.reduceLT,Nat.reduceSub,Nat.reduceBEq,Nat.reduceEqDiff,Nat.reduceAdd,Nat.reduceLeDiff,reduceCtorEq,Nat.reduceMul]
    exact rest _ _ (by simp only [fxa,fxc,fxE,fxL,fxI,nxE,evO,evR,cellsT,ldCells,mkT,lenA,binPV,Env.init,resV,resT,frT,klT,ownT,intT,O.adds,ownA,rowsA,over,wrOk,keysT,keysA,ne_eq,if_true,if_false,ite_self,Nat.reduceLT,Nat.reduceSub,Nat.reduceBEq,Nat.reduceEqDiff,Nat.reduceAdd,Nat.reduceLeDiff,reduceCtorEq,Nat.reduceMul]) hS1 hF1
  | out h1 hx hy g1 g2 g3 g4 g5 =>
    have hbg := hT.big
    obtain ⟨σ1,q1,hS1,hF1⟩ := aMade_ok (x := pl.nd) hT.ok (by omega) g2 (NC.p _) (NC.p _) h
    have hti := makeR_wf (n := n) (x := pl.nd) (by omega)
    have hOk := (makeR_Ok (x := pl.nd) hT.ok g2 (by omega)).1
    have e2 : doneR n pl a b = (moveR (makeR n pl.nd).1 ⟨a,1⟩ ⟨(makeR n pl.nd).2.1,0⟩).1 := by unfold doneR outD; rw [h1]; simp
    obtain ⟨⟨m,t,ee⟩,hmk⟩ : ∃ r,makeR n pl.nd = r := ⟨_,rfl⟩
    rw [hmk] at q1 hS1 hti hOk e2
    simp only at q1 hS1 hti hOk e2
    obtain ⟨σ2,q2,hS2,hF2⟩ := aMove_ok (p := ⟨a,1⟩) (q := ⟨t,0⟩) hOk (hT.pa (by omega) (by omega)) ⟨hti,wf_0⟩ hS1
    have p1 := port_ok a 1
    have p2 := port_ok t 0
    have u1 := hS1.bs
    rw [← e2] at hS2
    simp only [stg,List.map_cons,List.map_nil] at u1
    rw [h1] at s0 u1
    simp only [F73,hZ,s0,u1,q1,q2,p1,p2,Int.reduceEq,evI_cl,clOk,ldKeeps,ldKeeps1,iasKeeps,rowK,nwKeeps,sameC,sameL,sameA,sameP,sameR,sameRR_rfl,decide_true,frA_ptr,capsOf,fxa,fxc,fxE,fxL,fxI,nxE,evO,evR,cellsT,ldCells,mkT,lenA,binPV,Env.init,resV,resT,frT,klT,ownT,intT,O.adds,ownA,rowsA,over,wrOk,keysT,keysA,ne_eq,if_true,if_false,ite_self,Nat.reduceLT,Nat.reduceSub,Nat.reduceBEq,Nat.reduceEqDiff,Nat.reduceAdd,Nat.reduceLeDiff,reduceCtorEq,Nat.reduceMul]
    exact rest _ _ (by simp only [fxa,fxc,fxE,fxL,fxI,nxE,evO,evR,cellsT,ldCells,mkT,lenA,binPV,Env.init,resV,resT,frT,klT,ownT,intT,O.adds,ownA,rowsA,over,wrOk,keysT,keysA,ne_eq,if_true,if_false,ite_self,Nat.reduceLT,Nat.reduceSub,Nat.reduceBEq,Nat.reduceEqDiff,Nat.reduceAdd,Nat.reduceLeDiff,reduceCtorEq,Nat.reduceMul]) hS2 (hF1.trans hF2)
  | fail h1 hx hy =>
    obtain ⟨σ1,q1,hS1,hF1⟩ := aFail_ok hT (by omega) h
    have e2 : doneR n pl a b = failD n a b := by unfold doneR; rw [h1]; simp
    rw [← e2] at hS1
    rw [h1] at s0
    simp only [F73,hZ,s0,q1,Int.reduceEq,evI_cl,clOk,ldKeeps,ldKeeps1,iasKeeps,rowK,nwKeeps,sameC,sameL,sameA,sameP,sameR,sameRR_rfl,decide_true,frA_ptr,capsOf,fxa,fxc,fxE,fxL,fxI,nxE,evO,evR,cellsT,ldCells,mkT,lenA,binPV,Env.init,resV,resT,frT,klT,ownT,intT,O.adds,ownA,rowsA,over,wrOk,keysT,keysA,ne_eq,if_true,if_false,ite_self,Nat.reduceLT,Nat.reduceSub,Nat.reduceBEq,Nat.reduceEqDiff,Nat.reduceAdd,Nat.reduceLeDiff,reduceCtorEq,Nat.reduceMul]
    exact rest _ _ (by simp only [fxa,fxc,fxE,fxL,fxI,nxE,evO,evR,cellsT,ldCells,mkT,lenA,binPV,Env.init,resV,resT,frT,klT,ownT,intT,O.adds,ownA,rowsA,over,wrOk,keysT,keysA,ne_eq,if_true,if_false,ite_self,Nat.reduceLT,Nat.reduceSub,Nat.reduceBEq,Nat.reduceEqDiff,Nat.reduceAdd,Nat.reduceLeDiff,reduceCtorEq,Nat.reduceMul]) hS1 hF1
  | pass h1 hx hy g1 g2 =>
    obtain ⟨σ1,q1,hS1,hF1⟩ := aPass_ok hT (by omega) (wf_small g1 (by omega)) hM.lenA hM.lenB h
    have e2 : doneR n pl a b = passD n pl.lv a b := by unfold doneR; rw [h1]; simp
    rw [← e2] at hS1
    rw [h1] at s0
    simp only [F73,hZ,s0,q1,Int.reduceEq,evI_cl,clOk,ldKeeps,ldKeeps1,iasKeeps,rowK,nwKeeps,sameC,sameL,sameA,sameP,sameR,sameRR_rfl,decide_true,frA_ptr,capsOf,fxa,fxc,fxE,fxL,fxI,nxE,evO,evR,cellsT,ldCells,mkT,lenA,binPV,Env.init,resV,resT,frT,klT,ownT,intT,O.adds,ownA,rowsA,over,wrOk,keysT,keysA,ne_eq,if_true,if_false,ite_self,Nat.reduceLT,Nat.reduceSub,Nat.reduceBEq,Nat.reduceEqDiff,Nat.reduceAdd,Nat.reduceLeDiff,reduceCtorEq,Nat.reduceMul]
    exact rest _ _ (by simp only [fxa,fxc,fxE,fxL,fxI,nxE,evO,evR,cellsT,ldCells,mkT,lenA,binPV,Env.init,resV,resT,frT,klT,ownT,intT,O.adds,ownA,rowsA,over,wrOk,keysT,keysA,ne_eq,if_true,if_false,ite_self,Nat.reduceLT,Nat.reduceSub,Nat.reduceBEq,Nat.reduceEqDiff,Nat.reduceAdd,Nat.reduceLeDiff,reduceCtorEq,Nat.reduceMul]) hS1 hF1
  | drop h1 hx hy =>
    have hbg := hT.big
    obtain ⟨σ1,v,q1,hS1,hF1,hL1⟩ := aOthers_ok (j := 1) (jz := 1) rfl (by omega) hT.b0 hT.b1 hT.xb.to h
    obtain ⟨l,hl⟩ : ∃ l,portsR b 1 (n.nd b).to.length = l := ⟨_,rfl⟩
    have nl : l.length ≤ 100 := by rw [← hl,portsR_len]; omega
    have wl : ∀ p ∈ l,wfP p := by intro p hp; rw [← hl] at hp; exact (portsR_wf hT (by omega)).2 p hp
    rw [hl] at hL1
    have e2 : doneR n pl a b = runs (likeR n (dropN (n.nd a).lv) l.length).1 (dropOps l (likeR n (dropN (n.nd a).lv) l.length).2) := by unfold doneR dropD; rw [h1]; simp [hl]
    obtain ⟨σ2,f,q2,hS2,hF2,hDC⟩ := aDrop_ok (l := l) hT.ok (by omega) hT.a0 hT.a1 hS1 hL1
    have hdx := dropN_Ok hT.xa.lv
    obtain ⟨o1,o2,o3⟩ := likeR_Ok hT.ok hdx l.length (by omega)
    obtain ⟨k0,k1,k2,σ3,rfl,q3,hS3,hF3⟩ := aCall_ok o1 wl (likeR_wf hT.ok hdx _ (by omega)) (by omega) (by omega) hS2 hDC
    rw [← e2] at hS3
    rw [h1] at s0
    simp only [F73,hZ,s0,q1,q2,q3,Int.reduceEq,evI_cl,clOk,ldKeeps,ldKeeps1,iasKeeps,rowK,nwKeeps,sameC,sameL,sameA,sameP,sameR,sameRR_rfl,decide_true,frA_ptr,capsOf,fxa,fxc,fxE,fxL,fxI,nxE,evO,evR,cellsT,ldCells,mkT,lenA,binPV,Env.init,resV,resT,frT,klT,ownT,intT,O.adds,ownA,rowsA,over,wrOk,keysT,keysA,ne_eq,if_true,if_false,ite_self,Nat.reduceLT,Nat.reduceSub,Nat.reduceBEq,Nat.reduceEqDiff,Nat.reduceAdd,Nat.reduceLeDiff,reduceCtorEq,Nat.reduceMul]
    exact rest _ _ (by simp only [fxa,fxc,fxE,fxL,fxI,nxE,evO,evR,cellsT,ldCells,mkT,lenA,binPV,Env.init,resV,resT,frT,klT,ownT,intT,O.adds,ownA,rowsA,over,wrOk,keysT,keysA,ne_eq,if_true,if_false,ite_self,Nat.reduceLT,Nat.reduceSub,Nat.reduceBEq,Nat.reduceEqDiff,Nat.reduceAdd,Nat.reduceLeDiff,reduceCtorEq,Nat.reduceMul]) hS3 ((hF1.trans hF2).trans hF3)
end Go.Proofs.Ytkpfjolcmkikeaa
end
section
set_option linter.unusedSimpArgs false
set_option linter.unusedVariables false
set_option maxHeartbeats 4000000
set_option maxRecDepth 10000
namespace Go.Proofs.Ytkpfjolcmkikeaa
open Go.Fx
theorem meets_ok (n : Nt) (i : Int) : eP S 69 [.g (encT n),.a (.i .i64 i)] = some (.a (.i .i64 (meetR n i))) := by
  refine x_fn (orcS (by decide)) (fc := F69) rfl rfl ?_
  have c1 := Peer_ok n ⟨i,0⟩
  have p1 := port_ok i 0
  unfold meetR
  obtain ⟨q,hq⟩ : ∃ q,n.lk ⟨i,0⟩ = q := ⟨_,rfl⟩
  rw [hq] at c1 ⊢
  simp only [encT,encP] at c1
  by_cases h1 : n.has ⟨i,0⟩ = true
  · by_cases h2 : q.s = 0
    · simp only [h1,if_true,encP] at c1
      simp only [F69,encT,c1,p1,h1,h2,fxa,fxc,fxE,fxL,fxI,nxE,evO,evR,cellsT,ldCells,mkT,lenA,binPV,Env.init,resV,resT,frT,klT,ownT,intT,O.adds,ownA,rowsA,over,wrOk,keysT,keysA,ne_eq,if_true,if_false,ite_self,Nat.reduceLT,Nat.reduceSub,Nat.reduceBEq,Nat.reduceEqDiff,Nat.reduceAdd,Nat.reduceLeDiff,reduceCtorEq,Nat.reduceMul]
    · simp only [h1,if_true,encP] at c1
      simp only [F69,encT,c1,p1,h1,h2,fxa,fxc,fxE,fxL,fxI,nxE,evO,evR,cellsT,ldCells,mkT,lenA,binPV,Env.init,resV,resT,frT,klT,ownT,intT,O.adds,ownA,rowsA,over,wrOk,keysT,keysA,ne_eq,if_true,if_false,ite_self,Nat.reduceLT,Nat.reduceSub,Nat.reduceBEq,Nat.reduceEqDiff,Nat.reduceAdd,Nat.reduceLeDiff,reduceCtorEq,Nat.reduceMul]
  · simp only [h1,Bool.false_eq_true,if_false,zP,encP] at c1
    simp only [F69,encT,c1,p1,h1,Int.reduceEq,fxa,fxc,fxE,fxL,fxI,nxE,evO,evR,cellsT,ldCells,mkT,lenA,binPV,Env.init,resV,resT,frT,klT,ownT,intT,O.adds,ownA,rowsA,over,wrOk,keysT,keysA,ne_eq,if_true,if_false,ite_self,Nat.reduceLT,Nat.reduceSub,Nat.reduceBEq,Nat.reduceEqDiff,Nat.reduceAdd,Nat.reduceLeDiff,reduceCtorEq,Nat.reduceMul]
def encD (x : Nt × Pl × Int) : PT := .t [(true,encT x.1),(true,encL x.2.1),(false,[.i .i64 x.2.2])]
theorem meetR_meet {n : Nt} {i : Int} (hn : n.Ok) (hG : n.Good) (h : ¬ meetR n i < 0) : Meet n i (meetR n i) := by
  unfold meetR at h ⊢
  by_cases hc : n.has ⟨i,0⟩ = true ∧ (n.lk ⟨i,0⟩).s = 0
  · rw [if_pos hc]
    refine Meet.of hn hG hc.1 ?_
    obtain ⟨q,hq⟩ : ∃ q,n.lk ⟨i,0⟩ = q := ⟨_,rfl⟩
    rw [hq] at hc ⊢
    obtain ⟨u,v⟩ := q
    simp only at hc
    rw [hc.2]
  · rw [if_neg hc] at h; omega
theorem need_room {n : Nt} {a b : Int} {p : Pl} (hM : Meet n a b) (hp : PlanX (n.nd a) (n.nd b) p) : 0 ≤ needX p (n.nd a) (n.nd b) ∧ needX p (n.nd a) (n.nd b) ≤ 30 := by
  have ta := to10 hM.ma hM.pa
  have tb := to10 hM.mb hM.pb
  have la := hM.lenA
  have lb := hM.lenB
  have oa : oth (n.nd a) = (n.nd a).to.length - 1 := by rw [oth_in (by omega)]; omega
  have ob : oth (n.nd b) = (n.nd b).to.length - 1 := by rw [oth_in (by omega)]; omega
  have hal := hM.ma.al8
  have w1 : ∀ z : Int,-1000 ≤ z → z ≤ 1000 → wr z = z := fun z h1 h2 => wr_in (by omega)
  unfold needX
  rw [oa,ob]
  split
  · split
    · omega
    · rename_i h2 h3
      cases hp with
      | pick i A h1 hx hy g2 g3 g4 =>
        have hil := (List.getElem?_eq_some_iff.1 g3).1
        have hA2 : (n.nd a).al.getD p.alt.toNat zA = A := by rw [g2,Int.toNat_natCast,List.getD_eq_getElem?_getD,g3]; rfl
        have := hM.ma.alt i A g3
        rw [hA2,w1 (A.n + (n.nd a).al.length) (by omega) (by omega),w1 _ (by omega) (by omega)]; omega
      | _ => omega
  split
  · omega
  split
  · rw [w1 ((n.nd a).to.length - 1 - 1) (by omega) (by omega),w1 (1 + max _ _) (by omega) (by omega),w1 _ (by omega) (by omega)]; omega
  split
  · split
    · rw [w1 _ (by omega) (by omega)]; omega
    · rw [w1 _ (by omega) (by omega)]; omega
  split
  · omega
  · omega
theorem Do_ok {n : Nt} {i : Int} (hn : n.Ok) : eP S 49 [.g (encT n),.a (.i .i64 i)] = some (encD (doR n i)) := by
  refine x_fn (orcS (by decide)) (fc := F49) rfl rfl ?_
  have c1 := sCheck_ok hn
  have c2 := meets_ok n i
  by_cases hG : n.Good
  case neg =>
    have hd : doR n i = (n,p0,120) := by unfold doR; rw [bool_f hG]; rfl
    rw [hd]
    rw [bool_f hG] at c1
    simp only [Bool.false_eq_true,if_false,encT] at c1
    simp only [F49,c1,encD,encT,encL,p0,zN,Int.reduceEq,List.map_nil,fxa,fxc,fxE,fxL,fxI,nxE,evO,evR,cellsT,ldCells,mkT,lenA,binPV,Env.init,resV,resT,frT,klT,ownT,intT,O.adds,ownA,rowsA,over,wrOk,keysT,keysA,ne_eq,if_true,if_false,ite_self,Nat.reduceLT,Nat.reduceSub,Nat.reduceBEq,Nat.reduceEqDiff,Nat.reduceAdd,Nat.reduceLeDiff,reduceCtorEq,Nat.reduceMul]
  rw [bool_t hG] at c1
  simp only [if_true,encT] at c1
  simp only [encT] at c2
  by_cases hm : meetR n i < 0
  · have hd : doR n i = (n,p0,122) := by unfold doR; rw [bool_t hG]; simp [hm]
    rw [hd]
    simp only [F49,c1,c2,hm,encD,encT,encL,p0,zN,Int.reduceEq,List.map_nil,fxa,fxc,fxE,fxL,fxI,nxE,evO,evR,cellsT,ldCells,mkT,lenA,binPV,Env.init,resV,resT,frT,klT,ownT,intT,O.adds,ownA,rowsA,over,wrOk,keysT,keysA,ne_eq,if_true,if_false,ite_self,Nat.reduceLT,Nat.reduceSub,Nat.reduceBEq,Nat.reduceEqDiff,Nat.reduceAdd,Nat.reduceLeDiff,reduceCtorEq,Nat.reduceMul]
  have hM := meetR_meet hn hG hm
  obtain ⟨k,hk⟩ : ∃ k,meetR n i = k := ⟨_,rfl⟩
  obtain ⟨⟨p,e⟩,hr⟩ : ∃ r,ofR (n.nd i) (n.nd k) = r := ⟨_,rfl⟩
  have hd : doR n i = if e ≠ 0 then (n,p0,e) else if wr (n.used + needR p (n.nd i) (n.nd k)) > n.cap then (n,p0,121)
      else (stepR n p (if p.sw = true then k else i) (if p.sw = true then i else k),p,0) := by
    unfold doR
    rw [bool_t hG]
    simp only [hk,hr]
    rw [if_neg (by simp),if_neg (by rw [← hk]; exact hm)]
  rw [hk] at hM hm c2
  have c3 := Of_ok hM.ka hM.kb
  have ga := getN (l := n.ns) hM.a0 hM.a1
  have gb := getN (l := n.ns) hM.b0 hM.b1
  have a0 := hM.a0
  have a1 := hM.a1
  have b0 := hM.b0
  have b1 := hM.b1
  have hX := of_plan hM.ma hM.mb hM.ka hM.kb hM.pa hM.pb
  have c4 := sUsed_ok hn
  have c5 := need_ok (p := p) (a := n.nd i) (b := n.nd k)
  have hna : n.ns.getD i.toNat zN = n.nd i := rfl
  have hnb : n.ns.getD k.toNat zN = n.nd k := rfl
  rw [hna] at ga
  rw [hnb] at gb
  rw [hr] at c3 hX
  have hpe : p.nd.Ok := by have := of_nd hM.ka hM.kb; rw [hr] at this; exact this
  simp only [encLE,encL,encN] at c3
  simp only [encT] at c4
  simp only [encL,encN] at c5
  simp only [encN] at ga gb
  by_cases he : e = 0
  case neg =>
    rw [if_pos he] at hd
    rw [hd]
    simp only [F49,c1,c2,c3,hm,he,ga,gb,a0,a1,b0,b1,allN,encD,encT,encL,p0,zN,Int.reduceEq,List.map_nil,List.length_map,fxa,fxc,fxE,fxL,fxI,nxE,evO,evR,cellsT,ldCells,mkT,lenA,binPV,Env.init,resV,resT,frT,klT,ownT,intT,O.adds,ownA,rowsA,over,wrOk,keysT,keysA,ne_eq,if_true,if_false,ite_self,Nat.reduceLT,Nat.reduceSub,Nat.reduceBEq,Nat.reduceEqDiff,Nat.reduceAdd,Nat.reduceLeDiff,reduceCtorEq,Nat.reduceMul]
  subst he
  rw [if_neg (by simp)] at hd
  have hX := hX rfl
  by_cases hu : wr (n.used + needR p (n.nd i) (n.nd k)) > n.cap
  · rw [if_pos hu] at hd
    rw [hd]
    unfold wr at hu
    simp only [F49,c1,c2,c3,c4,c5,hm,hu,ga,gb,a0,a1,b0,b1,allN,encD,encT,encL,p0,zN,Int.reduceEq,List.map_nil,List.length_map,fxa,fxc,fxE,fxL,fxI,nxE,evO,evR,cellsT,ldCells,mkT,lenA,binPV,Env.init,resV,resT,frT,klT,ownT,intT,O.adds,ownA,rowsA,over,wrOk,keysT,keysA,ne_eq,if_true,if_false,ite_self,Nat.reduceLT,Nat.reduceSub,Nat.reduceBEq,Nat.reduceEqDiff,Nat.reduceAdd,Nat.reduceLeDiff,reduceCtorEq,Nat.reduceMul]
  rw [if_neg hu] at hd
  rw [hd]
  have hub := good_used hG
  have hgb := hG.cap2
  have hu0 : 0 ≤ n.used := (usedL_le n.ns).1
  have hu' := hu
  unfold wr at hu'
  obtain ⟨τ,hτ⟩ : ∃ τ,τ = ((((St.empty.add 2 (Blk.var [AV.p (PV.l (n.ns.map encN)),AV.p (PV.i .i64 n.cap)])).add 4 (Blk.var [AV.nil,AV.p (PV.i .i64 0)])).add 5
    (Blk.var [AV.p (PV.i .i64 0),AV.p (PV.b false),AV.p (PV.i .i64 0),AV.p (PV.i .i64 0),AV.p (PV.i .i64 0),AV.p (PV.i .i64 0),AV.p (PV.i .i64 0),AV.p (PV.s []),AV.nil,AV.nil])).add 9
    (Blk.var [AV.p (PV.i .i64 0),AV.p (PV.b false),AV.p (PV.i .i64 0),AV.p (PV.i .i64 0),AV.p (PV.i .i64 0),AV.p (PV.i .i64 0),AV.p (PV.i .i64 0),AV.p (PV.s []),AV.nil,AV.nil])).put (9,3)
    (Blk.var [AV.p (PV.i .i64 p.k),AV.p (PV.b p.sw),AV.p (PV.i .i64 p.lv),AV.p (PV.i .i64 p.alt),AV.p (PV.i .i64 p.nd.k),AV.p (PV.i .i64 p.nd.lv),AV.p (PV.i .i64 p.nd.n),AV.p (PV.s p.nd.s),AV.p (PV.l (p.nd.al.map encA)),AV.p (PV.l (p.nd.to.map encP))]) := ⟨_,rfl⟩
  have tc : τ.clk = 4 := by rw [hτ]; rfl
  have t2 : τ.bs (2,0) = some (Blk.var [AV.p (PV.l (n.ns.map encN)),AV.p (PV.i .i64 n.cap)]) := by rw [hτ]; rfl
  have t4 : τ.bs (4,1) = some (Blk.var [AV.nil,AV.p (PV.i .i64 0)]) := by rw [hτ]; rfl
  have t5 : τ.bs (5,2) = some (Blk.var [AV.p (PV.i .i64 0),AV.p (PV.b false),AV.p (PV.i .i64 0),AV.p (PV.i .i64 0),AV.p (PV.i .i64 0),AV.p (PV.i .i64 0),AV.p (PV.i .i64 0),AV.p (PV.s []),AV.nil,AV.nil]) := by rw [hτ]; rfl
  have t9 : τ.bs (9,3) = some (Blk.var [AV.p (PV.i .i64 p.k),AV.p (PV.b p.sw),AV.p (PV.i .i64 p.lv),AV.p (PV.i .i64 p.alt),AV.p (PV.i .i64 p.nd.k),AV.p (PV.i .i64 p.nd.lv),AV.p (PV.i .i64 p.nd.n),AV.p (PV.s p.nd.s),AV.p (PV.l (p.nd.al.map encA)),AV.p (PV.l (p.nd.to.map encP))]) := by rw [hτ]; rfl
  cases hsw : p.sw with
  | false =>
    have hnr : needR p (n.nd i) (n.nd k) = needX p (n.nd i) (n.nd k) := by unfold needR; rw [hsw]; rfl
    rw [hnr] at hu
    rw [hsw] at hX
    simp only [Bool.false_eq_true,if_false] at hX ⊢
    obtain ⟨n0,n1⟩ := need_room hM hX
    rw [wr_in (by omega)] at hu
    obtain ⟨σ1,hσ1⟩ : ∃ σ1,σ1 = τ.add 72 (.var ((stg n p i k).map .p)) := ⟨_,rfl⟩
    have hS1 : SG (72,4) n p i k σ1 := ⟨by rw [hσ1]; simp [add_bs,tc],by rw [hσ1]; simp [add_clk,tc]⟩
    obtain ⟨σ2,q2,hS2,hF2⟩ := aDo_ok hM hX (by omega) hS1
    have hc1 : σ1.clk = 5 := by rw [hσ1]; simp [add_clk,tc]
    have gk : ∀ q : Key,q.2 < 4 → σ2.bs q = τ.bs q := fun q hq => by
      have h1 : ¬ q = (72,4) := by rintro rfl; simp at hq
      refine (hF2.bs q (by omega) h1).trans ?_
      rw [hσ1]; simp only [add_bs,tc,h1,if_false]
    have v4 := (gk (4,1) (by decide)).trans t4
    have v5 := (gk (5,2) (by decide)).trans t5
    have v9 := (gk (9,3) (by decide)).trans t9
    have w9 : σ1.bs (9,3) = τ.bs (9,3) := by rw [hσ1]; simp [add_bs,tc]
    rw [t9] at w9
    have vk := hS2.bs
    simp only [stg,List.map_cons,List.map_nil] at vk hσ1
    rw [hsw] at c3 c5 hτ v9 vk hσ1 t9 w9
    simp only [F49,c1,c2,c3,c4,c5,hm,hu',hsw,ga,gb,a0,a1,b0,b1,← hτ,tc,t2,t4,t5,t9,← hσ1,w9,q2,v4,v5,v9,vk,allN,encD,encT,encL,p0,zN,Int.reduceEq,List.map_nil,List.length_map,frA_ptr,fxa,fxc,fxE,fxL,fxI,nxE,evO,evR,cellsT,ldCells,mkT,lenA,binPV,Env.init,resV,resT,frT,klT,ownT,intT,O.adds,ownA,rowsA,over,wrOk,keysT,keysA,ne_eq,if_true,if_false,ite_self,Nat.reduceLT,Nat.reduceSub,Nat.reduceBEq,Nat.reduceEqDiff,Nat.reduceAdd,Nat.reduceLeDiff,reduceCtorEq,Nat.reduceMul]
  | true =>
    have hnr : needR p (n.nd i) (n.nd k) = needX p (n.nd k) (n.nd i) := by unfold needR; rw [hsw]; rfl
    rw [hnr] at hu
    rw [hsw] at hX
    simp only [if_true] at hX ⊢
    have hM' := hM.swap
    obtain ⟨n0,n1⟩ := need_room hM' hX
    rw [wr_in (by omega)] at hu
    obtain ⟨σ0,hσ0⟩ : ∃ σ0,σ0 = τ.add 72 (.var ((stg n p i k).map .p)) := ⟨_,rfl⟩
    have hk0 : σ0.bs (72,4) = some (.var ((stg n p i k).map .p)) := by rw [hσ0]; simp [add_bs,tc]
    obtain ⟨σ1,hσ1⟩ : ∃ σ1,σ1 = (σ0.put (72,4) (.var ((stg n p k k).map .p))).put (72,4) (.var ((stg n p k i).map .p)) := ⟨_,rfl⟩
    have hS1 : SG (72,4) n p k i σ1 := ⟨by rw [hσ1]; simp [put_bs],by rw [hσ1,hσ0]; simp [put_clk,add_clk,tc]⟩
    obtain ⟨σ2,q2,hS2,hF2⟩ := aDo_ok hM' hX (by omega) hS1
    have hc1 : σ1.clk = 5 := by rw [hσ1,hσ0]; simp [put_clk,add_clk,tc]
    have gk1 : ∀ q : Key,q.2 < 4 → σ1.bs q = τ.bs q ∧ σ0.bs q = τ.bs q := fun q hq => by
      have h1 : ¬ q = (72,4) := by rintro rfl; simp at hq
      rw [hσ1,hσ0]
      simp only [put_bs,add_bs,tc,h1,if_false,and_self]
    have gk : ∀ q : Key,q.2 < 4 → σ2.bs q = τ.bs q := fun q hq => by
      have h1 : ¬ q = (72,4) := by rintro rfl; simp at hq
      exact (hF2.bs q (by omega) h1).trans (gk1 q hq).1
    have v4 := (gk (4,1) (by decide)).trans t4
    have v5 := (gk (5,2) (by decide)).trans t5
    have v9 := (gk (9,3) (by decide)).trans t9
    have w9 := (gk1 (9,3) (by decide)).2.trans t9
    have vk := hS2.bs
    simp only [stg,List.map_cons,List.map_nil] at vk hσ1 hσ0 hk0
    rw [hsw] at c3 c5 hτ v9 vk hσ1 hσ0 hk0 t9 w9
    simp only [F49,c1,c2,c3,c4,c5,hm,hu',hsw,ga,gb,a0,a1,b0,b1,← hτ,tc,t2,t4,t5,t9,← hσ0,hk0,← hσ1,w9,q2,v4,v5,v9,vk,allN,encD,encT,encL,p0,zN,Int.reduceEq,List.map_nil,List.length_map,frA_ptr,fxa,fxc,fxE,fxL,fxI,nxE,evO,evR,cellsT,ldCells,mkT,lenA,binPV,Env.init,resV,resT,frT,klT,ownT,intT,O.adds,ownA,rowsA,over,wrOk,keysT,keysA,ne_eq,if_true,if_false,ite_self,Nat.reduceLT,Nat.reduceSub,Nat.reduceBEq,Nat.reduceEqDiff,Nat.reduceAdd,Nat.reduceLeDiff,reduceCtorEq,Nat.reduceMul]
end Go.Proofs.Ytkpfjolcmkikeaa
end
section
set_option linter.unusedSimpArgs false
set_option linter.unusedVariables false
set_option maxHeartbeats 4000000
namespace Go.Proofs.Ytkpfjolcmkikeaa
open Go.Fx
structure Stepped (n : Nt) (a b : Int) (c : Int) (m : Nt) : Prop where
  ok : m.Ok
  good : m.Good
  cap : m.cap = n.cap
  used : m.used = n.used - 2 + c
  old : ∀ (j : Nat) (x : Nd),n.ns[j]? = some x → x.k ≠ 0 → (j : Int) ≠ a → (j : Int) ≠ b → ∃ y,m.ns[j]? = some y ∧ y = { x with to := y.to } ∧ y.to.length = x.to.length
  keep : ∀ r,n.has r = true → r.n ≠ a → r.n ≠ b → (n.lk r).n ≠ a → (n.lk r).n ≠ b → m.has r = true ∧ m.lk r = n.lk r
theorem Stepped.swap {n m : Nt} {a b c : Int} (h : Stepped n a b c m) : Stepped n b a c m :=
  ⟨h.ok,h.good,h.cap,h.used,fun j x h1 h2 h3 h4 => h.old j x h1 h2 h4 h3,fun r h1 h2 h3 h4 h5 => h.keep r h1 h3 h2 h5 h4⟩
theorem mem_endL {n : Nt} {a b : Int} {r : Pt} : r ∈ endL n a b ↔ (r.n = a ∧ 0 ≤ r.s ∧ r.s < (n.nd a).to.length) ∨ (r.n = b ∧ 0 ≤ r.s ∧ r.s < (n.nd b).to.length) := by
  unfold endL
  rw [List.mem_append,mem_portsR,mem_portsR]
  exact Iff.rfl
theorem planX_k {x y : Nd} {p : Pl} (h : PlanX x y p) : x.k ≠ 1 ∧ y.k ≠ 1 := by
  have c1 := cls_1 x.k
  have c2 := cls_2 y.k
  have c3 := cls_3 x.k
  cases h with
  | pass h hx hy h1 h2 => have := cls_ne hy; omega
  | drop h hx hy => have := cls_ne hy; omega
  | _ => omega
theorem free_two {n0 n : Nt} {a b c : Int} (hM : Meet n0 a b) (ka : (n0.nd a).k ≠ 1) (kb : (n0.nd b).k ≠ 1) (h : Run n0 a b c n (endL n0 a b)) {i j : Nat} (hij : (i : Int) = a ∧ (j : Int) = b ∨ (i : Int) = b ∧ (j : Int) = a) :
    Stepped n0 a b c (freeR (freeR n i).1 j).1 := by
  have hab := hM.ab
  have node : ∀ t : Int,0 ≤ t → t < n0.ns.length → (n0.nd t).k ≠ 0 → (n0.nd t).k ≠ 1 → ∃ x,n.ns[t.toNat]? = some x ∧ x.k ≠ 0 ∧ x.to.length = (n0.nd t).to.length ∧ 1 ≤ t := by
    intro t h0 h1 hk hk1
    obtain ⟨y,g1,g2,g3⟩ := h.old _ _ (get_nd h0 h1) hk
    refine ⟨y,g1,by rw [g2]; exact hk,g3,?_⟩
    have g := (hM.good.nds _ _ (get_nd h0 h1)).2.2.1
    by_cases e : t = 0
    · exact absurd (g.1 (by omega)) hk1
    · omega
  have both : ∀ t : Nat,(t : Int) = a ∨ (t : Int) = b → ∃ x,n.ns[t]? = some x ∧ x.k ≠ 0 ∧ 1 ≤ t ∧ ∀ p,n.has p = true → p.n = t → p ∈ endL n0 a b := by
    intro t ht
    rcases ht with ht | ht
    · obtain ⟨x,g1,g2,g3,g4⟩ := node a hM.a0 hM.a1 hM.kA ka
      rw [show a.toNat = t by omega] at g1
      refine ⟨x,g1,g2,by omega,fun p hp e => mem_endL.2 (.inl ?_)⟩
      have h1 := has_iff.1 hp
      rw [e,nd_get g1,g3] at h1
      exact ⟨by omega,h1.2.2.1,h1.2.2.2⟩
    · obtain ⟨x,g1,g2,g3,g4⟩ := node b hM.b0 hM.b1 hM.kB kb
      rw [show b.toNat = t by omega] at g1
      refine ⟨x,g1,g2,by omega,fun p hp e => mem_endL.2 (.inr ?_)⟩
      have h1 := has_iff.1 hp
      rw [e,nd_get g1,g3] at h1
      exact ⟨by omega,h1.2.2.1,h1.2.2.2⟩
  obtain ⟨x,x1,x2,x3,x4⟩ := both i (by omega)
  obtain ⟨y,y1,y2,y3,y4⟩ := both j (by omega)
  obtain ⟨e1,s1,u1,h1,l1⟩ := h.semi.free x1 x3 x2 x4
  have y1' := free_get (i := i) y1 (by omega) y2
  obtain ⟨e2,s2,u2,h2,l2⟩ := s1.free y1' y3 y2 (fun p hp e => ⟨y4 p ((h1 p).1 hp).1 e,by omega⟩)
  rw [e1]
  simp only
  rw [e2]
  simp only
  have hG : ((n.free i).free j).Good := (s2.iff (Y := fun _ => False) fun r => ⟨fun ⟨⟨k1,k2⟩,k3⟩ => by
    rcases mem_endL.1 k1 with ⟨k,_⟩ | ⟨k,_⟩ <;> omega,False.elim⟩).good
  refine ⟨free_Ok (free_Ok h.ok _) _,hG,h.cap,by rw [u2,u1,h.used]; omega,fun t z hz hk ha hb => ?_,fun r h3 h4 h5 h6 h7 => ?_⟩
  · obtain ⟨w,g1,g2,g3⟩ := h.old t z hz hk
    have wk : w.k ≠ 0 := by rw [g2]; exact hk
    exact ⟨w,free_get (free_get g1 (by omega) wk) (by omega) wk,g2,g3⟩
  · have hr := h.has0 h3
    obtain ⟨q1,q2⟩ := h.keep r h3 h4 h5 h6 h7
    have hr1 := (h1 r).2 ⟨hr,by omega⟩
    exact ⟨(h2 r).2 ⟨hr1,by omega⟩,by rw [l2 r hr1 (by omega),l1 r hr (by omega),q2]⟩
theorem step_ok {n : Nt} {a b : Int} {p : Pl} (hM : Meet n a b) (hp : PlanX (n.nd a) (n.nd b) p) (hu : n.used + needX p (n.nd a) (n.nd b) ≤ n.cap) : Stepped n a b (needX p (n.nd a) (n.nd b)) (stepR n p a b) := by
  obtain ⟨ka,kb⟩ := planX_k hp
  have hR := done_run hM hp hu
  have a0 := hM.a0
  have b0 := hM.b0
  have h := free_two hM ka kb hR (i := (max a b).toNat) (j := (min a b).toNat) (by omega)
  rw [show (((max a b).toNat : Nat) : Int) = max a b by omega,show (((min a b).toNat : Nat) : Int) = min a b by omega] at h
  exact h
structure DoneOk (n : Nt) (i : Int) (p : Pl) (m : Nt) : Prop where
  meet : Meet n i (meetR n i)
  pl : ofR (n.nd i) (n.nd (meetR n i)) = (p,0)
  px : PlanX (n.nd (if p.sw = true then meetR n i else i)) (n.nd (if p.sw = true then i else meetR n i)) p
  room : n.used + needR p (n.nd i) (n.nd (meetR n i)) ≤ n.cap
  net : m = stepR n p (if p.sw = true then meetR n i else i) (if p.sw = true then i else meetR n i)
  st : Stepped n i (meetR n i) (needR p (n.nd i) (n.nd (meetR n i))) m
inductive DoCase (n : Nt) (i : Int) : Nt × Pl × Int → Prop
  | bad (h : ¬ n.Good) : DoCase n i (n,p0,120)
  | none (h : n.Good) (hm : meetR n i < 0) : DoCase n i (n,p0,122)
  | pair (h : n.Good) (e : Int) (hm : Meet n i (meetR n i)) (he : e = (ofR (n.nd i) (n.nd (meetR n i))).2) (h0 : e ≠ 0) : DoCase n i (n,p0,e)
  | full (h : n.Good) (p : Pl) (hm : Meet n i (meetR n i)) (hp : ofR (n.nd i) (n.nd (meetR n i)) = (p,0)) (hu : ¬ n.used + needR p (n.nd i) (n.nd (meetR n i)) ≤ n.cap) : DoCase n i (n,p0,121)
  | done (h : n.Good) (p : Pl) (m : Nt) (hd : DoneOk n i p m) : DoCase n i (m,p,0)
theorem do_case {n : Nt} (hn : n.Ok) (i : Int) : DoCase n i (doR n i) := by
  unfold doR
  by_cases hG : n.Good
  case neg => rw [bool_f hG]; exact .bad hG
  rw [bool_t hG,if_neg (by simp)]
  by_cases hm : meetR n i < 0
  · rw [if_pos hm]; exact .none hG hm
  rw [if_neg hm]
  have hM := meetR_meet hn hG hm
  have hX := of_plan hM.ma hM.mb hM.ka hM.kb hM.pa hM.pb
  obtain ⟨⟨p,e⟩,hr⟩ : ∃ r,ofR (n.nd i) (n.nd (meetR n i)) = r := ⟨_,rfl⟩
  simp only [hr]
  rw [hr] at hX
  by_cases he : e = 0
  case neg => rw [if_pos (by simpa using he)]; exact .pair hG e hM (by rw [hr]) he
  subst he
  rw [if_neg (by simp)]
  have hX := hX rfl
  simp only at hX
  have hub := good_used hG
  have hgb := hG.cap2
  have hu0 : 0 ≤ n.used := (usedL_le n.ns).1
  have hw : wr (n.used + needR p (n.nd i) (n.nd (meetR n i))) = n.used + needR p (n.nd i) (n.nd (meetR n i)) := by
    cases hsw : p.sw with
    | false =>
      rw [hsw] at hX
      have := need_room hM hX
      have hnr : needR p (n.nd i) (n.nd (meetR n i)) = needX p (n.nd i) (n.nd (meetR n i)) := by unfold needR; rw [hsw]; rfl
      rw [hnr]; exact wr_in (by omega)
    | true =>
      rw [hsw] at hX
      have := need_room hM.swap hX
      have hnr : needR p (n.nd i) (n.nd (meetR n i)) = needX p (n.nd (meetR n i)) (n.nd i) := by unfold needR; rw [hsw]; rfl
      rw [hnr]; exact wr_in (by omega)
  rw [hw]
  by_cases hu : n.used + needR p (n.nd i) (n.nd (meetR n i)) ≤ n.cap
  case neg => rw [if_pos (by omega)]; exact .full hG p hM hr hu
  rw [if_neg (by omega)]
  refine .done hG p _ ⟨hM,hr,?_,hu,rfl,?_⟩
  · cases hsw : p.sw <;> rw [hsw] at hX <;> exact hX
  · cases hsw : p.sw with
    | false =>
      rw [hsw] at hX
      have hnr : needR p (n.nd i) (n.nd (meetR n i)) = needX p (n.nd i) (n.nd (meetR n i)) := by unfold needR; rw [hsw]; rfl
      rw [hnr] at hu ⊢
      exact step_ok hM hX hu
    | true =>
      rw [hsw] at hX
      have hnr : needR p (n.nd i) (n.nd (meetR n i)) = needX p (n.nd (meetR n i)) (n.nd i) := by unfold needR; rw [hsw]; rfl
      rw [hnr] at hu ⊢
      exact (step_ok hM.swap hX hu).swap
end Go.Proofs.Ytkpfjolcmkikeaa
end
section
set_option linter.unusedSimpArgs false
set_option linter.unusedVariables false
set_option maxHeartbeats 4000000
namespace Go.Proofs.Ytkpfjolcmkikeaa
open Go.Fx
abbrev Nm := Nat × Nat
abbrev NP := Nm × Int
structure Ab where
  nd : Nm → Option Nd
  lk : NP → Option NP
inductive AO where
  | mk (m : Nm) (x : Nd)
  | fr (m : Nm)
  | mv (p q : NP)
  | jn (p q : NP)
  | ln (p q : NP)
def sw (p q r : NP) : NP := if r = p then q else if r = q then p else r
def lkM (p q : NP) (f : NP → Option NP) : NP → Option NP := fun r => (f (sw p q r)).map (sw p q)
def lkJ (p q : NP) (f : NP → Option NP) : NP → Option NP := fun r => if r = p ∨ r = q then none else if f r = some p then f q else if f r = some q then f p else f r
def lkL (p q : NP) (f : NP → Option NP) : NP → Option NP := fun r => if r = p then some q else if r = q then some p else if f r = some p ∨ f r = some q then none else f r
def AO.run (A : Ab) : AO → Ab
  | .mk m x => ⟨fun u => if u = m then some x else A.nd u,A.lk⟩
  | .fr m => ⟨fun u => if u = m then none else A.nd u,A.lk⟩
  | .mv p q => ⟨A.nd,lkM p q A.lk⟩
  | .jn p q => ⟨A.nd,lkJ p q A.lk⟩
  | .ln p q => ⟨A.nd,lkL p q A.lk⟩
def runA (A : Ab) (l : List AO) : Ab := l.foldl AO.run A
theorem runA_app (A : Ab) (l m : List AO) : runA A (l ++ m) = runA (runA A l) m := by unfold runA; rw [List.foldl_append]
def Both (f : NP → Option NP) : Prop := ∀ r u,f r = some u → u ≠ r ∧ f u = some r
def AO.ok : AO → Prop
  | .mv p q => p ≠ q
  | .jn p q => p ≠ q
  | .ln p q => p ≠ q
  | _ => True
theorem sw_sw {p q r : NP} : sw p q (sw p q r) = r := by
  unfold sw
  by_cases h1 : r = p
  · subst h1; by_cases h2 : q = r <;> simp [h2]
  · by_cases h2 : r = q
    · subst h2; simp [h1]
    · simp [h1,h2]
theorem both_M {p q : NP} {f : NP → Option NP} (h : Both f) : Both (lkM p q f) := by
  intro r u hu
  unfold lkM at hu ⊢
  obtain ⟨v,hv,rfl⟩ := Option.map_eq_some_iff.1 hu
  obtain ⟨h1,h2⟩ := h _ _ hv
  refine ⟨fun e => h1 (by rw [← e,sw_sw]),?_⟩
  rw [sw_sw,h2,Option.map_some,sw_sw]
theorem both_J {p q : NP} {f : NP → Option NP} (hpq : p ≠ q) (h : Both f) : Both (lkJ p q f) := by
  intro r u hu
  have a1 := h r
  have a2 := h p
  have a3 := h q
  unfold lkJ at hu ⊢
  grind
theorem both_L {p q : NP} {f : NP → Option NP} (hpq : p ≠ q) (h : Both f) : Both (lkL p q f) := by
  intro r u hu
  have a1 := h r
  unfold lkL at hu ⊢
  grind
theorem AO.both {A : Ab} {o : AO} (ho : o.ok) (h : Both A.lk) : Both (o.run A).lk := by
  cases o with
  | mk m x => exact h
  | fr m => exact h
  | mv p q => exact both_M h
  | jn p q => exact both_J ho h
  | ln p q => exact both_L ho h
def dis (p q r s : NP) : Prop := p ≠ r ∧ p ≠ s ∧ q ≠ r ∧ q ≠ s
theorem com_MM {p q r s : NP} {f : NP → Option NP} (d : dis p q r s) : lkM p q (lkM r s f) = lkM r s (lkM p q f) := by
  have e : ∀ x,sw p q (sw r s x) = sw r s (sw p q x) := by
    intro x; obtain ⟨d1,d2,d3,d4⟩ := d; unfold sw; grind
  funext x
  unfold lkM
  rw [e,Option.map_map,Option.map_map]
  congr 1
  funext y; exact e y
theorem com_MJ {p q r s : NP} {f : NP → Option NP} (d : dis p q r s) : lkM p q (lkJ r s f) = lkJ r s (lkM p q f) := by
  obtain ⟨d1,d2,d3,d4⟩ := d
  have e1 : sw p q r = r := by unfold sw; grind
  have e2 : sw p q s = s := by unfold sw; grind
  have inj : ∀ x y,sw p q x = sw p q y ↔ x = y := fun x y => ⟨fun h => by rw [← sw_sw (p := p) (q := q) (r := x),h,sw_sw],fun h => by rw [h]⟩
  have i1 : ∀ x,sw p q x = r ↔ x = r := fun x => by conv => lhs; rw [← e1]; rw [inj]
  have i2 : ∀ x,sw p q x = s ↔ x = s := fun x => by conv => lhs; rw [← e2]; rw [inj]
  have m1 : ∀ z : Option NP,z.map (sw p q) = some r ↔ z = some r := fun z => by cases z <;> simp [i1]
  have m2 : ∀ z : Option NP,z.map (sw p q) = some s ↔ z = some s := fun z => by cases z <;> simp [i2]
  funext x
  unfold lkM lkJ
  simp only [i1,i2,m1,m2,e1,e2]
  by_cases h1 : x = r ∨ x = s
  · simp [h1]
  · simp only [if_neg h1]
    split
    · rfl
    · split <;> rfl
theorem com_ML {p q r s : NP} {f : NP → Option NP} (d : dis p q r s) : lkM p q (lkL r s f) = lkL r s (lkM p q f) := by
  obtain ⟨d1,d2,d3,d4⟩ := d
  have e1 : sw p q r = r := by unfold sw; grind
  have e2 : sw p q s = s := by unfold sw; grind
  have inj : ∀ x y,sw p q x = sw p q y ↔ x = y := fun x y => ⟨fun h => by rw [← sw_sw (p := p) (q := q) (r := x),h,sw_sw],fun h => by rw [h]⟩
  have i1 : ∀ x,sw p q x = r ↔ x = r := fun x => by conv => lhs; rw [← e1]; rw [inj]
  have i2 : ∀ x,sw p q x = s ↔ x = s := fun x => by conv => lhs; rw [← e2]; rw [inj]
  have m1 : ∀ z : Option NP,z.map (sw p q) = some r ↔ z = some r := fun z => by cases z <;> simp [i1]
  have m2 : ∀ z : Option NP,z.map (sw p q) = some s ↔ z = some s := fun z => by cases z <;> simp [i2]
  funext x
  unfold lkM lkL
  simp only [i1,i2,m1,m2]
  by_cases h1 : x = r
  · simp [h1,e2]
  · by_cases h2 : x = s
    · have h3 : ¬ s = r := h2 ▸ h1
      simp [h1,h2,h3,e1]
    · simp only [if_neg h1,if_neg h2]
      split <;> rfl
theorem com_LL {p q r s : NP} {f : NP → Option NP} (d : dis p q r s) : lkL p q (lkL r s f) = lkL r s (lkL p q f) := by
  obtain ⟨d1,d2,d3,d4⟩ := d
  funext x
  unfold lkL
  grind
theorem com_JL {p q r s : NP} {f : NP → Option NP} (h : Both f) (d : dis p q r s) : lkJ p q (lkL r s f) = lkL r s (lkJ p q f) := by
  obtain ⟨d1,d2,d3,d4⟩ := d
  funext x
  have a1 := h x
  have a2 := h p
  have a3 := h q
  unfold lkL lkJ
  grind
theorem com_JJ {p q r s : NP} {f : NP → Option NP} (h : Both f) (hpq : p ≠ q) (hrs : r ≠ s) (d : dis p q r s) : lkJ p q (lkJ r s f) = lkJ r s (lkJ p q f) := by
  obtain ⟨d1,d2,d3,d4⟩ := d
  funext x
  have a1 := h x
  have a2 := h p
  have a3 := h q
  have a4 := h r
  have a5 := h s
  unfold lkJ
  grind
def AO.own (W : Nm → Prop) : AO → Prop
  | .mk m _ => W m
  | .fr m => W m
  | .mv p q => W p.1 ∧ W q.1
  | .jn p q => W p.1 ∧ W q.1
  | .ln p q => W p.1 ∧ W q.1
theorem AO.com {W V : Nm → Prop} (hd : ∀ x,W x → V x → False) {o u : AO} (h1 : o.own W) (h2 : u.own V) (k1 : o.ok) (k2 : u.ok) {A : Ab} (hA : Both A.lk) : AO.run (AO.run A o) u = AO.run (AO.run A u) o := by
  have ne : ∀ x y : NP,W x.1 → V y.1 → x ≠ y := fun x y a b e => hd x.1 a (e ▸ b)
  have nm : ∀ x y : Nm,W x → V y → x ≠ y := fun x y a b e => hd x a (e ▸ b)
  have D : ∀ p q r s : NP,W p.1 → W q.1 → V r.1 → V s.1 → dis p q r s := fun p q r s a b c d => ⟨ne _ _ a c,ne _ _ a d,ne _ _ b c,ne _ _ b d⟩
  have D' : ∀ p q r s : NP,W p.1 → W q.1 → V r.1 → V s.1 → dis r s p q := fun p q r s a b c d => ⟨(ne _ _ a c).symm,(ne _ _ b c).symm,(ne _ _ a d).symm,(ne _ _ b d).symm⟩
  cases o with
  | mk m x =>
    cases u with
    | mk m' x' =>
      have := nm _ _ h1 h2
      simp only [AO.run,Ab.mk.injEq,and_true]
      funext z; grind
    | fr m' =>
      have := nm _ _ h1 h2
      simp only [AO.run,Ab.mk.injEq,and_true]
      funext z; grind
    | _ => rfl
  | fr m =>
    cases u with
    | mk m' x' =>
      have := nm _ _ h1 h2
      simp only [AO.run,Ab.mk.injEq,and_true]
      funext z; grind
    | fr m' =>
      have := nm _ _ h1 h2
      simp only [AO.run,Ab.mk.injEq,and_true]
      funext z; grind
    | _ => rfl
  | mv p q =>
    cases u with
    | mv r s => simp only [AO.run,Ab.mk.injEq,true_and]; exact com_MM (D' _ _ _ _ h1.1 h1.2 h2.1 h2.2)
    | jn r s => simp only [AO.run,Ab.mk.injEq,true_and]; exact (com_MJ (D _ _ _ _ h1.1 h1.2 h2.1 h2.2)).symm
    | ln r s => simp only [AO.run,Ab.mk.injEq,true_and]; exact (com_ML (D _ _ _ _ h1.1 h1.2 h2.1 h2.2)).symm
    | _ => rfl
  | jn p q =>
    cases u with
    | mv r s => simp only [AO.run,Ab.mk.injEq,true_and]; exact com_MJ (D' _ _ _ _ h1.1 h1.2 h2.1 h2.2)
    | jn r s => simp only [AO.run,Ab.mk.injEq,true_and]; exact com_JJ hA k2 k1 (D' _ _ _ _ h1.1 h1.2 h2.1 h2.2)
    | ln r s => simp only [AO.run,Ab.mk.injEq,true_and]; exact (com_JL hA (D _ _ _ _ h1.1 h1.2 h2.1 h2.2)).symm
    | _ => rfl
  | ln p q =>
    cases u with
    | mv r s => simp only [AO.run,Ab.mk.injEq,true_and]; exact com_ML (D' _ _ _ _ h1.1 h1.2 h2.1 h2.2)
    | jn r s => simp only [AO.run,Ab.mk.injEq,true_and]; exact com_JL hA (D' _ _ _ _ h1.1 h1.2 h2.1 h2.2)
    | ln r s => simp only [AO.run,Ab.mk.injEq,true_and]; exact com_LL (D' _ _ _ _ h1.1 h1.2 h2.1 h2.2)
    | _ => rfl
theorem runA_com1 {W V : Nm → Prop} (hd : ∀ x,W x → V x → False) {o : AO} (h1 : o.own W) (k1 : o.ok) : ∀ {l : List AO} {A : Ab},(∀ u ∈ l,u.own V ∧ u.ok) → Both A.lk → runA (AO.run A o) l = AO.run (runA A l) o
  | [],A,_,_ => rfl
  | u :: l,A,hl,hA => by
    have hu := hl u (by simp)
    show runA (AO.run (AO.run A o) u) l = AO.run (runA (AO.run A u) l) o
    rw [AO.com hd h1 hu.1 k1 hu.2 hA]
    exact runA_com1 hd h1 k1 (fun v hv => hl v (by simp [hv])) (AO.both hu.2 hA)
theorem runA_com {W V : Nm → Prop} (hd : ∀ x,W x → V x → False) : ∀ {l : List AO} {m : List AO} {A : Ab},(∀ u ∈ l,u.own W ∧ u.ok) → (∀ u ∈ m,u.own V ∧ u.ok) → Both A.lk → runA (runA A l) m = runA (runA A m) l
  | [],m,A,_,_,_ => rfl
  | o :: l,m,A,hl,hm,hA => by
    have ho := hl o (by simp)
    show runA (runA (AO.run A o) l) m = runA (AO.run (runA A m) o) l
    rw [runA_com hd (fun u hu => hl u (by simp [hu])) hm (AO.both ho.2 hA),runA_com1 hd ho.1 ho.2 hm hA]
end Go.Proofs.Ytkpfjolcmkikeaa
end
section
set_option linter.unusedSimpArgs false
set_option linter.unusedVariables false
set_option maxHeartbeats 4000000
namespace Go.Proofs.Ytkpfjolcmkikeaa
open Go.Fx
def nmP (ν : Int → Nm) (p : Pt) : NP := (ν p.n,p.s)
def blank (x : Nd) : Nd := { x with to := List.replicate x.to.length zP }
def Us (n : Nt) (i : Int) : Prop := 0 ≤ i ∧ i < n.ns.length ∧ (n.nd i).k ≠ 0
structure Rep (ν : Int → Nm) (n : Nt) (L : List Pt) (A : Ab) : Prop where
  inj : ∀ i j : Int,Us n i → Us n j → ν i = ν j → i = j
  nd : ∀ i,Us n i → A.nd (ν i) = some (blank (n.nd i))
  only : ∀ x y,A.nd x = some y → ∃ i,Us n i ∧ ν i = x
  cl : ∀ p,n.has p = true → p ∉ L → A.lk (nmP ν p) = some (nmP ν (n.lk p))
  op : ∀ p,p ∈ L → A.lk (nmP ν p) = none
  out : ∀ r u,A.lk r = some u → ∃ p,n.has p = true ∧ p ∉ L ∧ r = nmP ν p
theorem Rep.perm {ν : Int → Nm} {n : Nt} {L M : List Pt} {A : Ab} (h : Rep ν n L A) (e : L.Perm M) : Rep ν n M A :=
  ⟨h.inj,h.nd,h.only,fun p hp hM => h.cl p hp fun k => hM (e.mem_iff.1 k),fun p hp => h.op p (e.mem_iff.2 hp),fun r u hu => by obtain ⟨p,a,b,c⟩ := h.out r u hu; exact ⟨p,a,fun k => b (e.mem_iff.2 k),c⟩⟩
theorem us_has {n : Nt} {X : Pt → Prop} (hs : Semi n X) {p : Pt} (hp : n.has p = true) : Us n p.n := by
  have h1 := has_iff.1 hp
  exact ⟨h1.1,h1.2.1,semi_k hs hp⟩
theorem Rep.injP {ν : Int → Nm} {n : Nt} {L : List Pt} {A : Ab} (h : Rep ν n L A) {X : Pt → Prop} (hs : Semi n X) {p q : Pt} (hp : n.has p = true) (hq : n.has q = true) (e : nmP ν p = nmP ν q) : p = q := by
  unfold nmP at e
  injection e with e1 e2
  have := h.inj _ _ (us_has hs hp) (us_has hs hq) e1
  obtain ⟨a,b⟩ := p
  obtain ⟨c,d⟩ := q
  simp only at this e2
  rw [this,e2]
theorem shp_us {n m : Nt} (h : Shp n m) (i : Int) : Us m i ↔ Us n i := by
  unfold Us
  rw [h.1]
  constructor
  · rintro ⟨h1,h2,h3⟩; exact ⟨h1,h2,by rw [← (h.2.2 i h1).1]; exact h3⟩
  · rintro ⟨h1,h2,h3⟩; exact ⟨h1,h2,by rw [(h.2.2 i h1).1]; exact h3⟩
theorem shp_blank {n m : Nt} (h : Shp n m) {i : Int} (h0 : 0 ≤ i) : blank (m.nd i) = blank (n.nd i) := by
  have := h.2.2 i h0
  unfold blank
  obtain ⟨h1,h2,h3,h4,h5,h6⟩ := this
  rw [h1,h2,h3,h4,h5,h6]
theorem Rep.shp {ν : Int → Nm} {n m : Nt} {L M : List Pt} {A B : Ab} (h : Rep ν n L A) (hs : Shp n m) (hB : B.nd = A.nd) (cl : ∀ p,n.has p = true → p ∉ M → B.lk (nmP ν p) = some (nmP ν (m.lk p))) (op : ∀ p,p ∈ M → B.lk (nmP ν p) = none) (out : ∀ r u,B.lk r = some u → ∃ p,n.has p = true ∧ p ∉ M ∧ r = nmP ν p) : Rep ν m M B :=
  ⟨fun i j hi hj => h.inj i j ((shp_us hs i).1 hi) ((shp_us hs j).1 hj),fun i hi => by rw [hB,h.nd i ((shp_us hs i).1 hi),shp_blank hs hi.1],fun x y hx => by obtain ⟨i,h1,h2⟩ := h.only x y (by rw [← hB]; exact hx); exact ⟨i,(shp_us hs i).2 h1,h2⟩,
    fun p hp hM => cl p (by rw [← hs.has]; exact hp) hM,op,fun r u hu => by obtain ⟨p,a,b,c⟩ := out r u hu; exact ⟨p,by rw [hs.has]; exact a,b,c⟩⟩
theorem Rep.link {ν : Int → Nm} {n : Nt} {L : List Pt} {A : Ab} {p q : Pt} (h : Rep ν n (p :: q :: L) A) (hs : Semi n (· ∈ p :: q :: L)) (hn : (p :: q :: L).Nodup) : Rep ν (linkR n p q).1 L (AO.run A (.ln (nmP ν p) (nmP ν q))) := by
  have hp := hs.xs p (by simp)
  have hq := hs.xs q (by simp)
  simp only [List.nodup_cons,List.mem_cons,not_or] at hn
  obtain ⟨⟨hne,hpL⟩,hqL,_⟩ := hn
  rw [linkR_ok hp hq hne]
  have I := fun {r u : Pt} (a : n.has r = true) (b : n.has u = true) (e : nmP ν r = nmP ν u) => h.injP hs a b e
  have hpq : nmP ν q ≠ nmP ν p := fun e => hne (I hq hp e).symm
  refine h.shp (ln_shp hp hq) rfl (fun r hr hL => ?_) (fun r hr => ?_) (fun r u hu => ?_)
  · show lkL _ _ A.lk _ = _
    rw [ln_lk hp hq hr]
    unfold lkL
    by_cases e1 : r = p
    · subst e1; rw [if_pos rfl,if_neg hne,if_pos rfl]
    by_cases e2 : r = q
    · subst e2; rw [if_neg hpq,if_pos rfl,if_pos rfl]
    rw [if_neg (fun e => e1 (I hr hp e)),if_neg (fun e => e2 (I hr hq e)),if_neg e2,if_neg e1]
    have hX : r ∉ p :: q :: L := by simp [e1,e2,hL]
    obtain ⟨l1,l2,l3,l4⟩ := hs.ln r hr hX
    rw [h.cl r hr hX,if_neg]
    rintro (e | e)
    · exact l3 (by rw [I l2 hp (Option.some.inj e)]; simp)
    · exact l3 (by rw [I l2 hq (Option.some.inj e)]; simp)
  · show lkL _ _ A.lk _ = _
    have hrh := hs.xs r (by simp [hr])
    unfold lkL
    rw [if_neg (fun e => hpL (I hrh hp e ▸ hr)),if_neg (fun e => hqL (I hrh hq e ▸ hr)),h.op r (by simp [hr])]; simp
  · have hu : lkL _ _ A.lk r = some u := hu
    unfold lkL at hu
    by_cases e1 : r = nmP ν p
    · exact ⟨p,hp,hpL,e1⟩
    by_cases e2 : r = nmP ν q
    · exact ⟨q,hq,hqL,e2⟩
    rw [if_neg e1,if_neg e2] at hu
    split at hu
    · cases hu
    · obtain ⟨s,a,b,c⟩ := h.out r u hu
      simp only [List.mem_cons,not_or] at b
      exact ⟨s,a,b.2.2,c⟩
theorem Rep.move {ν : Int → Nm} {n : Nt} {L : List Pt} {A : Ab} {p q : Pt} (h : Rep ν n (q :: L) A) (hs : Semi n (· ∈ q :: L)) (hn : (q :: L).Nodup) (hp : n.has p = true) (hpX : p ∉ q :: L) : Rep ν (moveR n p q).1 (p :: L) (AO.run A (.mv (nmP ν p) (nmP ν q))) := by
  have hq := hs.xs q (by simp)
  simp only [List.nodup_cons] at hn
  obtain ⟨hqL,_⟩ := hn
  rw [(hs.move hp hpX (by simp : q ∈ q :: L)).1]
  obtain ⟨k1,k2,k3,k4⟩ := hs.ln p hp hpX
  have hpX' := hpX
  simp only [List.mem_cons,not_or] at hpX' k3
  have I := fun {r u : Pt} (a : n.has r = true) (b : n.has u = true) (e : nmP ν r = nmP ν u) => h.injP hs a b e
  have swp : sw (nmP ν p) (nmP ν q) (nmP ν p) = nmP ν q := by unfold sw; rw [if_pos rfl]
  have swq : sw (nmP ν p) (nmP ν q) (nmP ν q) = nmP ν p := by
    unfold sw; rw [if_neg (fun e => hpX'.1 (I hq hp e).symm),if_pos rfl]
  have swo : ∀ r,n.has r = true → r ≠ p → r ≠ q → sw (nmP ν p) (nmP ν q) (nmP ν r) = nmP ν r := fun r hr e1 e2 => by
    unfold sw; rw [if_neg (fun e => e1 (I hr hp e)),if_neg (fun e => e2 (I hr hq e))]
  refine h.shp (ln_shp hq k2) rfl (fun r hr hL => ?_) (fun r hr => ?_) (fun r u hu => ?_)
  · show lkM _ _ A.lk _ = _
    simp only [List.mem_cons,not_or] at hL
    rw [ln_lk hq k2 hr]
    unfold lkM
    by_cases e2 : r = q
    · subst e2
      rw [swq,h.cl p hp hpX,Option.map_some,swo _ k2 k1 k3.1,if_neg (fun e => k3.1 e.symm),if_pos rfl]
    · have hX : r ∉ q :: L := by simp [e2,hL.2]
      obtain ⟨l1,l2,l3,l4⟩ := hs.ln r hr hX
      simp only [List.mem_cons,not_or] at l3
      rw [swo r hr hL.1 e2,h.cl r hr hX,Option.map_some]
      by_cases e3 : n.lk r = p
      · rw [e3,swp,if_pos (by rw [← e3,l4])]
      · rw [swo _ l2 e3 l3.1,if_neg (fun e => e3 (by rw [e,k4])),if_neg e2]
  · show lkM _ _ A.lk _ = _
    unfold lkM
    rcases List.mem_cons.1 hr with rfl | hr
    · rw [swp,h.op q (by simp)]; rfl
    · have hrh := hs.xs r (by simp [hr])
      rw [swo r hrh (fun e => hpX'.2 (e ▸ hr)) (fun e => hqL (e ▸ hr)),h.op r (by simp [hr])]; rfl
  · have hu : lkM _ _ A.lk r = some u := hu
    unfold lkM at hu
    obtain ⟨v,hv,_⟩ := Option.map_eq_some_iff.1 hu
    obtain ⟨s,a,b,c⟩ := h.out _ v hv
    have hr : r = sw (nmP ν p) (nmP ν q) (nmP ν s) := by rw [← c,sw_sw]
    simp only [List.mem_cons,not_or] at b
    by_cases e : s = p
    · refine ⟨q,hq,?_,by rw [hr,e,swp]⟩
      simp only [List.mem_cons,not_or]
      exact ⟨fun e => hpX'.1 e.symm,hqL⟩
    · refine ⟨s,a,?_,by rw [hr,swo s a e b.1]⟩
      simp only [List.mem_cons,not_or]
      exact ⟨e,b.2⟩
theorem Rep.join {ν : Int → Nm} {n : Nt} {L : List Pt} {A : Ab} {p q : Pt} (h : Rep ν n L A) (hs : Semi n (· ∈ L)) (hp : n.has p = true) (hq : n.has q = true) (hpX : p ∉ L) (hqX : q ∉ L) (hpq : p ≠ q) : Rep ν (joinR n p q).1 (p :: q :: L) (AO.run A (.jn (nmP ν p) (nmP ν q))) := by
  rw [(hs.join hp hpX hq hqX hpq).1]
  obtain ⟨k1,k2,k3,k4⟩ := hs.ln p hp hpX
  obtain ⟨j1,j2,j3,j4⟩ := hs.ln q hq hqX
  have I := fun {r u : Pt} (a : n.has r = true) (b : n.has u = true) (e : nmP ν r = nmP ν u) => h.injP hs a b e
  have op' : ∀ r,r ∈ p :: q :: L → lkJ (nmP ν p) (nmP ν q) A.lk (nmP ν r) = none := fun r hr => by
    unfold lkJ
    simp only [List.mem_cons] at hr
    rcases hr with rfl | rfl | hr
    · simp
    · simp
    · have hrh := hs.xs r hr
      rw [if_neg,h.op r hr]
      · simp
      · rintro (e | e)
        · exact hpX (I hrh hp e ▸ hr)
        · exact hqX (I hrh hq e ▸ hr)
  have out' : ∀ r u,lkJ (nmP ν p) (nmP ν q) A.lk r = some u → ∃ s,n.has s = true ∧ s ∉ p :: q :: L ∧ r = nmP ν s := fun r u hu => by
    unfold lkJ at hu
    split at hu
    · cases hu
    · rename_i hne
      have hsome : ∃ v,A.lk r = some v := by
        split at hu
        · exact ⟨_,by assumption⟩
        · split at hu
          · exact ⟨_,by assumption⟩
          · exact ⟨_,hu⟩
      obtain ⟨v,hv⟩ := hsome
      obtain ⟨s,a,b,c⟩ := h.out r v hv
      refine ⟨s,a,?_,c⟩
      simp only [List.mem_cons,not_or]
      exact ⟨fun e => hne (.inl (by rw [c,e])),fun e => hne (.inr (by rw [c,e])),b⟩
  have val : ∀ r,n.has r = true → r ∉ p :: q :: L → lkJ (nmP ν p) (nmP ν q) A.lk (nmP ν r) = some (nmP ν (if n.lk r = p then n.lk q else if n.lk r = q then n.lk p else n.lk r)) := fun r hr hX => by
    simp only [List.mem_cons,not_or] at hX
    obtain ⟨l1,l2,l3,l4⟩ := hs.ln r hr hX.2.2
    unfold lkJ
    rw [if_neg (by rintro (e | e); exact hX.1 (I hr hp e); exact hX.2.1 (I hr hq e)),h.cl r hr hX.2.2,h.cl p hp hpX,h.cl q hq hqX]
    by_cases e1 : n.lk r = p
    · rw [if_pos (by rw [e1]),if_pos e1]
    · rw [if_neg (fun e => e1 (I l2 hp (Option.some.inj e))),if_neg e1]
      by_cases e2 : n.lk r = q
      · rw [if_pos (by rw [e2]),if_pos e2]
      · rw [if_neg (fun e => e2 (I l2 hq (Option.some.inj e))),if_neg e2]
  by_cases e : n.lk p = q
  · rw [if_pos e]
    refine h.shp (Shp.refl n) rfl (fun r hr hX => ?_) op' out'
    show lkJ _ _ A.lk _ = _
    rw [val r hr hX]
    have hX' := hX
    simp only [List.mem_cons,not_or] at hX'
    have l4 := (hs.ln r hr hX'.2.2).2.2.2
    rw [if_neg (fun e1 => hX'.2.1 (by rw [← l4,e1,e])),if_neg (fun e1 => hX'.1 (by rw [← l4,e1,← e,k4]))]
  · rw [if_neg e]
    refine h.shp (ln_shp k2 j2) rfl (fun r hr hX => ?_) op' out'
    show lkJ _ _ A.lk _ = _
    rw [val r hr hX,ln_lk k2 j2 hr]
    have hX' := hX
    simp only [List.mem_cons,not_or] at hX'
    have l4 := (hs.ln r hr hX'.2.2).2.2.2
    by_cases e1 : n.lk r = p
    · have er : r = n.lk p := by rw [← e1,l4]
      rw [if_pos e1,if_neg (fun k => hpq (by rw [← e1,k,j4])),if_pos er]
    · rw [if_neg e1]
      by_cases e2 : n.lk r = q
      · have er : r = n.lk q := by rw [← e2,l4]
        rw [if_pos e2,if_pos er]
      · rw [if_neg e2,if_neg (fun k => e2 (by rw [k,j4])),if_neg (fun k => e1 (by rw [k,k4]))]
def updN (ν : Int → Nm) (t : Int) (m : Nm) : Int → Nm := fun i => if i = t then m else ν i
theorem Rep.make {ν : Int → Nm} {n : Nt} {L : List Pt} {A : Ab} (h : Rep ν n L A) (hs : Semi n (· ∈ L)) {x : Nd} {m : Nt} {t : Int} (hM : MadeQ n x m t) (hk : x.k ≠ 0) (hU : ∀ i,Us m i ↔ Us n i ∨ i = t) (hp : 0 ≤ x.ports) {u : Nm} (hu : A.nd u = none) :
    Rep (updN ν t u) m (newP x t ++ L) (AO.run A (.mk u (blank x.fresh))) := by
  have nt : ∀ i,Us n i → i ≠ t := fun i hi e => hi.2.2 (by rw [e]; exact hM.free)
  have ν' : ∀ i,i ≠ t → updN ν t u i = ν i := fun i e => by unfold updN; rw [if_neg e]
  have νt : updN ν t u t = u := by unfold updN; rw [if_pos rfl]
  have nu : ∀ i,Us n i → ν i ≠ u := fun i hi e => by have := h.nd i hi; rw [e,hu] at this; cases this
  have mp : ∀ p,p ∈ newP x t ↔ p.n = t ∧ 0 ≤ p.s ∧ p.s < x.ports := fun p => by
    unfold newP; rw [mem_portsR]
    constructor
    · rintro ⟨h1,h2,h3⟩; exact ⟨h1,by omega,by omega⟩
    · rintro ⟨h1,h2,h3⟩; exact ⟨h1,by omega,by omega⟩
  have old : ∀ p,n.has p = true → nmP (updN ν t u) p = nmP ν p := fun p hp => by unfold nmP; rw [ν' _ (hM.new p hp)]
  refine ⟨fun i j hi hj e => ?_,fun i hi => ?_,fun y z hy => ?_,fun p hp hL => ?_,fun p hp => ?_,fun r w hr => ?_⟩
  · rcases (hU i).1 hi with hi | rfl
    · rcases (hU j).1 hj with hj | rfl
      · rw [ν' i (nt i hi),ν' j (nt j hj)] at e; exact h.inj i j hi hj e
      · rw [ν' i (nt i hi),νt] at e; exact absurd e (nu i hi)
    · rcases (hU j).1 hj with hj | rfl
      · rw [ν' j (nt j hj),νt] at e; exact absurd e.symm (nu j hj)
      · rfl
  · show (if updN ν t u i = u then _ else A.nd _) = _
    rcases (hU i).1 hi with hi | rfl
    · rw [ν' i (nt i hi),if_neg (nu i hi),h.nd i hi,hM.oth i hi.1 (nt i hi)]
    · rw [νt,if_pos rfl,hM.nd]
  · have hy : (if y = u then _ else A.nd y) = some z := hy
    by_cases e : y = u
    · exact ⟨t,(hU t).2 (.inr rfl),by rw [νt,e]⟩
    · rw [if_neg e] at hy
      obtain ⟨i,hi,e2⟩ := h.only y z hy
      exact ⟨i,(hU i).2 (.inl hi),by rw [ν' i (nt i hi),e2]⟩
  · show A.lk _ = _
    simp only [List.mem_append,not_or] at hL
    rcases (hM.has p).1 hp with hp | hp
    · obtain ⟨l1,l2,l3,l4⟩ := hs.ln p hp hL.2
      rw [old p hp,hM.lk p hp,old _ l2]; exact h.cl p hp hL.2
    · exact absurd ((mp p).2 hp) hL.1
  · show A.lk _ = none
    rcases List.mem_append.1 hp with hp | hp
    · cases hc : A.lk (nmP (updN ν t u) p) with
      | none => rfl
      | some w =>
        obtain ⟨s,a,_,c⟩ := h.out _ _ hc
        unfold nmP at c
        rw [((mp p).1 hp).1,νt] at c
        injection c with c _
        exact absurd c.symm (nu s.n (us_has hs a))
    · rw [old p (hs.xs p hp)]; exact h.op p hp
  · obtain ⟨s,a,b,c⟩ := h.out r w hr
    refine ⟨s,(hM.has s).2 (.inl a),?_,by rw [old s a]; exact c⟩
    simp only [List.mem_append,not_or]
    exact ⟨fun k => hM.new s a ((mp s).1 k).1,b⟩
theorem Rep.free {ν : Int → Nm} {n m : Nt} {L M : List Pt} {A : Ab} (h : Rep ν n L A) (hs : Semi n (· ∈ L)) {i : Int} (hU : ∀ j,Us m j ↔ Us n j ∧ j ≠ i) (hnd : ∀ j,Us m j → m.nd j = n.nd j) (hi : Us n i) (hX : ∀ p,n.has p = true → p.n = i → p ∈ L) (hM : ∀ p,p ∈ M ↔ p ∈ L ∧ p.n ≠ i)
    (hhas : ∀ p,m.has p = true ↔ n.has p = true ∧ p.n ≠ i) (hlk : ∀ p,n.has p = true → p.n ≠ i → m.lk p = n.lk p) : Rep ν m M (AO.run A (.fr (ν i))) := by
  have ne : ∀ j,Us m j → ν j ≠ ν i := fun j hj e => ((hU j).1 hj).2 (h.inj j i ((hU j).1 hj).1 hi e)
  refine ⟨fun j k hj hk e => h.inj j k ((hU j).1 hj).1 ((hU k).1 hk).1 e,fun j hj => ?_,fun y z hy => ?_,fun p hp hL => ?_,fun p hp => ?_,fun r w hr => ?_⟩
  · show (if ν j = ν i then none else A.nd _) = _
    rw [if_neg (ne j hj),h.nd j ((hU j).1 hj).1,hnd j hj]
  · have hy : (if y = ν i then none else A.nd y) = some z := hy
    by_cases e : y = ν i
    · rw [if_pos e] at hy; cases hy
    · rw [if_neg e] at hy
      obtain ⟨j,hj,e2⟩ := h.only y z hy
      exact ⟨j,(hU j).2 ⟨hj,fun k => e (by rw [← e2,k])⟩,e2⟩
  · show A.lk _ = _
    obtain ⟨a,b⟩ := (hhas p).1 hp
    rw [hlk p a b]
    exact h.cl p a fun k => hL ((hM p).2 ⟨k,b⟩)
  · show A.lk _ = none
    exact h.op p ((hM p).1 hp).1
  · obtain ⟨s,a,b,c⟩ := h.out r w hr
    have hsi : s.n ≠ i := fun e => b (hX s a e)
    exact ⟨s,(hhas s).2 ⟨a,hsi⟩,fun k => b ((hM s).1 k).1,c⟩
end Go.Proofs.Ytkpfjolcmkikeaa
end
section
set_option linter.unusedSimpArgs false
set_option linter.unusedVariables false
set_option maxHeartbeats 4000000
namespace Go.Proofs.Ytkpfjolcmkikeaa
open Go.Fx
theorem us_iff {n : Nt} {i : Int} : Us n i ↔ 0 ≤ i ∧ (n.nd i).k ≠ 0 := by
  constructor
  · rintro ⟨h1,_,h3⟩; exact ⟨h1,h3⟩
  · rintro ⟨h1,h3⟩
    refine ⟨h1,?_,h3⟩
    rcases Int.lt_or_le i n.ns.length with h | h
    · exact h
    · exfalso; apply h3
      unfold Nt.nd; rw [List.getD_eq_getElem?_getD,List.getElem?_eq_none (by omega)]; rfl
theorem made_us {n m : Nt} {x : Nd} {t : Int} (h : MadeQ n x m t) (hk : x.k ≠ 0) (i : Int) : Us m i ↔ Us n i ∨ i = t := by
  rw [us_iff,us_iff]
  by_cases e : i = t
  · subst e
    rw [h.nd]
    exact ⟨fun _ => .inr rfl,fun _ => ⟨by have := h.one; omega,hk⟩⟩
  · constructor
    · rintro ⟨h1,h2⟩; rw [h.oth i h1 e] at h2; exact .inl ⟨h1,h2⟩
    · rintro (⟨h1,h2⟩ | h)
      · exact ⟨h1,by rw [h.oth i h1 e]; exact h2⟩
      · exact absurd h e
def namesA (tag j k : Nat) : List Nm := (List.range' j k).map fun i => (tag,i)
def mkA (x : Nd) (l : List Nm) : List AO := l.map fun u => .mk u (blank x.fresh)
theorem runA_mk_nd (x : Nd) : ∀ (l : List Nm) (A : Ab) (u : Nm),u ∉ l → (runA A (mkA x l)).nd u = A.nd u
  | [],A,u,_ => rfl
  | v :: l,A,u,h => by
    simp only [List.mem_cons,not_or] at h
    show (runA (AO.run A (.mk v (blank x.fresh))) (mkA x l)).nd u = _
    rw [runA_mk_nd x l _ u h.2]
    show (if u = v then _ else A.nd u) = _
    rw [if_neg h.1]
theorem namesA_succ (tag j k : Nat) : namesA tag j (k + 1) = namesA tag j k ++ [(tag,j + k)] := by
  unfold namesA; rw [List.range'_concat,List.map_append]; simp
theorem mem_namesA {tag j k : Nat} {u : Nm} : u ∈ namesA tag j k ↔ u.1 = tag ∧ j ≤ u.2 ∧ u.2 < j + k := by
  unfold namesA
  simp only [List.mem_map,List.mem_range'_1]
  constructor
  · rintro ⟨i,h,rfl⟩; exact ⟨rfl,h.1,h.2⟩
  · rintro ⟨h1,h2,h3⟩; exact ⟨u.2,⟨h2,h3⟩,by rw [← h1]⟩
section
variable {n0 n : Nt} {a b c : Int} {L : List Pt}
theorem Run.likesR (h : Run n0 a b c n L) {x : Nd} (hx : x.Ok) (hm : x.may) (hk0 : x.k ≠ 0) (hk1 : x.k ≠ 1) (hp : 0 < x.ports) {ν : Int → Nm} {A : Ab} (hR : Rep ν n L A) {tag j : Nat} (hA : ∀ i,j ≤ i → A.nd (tag,i) = none) : ∀ k : Nat,n0.used + c + k ≤ n0.cap →
    ∃ ν',Rep ν' (likeR n x k).1 ((likeR n x k).2.flatMap (newP x) ++ L) (runA A (mkA x (namesA tag j k))) ∧ (∀ i,Us n i → ν' i = ν i) ∧ (likeR n x k).2.map ν' = namesA tag j k
  | 0,_ => ⟨ν,by simpa [likeR,namesA,mkA,runA] using hR,fun _ _ => rfl,rfl⟩
  | k + 1,hu => by
    obtain ⟨h1,h2,h3⟩ := h.likes hx hm hk0 hk1 hp k (by omega)
    obtain ⟨ν',g1,g2,g3⟩ := Run.likesR h hx hm hk0 hk1 hp hR hA k (by omega)
    obtain ⟨t,e1,e2,e3⟩ := h3.make hx hm hk0 hk1 (by omega)
    have ht : (makeR (likeR n x k).1 x).2.1 = t := by rw [e1]
    have hU := made_us e2 hk0
    have hnone : (runA A (mkA x (namesA tag j k))).nd (tag,j + k) = none := by
      rw [runA_mk_nd]
      · exact hA _ (by omega)
      · rw [mem_namesA]; simp only; omega
    have r1 := g1.make h3.semi e2 hk0 hU (by omega) hnone
    simp only [likeR,ht]
    refine ⟨updN ν' t (tag,j + k),?_,fun i hi => ?_,?_⟩
    · have e : runA A (mkA x (namesA tag j (k + 1))) = AO.run (runA A (mkA x (namesA tag j k))) (.mk (tag,j + k) (blank x.fresh)) := by
        rw [namesA_succ]
        unfold mkA
        rw [List.map_append,runA_app]; rfl
      rw [e]
      refine r1.perm ?_
      rw [List.flatMap_append,List.append_assoc]
      simp only [List.flatMap_cons,List.flatMap_nil,List.append_nil]
      rw [← List.append_assoc,← List.append_assoc]
      exact List.Perm.append_right _ List.perm_append_comm
    · have hi2 : Us (likeR n x k).1 i := by
        rw [us_iff] at hi ⊢
        by_cases hid : i ∈ (likeR n x k).2
        · exact absurd (h1.free i hid) hi.2
        · exact ⟨hi.1,by rw [h1.oth i hi.1 hid]; exact hi.2⟩
      have : i ≠ t := fun e => hi2.2.2 (by rw [e]; exact e2.free)
      unfold updN; rw [if_neg this]; exact g2 i hi
    · rw [List.map_append,namesA_succ,← g3]
      congr 1
      · refine List.map_congr_left fun d hd => ?_
        have : d ≠ t := fun e => e2.new ⟨d,0⟩ ((h1.has _).2 (.inr ⟨hd,by simp,hp⟩)) e
        unfold updN; rw [if_neg this]
      · simp [updN]
end
def Op.nm (ν : Int → Nm) : Op → AO
  | .mv p q => .mv (nmP ν p) (nmP ν q)
  | .jn p q => .jn (nmP ν p) (nmP ν q)
  | .ln p q => .ln (nmP ν p) (nmP ν q)
structure RS (n0 : Nt) (a b c : Int) (m : Nt) (ν : Int → Nm) (A : Ab) (H : List Op) (L : List Pt) : Prop where
  run : Run n0 a b c (runs m H) L
  rep : Rep ν (runs m H) L (runA A (H.map (Op.nm ν)))
section
variable {n0 m : Nt} {a b c : Int} {ν : Int → Nm} {A : Ab} {H : List Op} {L : List Pt}
theorem RS.perm {M : List Pt} (h : RS n0 a b c m ν A H L) (p : L.Perm M) : RS n0 a b c m ν A H M := ⟨h.run.perm p,h.rep.perm p⟩
theorem RS.nil (h : Run n0 a b c m L) (hR : Rep ν m L A) : RS n0 a b c m ν A [] L := ⟨h,hR⟩
theorem RS.has (p : Pt) : (runs m H).has p = m.has p := (runs_shp H m).has p
theorem RS.link {p q : Pt} (h : RS n0 a b c m ν A H (p :: q :: L)) : RS n0 a b c m ν A (H ++ [.ln p q]) L := by
  refine ⟨by rw [runs_one]; exact h.run.link,?_⟩
  rw [runs_one,List.map_append,runA_app]
  exact h.rep.link h.run.semi h.run.nod
theorem RS.move {p q : Pt} (h : RS n0 a b c m ν A H (q :: L)) (hp1 : m.has p = true) (hp : p ∉ q :: L) (hab : p.n = a ∨ p.n = b) : RS n0 a b c m ν A (H ++ [.mv p q]) (p :: L) := by
  have hp2 : (runs m H).has p = true := by rw [RS.has]; exact hp1
  refine ⟨by rw [runs_one]; exact h.run.move hp2 hp hab,?_⟩
  rw [runs_one,List.map_append,runA_app]
  exact h.rep.move h.run.semi h.run.nod hp2 hp
theorem RS.join {p q : Pt} (h : RS n0 a b c m ν A H L) (hp1 : m.has p = true) (hq1 : m.has q = true) (hp : p ∉ L) (hq : q ∉ L) (hpq : p ≠ q) (hpa : p.n = a ∨ p.n = b) (hqa : q.n = a ∨ q.n = b) : RS n0 a b c m ν A (H ++ [.jn p q]) (p :: q :: L) := by
  have hp2 : (runs m H).has p = true := by rw [RS.has]; exact hp1
  have hq2 : (runs m H).has q = true := by rw [RS.has]; exact hq1
  refine ⟨by rw [runs_one]; exact h.run.join hp2 hq2 hp hq hpq hpa hqa,?_⟩
  rw [runs_one,List.map_append,runA_app]
  exact h.rep.join h.run.semi hp2 hq2 hp hq hpq
theorem app1 {α : Type} (H : List α) (o : α) (l : List α) : (H ++ [o]) ++ l = H ++ (o :: l) := by rw [List.append_assoc]; rfl
theorem RS.moves : ∀ (l : List Pt) (ds : List Int) {H : List Op} {L : List Pt},RS n0 a b c m ν A H (ds.map (fun d => ⟨d,0⟩) ++ L) → l.length = ds.length → l.Nodup →
    (∀ p ∈ l,m.has p = true ∧ p ∉ L ∧ p.n ∉ ds ∧ (p.n = a ∨ p.n = b)) → RS n0 a b c m ν A (H ++ dropOps l ds) (l ++ L)
  | [],[],H,L,h,_,_,_ => by simpa [dropOps] using h
  | [],_ :: _,H,L,h,hl,_,_ => by simp at hl
  | _ :: _,[],H,L,h,hl,_,_ => by simp at hl
  | p :: l,d :: ds,H,L,h,hl,hn,hp => by
    obtain ⟨p1,p2,p3,p4⟩ := hp p (by simp)
    have hn' := List.nodup_cons.1 hn
    simp only [List.mem_cons,not_or] at p3
    have h : RS n0 a b c m ν A H (⟨d,0⟩ :: (ds.map (fun d => (⟨d,0⟩ : Pt)) ++ L)) := h
    have h1 := RS.move (p := p) h p1 (by
      simp only [List.mem_cons,List.mem_append,List.mem_map,not_or,not_exists,not_and]
      exact ⟨fun e => p3.1 (by rw [e]),fun x hx e => p3.2 (by rw [← e]; exact hx),p2⟩) p4
    have h2 := RS.moves l ds (L := p :: L) (h1.perm (by exact List.perm_middle.symm)) (by simpa using hl) hn'.2 (fun q hq => by
      obtain ⟨q1,q2,q3,q4⟩ := hp q (by simp [hq])
      simp only [List.mem_cons,not_or] at q3 ⊢
      exact ⟨q1,⟨fun e => hn'.1 (e ▸ hq),q2⟩,q3.2,q4⟩)
    rw [app1] at h2
    exact h2.perm List.perm_middle
theorem RS.joins (hab : a ≠ b) : ∀ (l : List Nat) {H : List Op} {L : List Pt},RS n0 a b c m ν A H L → l.Nodup → (∀ s ∈ l,m.has ⟨a,s⟩ = true ∧ m.has ⟨b,s⟩ = true ∧ (⟨a,s⟩ : Pt) ∉ L ∧ (⟨b,s⟩ : Pt) ∉ L) →
    RS n0 a b c m ν A (H ++ joinOps a b l) (l.map (fun s : Nat => (⟨a,s⟩ : Pt)) ++ (l.map (fun s : Nat => (⟨b,s⟩ : Pt)) ++ L))
  | [],H,L,h,_,_ => by simpa [joinOps] using h
  | s :: l,H,L,h,hn,hp => by
    obtain ⟨p1,p2,p3,p4⟩ := hp s (by simp)
    have hn' := List.nodup_cons.1 hn
    have h1 := h.join p1 p2 p3 p4 (fun e => hab (by simpa using e)) (.inl rfl) (.inr rfl)
    have h2 := RS.joins hab l h1 hn'.2 (fun t ht => by
      obtain ⟨q1,q2,q3,q4⟩ := hp t (by simp [ht])
      have hts : ¬ ((t : Int) = (s : Int)) := fun e => hn'.1 (by have : t = s := by omega
                                                                 exact this ▸ ht)
      refine ⟨q1,q2,?_,?_⟩
      · simp only [List.mem_cons,Pt.mk.injEq,hts,and_false,false_or]; exact q3
      · simp only [List.mem_cons,Pt.mk.injEq,hts,and_false,false_or]; exact q4)
    rw [app1] at h2
    refine h2.perm ?_
    simp only [List.map_cons,List.cons_append]
    rw [List.perm_iff_count]
    intro r
    simp only [List.count_append,List.count_cons]
    omega
theorem RS.picks {lv : Int} : ∀ (r : List Int) (d : Int) (i : Nat) {H : List Op} {L : List Pt},RS n0 a b c m ν A H (⟨d,1⟩ :: ⟨d,2⟩ :: (r.flatMap (newP (appN lv)) ++ L)) →
    (∀ s : Nat,i < s → s ≤ i + 1 + r.length → m.has ⟨b,s⟩ = true ∧ (⟨b,s⟩ : Pt) ∉ L) → m.has ⟨a,1⟩ = true → (⟨a,1⟩ : Pt) ∉ L → a ∉ d :: r → b ∉ d :: r → a ≠ b →
    RS n0 a b c m ν A (H ++ pickOps a b i (d :: r)) (⟨a,1⟩ :: (portsR b (i + 1) (i + 2 + r.length) ++ L))
  | [],d,i,H,L,h,hb,ha,haL,had,hbd,hab => by
    obtain ⟨b1,b2⟩ := hb (i + 1) (by omega) (by simp)
    rw [show ((i + 1 : Nat) : Int) = (i : Int) + 1 by omega] at b1 b2
    simp only [List.mem_cons,List.not_mem_nil,or_false] at had hbd
    have h1 := RS.move (p := ⟨b,(i : Int) + 1⟩) (q := ⟨d,2⟩) (h.perm (List.Perm.swap ..)) b1 (by simpa [hbd] using b2) (.inr rfl)
    have h2 := RS.move (p := ⟨a,1⟩) (q := ⟨d,1⟩) (h1.perm (List.Perm.swap ..)) ha (by simpa [had,hab] using haL) (.inl rfl)
    have e : portsR b (i + 1) (i + 2 + 0) = [⟨b,(i : Int) + 1⟩] := by
      rw [portsR_cons (by omega),portsR_nil (by omega)]; rfl
    rw [List.length_nil,e]
    rw [app1] at h2
    exact h2
  | e :: r,d,i,H,L,h,hb,ha,haL,had,hbd,hab => by
    obtain ⟨b1,b2⟩ := hb (i + 1) (by omega) (by omega)
    rw [show ((i + 1 : Nat) : Int) = (i : Int) + 1 by omega] at b1 b2
    simp only [List.mem_cons,not_or] at had hbd
    rw [List.flatMap_cons,newP3 rfl] at h
    have hbn : ∀ s : Int,(⟨b,s⟩ : Pt) ∉ r.flatMap (newP (appN lv)) := fun s k => by
      obtain ⟨t,ht,hs⟩ := List.mem_flatMap.1 k
      have e : t = b := (mem_portsR.1 hs).1.symm
      subst e; exact hbd.2.2 ht
    have h1 := RS.move (p := ⟨b,(i : Int) + 1⟩) (q := ⟨d,2⟩) (h.perm (List.Perm.swap ..)) b1 (by
      simp only [List.mem_cons,List.mem_append,Pt.mk.injEq,hbd,false_and,List.not_mem_nil,or_false,false_or,not_or,List.cons_append]
      exact ⟨hbn _,b2⟩) (.inr rfl)
    have h2 := RS.link (p := ⟨d,1⟩) (q := ⟨e,0⟩) (L := ⟨b,(i : Int) + 1⟩ :: ⟨e,1⟩ :: ⟨e,2⟩ :: (r.flatMap (newP (appN lv)) ++ L)) (h1.perm (by
      rw [List.perm_iff_count]; intro r; simp only [List.cons_append,List.nil_append,List.count_cons,List.count_append]; omega))
    have h3 := RS.picks (lv := lv) r e (i + 1) (L := ⟨b,(i : Int) + 1⟩ :: L) (h2.perm (by
      rw [List.perm_iff_count]; intro r; simp only [List.cons_append,List.nil_append,List.count_cons,List.count_append]; omega)) (fun s h1 h2 => by
        obtain ⟨c1,c2⟩ := hb s (by omega) (by simp only [List.length_cons]; omega)
        refine ⟨c1,?_⟩
        have : ¬ (s : Int) = (i : Int) + 1 := by omega
        simp only [List.mem_cons,Pt.mk.injEq,this,and_false,false_or]; exact c2) ha (by
        simp only [List.mem_cons,Pt.mk.injEq,hab,false_and,false_or]; exact haL) (by simp only [List.mem_cons,not_or]; exact had.2) (by simp only [List.mem_cons,not_or]; exact hbd.2) hab
    have e' : portsR b (i + 1) (i + 2 + (e :: r).length) = ⟨b,(i : Int) + 1⟩ :: portsR b (i + 1 + 1) (i + 1 + 2 + r.length) := by
      rw [List.length_cons,portsR_cons (by omega),show i + 2 + (r.length + 1) = i + 1 + 2 + r.length by omega]; rfl
    rw [e']
    rw [app1,app1] at h3
    refine RS.perm (H := H ++ pickOps a b i (d :: e :: r)) h3 ?_
    rw [List.perm_iff_count]; intro r; simp only [List.cons_append,List.nil_append,List.count_cons,List.count_append]; omega
theorem RS.lns {t : Int} {k : Nat} : ∀ (cs : List Int) (i : Nat) {H : List Op} {L : List Pt},RS n0 a b c m ν A H (portsR t (i + 1) (i + 1 + cs.length) ++ (cs.map (fun d => (⟨d,(k : Int) + 1⟩ : Pt)) ++ L)) → RS n0 a b c m ν A (H ++ lnOps t k i cs) L
  | [],i,H,L,h => by rw [portsR_nil (by simp)] at h; simpa [lnOps] using h
  | d :: cs,i,H,L,h => by
    rw [List.length_cons,portsR_cons (by omega),show i + 1 + (cs.length + 1) = i + 1 + 1 + cs.length by omega] at h
    have h1 := RS.link (p := ⟨t,(i : Int) + 1⟩) (q := ⟨d,(k : Int) + 1⟩) (L := portsR t (i + 1 + 1) (i + 1 + 1 + cs.length) ++ (cs.map (fun d => (⟨d,(k : Int) + 1⟩ : Pt)) ++ L)) (h.perm (by
      rw [List.perm_iff_count]; intro r
      simp only [List.map_cons,List.cons_append,List.count_cons,List.count_append,Int.natCast_add,Int.cast_ofNat_Int]; omega))
    have h2 := RS.lns cs (i + 1) h1
    rw [app1] at h2
    exact h2
theorem RS.passes {x : Nd} {cs : List Int} (hx : x.ports.toNat = cs.length + 1) : ∀ (r : List Int) (k : Nat) {H : List Op} {L : List Pt},RS n0 a b c m ν A H (r.flatMap (newP x) ++ (cs.flatMap (fun d => portsR d (k + 1) (k + 1 + r.length)) ++ L)) →
    (∀ s : Nat,k < s → s < k + 1 + r.length → m.has ⟨b,s⟩ = true ∧ (⟨b,s⟩ : Pt) ∉ L) → b ∉ r → b ∉ cs →
    RS n0 a b c m ν A (H ++ passOps b cs k r) (portsR b (k + 1) (k + 1 + r.length) ++ L)
  | [],k,H,L,h,hb,hbr,hbc => by
    rw [portsR_nil (by simp)]
    have : (cs.flatMap fun d => portsR d (k + 1) (k + 1 + ([] : List Int).length)) = [] := by
      rw [List.flatMap_eq_nil_iff]; intro d _; exact portsR_nil (by simp)
    rw [this] at h
    simpa [passOps] using h
  | t :: r,k,H,L,h,hb,hbr,hbc => by
    obtain ⟨b1,b2⟩ := hb (k + 1) (by omega) (by simp only [List.length_cons]; omega)
    rw [show ((k + 1 : Nat) : Int) = (k : Int) + 1 by omega] at b1 b2
    simp only [List.mem_cons,not_or] at hbr
    have hcs : ∀ (j u : Nat),(⟨b,(k : Int) + 1⟩ : Pt) ∉ cs.flatMap fun d => portsR d j u := fun j u hm => by
      obtain ⟨t,ht,hs⟩ := List.mem_flatMap.1 hm
      have e : t = b := (mem_portsR.1 hs).1.symm
      subst e; exact hbc ht
    have hrn : (⟨b,(k : Int) + 1⟩ : Pt) ∉ r.flatMap (newP x) := fun hm => by
      obtain ⟨t,ht,hs⟩ := List.mem_flatMap.1 hm
      have e : t = b := (mem_portsR.1 hs).1.symm
      subst e; exact hbr.2 ht
    have e1 : newP x t = ⟨t,0⟩ :: portsR t 1 (1 + cs.length) := by
      unfold newP; rw [hx,portsR_cons (by omega),show cs.length + 1 = 1 + cs.length by omega]; rfl
    rw [List.flatMap_cons,e1] at h
    have h1 := RS.move (p := ⟨b,(k : Int) + 1⟩) (q := ⟨t,0⟩) (by simpa only [List.cons_append] using h) b1 (by
      have hpm : (⟨b,(k : Int) + 1⟩ : Pt) ∉ portsR t 1 (1 + cs.length) := fun hm => hbr.1 (mem_portsR.1 hm).1
      simp only [List.mem_cons,List.mem_append,Pt.mk.injEq,hbr,false_and,not_or,not_false_eq_true,true_and]
      exact ⟨⟨hpm,hrn⟩,hcs _ _,b2⟩) (.inr rfl)
    have p1 : (cs.flatMap fun d => portsR d (k + 1) (k + 1 + (t :: r).length)).Perm (cs.map (fun d => (⟨d,(k : Int) + 1⟩ : Pt)) ++ cs.flatMap fun d => portsR d (k + 1 + 1) (k + 1 + 1 + r.length)) := by
      have e : (fun d : Int => portsR d (k + 1) (k + 1 + (t :: r).length)) = fun d => (⟨d,(k : Int) + 1⟩ : Pt) :: portsR d (k + 1 + 1) (k + 1 + 1 + r.length) := by
        funext d
        rw [List.length_cons,portsR_cons (by omega),show k + 1 + (r.length + 1) = k + 1 + 1 + r.length by omega]; rfl
      rw [e]; exact flat_cons _ _ _
    have h2 := RS.lns (t := t) (k := k) cs 0 (L := r.flatMap (newP x) ++ ((cs.flatMap fun d => portsR d (k + 1 + 1) (k + 1 + 1 + r.length)) ++ ⟨b,(k : Int) + 1⟩ :: L)) (h1.perm (by
      rw [List.perm_iff_count]; intro q
      have := (List.perm_iff_count.1 p1) q
      simp only [List.cons_append,List.count_cons,List.count_append,Nat.zero_add] at this ⊢
      rw [this]; omega))
    have h3 := RS.passes hx r (k + 1) h2 (fun s h1 h2 => by
      obtain ⟨c1,c2⟩ := hb s (by omega) (by simp only [List.length_cons]; omega)
      refine ⟨c1,?_⟩
      have : ¬ (s : Int) = (k : Int) + 1 := by omega
      simp only [List.mem_cons,Pt.mk.injEq,this,and_false,false_or]; exact c2) hbr.2 hbc
    have e2 : portsR b (k + 1) (k + 1 + (t :: r).length) = ⟨b,(k : Int) + 1⟩ :: portsR b (k + 1 + 1) (k + 1 + 1 + r.length) := by
      rw [List.length_cons,portsR_cons (by omega),show k + 1 + (r.length + 1) = k + 1 + 1 + r.length by omega]; rfl
    have e3 : H ++ [Op.mv ⟨b,(k : Int) + 1⟩ ⟨t,0⟩] ++ lnOps t k 0 cs ++ passOps b cs (k + 1) r = H ++ passOps b cs k (t :: r) := by
      simp only [passOps,List.append_assoc,List.cons_append,List.nil_append]
    rw [e3] at h3
    rw [e2]
    refine h3.perm ?_
    rw [List.perm_iff_count]; intro q; simp only [List.cons_append,List.count_cons,List.count_append]; omega
end
end Go.Proofs.Ytkpfjolcmkikeaa
end
section
set_option linter.unusedSimpArgs false
set_option linter.unusedVariables false
set_option maxHeartbeats 4000000
namespace Go.Proofs.Ytkpfjolcmkikeaa
open Go.Fx
def namP (u : Nm) (j k : Nat) : List NP := (List.range' j (k - j)).map fun (s : Nat) => (u,(s : Int))
theorem portsR_nm (ν : Int → Nm) (i : Int) (j k : Nat) : (portsR i j k).map (nmP ν) = namP (ν i) j k := by unfold portsR namP; rw [List.map_map]; rfl
def dropA (l : List NP) (ds : List Nm) : List AO := List.zipWith (fun p d => .mv p (d,0)) l ds
def joinA (X Y : Nm) (l : List Nat) : List AO := l.map fun (s : Nat) => .jn (X,(s : Int)) (Y,(s : Int))
def pickA (X Y : Nm) : Nat → List Nm → List AO
  | _,[] => []
  | i,[d] => [.mv (Y,(i : Int) + 1) (d,2),.mv (X,1) (d,1)]
  | i,d :: e :: r => .mv (Y,(i : Int) + 1) (d,2) :: .ln (d,1) (e,0) :: pickA X Y (i + 1) (e :: r)
def lnA (t : Nm) (k : Nat) : Nat → List Nm → List AO
  | _,[] => []
  | i,c :: r => .ln (t,(i : Int) + 1) (c,(k : Int) + 1) :: lnA t k (i + 1) r
def passA (Y : Nm) (cs : List Nm) : Nat → List Nm → List AO
  | _,[] => []
  | k,t :: r => .mv (Y,(k : Int) + 1) (t,0) :: (lnA t k 0 cs ++ passA Y cs (k + 1) r)
theorem dropOps_nm (ν : Int → Nm) : ∀ (l : List Pt) (ds : List Int),(dropOps l ds).map (Op.nm ν) = dropA (l.map (nmP ν)) (ds.map ν)
  | [],ds => by simp [dropOps,dropA]
  | _ :: _,[] => by simp [dropOps,dropA]
  | p :: l,d :: ds => by
    have ih := dropOps_nm ν l ds
    unfold dropOps dropA at ih ⊢
    simp only [List.zipWith_cons_cons,List.map_cons,ih]
    rfl
theorem joinOps_nm (ν : Int → Nm) (a b : Int) (l : List Nat) : (joinOps a b l).map (Op.nm ν) = joinA (ν a) (ν b) l := by unfold joinOps joinA; rw [List.map_map]; rfl
theorem pickOps_nm (ν : Int → Nm) (a b : Int) : ∀ (l : List Int) (i : Nat),(pickOps a b i l).map (Op.nm ν) = pickA (ν a) (ν b) i (l.map ν)
  | [],i => rfl
  | [d],i => rfl
  | d :: e :: r,i => by
    have ih := pickOps_nm ν a b (e :: r) (i + 1)
    show Op.nm ν _ :: Op.nm ν _ :: (pickOps a b (i + 1) (e :: r)).map (Op.nm ν) = _
    rw [ih]; rfl
theorem lnOps_nm (ν : Int → Nm) (t : Int) (k : Nat) : ∀ (l : List Int) (i : Nat),(lnOps t k i l).map (Op.nm ν) = lnA (ν t) k i (l.map ν)
  | [],i => rfl
  | d :: r,i => by
    have ih := lnOps_nm ν t k r (i + 1)
    show Op.nm ν _ :: (lnOps t k (i + 1) r).map (Op.nm ν) = _
    rw [ih]; rfl
theorem passOps_nm (ν : Int → Nm) (b : Int) (cs : List Int) : ∀ (l : List Int) (k : Nat),(passOps b cs k l).map (Op.nm ν) = passA (ν b) (cs.map ν) k (l.map ν)
  | [],k => rfl
  | t :: r,k => by
    have ih := passOps_nm ν b cs r (k + 1)
    show Op.nm ν _ :: (lnOps t k 0 cs ++ passOps b cs (k + 1) r).map (Op.nm ν) = _
    rw [List.map_append,ih,lnOps_nm]; rfl
noncomputable def seqA (p : Pl) (dx dy : Nd) (X Y : Nm) (tag : Nat) : List AO :=
  if p.k = 1 ∨ p.k = 6 then joinA X Y (List.range' 1 (dx.to.length - 1))
  else if p.k = 2 then
    mkA (appN dx.lv) (namesA tag 0 (dx.al.getD p.alt.toNat zA).n.toNat) ++ (mkA (dropN dx.lv) (namesA tag (dx.al.getD p.alt.toNat zA).n.toNat ((namP X 2 dx.to.length).filter fun r => !decide (r = (X,p.alt + 2))).length) ++
      ((match namesA tag 0 (dx.al.getD p.alt.toNat zA).n.toNat with | [] => [AO.jn (X,p.alt + 2) (X,1)] | d :: _ => [AO.mv (X,p.alt + 2) (d,0)]) ++
        (pickA X Y 0 (namesA tag 0 (dx.al.getD p.alt.toNat zA).n.toNat) ++ dropA ((namP X 2 dx.to.length).filter fun r => !decide (r = (X,p.alt + 2))) (namesA tag (dx.al.getD p.alt.toNat zA).n.toNat ((namP X 2 dx.to.length).filter fun r => !decide (r = (X,p.alt + 2))).length))))
  else if p.k = 3 then [.mk (tag,0) (blank (halfN dx dy).fresh),.mv (X,2) ((tag,0),0),.mv (X,1) ((tag,0),1)]
  else if p.k = 4 then [.mk (tag,0) (blank p.nd.fresh),.mv (X,1) ((tag,0),0)]
  else if p.k = 5 then
    .mk (tag,0) (blank (fail1 dx.lv).fresh) :: (mkA (dropN dx.lv) (namesA tag 1 (namP X 2 dx.to.length ++ namP Y 1 dy.to.length).length) ++ (.mv (X,1) ((tag,0),0) :: dropA (namP X 2 dx.to.length ++ namP Y 1 dy.to.length) (namesA tag 1 (namP X 2 dx.to.length ++ namP Y 1 dy.to.length).length)))
  else if p.k = 7 then
    mkA { dy with lv := p.lv } (namesA tag 0 (dx.to.length - 1)) ++ (mkA dx (namesA tag (dx.to.length - 1) (dy.to.length - 1)) ++ (dropA (namP X 1 dx.to.length) (namesA tag 0 (dx.to.length - 1)) ++ passA Y (namesA tag 0 (dx.to.length - 1)) 0 (namesA tag (dx.to.length - 1) (dy.to.length - 1))))
  else if p.k = 8 then mkA (dropN dx.lv) (namesA tag 0 (namP Y 1 dy.to.length).length) ++ dropA (namP Y 1 dy.to.length) (namesA tag 0 (namP Y 1 dy.to.length).length)
  else []
section
variable {n : Nt} {a b : Int} {ν : Int → Nm} {A : Ab} {tag : Nat}
theorem Meet.usA (h : Meet n a b) : Us n a := us_has h.good.semi h.ha
theorem Meet.usB (h : Meet n a b) : Us n b := us_has h.good.semi h.hb
def DoneA (n : Nt) (a b : Int) (ν : Int → Nm) (A : Ab) (S : List AO) (res : Nt) : Prop := ∃ ν',Rep ν' res (endL n a b) (runA A S) ∧ ∀ i,Us n i → ν' i = ν i
theorem doneA_join (h : Meet n a b) (he : (n.nd a).to.length = (n.nd b).to.length) (hR : Rep ν n [⟨a,0⟩,⟨b,0⟩] A) : DoneA n a b ν A (joinA (ν a) (ν b) (List.range' 1 ((n.nd a).to.length - 1))) (joinD n a b) := by
  have hl := h.lenA
  have h1 := RS.joins h.ab (List.range' 1 ((n.nd a).to.length - 1)) (RS.nil h.start hR) (List.nodup_range' ..) (fun s hs => by
    rw [List.mem_range'_1] at hs
    have e : ¬ s = 0 := by omega
    refine ⟨h.hasA (by omega),h.hasB (by omega),?_,?_⟩ <;> simp [e])
  refine ⟨ν,?_,fun _ _ => rfl⟩
  have h2 := h1.rep
  rw [List.nil_append,joinOps_nm] at h2
  refine Rep.perm h2 ?_
  unfold endL
  rw [← he,portsA a hl,portsA b hl]
  unfold portsR
  rw [List.perm_iff_count]; intro q; simp only [List.cons_append,List.count_cons,List.count_append,List.count_nil]; omega
theorem doneA_half (h : Meet n a b) (hx : (n.nd a).k = 11) (hy : (n.nd b).k = 10) (hu : n.used + 1 ≤ n.cap) (hR : Rep ν n [⟨a,0⟩,⟨b,0⟩] A) (hA : ∀ i,A.nd (tag,i) = none) :
    DoneA n a b ν A [.mk (tag,0) (blank (halfN (n.nd a) (n.nd b)).fresh),.mv (ν a,2) ((tag,0),0),.mv (ν a,1) ((tag,0),1)] (halfD n a b) := by
  obtain ⟨t,g1,g2,g3⟩ := h.start.make (halfN_Ok h.ka h.kb) (halfN_may (y := n.nd b) h.ma hx) (by show ¬ (12 : Int) = 0; omega) (by show ¬ (12 : Int) = 1; omega) (by omega)
  have r1 := hR.make h.start.semi g2 (by show ¬ (12 : Int) = 0; omega) (made_us g2 (by show ¬ (12 : Int) = 0; omega)) (by show (0 : Int) ≤ 2; omega) (hA 0)
  have e3 : (n.nd a).to.length = 3 := len_of h.pa (by unfold Nd.ports; rw [hx]; rfl)
  have e1 : (n.nd b).to.length = 1 := len_of h.pb (by unfold Nd.ports; rw [hy]; rfl)
  rw [newP2 rfl] at g3 r1
  have ht : (makeR n (halfN (n.nd a) (n.nd b))).2.1 = t := by rw [g1]
  have a1 := h.hasA (s := 1) (by omega)
  have a2 := h.hasA (s := 2) (by omega)
  have na : a ≠ t := g2.new _ a1
  have h0 := RS.nil g3 r1
  have h1 := RS.move (p := ⟨a,2⟩) (q := ⟨t,0⟩) (L := [⟨t,1⟩,⟨a,0⟩,⟨b,0⟩]) h0 ((g2.has _).2 (.inl a2)) (by simp [na]) (.inl rfl)
  have h2 := RS.move (p := ⟨a,1⟩) (q := ⟨t,1⟩) (L := [⟨a,2⟩,⟨a,0⟩,⟨b,0⟩]) (h1.perm (List.Perm.swap ..)) ((g2.has _).2 (.inl a1)) (by simp [na]) (.inl rfl)
  have e : halfD n a b = (moveR (moveR (makeR n (halfN (n.nd a) (n.nd b))).1 ⟨a,2⟩ ⟨t,0⟩).1 ⟨a,1⟩ ⟨t,1⟩).1 := by unfold halfD; simp only [ht]
  rw [e]
  have νa : updN ν t (tag,0) a = ν a := by unfold updN; rw [if_neg na]
  have νt : updN ν t (tag,0) t = (tag,0) := by unfold updN; rw [if_pos rfl]
  refine ⟨updN ν t (tag,0),?_,fun i hi => by unfold updN; rw [if_neg (fun e => hi.2.2 (by rw [e]; exact g2.free))]⟩
  have h3 := h2.rep
  have e4 : runA (AO.run A (.mk (tag,0) (blank (halfN (n.nd a) (n.nd b)).fresh))) (([] ++ [Op.mv ⟨a,2⟩ ⟨t,0⟩] ++ [Op.mv ⟨a,1⟩ ⟨t,1⟩]).map (Op.nm (updN ν t (tag,0)))) = runA A [.mk (tag,0) (blank (halfN (n.nd a) (n.nd b)).fresh),.mv (ν a,2) ((tag,0),0),.mv (ν a,1) ((tag,0),1)] := by
    simp only [List.nil_append,List.cons_append,List.map_cons,List.map_nil,Op.nm,nmP,νa,νt]
    rfl
  rw [e4] at h3
  refine Rep.perm h3 ?_
  unfold endL
  rw [e3,e1]
  show List.Perm [(⟨a,1⟩ : Pt),⟨a,2⟩,⟨a,0⟩,⟨b,0⟩] [⟨a,0⟩,⟨a,1⟩,⟨a,2⟩,⟨b,0⟩]
  rw [List.perm_iff_count]; intro q; simp only [List.count_cons,List.count_nil]; omega
theorem doneA_out (h : Meet n a b) (hx : (n.nd a).k = 12) (hy : (n.nd b).k = 10) {x : Nd} (h1 : x.may) (h2 : x.Ok) (h3 : x.ports = 1) (h4 : x.k ≠ 0) (h5 : x.k ≠ 1) (hu : n.used + 1 ≤ n.cap) (hR : Rep ν n [⟨a,0⟩,⟨b,0⟩] A) (hA : ∀ i,A.nd (tag,i) = none) :
    DoneA n a b ν A [.mk (tag,0) (blank x.fresh),.mv (ν a,1) ((tag,0),0)] (outD n x a) := by
  obtain ⟨t,g1,g2,g3⟩ := h.start.make h2 h1 h4 h5 (by omega)
  have r1 := hR.make h.start.semi g2 h4 (made_us g2 h4) (by omega) (hA 0)
  have e3 : (n.nd a).to.length = 2 := len_of h.pa (by unfold Nd.ports; rw [hx]; rfl)
  have e1 : (n.nd b).to.length = 1 := len_of h.pb (by unfold Nd.ports; rw [hy]; rfl)
  rw [newP1 h3] at g3 r1
  have ht : (makeR n x).2.1 = t := by rw [g1]
  have a1 := h.hasA (s := 1) (by omega)
  have na : a ≠ t := g2.new _ a1
  have h1 := RS.move (p := ⟨a,1⟩) (q := ⟨t,0⟩) (L := [⟨a,0⟩,⟨b,0⟩]) (RS.nil g3 r1) ((g2.has _).2 (.inl a1)) (by simp [na]) (.inl rfl)
  have e : outD n x a = (moveR (makeR n x).1 ⟨a,1⟩ ⟨t,0⟩).1 := by unfold outD; simp only [ht]
  rw [e]
  have νa : updN ν t (tag,0) a = ν a := by unfold updN; rw [if_neg na]
  have νt : updN ν t (tag,0) t = (tag,0) := by unfold updN; rw [if_pos rfl]
  refine ⟨updN ν t (tag,0),?_,fun i hi => by unfold updN; rw [if_neg (fun e => hi.2.2 (by rw [e]; exact g2.free))]⟩
  have h3 := h1.rep
  have e4 : runA (AO.run A (.mk (tag,0) (blank x.fresh))) (([] ++ [Op.mv ⟨a,1⟩ ⟨t,0⟩]).map (Op.nm (updN ν t (tag,0)))) = runA A [.mk (tag,0) (blank x.fresh),.mv (ν a,1) ((tag,0),0)] := by
    simp only [List.nil_append,List.cons_append,List.map_cons,List.map_nil,Op.nm,nmP,νa,νt]
    rfl
  rw [e4] at h3
  refine Rep.perm h3 ?_
  unfold endL
  rw [e3,e1]
  show List.Perm [(⟨a,1⟩ : Pt),⟨a,0⟩,⟨b,0⟩] [⟨a,0⟩,⟨a,1⟩,⟨b,0⟩]
  exact List.Perm.swap ..
theorem doneA_drop (h : Meet n a b) (hx : (n.nd a).k = 7) (hu : n.used + ((n.nd b).to.length - 1) ≤ n.cap) (hR : Rep ν n [⟨a,0⟩,⟨b,0⟩] A) (hA : ∀ i,A.nd (tag,i) = none) :
    DoneA n a b ν A (mkA (dropN (n.nd a).lv) (namesA tag 0 (namP (ν b) 1 (n.nd b).to.length).length) ++ dropA (namP (ν b) 1 (n.nd b).to.length) (namesA tag 0 (namP (ν b) 1 (n.nd b).to.length).length)) (dropD n a b) := by
  have hl := h.lenB
  have e1 : (n.nd a).to.length = 1 := len_of h.pa (by unfold Nd.ports; rw [hx]; rfl)
  have el : (portsR b 1 (n.nd b).to.length).length = (n.nd b).to.length - 1 := portsR_len _ _ _
  have el2 : (namP (ν b) 1 (n.nd b).to.length).length = (portsR b 1 (n.nd b).to.length).length := by rw [← portsR_nm,List.length_map]
  have o1 := dropN_Ok h.ka.lv
  have o2 := dropN_may h.ma.lv0 h.ma.lv1
  obtain ⟨g1,g2,g3⟩ := h.start.likes o1 o2 (by show ¬ (7 : Int) = 0; omega) (by show ¬ (7 : Int) = 1; omega) (by show (0 : Int) < 1; omega) ((portsR b 1 (n.nd b).to.length).length) (by omega)
  obtain ⟨ν',r1,r2,r3⟩ := h.start.likesR o1 o2 (by show ¬ (7 : Int) = 0; omega) (by show ¬ (7 : Int) = 1; omega) (by show (0 : Int) < 1; omega) hR (tag := tag) (j := 0) (fun i _ => hA i) ((portsR b 1 (n.nd b).to.length).length) (by omega)
  rw [flat1 rfl] at g3 r1
  have h1 := RS.moves (portsR b 1 (n.nd b).to.length) (likeR n (dropN (n.nd a).lv) (portsR b 1 (n.nd b).to.length).length).2 (RS.nil g3 r1) g2.symm (portsR_nodup _ _ _) (fun p hp => by
    obtain ⟨q1,q2,q3⟩ := mem_portsR.1 hp
    have hh : n.has p = true := has_iff.2 ⟨by rw [q1]; exact h.b0,by rw [q1]; exact h.b1,by omega,by rw [q1]; omega⟩
    refine ⟨(g1.has p).2 (.inl hh),?_,fun hd => g1.new _ hd p hh rfl,.inr q1⟩
    have : ¬ p.s = 0 := by omega
    simp only [List.mem_cons,List.not_mem_nil,or_false,not_or]
    exact ⟨fun e => this (by rw [e]),fun e => this (by rw [e])⟩)
  refine ⟨ν',?_,r2⟩
  have h3 := h1.rep
  rw [List.nil_append,dropOps_nm,portsR_nm,r3,r2 b h.usB,← runA_app,← el2] at h3
  rw [el2] at h3
  have h4 : Rep ν' (dropD n a b) (portsR b 1 (n.nd b).to.length ++ [⟨a,0⟩,⟨b,0⟩]) (runA A (mkA (dropN (n.nd a).lv) (namesA tag 0 (portsR b 1 (n.nd b).to.length).length) ++ dropA (namP (ν b) 1 (n.nd b).to.length) (namesA tag 0 (portsR b 1 (n.nd b).to.length).length))) := h3
  rw [el2]
  refine Rep.perm h4 ?_
  unfold endL
  rw [portsA b hl,e1]
  show List.Perm _ ([(⟨a,0⟩ : Pt)] ++ _)
  rw [List.perm_iff_count]; intro q; simp only [List.cons_append,List.count_cons,List.count_append,List.count_nil]; omega
end
end Go.Proofs.Ytkpfjolcmkikeaa
end
section
set_option linter.unusedSimpArgs false
set_option linter.unusedVariables false
set_option maxHeartbeats 4000000
namespace Go.Proofs.Ytkpfjolcmkikeaa
open Go.Fx
section
variable {n : Nt} {a b : Int} {ν : Int → Nm} {A : Ab} {tag : Nat}
theorem doneA_fail (h : Meet n a b) (hx : 2 ≤ (n.nd a).to.length) (hu : n.used + (1 + ((n.nd a).to.length - 2) + ((n.nd b).to.length - 1)) ≤ n.cap) (hR : Rep ν n [⟨a,0⟩,⟨b,0⟩] A) (hA : ∀ i,A.nd (tag,i) = none) :
    DoneA n a b ν A (.mk (tag,0) (blank (fail1 (n.nd a).lv).fresh) :: (mkA (dropN (n.nd a).lv) (namesA tag 1 (namP (ν a) 2 (n.nd a).to.length ++ namP (ν b) 1 (n.nd b).to.length).length) ++ (.mv (ν a,1) ((tag,0),0) :: dropA (namP (ν a) 2 (n.nd a).to.length ++ namP (ν b) 1 (n.nd b).to.length) (namesA tag 1 (namP (ν a) 2 (n.nd a).to.length ++ namP (ν b) 1 (n.nd b).to.length).length)))) (failD n a b) := by
  have hl := h.lenB
  have f1 := fail1_Ok h.ka.lv
  have f2 := fail1_may h.ma.lv0 h.ma.lv1
  obtain ⟨t,g1,g2,g3⟩ := h.start.make f1 f2 (by show ¬ (13 : Int) = 0; omega) (by show ¬ (13 : Int) = 1; omega) (by omega)
  have r1 := hR.make h.start.semi g2 (by show ¬ (13 : Int) = 0; omega) (made_us g2 (by show ¬ (13 : Int) = 0; omega)) (by show (0 : Int) ≤ 1; omega) (hA 0)
  rw [newP1 rfl] at g3 r1
  have ht : (makeR n (fail1 (n.nd a).lv)).2.1 = t := by rw [g1]
  obtain ⟨m,hm⟩ : ∃ m,(makeR n (fail1 (n.nd a).lv)).1 = m := ⟨_,rfl⟩
  rw [hm] at g2 g3 r1
  have na : a ≠ t := g2.new _ h.ha
  have nb : b ≠ t := g2.new _ h.hb
  have ea : m.nd a = n.nd a := g2.oth a h.a0 na
  have eb : m.nd b = n.nd b := g2.oth b h.b0 nb
  have ef : failD n a b = runs (moveR (likeR m (dropN (n.nd a).lv) (portsR a 2 (n.nd a).to.length ++ portsR b 1 (n.nd b).to.length).length).1 ⟨a,1⟩ ⟨t,0⟩).1
      (dropOps (portsR a 2 (n.nd a).to.length ++ portsR b 1 (n.nd b).to.length) (likeR m (dropN (n.nd a).lv) (portsR a 2 (n.nd a).to.length ++ portsR b 1 (n.nd b).to.length).length).2) := by
    unfold failD; simp only [hm,ht,ea,eb]
  have enm : namP (ν a) 2 (n.nd a).to.length ++ namP (ν b) 1 (n.nd b).to.length = (portsR a 2 (n.nd a).to.length ++ portsR b 1 (n.nd b).to.length).map (nmP ν) := by rw [List.map_append,portsR_nm,portsR_nm]
  rw [enm,List.length_map]
  obtain ⟨l,hl0⟩ : ∃ l,portsR a 2 (n.nd a).to.length ++ portsR b 1 (n.nd b).to.length = l := ⟨_,rfl⟩
  rw [hl0] at ef ⊢
  have el : l.length = (n.nd a).to.length - 2 + ((n.nd b).to.length - 1) := by rw [← hl0,List.length_append,portsR_len,portsR_len]
  have hmem : ∀ p ∈ l,(p.n = a ∧ 2 ≤ p.s ∧ p.s < (n.nd a).to.length) ∨ (p.n = b ∧ 1 ≤ p.s ∧ p.s < (n.nd b).to.length) := fun p hp => by
    rw [← hl0,List.mem_append,mem_portsR,mem_portsR] at hp; exact hp
  have hnod : l.Nodup := by
    rw [← hl0,List.nodup_append]
    refine ⟨portsR_nodup _ _ _,portsR_nodup _ _ _,fun p hp q hq e => ?_⟩
    subst e
    exact h.ab ((mem_portsR.1 hp).1.symm.trans (mem_portsR.1 hq).1)
  have o1 := dropN_Ok h.ka.lv
  have o2 := dropN_may h.ma.lv0 h.ma.lv1
  obtain ⟨k1,k2,k3⟩ := g3.likes o1 o2 (by show ¬ (7 : Int) = 0; omega) (by show ¬ (7 : Int) = 1; omega) (by show (0 : Int) < 1; omega) l.length (by omega)
  have hA1 : ∀ i,1 ≤ i → (AO.run A (.mk (tag,0) (blank (fail1 (n.nd a).lv).fresh))).nd (tag,i) = none := fun i hi => by
    show (if (tag,i) = (tag,0) then _ else A.nd (tag,i)) = none
    rw [if_neg (by intro e; injection e with _ e; omega)]; exact hA i
  obtain ⟨ν',r2,r3,r4⟩ := g3.likesR o1 o2 (by show ¬ (7 : Int) = 0; omega) (by show ¬ (7 : Int) = 1; omega) (by show (0 : Int) < 1; omega) r1 hA1 l.length (by omega)
  rw [flat1 rfl] at k3 r2
  obtain ⟨⟨m2,ds⟩,hr⟩ : ∃ r,likeR m (dropN (n.nd a).lv) l.length = r := ⟨_,rfl⟩
  rw [hr] at k1 k2 k3 ef r2 r4
  simp only at k1 k2 k3 ef r2 r4
  have a1 := h.hasA (s := 1) (by omega)
  have a1m : m.has ⟨a,1⟩ = true := (g2.has _).2 (.inl a1)
  have had : a ∉ ds := fun hd => k1.new _ hd _ a1m rfl
  have hbd : b ∉ ds := fun hd => k1.new _ hd _ ((g2.has _).2 (.inl h.hb)) rfl
  have htd : t ∉ ds := fun hd => k1.new _ hd ⟨t,0⟩ ((g2.has _).2 (.inr ⟨rfl,by simp,by show (0 : Int) < 1; omega⟩)) rfl
  have p0 : List.Perm (α := Pt) (ds.map (fun d => (⟨d,0⟩ : Pt)) ++ ([⟨t,0⟩] ++ [⟨a,0⟩,⟨b,0⟩])) (⟨t,0⟩ :: (ds.map (fun d => (⟨d,0⟩ : Pt)) ++ [⟨a,0⟩,⟨b,0⟩])) := by
    rw [List.perm_iff_count]; intro q; simp only [List.cons_append,List.count_cons,List.count_append,List.count_nil,List.nil_append]; omega
  have h1 := RS.move (p := ⟨a,1⟩) (q := ⟨t,0⟩) (L := ds.map (fun d => (⟨d,0⟩ : Pt)) ++ [⟨a,0⟩,⟨b,0⟩]) ((RS.nil k3 r2).perm p0) ((k1.has _).2 (.inl a1m)) (by
      simp only [List.mem_cons,List.mem_append,List.mem_map,Pt.mk.injEq,na,false_and,List.not_mem_nil,or_false,false_or,not_or,not_exists,not_and]
      refine ⟨fun x hx e => absurd (e ▸ hx) had,by simp,by simp⟩) (.inl rfl)
  have h2 := RS.moves l ds (L := [⟨a,1⟩,⟨a,0⟩,⟨b,0⟩]) (h1.perm (by
    rw [List.perm_iff_count]; intro q; simp only [List.cons_append,List.count_cons,List.count_append,List.count_nil,List.nil_append]; omega)) k2.symm hnod (fun p hp => by
      have hmp := hmem p hp
      have hh : n.has p = true := by
        rcases hmp with ⟨q1,q2,q3⟩ | ⟨q1,q2,q3⟩
        · exact has_iff.2 ⟨by rw [q1]; exact h.a0,by rw [q1]; exact h.a1,by omega,by rw [q1]; omega⟩
        · exact has_iff.2 ⟨by rw [q1]; exact h.b0,by rw [q1]; exact h.b1,by omega,by rw [q1]; omega⟩
      refine ⟨(k1.has p).2 (.inl ((g2.has p).2 (.inl hh))),?_,?_,by rcases hmp with ⟨q1,_⟩ | ⟨q1,_⟩; exact .inl q1; exact .inr q1⟩
      · simp only [List.mem_cons,List.not_mem_nil,or_false,not_or]
        have hab := h.ab
        rcases hmp with ⟨q1,q2,q3⟩ | ⟨q1,q2,q3⟩
        · exact ⟨fun e => by rw [e] at q2; simp only at q2; omega,fun e => by rw [e] at q2; simp only at q2; omega,fun e => by rw [e] at q2; simp only at q2; omega⟩
        · exact ⟨fun e => by rw [e] at q1; exact hab q1,fun e => by rw [e] at q1; exact hab q1,fun e => by rw [e] at q2; simp only at q2; omega⟩
      · rcases hmp with ⟨q1,_⟩ | ⟨q1,_⟩
        · rw [q1]; exact had
        · rw [q1]; exact hbd)
  have usm : ∀ i,Us n i → Us m i := fun i hi => (made_us g2 (by show ¬ (13 : Int) = 0; omega) i).2 (.inl hi)
  have ust : Us m t := (made_us g2 (by show ¬ (13 : Int) = 0; omega) t).2 (.inr rfl)
  have νo : ∀ i,Us n i → ν' i = ν i := fun i hi => by
    rw [r3 i (usm i hi)]; unfold updN; rw [if_neg (fun e => hi.2.2 (by rw [e]; exact g2.free))]
  have νt : ν' t = (tag,0) := by rw [r3 t ust]; unfold updN; rw [if_pos rfl]
  have νl : l.map (nmP ν') = l.map (nmP ν) := List.map_congr_left fun p hp => by
    unfold nmP
    rcases hmem p hp with ⟨q1,_⟩ | ⟨q1,_⟩
    · rw [q1,νo a h.usA]
    · rw [q1,νo b h.usB]
  refine ⟨ν',?_,νo⟩
  have h3 := h2.rep
  rw [List.nil_append,List.map_append,dropOps_nm,r4,νl,List.map_cons,List.map_nil] at h3
  have e5 : Op.nm ν' (.mv ⟨a,1⟩ ⟨t,0⟩) = .mv (ν a,1) ((tag,0),0) := by simp only [Op.nm,nmP,νt,νo a h.usA]
  rw [e5,runA_app,← runA_app,← runA_app] at h3
  have h4 : Rep ν' (failD n a b) (l ++ [⟨a,1⟩,⟨a,0⟩,⟨b,0⟩]) (runA A (.mk (tag,0) (blank (fail1 (n.nd a).lv).fresh) :: (mkA (dropN (n.nd a).lv) (namesA tag 1 l.length) ++ (.mv (ν a,1) ((tag,0),0) :: dropA (l.map (nmP ν)) (namesA tag 1 l.length))))) := by
    rw [ef]
    simp [runA_app,runs,runA,List.foldl_append] at h3 ⊢
    exact h3
  refine Rep.perm h4 ?_
  unfold endL
  rw [portsA b hl,portsA a (by omega),portsA1 a (by omega),← hl0]
  rw [List.perm_iff_count]; intro q; simp only [List.cons_append,List.count_cons,List.count_append,List.count_nil]; omega
theorem filter_nm {ν : Int → Nm} {l : List Pt} {q : Pt} (h : ∀ p ∈ l,nmP ν p = nmP ν q → p = q) : (l.filter fun r => !decide (r = q)).map (nmP ν) = (l.map (nmP ν)).filter fun r => !decide (r = nmP ν q) := by
  induction l with
  | nil => rfl
  | cons p l ih =>
    have ih := ih fun r hr => h r (by simp [hr])
    have hp := h p (by simp)
    rw [List.map_cons]
    by_cases e : p = q
    · subst e
      rw [List.filter_cons_of_neg (by simp),List.filter_cons_of_neg (by simp),ih]
    · rw [List.filter_cons_of_pos (by simp [e]),List.filter_cons_of_pos (by simp; exact fun k => e (hp k)),List.map_cons,ih]
theorem doneA_pass (h : Meet n a b) {lv : Int} (hx : cls (n.nd a).k = 3) (hy : cls (n.nd b).k ≠ 0) (h0 : 0 ≤ lv) (h1 : lv ≤ 60) (hu : n.used + (((n.nd a).to.length - 1 : Int) + ((n.nd b).to.length - 1)) ≤ n.cap) (hR : Rep ν n [⟨a,0⟩,⟨b,0⟩] A) (hA : ∀ i,A.nd (tag,i) = none) :
    DoneA n a b ν A (mkA { n.nd b with lv := lv } (namesA tag 0 ((n.nd a).to.length - 1)) ++ (mkA (n.nd a) (namesA tag ((n.nd a).to.length - 1) ((n.nd b).to.length - 1)) ++ (dropA (namP (ν a) 1 (n.nd a).to.length) (namesA tag 0 ((n.nd a).to.length - 1)) ++ passA (ν b) (namesA tag 0 ((n.nd a).to.length - 1)) 0 (namesA tag ((n.nd a).to.length - 1) ((n.nd b).to.length - 1))))) (passD n lv a b) := by
  have la := h.lenA
  have lb := h.lenB
  obtain ⟨c0,c1,c2⟩ := cls_ne hy
  obtain ⟨x0,x1,x2⟩ := cls_ne (k := (n.nd a).k) (by omega)
  have hab := h.ab
  have hba' : ¬ b = a := fun e => hab e.symm
  obtain ⟨y,hy0⟩ : ∃ y : Nd,({ n.nd b with lv := lv } : Nd) = y := ⟨_,rfl⟩
  have yk : y.k = (n.nd b).k := by rw [← hy0]
  have yt : y.to = (n.nd b).to := by rw [← hy0]
  have yp : y.ports = (n.nd b).ports := by rw [← hy0]; rfl
  have ym : y.may := by rw [← hy0]; exact lv_may h.mb h0 h1 c2
  have yo : y.Ok := by rw [← hy0]; exact lv_Ok h.kb (by unfold wf; omega)
  have pa := h.pa
  have pb := h.pb
  rw [hy0]
  obtain ⟨g1,g2,g3⟩ := h.start.likes yo ym (by rw [yk]; exact c0) (by rw [yk]; exact c1) (by rw [yp]; omega) ((n.nd a).to.length - 1) (by omega)
  obtain ⟨ν1,r1,r2,r3⟩ := h.start.likesR yo ym (by rw [yk]; exact c0) (by rw [yk]; exact c1) (by rw [yp]; omega) hR (tag := tag) (j := 0) (fun i _ => hA i) ((n.nd a).to.length - 1) (by omega)
  obtain ⟨⟨m,cs⟩,hr⟩ : ∃ r,likeR n y ((n.nd a).to.length - 1) = r := ⟨_,rfl⟩
  rw [hr] at g1 g2 g3 r1 r3
  simp only at g1 g2 g3 r1 r3
  have hA1 : ∀ i,(n.nd a).to.length - 1 ≤ i → (runA A (mkA y (namesA tag 0 ((n.nd a).to.length - 1)))).nd (tag,i) = none := fun i hi => by
    rw [runA_mk_nd _ _ _ _ (by rw [mem_namesA]; simp only; omega)]; exact hA i
  obtain ⟨k1,k2,k3⟩ := g3.likes h.ka h.ma x0 x1 (by omega) ((n.nd b).to.length - 1) (by omega)
  obtain ⟨ν2,s1,s2,s3⟩ := g3.likesR h.ka h.ma x0 x1 (by omega) r1 hA1 ((n.nd b).to.length - 1) (by omega)
  obtain ⟨⟨m2,ds⟩,hr2⟩ : ∃ r,likeR m (n.nd a) ((n.nd b).to.length - 1) = r := ⟨_,rfl⟩
  rw [hr2] at k1 k2 k3 s1 s3
  simp only at k1 k2 k3 s1 s3
  have hm : ∀ p,n.has p = true → m2.has p = true := fun p hp => (k1.has p).2 (.inl ((g1.has p).2 (.inl hp)))
  have hac : a ∉ cs := fun hd => g1.new _ hd _ h.ha rfl
  have hbc : b ∉ cs := fun hd => g1.new _ hd _ h.hb rfl
  have had : a ∉ ds := fun hd => k1.new _ hd _ ((g1.has _).2 (.inl h.ha)) rfl
  have hbd : b ∉ ds := fun hd => k1.new _ hd _ ((g1.has _).2 (.inl h.hb)) rfl
  have e : passD n lv a b = runs (runs m2 (dropOps (portsR a 1 (n.nd a).to.length) cs)) (passOps b cs 0 ds) := by
    unfold passD; simp only [hy0,hr,yt,hr2]
  rw [e]
  have ey : (newP y) = fun d => (⟨d,0⟩ : Pt) :: portsR d 1 (n.nd b).to.length := by
    funext d
    unfold newP
    rw [yp,show (n.nd b).ports.toNat = (n.nd b).to.length by omega,portsA d lb]
  have p1 := flat_cons (fun d : Int => (⟨d,0⟩ : Pt)) (fun d => portsR d 1 (n.nd b).to.length) cs
  rw [ey] at k3 s1
  have nin : ∀ (u v : Int) (f : Int → List Pt) (l : List Int),(∀ d p,p ∈ f d → p.n = d) → u ∉ l → (⟨u,v⟩ : Pt) ∉ l.flatMap f := fun u v f l hf hu hm => by
    obtain ⟨t,ht,hs⟩ := List.mem_flatMap.1 hm
    have := hf t _ hs
    simp only at this
    exact hu (this ▸ ht)
  have h1 := RS.moves (portsR a 1 (n.nd a).to.length) cs (L := ds.flatMap (newP (n.nd a)) ++ ((cs.flatMap fun d => portsR d 1 (n.nd b).to.length) ++ [⟨a,0⟩,⟨b,0⟩])) ((RS.nil k3 s1).perm (by
    rw [List.perm_iff_count]; intro q
    have := List.perm_iff_count.1 p1 q
    simp only [List.nil_append,List.cons_append,List.count_cons,List.count_append,List.count_nil] at this ⊢; omega)) (by rw [portsR_len]; exact g2.symm) (portsR_nodup _ _ _) (fun p hp => by
      obtain ⟨q1,q2,q3⟩ := mem_portsR.1 hp
      obtain ⟨u,v⟩ := p
      simp only at q1 q2 q3
      subst q1
      refine ⟨hm _ (has_iff.2 ⟨h.a0,h.a1,by simp only; omega,by simp only; omega⟩),?_,hac,.inl rfl⟩
      have v0 : ¬ v = 0 := by omega
      simp only [List.mem_append,List.mem_cons,Pt.mk.injEq,v0,and_false,List.not_mem_nil,or_false,not_or]
      exact ⟨nin _ _ _ _ (fun d p hp => (mem_portsR.1 hp).1) had,nin _ _ _ _ (fun d p hp => (mem_portsR.1 hp).1) hac⟩)
  have h2 := RS.passes (x := n.nd a) (cs := cs) (by omega) ds 0 (L := portsR a 1 (n.nd a).to.length ++ [⟨a,0⟩,⟨b,0⟩]) (h1.perm (by
    rw [show 0 + 1 + ds.length = (n.nd b).to.length by omega]
    rw [List.perm_iff_count]; intro q
    simp only [List.nil_append,List.cons_append,List.count_cons,List.count_append,List.count_nil,Nat.zero_add]; omega)) (fun s s1 s2 => by
      refine ⟨hm _ (h.hasB (by omega)),?_⟩
      have s0 : ¬ (s : Int) = 0 := by omega
      simp only [List.mem_append,List.mem_cons,mem_portsR,Pt.mk.injEq,s0,hba',false_and,and_false,List.not_mem_nil,or_false,not_false_eq_true]) hbd hbc
  have usm : ∀ i,Us n i → Us m i := fun i hi => by
    rw [us_iff] at hi ⊢
    by_cases hid : i ∈ cs
    · exact absurd (g1.free i hid) hi.2
    · exact ⟨hi.1,by rw [g1.oth i hi.1 hid]; exact hi.2⟩
  have usc : ∀ d ∈ cs,Us m d := fun d hd => by
    rw [us_iff]; exact ⟨by have := g1.one d hd; omega,by rw [g1.nd d hd]; show y.k ≠ 0; rw [yk]; exact c0⟩
  have νo : ∀ i,Us n i → ν2 i = ν i := fun i hi => by rw [s2 i (usm i hi),r2 i hi]
  have νc : cs.map ν2 = namesA tag 0 ((n.nd a).to.length - 1) := by
    rw [← r3]; exact List.map_congr_left fun d hd => s2 d (usc d hd)
  refine ⟨ν2,?_,νo⟩
  have h3 := h2.rep
  rw [List.nil_append,List.map_append,dropOps_nm,passOps_nm,portsR_nm,νc,s3,νo a h.usA,νo b h.usB,← runA_app,← runA_app,runs_app] at h3
  refine Rep.perm h3 ?_
  unfold endL
  rw [portsA b lb,portsA a la,show 0 + 1 + ds.length = (n.nd b).to.length by omega]
  rw [List.perm_iff_count]; intro q; simp only [List.nil_append,List.cons_append,List.count_cons,List.count_append,List.count_nil,Nat.zero_add]; omega
theorem doneA_pick (h : Meet n a b) (hx : (n.nd a).k = 9) (hy : (n.nd b).k = 8) {i : Nat} {B : Ar} (hB : (n.nd a).al[i]? = some B) (hN : B.n = ((n.nd b).to.length : Int) - 1) (hu : n.used + (B.n + (n.nd a).al.length - 1) ≤ n.cap) (hR : Rep ν n [⟨a,0⟩,⟨b,0⟩] A) (hA : ∀ i,A.nd (tag,i) = none) :
    DoneA n a b ν A (mkA (appN (n.nd a).lv) (namesA tag 0 B.n.toNat) ++ (mkA (dropN (n.nd a).lv) (namesA tag B.n.toNat ((namP (ν a) 2 (n.nd a).to.length).filter fun r => !decide (r = (ν a,(i : Int) + 2))).length) ++
      ((match namesA tag 0 B.n.toNat with | [] => [AO.jn (ν a,(i : Int) + 2) (ν a,1)] | d :: _ => [AO.mv (ν a,(i : Int) + 2) (d,0)]) ++
        (pickA (ν a) (ν b) 0 (namesA tag 0 B.n.toNat) ++ dropA ((namP (ν a) 2 (n.nd a).to.length).filter fun r => !decide (r = (ν a,(i : Int) + 2))) (namesA tag B.n.toNat ((namP (ν a) 2 (n.nd a).to.length).filter fun r => !decide (r = (ν a,(i : Int) + 2))).length))))) (pickD n i a b) := by
  have hl := h.lenB
  have hil := (List.getElem?_eq_some_iff.1 hB).1
  have e1 : (n.nd a).to.length = 2 + (n.nd a).al.length := by
    have := h.pa
    unfold Nd.ports at this; rw [hx] at this
    simp at this; omega
  have hA2 : (n.nd a).al.getD i zA = B := by rw [List.getD_eq_getElem?_getD,hB]; rfl
  obtain ⟨k,hk⟩ : ∃ k : Nat,B.n = k := ⟨B.n.toNat,by omega⟩
  have hkn : B.n.toNat = k := by omega
  rw [hkn]
  have el : (n.nd b).to.length = k + 1 := by omega
  have q1o := appN_Ok h.ka.lv
  have q1m := appN_may h.ma.lv0 h.ma.lv1
  obtain ⟨g1,g2,g3⟩ := h.start.likes q1o q1m (by show ¬ (3 : Int) = 0; omega) (by show ¬ (3 : Int) = 1; omega) (by show (0 : Int) < 3; omega) k (by omega)
  obtain ⟨ν1,r1,r2,r3⟩ := h.start.likesR q1o q1m (by show ¬ (3 : Int) = 0; omega) (by show ¬ (3 : Int) = 1; omega) (by show (0 : Int) < 3; omega) hR (tag := tag) (j := 0) (fun i _ => hA i) k (by omega)
  obtain ⟨⟨m,apps⟩,hr⟩ : ∃ r,likeR n (appN (n.nd a).lv) k = r := ⟨_,rfl⟩
  rw [hr] at g1 g2 g3 r1 r3
  simp only at g1 g2 g3 r1 r3
  have haa : a ∉ apps := fun hd => g1.new _ hd _ h.ha rfl
  have hba : b ∉ apps := fun hd => g1.new _ hd _ h.hb rfl
  have ea : m.nd a = n.nd a := g1.oth a h.a0 haa
  obtain ⟨l,hl0⟩ : ∃ l,restR m a i = l := ⟨_,rfl⟩
  have hl1 : l = (portsR a 2 (n.nd a).to.length).filter fun r => !decide (r = ⟨a,(i : Int) + 2⟩) := by rw [← hl0]; unfold restR; rw [ea]
  have enm : (namP (ν a) 2 (n.nd a).to.length).filter (fun r => !decide (r = (ν a,(i : Int) + 2))) = l.map (nmP ν) := by
    rw [hl1,filter_nm (fun p hp e => ?_),portsR_nm]
    · rfl
    · have hpp := mem_portsR.1 hp
      unfold nmP at e
      injection e with _ e
      obtain ⟨u,v⟩ := p
      simp only at hpp e
      rw [hpp.1,e]
  rw [enm,List.length_map]
  have hq2 : (⟨a,(i : Int) + 2⟩ : Pt) ∈ portsR a 2 (n.nd a).to.length := mem_portsR.2 ⟨rfl,by simp only; omega,by simp only; omega⟩
  have hpl := rest_perm (portsR_nodup a 2 (n.nd a).to.length) hq2
  rw [← hl1] at hpl
  have hll : l.length = (n.nd a).al.length - 1 := by
    have := hpl.length_eq
    rw [portsR_len,List.length_cons] at this; omega
  have hnl : l.Nodup := (List.nodup_cons.1 (hpl.nodup_iff.1 (portsR_nodup _ _ _))).2
  have hql : (⟨a,(i : Int) + 2⟩ : Pt) ∉ l := (List.nodup_cons.1 (hpl.nodup_iff.1 (portsR_nodup _ _ _))).1
  have hml : ∀ p ∈ l,p.n = a ∧ 2 ≤ p.s ∧ p.s < (n.nd a).to.length ∧ p ≠ ⟨a,(i : Int) + 2⟩ := fun p hp => by
    have h1 := mem_portsR.1 (hpl.mem_iff.2 (List.mem_cons_of_mem _ hp))
    exact ⟨h1.1,h1.2.1,h1.2.2,fun e => hql (e ▸ hp)⟩
  have q2o := dropN_Ok h.ka.lv
  have q2m := dropN_may h.ma.lv0 h.ma.lv1
  have hA1 : ∀ i,k ≤ i → (runA A (mkA (appN (n.nd a).lv) (namesA tag 0 k))).nd (tag,i) = none := fun i hi => by
    rw [runA_mk_nd _ _ _ _ (by rw [mem_namesA]; simp only; omega)]; exact hA i
  obtain ⟨k1,k2,k3⟩ := g3.likes q2o q2m (by show ¬ (7 : Int) = 0; omega) (by show ¬ (7 : Int) = 1; omega) (by show (0 : Int) < 1; omega) l.length (by omega)
  obtain ⟨ν2,s1,s2,s3⟩ := g3.likesR q2o q2m (by show ¬ (7 : Int) = 0; omega) (by show ¬ (7 : Int) = 1; omega) (by show (0 : Int) < 1; omega) r1 hA1 l.length (by omega)
  rw [flat1 rfl] at k3 s1
  obtain ⟨⟨m2,ds⟩,hr2⟩ : ∃ r,likeR m (dropN (n.nd a).lv) l.length = r := ⟨_,rfl⟩
  rw [hr2] at k1 k2 k3 s1 s3
  simp only at k1 k2 k3 s1 s3
  have hm : ∀ p,n.has p = true → m2.has p = true := fun p hp => (k1.has p).2 (.inl ((g1.has p).2 (.inl hp)))
  have had : a ∉ ds := fun hd => k1.new _ hd _ ((g1.has _).2 (.inl h.ha)) rfl
  have hbd : b ∉ ds := fun hd => k1.new _ hd _ ((g1.has _).2 (.inl h.hb)) rfl
  have a1 := h.hasA (s := 1) (by omega)
  have aq : n.has ⟨a,(i : Int) + 2⟩ = true := by have := h.hasA (s := i + 2) (by omega); exact this
  have nds : ∀ (u v : Int),u = a ∨ u = b → (⟨u,v⟩ : Pt) ∉ ds.map fun d => (⟨d,0⟩ : Pt) := fun u v hu hm => by
    simp only [List.mem_map,Pt.mk.injEq] at hm
    obtain ⟨x,hx,e,_⟩ := hm
    rcases hu with hu | hu
    · exact had (hu ▸ e ▸ hx)
    · exact hbd (hu ▸ e ▸ hx)
  have hab := h.ab
  have hba' : ¬ b = a := fun e => hab e.symm
  have i0 : ¬ (i : Int) + 2 = 0 := by omega
  have i1 : ¬ (i : Int) + 2 = 1 := by omega
  have usm : ∀ i,Us n i → Us m i := fun i hi => by
    rw [us_iff] at hi ⊢
    by_cases hid : i ∈ apps
    · exact absurd (g1.free i hid) hi.2
    · exact ⟨hi.1,by rw [g1.oth i hi.1 hid]; exact hi.2⟩
  have usc : ∀ d ∈ apps,Us m d := fun d hd => by
    rw [us_iff]; exact ⟨by have := g1.one d hd; omega,by rw [g1.nd d hd]; show ¬ (3 : Int) = 0; omega⟩
  have νo : ∀ i,Us n i → ν2 i = ν i := fun i hi => by rw [s2 i (usm i hi),r2 i hi]
  have νc : apps.map ν2 = namesA tag 0 k := by
    rw [← r3]; exact List.map_congr_left fun d hd => s2 d (usc d hd)
  have νl : l.map (nmP ν2) = l.map (nmP ν) := List.map_congr_left fun p hp => by
    unfold nmP; rw [(hml p hp).1,νo a h.usA]
  have fin : ∀ (H : List Op),RS n a b (0 + k + l.length) m2 ν2 (runA (runA A (mkA (appN (n.nd a).lv) (namesA tag 0 k))) (mkA (dropN (n.nd a).lv) (namesA tag k l.length))) H (ds.map (fun d => (⟨d,0⟩ : Pt)) ++ (⟨a,1⟩ :: ⟨a,(i : Int) + 2⟩ :: (portsR b 1 (k + 1) ++ [⟨a,0⟩,⟨b,0⟩]))) →
      Rep ν2 (runs m2 (H ++ dropOps l ds)) (endL n a b) (runA (runA (runA A (mkA (appN (n.nd a).lv) (namesA tag 0 k))) (mkA (dropN (n.nd a).lv) (namesA tag k l.length))) (H.map (Op.nm ν2) ++ dropA (l.map (nmP ν)) (namesA tag k l.length))) := by
    intro H hR
    have h2 := RS.moves l ds hR k2.symm hnl (fun p hp => by
      obtain ⟨q1,q2,q3,q4⟩ := hml p hp
      refine ⟨hm p (has_iff.2 ⟨by rw [q1]; exact h.a0,by rw [q1]; exact h.a1,by omega,by rw [q1]; omega⟩),?_,by rw [q1]; exact had,.inl q1⟩
      simp only [List.mem_cons,List.mem_append,mem_portsR,List.not_mem_nil,or_false,not_or]
      refine ⟨fun e => ?_,q4,fun e => ?_,fun e => ?_,fun e => ?_⟩
      · rw [e] at q2; simp only at q2; omega
      · rw [q1] at e; exact hab e.1
      · rw [e] at q2; simp only at q2; omega
      · rw [e] at q1; exact hba' q1)
    have h3 := h2.rep
    rw [List.map_append,dropOps_nm,νl,s3] at h3
    refine Rep.perm h3 ?_
    unfold endL
    rw [portsA b hl,portsA a (by omega),portsA1 a (by omega),el]
    rw [List.perm_iff_count]; intro q
    have hc := List.perm_iff_count.1 hpl q
    simp only [List.cons_append,List.count_cons,List.count_append,List.count_nil] at hc ⊢
    rw [hc]; omega
  cases apps with
  | nil =>
    have hk0 : k = 0 := by rw [← g2]; rfl
    subst hk0
    have e : pickD n i a b = runs m2 ([Op.jn ⟨a,(i : Int) + 2⟩ ⟨a,1⟩] ++ dropOps l ds) := by
      unfold pickD
      simp only [Int.toNat_natCast,hA2,hk,hr,hl0,ea,hr2]
      rfl
    rw [e]
    have h1 := (RS.nil k3 s1).join (p := ⟨a,(i : Int) + 2⟩) (q := ⟨a,1⟩) (hm _ aq) (hm _ a1) (by
      simp only [List.flatMap_nil,List.nil_append,List.mem_append,List.mem_cons,Pt.mk.injEq,i0,hab,and_false,false_and,List.not_mem_nil,or_false]; exact nds _ _ (.inl rfl)) (by
      simp only [List.flatMap_nil,List.nil_append,List.mem_append,List.mem_cons,Pt.mk.injEq,hab,and_false,false_and,List.not_mem_nil,or_false,not_or]; exact ⟨nds _ _ (.inl rfl),by omega⟩) (by
      intro e; simp only [Pt.mk.injEq] at e; exact i1 e.2) (.inl rfl) (.inl rfl)
    have h5 := fin _ (h1.perm (by
      rw [portsR_nil (by omega)]
      rw [List.perm_iff_count]; intro q; simp only [List.flatMap_nil,List.nil_append,List.cons_append,List.count_cons,List.count_append,List.count_nil]; omega))
    refine ⟨ν2,?_,νo⟩
    rw [← runA_app,← runA_app] at h5
    have ej : Op.nm ν2 (.jn ⟨a,(i : Int) + 2⟩ ⟨a,1⟩) = .jn (ν a,(i : Int) + 2) (ν a,1) := by simp only [Op.nm,nmP,νo a h.usA]
    simp only [List.nil_append,List.map_cons,List.map_nil,ej] at h5
    exact h5
  | cons d r =>
    have e : pickD n i a b = runs m2 ([Op.mv ⟨a,(i : Int) + 2⟩ ⟨d,0⟩] ++ pickOps a b 0 (d :: r) ++ dropOps l ds) := by
      unfold pickD
      simp only [Int.toNat_natCast,hA2,hk,hr,hl0,ea,hr2]
      rw [runs_app,runs_app]; rfl
    rw [e]
    rw [List.flatMap_cons,newP3 rfl] at k3 s1
    have nrr : ∀ (u v : Int),u = a ∨ u = b → (⟨u,v⟩ : Pt) ∉ r.flatMap (newP (appN (n.nd a).lv)) := fun u v hu hm => by
      obtain ⟨t,ht,hs⟩ := List.mem_flatMap.1 hm
      have this : u = t := (mem_portsR.1 hs).1
      rcases hu with hu | hu
      · exact haa (List.mem_cons_of_mem _ (by rw [← hu,this]; exact ht))
      · exact hba (List.mem_cons_of_mem _ (by rw [← hu,this]; exact ht))
    have had' : ¬ a = d := fun e => haa (by simp [e])
    have hbd' : ¬ b = d := fun e => hba (by simp [e])
    have h1 := RS.move (p := ⟨a,(i : Int) + 2⟩) (q := ⟨d,0⟩) (L := ⟨d,1⟩ :: ⟨d,2⟩ :: (r.flatMap (newP (appN (n.nd a).lv)) ++ (ds.map (fun d => (⟨d,0⟩ : Pt)) ++ [⟨a,0⟩,⟨b,0⟩]))) ((RS.nil k3 s1).perm (by
      rw [List.perm_iff_count]; intro q; simp only [List.nil_append,List.cons_append,List.count_cons,List.count_append,List.count_nil]; omega)) (hm _ aq) (by
        simp only [List.mem_append,List.mem_cons,Pt.mk.injEq,i0,hab,had',and_false,false_and,List.not_mem_nil,or_false,false_or,not_or]; exact ⟨nrr _ _ (.inl rfl),nds _ _ (.inl rfl)⟩) (.inl rfl)
    have h2 := RS.picks (lv := (n.nd a).lv) r d 0 (L := ⟨a,(i : Int) + 2⟩ :: (ds.map (fun d => (⟨d,0⟩ : Pt)) ++ [⟨a,0⟩,⟨b,0⟩])) (h1.perm (by
      rw [List.perm_iff_count]; intro q; simp only [List.nil_append,List.cons_append,List.count_cons,List.count_append,List.count_nil]; omega)) (fun s s1 s2 => by
        have hlen : r.length + 1 = k := by rw [← g2]; rfl
        refine ⟨hm _ (h.hasB (by omega)),?_⟩
        have s0 : ¬ (s : Int) = 0 := by omega
        simp only [List.mem_append,List.mem_cons,Pt.mk.injEq,s0,hba',and_false,false_and,List.not_mem_nil,or_false,false_or]; exact nds _ _ (.inr rfl)) (hm _ a1) (by
        simp only [List.mem_append,List.mem_cons,Pt.mk.injEq,hab,false_and,List.not_mem_nil,or_false,true_and,not_or]
        exact ⟨by omega,nds _ _ (.inl rfl),by omega⟩) haa hba hab
    have hlen : r.length + 1 = k := by rw [← g2]; rfl
    have h5 := fin _ (h2.perm (by
      rw [show 0 + 2 + r.length = k + 1 by omega]
      rw [List.perm_iff_count]; intro q; simp only [Nat.zero_add,List.nil_append,List.cons_append,List.count_cons,List.count_append,List.count_nil]; omega))
    refine ⟨ν2,?_,νo⟩
    rw [List.map_append,pickOps_nm,νc,νo a h.usA,νo b h.usB] at h5
    have ej : Op.nm ν2 (.mv ⟨a,(i : Int) + 2⟩ ⟨d,0⟩) = .mv (ν a,(i : Int) + 2) (ν2 d,0) := by simp only [Op.nm,nmP,νo a h.usA]
    rw [← runA_app,← runA_app] at h5
    have hnc : namesA tag 0 k = ν2 d :: r.map ν2 := by rw [← νc]; rfl
    simp only [List.nil_append,List.map_cons,List.map_nil,ej] at h5
    rw [hnc] at h5 ⊢
    simpa only [List.append_assoc,List.nil_append] using h5
end
end Go.Proofs.Ytkpfjolcmkikeaa
end
section
set_option linter.unusedSimpArgs false
set_option linter.unusedVariables false
set_option maxHeartbeats 4000000
namespace Go.Proofs.Ytkpfjolcmkikeaa
open Go.Fx
theorem us_get {n : Nt} {j : Nat} : Us n (j : Int) ↔ ∃ x,n.ns[j]? = some x ∧ x.k ≠ 0 := by
  constructor
  · rintro ⟨h1,h2,h3⟩
    obtain ⟨x,hx⟩ : ∃ x,n.ns[j]? = some x := ⟨_,List.getElem?_eq_getElem (by omega)⟩
    rw [nd_get hx] at h3
    exact ⟨x,hx,h3⟩
  · rintro ⟨x,hx,hk⟩
    exact ⟨by omega,by have := (List.getElem?_eq_some_iff.1 hx).1; omega,by rw [nd_get hx]; exact hk⟩
theorem free_us {n : Nt} {i : Nat} (j : Int) : Us (n.free (i : Int)) j ↔ Us n j ∧ j ≠ i := by
  constructor
  · intro h
    obtain ⟨k,rfl⟩ : ∃ k : Nat,j = k := ⟨j.toNat,by have := h.1; omega⟩
    obtain ⟨z,hz,hk⟩ := us_get.1 h
    rcases free_get_inv hz with ⟨_,h2⟩ | ⟨h1,h2⟩
    · rw [h2] at hk; exact absurd rfl hk
    · exact ⟨us_get.2 ⟨z,h2,hk⟩,by omega⟩
  · rintro ⟨h,h2⟩
    obtain ⟨k,rfl⟩ : ∃ k : Nat,j = k := ⟨j.toNat,by have := h.1; omega⟩
    obtain ⟨z,hz,hk⟩ := us_get.1 h
    exact us_get.2 ⟨z,free_get hz (by omega) hk,hk⟩
theorem free_nd {n : Nt} {i : Nat} {j : Int} (h : Us (n.free (i : Int)) j) : (n.free (i : Int)).nd j = n.nd j := by
  obtain ⟨k,rfl⟩ : ∃ k : Nat,j = k := ⟨j.toNat,by have := h.1; omega⟩
  obtain ⟨z,hz,hk⟩ := us_get.1 h
  rcases free_get_inv hz with ⟨_,h2⟩ | ⟨h1,h2⟩
  · rw [h2] at hk; exact absurd rfl hk
  · rw [nd_get hz,nd_get h2]
section
variable {n : Nt} {a b : Int} {ν : Int → Nm} {A : Ab} {tag : Nat}
theorem start_rep (h : Meet n a b) (hR : Rep ν n [] A) : Rep ν n [⟨a,0⟩,⟨b,0⟩] (AO.run A (.jn (ν a,0) (ν b,0))) := by
  have hs : Semi n (· ∈ ([] : List Pt)) := h.good.semi.iff fun p => by simp
  have h1 := hR.join hs h.ha h.hb (by simp) (by simp) (fun e => h.ab (by injection e))
  rw [(hs.join h.ha (by simp) h.hb (by simp) (fun e => h.ab (by injection e))).1,if_pos h.la] at h1
  exact h1
theorem doneA_run (h : Meet n a b) {p : Pl} (hp : PlanX (n.nd a) (n.nd b) p) (hu : n.used + needX p (n.nd a) (n.nd b) ≤ n.cap) (hR : Rep ν n [⟨a,0⟩,⟨b,0⟩] A) (hA : ∀ i,A.nd (tag,i) = none) : DoneA n a b ν A (seqA p (n.nd a) (n.nd b) (ν a) (ν b) tag) (doneR n p a b) := by
  have la := h.lenA
  have lb := h.lenB
  have ta := to10 h.ma h.pa
  have tb := to10 h.mb h.pb
  have oa : oth (n.nd a) = (n.nd a).to.length - 1 := by rw [oth_in (by omega)]; omega
  have ob : oth (n.nd b) = (n.nd b).to.length - 1 := by rw [oth_in (by omega)]; omega
  have pa := h.pa
  have pb := h.pb
  cases hp with
  | beta h1 hx hy =>
    have e2 : doneR n p a b = joinD n a b := by unfold doneR; rw [h1]; simp
    have e3 : seqA p (n.nd a) (n.nd b) (ν a) (ν b) tag = joinA (ν a) (ν b) (List.range' 1 ((n.nd a).to.length - 1)) := by unfold seqA; rw [h1]; simp
    rw [e2,e3]
    refine doneA_join h ?_ hR
    unfold Nd.ports at pa pb; rw [hx] at pa; rw [hy] at pb
    simp at pa pb; omega
  | join h1 hx hy =>
    have e2 : doneR n p a b = joinD n a b := by unfold doneR; rw [h1]; simp
    have e3 : seqA p (n.nd a) (n.nd b) (ν a) (ν b) tag = joinA (ν a) (ν b) (List.range' 1 ((n.nd a).to.length - 1)) := by unfold seqA; rw [h1]; simp
    rw [e2,e3]
    refine doneA_join h ?_ hR
    have hx2 := (cls_3 _).1 hx
    have e3 : (n.nd a).ports = (n.nd b).ports := by
      unfold Nd.ports; rw [← hy]
      rcases hx2 with h | h | h <;> rw [h] <;> simp
    omega
  | pick i B h1 hx hy h2 h3 h4 =>
    have hil := (List.getElem?_eq_some_iff.1 h3).1
    have hal := h.ma.al8
    have hA2 : (n.nd a).al.getD i zA = B := by rw [List.getD_eq_getElem?_getD,h3]; rfl
    have e : needX p (n.nd a) (n.nd b) = B.n + (n.nd a).al.length - 1 := by
      unfold needX; rw [if_pos h1,if_neg (by omega),h2,Int.toNat_natCast,hA2,wr_in (z := B.n + (n.nd a).al.length) (by omega),wr_in (by omega)]
    have e2 : doneR n p a b = pickD n i a b := by unfold doneR; rw [h1,h2]; simp
    rw [e] at hu
    have h5 := doneA_pick h hx hy h3 h4 hu hR hA
    rw [e2]
    have e3 : seqA p (n.nd a) (n.nd b) (ν a) (ν b) tag = (mkA (appN (n.nd a).lv) (namesA tag 0 B.n.toNat) ++ (mkA (dropN (n.nd a).lv) (namesA tag B.n.toNat ((namP (ν a) 2 (n.nd a).to.length).filter fun r => !decide (r = (ν a,(i : Int) + 2))).length) ++
      ((match namesA tag 0 B.n.toNat with | [] => [AO.jn (ν a,(i : Int) + 2) (ν a,1)] | d :: _ => [AO.mv (ν a,(i : Int) + 2) (d,0)]) ++
        (pickA (ν a) (ν b) 0 (namesA tag 0 B.n.toNat) ++ dropA ((namP (ν a) 2 (n.nd a).to.length).filter fun r => !decide (r = (ν a,(i : Int) + 2))) (namesA tag B.n.toNat ((namP (ν a) 2 (n.nd a).to.length).filter fun r => !decide (r = (ν a,(i : Int) + 2))).length))))) := by
      unfold seqA
      rw [if_neg (by omega),if_pos h1,h2,Int.toNat_natCast,hA2]
      try rfl
    rw [e3]; exact h5
  | half h1 hx hy =>
    have e : needX p (n.nd a) (n.nd b) = 1 := by unfold needX; rw [h1]; simp
    have e2 : doneR n p a b = halfD n a b := by unfold doneR; rw [h1]; simp
    have e3 : seqA p (n.nd a) (n.nd b) (ν a) (ν b) tag = [.mk (tag,0) (blank (halfN (n.nd a) (n.nd b)).fresh),.mv (ν a,2) ((tag,0),0),.mv (ν a,1) ((tag,0),1)] := by unfold seqA; rw [h1]; simp
    rw [e] at hu
    rw [e2,e3]
    exact doneA_half h hx hy hu hR hA
  | out h1 hx hy g1 g2 g3 g4 g5 =>
    have e : needX p (n.nd a) (n.nd b) = 1 := by unfold needX; rw [h1]; simp
    have e2 : doneR n p a b = outD n p.nd a := by unfold doneR; rw [h1]; simp
    have e3 : seqA p (n.nd a) (n.nd b) (ν a) (ν b) tag = [.mk (tag,0) (blank p.nd.fresh),.mv (ν a,1) ((tag,0),0)] := by unfold seqA; rw [h1]; simp
    rw [e] at hu
    rw [e2,e3]
    exact doneA_out h hx hy g1 g2 g3 g4 g5 hu hR hA
  | fail h1 hx hy =>
    have hx2 := (cls_1 _).1 hx
    have hal := h.ma.al8
    have l2 : 2 ≤ (n.nd a).to.length := by
      unfold Nd.ports at pa
      rcases hx2 with h | h | h | h <;> rw [h] at pa <;> simp at pa <;> omega
    have e : needX p (n.nd a) (n.nd b) = 1 + ((n.nd a).to.length - 2) + ((n.nd b).to.length - 1) := by
      unfold needX; rw [h1]
      simp only [Int.reduceEq,if_false,or_self,if_true]
      rw [oa,ob,wr_in (z := (n.nd a).to.length - 1 - 1) (by omega),wr_in (z := 1 + max ((n.nd a).to.length - 1 - 1 : Int) 0) (by omega),wr_in (by omega)]
      omega
    have e2 : doneR n p a b = failD n a b := by unfold doneR; rw [h1]; simp
    rw [e] at hu
    have h5 := doneA_fail (tag := tag) h l2 hu hR hA
    rw [e2]
    unfold seqA
    rw [if_neg (by omega),if_neg (by omega),if_neg (by omega),if_neg (by omega),if_pos h1]
    exact h5
  | pass h1 hx hy g1 g2 =>
    have hx2 := (cls_3 _).1 hx
    have e : needX p (n.nd a) (n.nd b) = ((n.nd a).to.length - 1 : Int) + ((n.nd b).to.length - 1) := by
      unfold needX; rw [h1]
      simp only [Int.reduceEq,if_false,or_self,if_true]
      rw [ob]
      unfold Nd.ports at pa
      by_cases h4 : (n.nd a).k = 4
      · rw [if_pos h4,wr_in (by omega)]
        rw [h4] at pa; simp at pa; omega
      · rw [if_neg h4,wr_in (by omega)]
        rcases hx2 with h | h | h
        · exact absurd h h4
        · rw [h] at pa; simp at pa; omega
        · rw [h] at pa; simp at pa; omega
    have e2 : doneR n p a b = passD n p.lv a b := by unfold doneR; rw [h1]; simp
    rw [e] at hu
    have h5 := doneA_pass (tag := tag) h hx hy g1 g2 hu hR hA
    rw [e2]
    unfold seqA
    rw [if_neg (by omega),if_neg (by omega),if_neg (by omega),if_neg (by omega),if_neg (by omega),if_pos h1]
    exact h5
  | drop h1 hx hy =>
    have e : needX p (n.nd a) (n.nd b) = (n.nd b).to.length - 1 := by unfold needX; rw [h1]; simp [ob]
    have e2 : doneR n p a b = dropD n a b := by unfold doneR; rw [h1]; simp
    rw [e] at hu
    have h5 := doneA_drop (tag := tag) h hx hu hR hA
    rw [e2]
    unfold seqA
    rw [if_neg (by omega),if_neg (by omega),if_neg (by omega),if_neg (by omega),if_neg (by omega),if_neg (by omega),if_pos h1]
    exact h5
noncomputable def stepA (p : Pl) (dx dy : Nd) (X Y U V : Nm) (tag : Nat) : List AO := AO.jn (X,0) (Y,0) :: (seqA p dx dy X Y tag ++ [.fr U,.fr V])
theorem step_rep (h : Meet n a b) {p : Pl} (hp : PlanX (n.nd a) (n.nd b) p) (hu : n.used + needX p (n.nd a) (n.nd b) ≤ n.cap) (hR : Rep ν n [] A) (hA : ∀ i,A.nd (tag,i) = none) :
    ∃ ν',Rep ν' (stepR n p a b) [] (runA A (stepA p (n.nd a) (n.nd b) (ν a) (ν b) (ν (max a b)) (ν (min a b)) tag)) ∧ ∀ i,Us n i → i ≠ a → i ≠ b → ν' i = ν i := by
  obtain ⟨ka,kb⟩ := planX_k hp
  have hr := done_run h hp hu
  obtain ⟨ν',d1,d2⟩ := doneA_run (tag := tag) h hp hu (start_rep h hR) hA
  obtain ⟨m,hm⟩ : ∃ m,doneR n p a b = m := ⟨_,rfl⟩
  rw [hm] at hr d1
  have a0 := h.a0
  have b0 := h.b0
  have hab := h.ab
  have la := h.lenA
  have lb := h.lenB
  have node : ∀ t : Int,Us n t → (n.nd t).k ≠ 1 → ∃ x,m.ns[t.toNat]? = some x ∧ x.k ≠ 0 ∧ x.to.length = (n.nd t).to.length ∧ 1 ≤ t := by
    intro t ht hk1
    obtain ⟨y,g1,g2,g3⟩ := hr.old _ _ (get_nd ht.1 ht.2.1) ht.2.2
    refine ⟨y,g1,by rw [g2]; exact ht.2.2,g3,?_⟩
    have g := (h.good.nds _ _ (get_nd ht.1 ht.2.1)).2.2.1
    have := ht.1
    by_cases e : t = 0
    · exact absurd (g.1 (by omega)) hk1
    · omega
  have both : ∀ t : Nat,(t : Int) = a ∨ (t : Int) = b → ∃ x,m.ns[t]? = some x ∧ x.k ≠ 0 ∧ 1 ≤ t ∧ ∀ p,m.has p = true → p.n = t → p ∈ endL n a b := by
    intro t ht
    rcases ht with ht | ht
    · obtain ⟨x,g1,g2,g3,g4⟩ := node a h.usA ka
      rw [show a.toNat = t by omega] at g1
      refine ⟨x,g1,g2,by omega,fun p hp e => mem_endL.2 (.inl ?_)⟩
      have h1 := has_iff.1 hp
      rw [e,nd_get g1,g3] at h1
      exact ⟨by omega,h1.2.2.1,h1.2.2.2⟩
    · obtain ⟨x,g1,g2,g3,g4⟩ := node b h.usB kb
      rw [show b.toNat = t by omega] at g1
      refine ⟨x,g1,g2,by omega,fun p hp e => mem_endL.2 (.inr ?_)⟩
      have h1 := has_iff.1 hp
      rw [e,nd_get g1,g3] at h1
      exact ⟨by omega,h1.2.2.1,h1.2.2.2⟩
  obtain ⟨i,hi⟩ : ∃ i : Nat,max a b = i := ⟨(max a b).toNat,by omega⟩
  obtain ⟨j,hj⟩ : ∃ j : Nat,min a b = j := ⟨(min a b).toNat,by omega⟩
  have hij : (i : Int) = a ∧ (j : Int) = b ∨ (i : Int) = b ∧ (j : Int) = a := by omega
  obtain ⟨x,x1,x2,x3,x4⟩ := both i (by omega)
  obtain ⟨y,y1,y2,y3,y4⟩ := both j (by omega)
  obtain ⟨f1,s1,u1,h1,l1⟩ := hr.semi.free x1 x3 x2 x4
  have y1' := free_get (i := i) y1 (by omega) y2
  have hL1 : ∀ p,p ∈ (endL n a b).filter (fun r => decide (r.n ≠ (i : Int))) ↔ p ∈ endL n a b ∧ p.n ≠ i := fun p => by rw [List.mem_filter]; simp
  have r1 := d1.free hr.semi (i := (i : Int)) (fun j => free_us j) (fun j hj => free_nd hj) (us_get.2 ⟨x,x1,x2⟩) x4 hL1 h1 l1
  have s1' : Semi (m.free (i : Int)) (· ∈ (endL n a b).filter (fun r => decide (r.n ≠ (i : Int)))) := s1.iff fun p => (hL1 p).symm
  obtain ⟨f2,s2,u2,h2,l2⟩ := s1.free y1' y3 y2 (fun p hp e => ⟨y4 p ((h1 p).1 hp).1 e,by omega⟩)
  have r2 := r1.free s1' (i := (j : Int)) (M := []) (fun k => free_us k) (fun k hk => free_nd hk) (us_get.2 ⟨y,y1',y2⟩) (fun p hp e => (hL1 p).2 ⟨y4 p ((h1 p).1 hp).1 e,by omega⟩) (fun p => by
    rw [hL1]
    constructor
    · intro h; simp at h
    · rintro ⟨⟨k1,k2⟩,k3⟩
      exfalso
      rcases mem_endL.1 k1 with ⟨k,_⟩ | ⟨k,_⟩ <;> omega) h2 l2
  have es : stepR n p a b = (m.free (i : Int)).free (j : Int) := by
    unfold stepR
    rw [hm,hi,hj,f1]
    simp only
    rw [f2]
  have ni : ν' i = ν i := d2 i (by rcases hij with ⟨k,_⟩ | ⟨k,_⟩ <;> rw [k]; exact h.usA; exact h.usB)
  have nj : ν' j = ν j := d2 j (by rcases hij with ⟨_,k⟩ | ⟨_,k⟩ <;> rw [k]; exact h.usB; exact h.usA)
  refine ⟨ν',?_,fun k hk _ _ => d2 k hk⟩
  rw [es,hi,hj]
  rw [ni,nj] at r2
  have e : runA A (stepA p (n.nd a) (n.nd b) (ν a) (ν b) (ν i) (ν j) tag) = AO.run (AO.run (runA (AO.run A (.jn (ν a,0) (ν b,0))) (seqA p (n.nd a) (n.nd b) (ν a) (ν b) tag)) (.fr (ν i))) (.fr (ν j)) := by
    unfold stepA
    show runA (AO.run A _) _ = _
    rw [runA_app]; rfl
  rw [e]
  exact r2
end
end Go.Proofs.Ytkpfjolcmkikeaa
end
section
set_option linter.unusedSimpArgs false
set_option linter.unusedVariables false
set_option maxHeartbeats 4000000
set_option maxRecDepth 10000
namespace Go.Proofs.Ytkpfjolcmkikeaa
open Go.Fx
def Nt.step (n : Nt) (i j : Nat) : Prop := ∃ x q,n.ns[i]? = some x ∧ q ∈ x.to ∧ q.n = (j : Int)
inductive Rch (n : Nt) : Nat → Prop
  | root : Rch n 0
  | step {i j : Nat} : Rch n i → n.step i j → Rch n j
def cntF (l : List Bool) : Nat := l.countP fun b => !b
end Go.Proofs.Ytkpfjolcmkikeaa
end
section
set_option linter.unusedSimpArgs false
set_option linter.unusedVariables false
namespace Go.Fx
variable {S : Seat}
theorem evY_up {cp : FuncId → List PT → Option PT} {cs : Cal → List TV → St → Option (TV × St)} {sp : FuncId → Bool} {j k : Nat} (h : j ≤ k) (l : Nat) (args : List TV) (σ : St) : Le (evY cp cs sp j l args σ) (evY cp cs sp k l args σ) := by
  induction h with
  | refl => exact Le.refl _
  | step _ ih => exact ih.trans (evY_le (fun _ _ => Le.refl _) (fun _ _ _ => Le.refl _) _ l args σ)
theorem eS_y_of {n l : Nat} {args : List TV} {σ : St} {x : TV × St} (h : evY (eP S) (eS S) S.sp n l args σ = some x) : eS S (.y l) args σ = some x := by
  have hl := evY_lim (cp := eP S) (cs := eS S) (sp := S.sp) (fun f ps => eP_lim S f ps) (fun f vs σ => eS_lim S f vs σ) n l args σ
  obtain ⟨k,hk⟩ := hl.ex _ h
  refine (eS_some S).2 ⟨max k n + 1,?_⟩
  rw [evS]
  exact evY_up (Nat.le_max_right k n) l args σ _ (hl.mono (Nat.le_max_left k n) _ hk)
theorem y_round {l : Nat} {args : List TV} {σ : St} {r : LRec} (hr : σ.ls[l]? = some r) (hn : args.length = r.params.length) {K : TV → St → Prop}
    (h : wp S true r.assign (putAll r.env r.params args) σ fun x e1 σ1 => x = .norm ∧ ∃ r1,σ1.ls[l]? = some r1 ∧ r1.st = .ready ∧ wp S true r.body e1 (setL σ1 l { r1 with st := .busy }) fun y e2 σ2 =>
      ∃ r2,σ2.ls[l]? = some r2 ∧ (if y = .norm then K (.a (.p (.b true))) (setL σ2 l { r2 with st := .ready,pend := none }) else K (.a (.p (.b false))) (setL σ2 l { r2 with st := .done,pend := some y }))) :
    ∃ v σ',eS S (.y l) args σ = some (v,σ') ∧ K v σ' := by
  obtain ⟨n1,⟨x,e1,σ1⟩,h1,hx,r1,hr1,hst,n2,⟨y,e2,σ2⟩,h2,r2,hr2,hK⟩ := h
  simp only at hx hr1 hst h2 hr2 hK
  subst hx
  have a := evW_le (Nat.le_max_left n1 n2) true r.assign _ _ _ h1
  have b := evW_le (Nat.le_max_right n1 n2) true r.body _ _ _ h2
  simp only [evW] at a b
  by_cases hy : y = .norm
  · subst hy
    rw [if_pos rfl] at hK
    refine ⟨_,_,eS_y_of (n := max n1 n2) ?_,hK⟩
    simp only [evY,hr,hn,if_true,a,Option.bind_some,hr1,hst,b,hr2]
  · rw [if_neg hy] at hK
    refine ⟨_,_,eS_y_of (n := max n1 n2) ?_,hK⟩
    simp only [evY,hr,hn,if_true,a,Option.bind_some,hr1,hst,b,hr2,if_neg hy]
theorem wp_rng {f : X} {ps : List Nat} {assign body : C} {e : Env} {σ : St} {Q : Ex → Env → St → Prop} {g : FuncId} {caps : List Key} (hf : ev e f = .a (.fn g caps))
    (h : ∃ v σ1,eS S (.f g) (.a (.yl σ.ls.length) :: caps.map fun s => .a (.ptr s 0 0)) { σ with ls := σ.ls ++ [{ env := e,params := ps,assign := assign,body := body,st := .ready,pend := none }] } = some (v,σ1) ∧
      ∃ r,σ1.ls[σ.ls.length]? = some r ∧ r.st ≠ .busy ∧ Q (r.pend.getD .norm) e (setL σ1 σ.ls.length { r with st := .gone })) : wp S false (.rng f ps assign body) e σ Q := by
  obtain ⟨v,σ1,h1,r,hr,hs,hQ⟩ := h
  refine ⟨1,(r.pend.getD .norm,e,setL σ1 σ.ls.length { r with st := .gone }),?_,hQ⟩
  simp only [evW,evC,Bool.false_eq_true,if_false,hf,h1,Option.bind_some,hr,if_neg hs]
theorem setL_bs (σ : St) (l : Nat) (r : LRec) : (setL σ l r).bs = σ.bs := rfl
theorem setL_clk (σ : St) (l : Nat) (r : LRec) : (setL σ l r).clk = σ.clk := rfl
theorem setL_ls (σ : St) (l : Nat) (r : LRec) : (setL σ l r).ls = σ.ls.set l r := rfl
end Go.Fx
end
section
set_option linter.unusedSimpArgs false
set_option linter.unusedVariables false
set_option maxHeartbeats 4000000
set_option maxRecDepth 10000
namespace Go.Proofs.Ytkpfjolcmkikeaa
open Go.Fx
def Nt.pr (n : Nt) (i : Nat) : Option Pt := if n.has ⟨i,0⟩ = true ∧ (n.lk ⟨i,0⟩).s = 0 ∧ (i : Int) < (n.lk ⟨i,0⟩).n then some ⟨i,(n.lk ⟨i,0⟩).n⟩ else none
def prsTo (n : Nt) (k : Nat) : List Pt := (List.range k).filterMap n.pr
def Nt.prs (n : Nt) : List Pt := prsTo n n.ns.length
theorem prsTo_succ (n : Nt) (k : Nat) : prsTo n (k + 1) = prsTo n k ++ (n.pr k).toList := by
  unfold prsTo
  rw [List.range_succ,List.filterMap_append]
  cases h : n.pr k <;> simp [h]
theorem meetings_ok (n : Nt) (σ : St) : eS S (.f 65) [.g ((encT n).map .p)] σ = some (.a (.fn 90 [(1,σ.clk)]),σ.add 1 (.var ((encT n).map .p))) := by
  refine x_fnX (fc := F65) rfl rfl ?_
  simp only [F65,capsOf,fxa,fxc,fxE,fxL,fxI,nxE,evO,evR,cellsT,ldCells,mkT,lenA,binPV,Env.init,resV,resT,frT,klT,ownT,intT,O.adds,ownA,rowsA,over,wrOk,keysT,keysA,ne_eq,if_true,if_false,ite_self,Nat.reduceLT,Nat.reduceSub,Nat.reduceBEq,Nat.reduceEqDiff,Nat.reduceAdd,Nat.reduceLeDiff,reduceCtorEq,Nat.reduceMul]
theorem each_ok {n : Nt} (hn : n.Ok) (l : Nat) (kn : Key) (I : Nat → St → Prop) (hI : ∀ k σ,I k σ → σ.bs kn = some (.var ((encT n).map .p)) ∧ kn.2 < σ.clk)
    (hadd : ∀ k σ c b,I k σ → c = σ.clk → I k ((σ.add 4 (.var [.p (.i .i64 0),.p (.i .i64 0)])).put (4,c) b))
    (hy : n.Good → ∀ k σ p,I k σ → n.prs[k]? = some p → ∃ σ',eS S (.y l) [.g [.p (.i .i64 p.n),.p (.i .i64 p.s)]] σ = some (.a (.p (.b true)),σ') ∧ I (k + 1) σ') (σ : St) (h0 : I 0 σ) :
    ∃ σ',eS S (.f 90) [.a (.yl l),.a (.ptr kn 0 0)] σ = some (.u,σ') ∧ I (if bool n.Good then n.prs.length else 0) σ' := by
  refine x_fnR (fc := F90) rfl rfl ?_
  have c1 := sCheck_ok hn
  have hns := hn.ns
  obtain ⟨s1,hc⟩ := hI 0 σ h0
  by_cases hG : n.Good
  case neg =>
    rw [bool_f hG] at c1 ⊢
    simp only [Bool.false_eq_true,if_false,encT,List.map_cons,List.map_nil] at c1 s1
    simp only [F90,s1,c1,Int.reduceEq,fxa,fxc,fxE,fxL,fxI,nxE,evO,evR,cellsT,ldCells,mkT,lenA,binPV,Env.init,resV,resT,frT,klT,ownT,intT,O.adds,ownA,rowsA,over,wrOk,keysT,keysA,ne_eq,if_true,if_false,ite_self,Nat.reduceLT,Nat.reduceSub,Nat.reduceBEq,Nat.reduceEqDiff,Nat.reduceAdd,Nat.reduceLeDiff,reduceCtorEq,Nat.reduceMul]
    exact h0
  rw [bool_t hG] at c1 ⊢
  simp only [if_true,encT,List.map_cons,List.map_nil] at c1 s1
  simp only [F90,s1,c1,fxa,fxc,fxE,fxL,fxI,nxE,evO,evR,cellsT,ldCells,mkT,lenA,binPV,Env.init,resV,resT,frT,klT,ownT,intT,O.adds,ownA,rowsA,over,wrOk,keysT,keysA,ne_eq,if_true,if_false,ite_self,Nat.reduceLT,Nat.reduceSub,Nat.reduceBEq,Nat.reduceEqDiff,Nat.reduceAdd,Nat.reduceLeDiff,reduceCtorEq,Nat.reduceMul]
  refine loop_nat n.ns.length (fun i e σ => e 0 = .a (.yl l) ∧ e 1 = .a (.ptr kn 0 0) ∧ e 11 = .a (.p (.i .i64 n.ns.length)) ∧ e 12 = .a (.p (.i .i64 (i : Nat))) ∧ I (prsTo n i).length σ) (i0 := 0) (Nat.zero_le _) ?_ ?_ ?_
  · refine ⟨?_,?_,?_,?_,h0⟩ <;> simp only [fxa,fxc,fxE,fxL,fxI,nxE,evO,evR,cellsT,ldCells,mkT,lenA,binPV,Env.init,resV,resT,frT,klT,ownT,intT,O.adds,ownA,rowsA,over,wrOk,keysT,keysA,ne_eq,if_true,if_false,ite_self,Nat.reduceLT,Nat.reduceSub,Nat.reduceBEq,Nat.reduceEqDiff,Nat.reduceAdd,Nat.reduceLeDiff,reduceCtorEq,Nat.reduceMul]
    rfl
  · rintro i e σ hi ⟨e0,e1,e11,e12,hIi⟩
    obtain ⟨s1,hc⟩ := hI _ σ hIi
    have hlt : ((i : Nat) : Int) < (n.ns.length : Int) := by omega
    have c2 := Peer_ok n ⟨i,0⟩
    have hsuc := prsTo_succ n i
    have hkn : ¬ kn = (4,σ.clk) := by rintro rfl; simp at hc
    rw [hsuc]
    simp only [encT,encP,List.map_cons,List.map_nil] at s1 c2
    cases hh : n.has ⟨i,0⟩ with
    | false =>
      have hp : n.pr i = none := by unfold Nt.pr; rw [hh]; simp
      rw [hh] at c2
      simp only [Bool.false_eq_true,if_false,zP] at c2
      simp only [F90b0,e0,e1,e11,e12,s1,hlt,c2,hp,Option.toList_none,Int.reduceEq,fxa,fxc,fxE,fxL,fxI,nxE,evO,evR,cellsT,ldCells,mkT,lenA,binPV,Env.init,resV,resT,frT,klT,ownT,intT,O.adds,ownA,rowsA,over,wrOk,keysT,keysA,ne_eq,if_true,if_false,ite_self,Nat.reduceLT,Nat.reduceSub,Nat.reduceBEq,Nat.reduceEqDiff,Nat.reduceAdd,Nat.reduceLeDiff,reduceCtorEq,Nat.reduceMul]
      exact ⟨by rw [wrap_succ i (by omega)],hadd _ σ _ _ hIi rfl⟩
    | true =>
      rw [hh] at c2
      simp only [if_true] at c2
      obtain ⟨q,hq⟩ : ∃ q,n.lk ⟨i,0⟩ = q := ⟨_,rfl⟩
      rw [hq] at c2
      by_cases h1 : q.s = 0
      case neg =>
        have hp : n.pr i = none := by unfold Nt.pr; rw [hq,if_neg (fun h => h1 h.2.1)]
        simp only [F90b0,e0,e1,e11,e12,s1,hlt,c2,h1,hp,Option.toList_none,Int.reduceEq,fxa,fxc,fxE,fxL,fxI,nxE,evO,evR,cellsT,ldCells,mkT,lenA,binPV,Env.init,resV,resT,frT,klT,ownT,intT,O.adds,ownA,rowsA,over,wrOk,keysT,keysA,ne_eq,if_true,if_false,ite_self,Nat.reduceLT,Nat.reduceSub,Nat.reduceBEq,Nat.reduceEqDiff,Nat.reduceAdd,Nat.reduceLeDiff,reduceCtorEq,Nat.reduceMul]
        exact ⟨by rw [wrap_succ i (by omega)],hadd _ σ _ _ hIi rfl⟩
      by_cases h2 : q.n ≤ (i : Int)
      · have hp : n.pr i = none := by unfold Nt.pr; rw [hq,if_neg (fun h => by have := h.2.2; omega)]
        rw [h1] at c2
        simp only [F90b0,e0,e1,e11,e12,s1,hlt,c2,h1,h2,hp,Option.toList_none,Int.reduceEq,fxa,fxc,fxE,fxL,fxI,nxE,evO,evR,cellsT,ldCells,mkT,lenA,binPV,Env.init,resV,resT,frT,klT,ownT,intT,O.adds,ownA,rowsA,over,wrOk,keysT,keysA,ne_eq,if_true,if_false,ite_self,Nat.reduceLT,Nat.reduceSub,Nat.reduceBEq,Nat.reduceEqDiff,Nat.reduceAdd,Nat.reduceLeDiff,reduceCtorEq,Nat.reduceMul]
        exact ⟨by rw [wrap_succ i (by omega)],hadd _ σ _ _ hIi rfl⟩
      · have hp : n.pr i = some ⟨i,q.n⟩ := by unfold Nt.pr; rw [hq,if_pos ⟨hh,h1,by omega⟩]
        have hget : n.prs[(prsTo n i).length]? = some ⟨i,q.n⟩ := by
          have : ∀ k,i + 1 ≤ k → (prsTo n k)[(prsTo n i).length]? = some ⟨i,q.n⟩ := by
            intro k hk
            induction hk with
            | refl => rw [hsuc,hp]; simp
            | step hk ih =>
              rw [prsTo_succ,List.getElem?_append_left]
              · exact ih
              · exact (List.getElem?_eq_some_iff.1 ih).1
          exact this n.ns.length (by omega)
        obtain ⟨σ',hcall,hI'⟩ := hy hG _ _ _ (hadd _ σ σ.clk (.var [.p (.i .i64 q.n),.p (.i .i64 q.s)]) hIi rfl) hget
        rw [h1] at c2 hcall
        simp only [F90b0,e0,e1,e11,e12,s1,hlt,c2,h1,h2,hp,hcall,Option.toList_some,List.length_append,Int.reduceEq,fxa,fxc,fxE,fxL,fxI,nxE,evO,evR,cellsT,ldCells,mkT,lenA,binPV,Env.init,resV,resT,frT,klT,ownT,intT,O.adds,ownA,rowsA,over,wrOk,keysT,keysA,ne_eq,if_true,if_false,ite_self,Nat.reduceLT,Nat.reduceSub,Nat.reduceBEq,Nat.reduceEqDiff,Nat.reduceAdd,Nat.reduceLeDiff,reduceCtorEq,Nat.reduceMul]
        exact ⟨by rw [wrap_succ i (by omega)],hI'⟩
  · rintro e σ ⟨e0,e1,e11,e12,hIi⟩
    have hlt : ¬ ((n.ns.length : Nat) : Int) < (n.ns.length : Int) := by omega
    simp only [F90b0,e0,e1,e11,e12,hlt,fxa,fxc,fxE,fxL,fxI,nxE,evO,evR,cellsT,ldCells,mkT,lenA,binPV,Env.init,resV,resT,frT,klT,ownT,intT,O.adds,ownA,rowsA,over,wrOk,keysT,keysA,ne_eq,if_true,if_false,ite_self,Nat.reduceLT,Nat.reduceSub,Nat.reduceBEq,Nat.reduceEqDiff,Nat.reduceAdd,Nat.reduceLeDiff,reduceCtorEq,Nat.reduceMul]
    exact hIi
end Go.Proofs.Ytkpfjolcmkikeaa
end
section
set_option linter.unusedSimpArgs false
set_option linter.unusedVariables false
set_option maxHeartbeats 4000000
set_option maxRecDepth 10000
namespace Go.Proofs.Ytkpfjolcmkikeaa
open Go.Fx
theorem prsTo_len (n : Nt) (k : Nat) : (prsTo n k).length ≤ k := by
  unfold prsTo
  have := List.length_filterMap_le n.pr (List.range k)
  simpa using this
def rdy (n : Nt) (p : Pt) : Bool := decide ((ofR (n.nd p.n) (n.nd p.s)).2 = 0)
theorem pr_spec {n : Nt} {i : Nat} {p : Pt} (h : n.pr i = some p) : p.n = i ∧ n.has ⟨i,0⟩ = true ∧ n.lk ⟨i,0⟩ = ⟨p.s,0⟩ ∧ (i : Int) < p.s := by
  unfold Nt.pr at h
  split at h
  · rename_i h1
    rw [← Option.some.inj h]
    refine ⟨rfl,h1.1,?_,h1.2.2⟩
    obtain ⟨q,hq⟩ : ∃ q,n.lk ⟨i,0⟩ = q := ⟨_,rfl⟩
    rw [hq] at h1 ⊢
    obtain ⟨a,b⟩ := q
    have h2 : b = 0 := h1.2.1
    rw [h2]
  · cases h
theorem prs_mem {n : Nt} {p : Pt} : p ∈ n.prs ↔ ∃ i,i < n.ns.length ∧ n.pr i = some p := by
  unfold Nt.prs prsTo
  rw [List.mem_filterMap]
  constructor
  · rintro ⟨i,h1,h2⟩; exact ⟨i,List.mem_range.1 h1,h2⟩
  · rintro ⟨i,h1,h2⟩; exact ⟨i,List.mem_range.2 h1,h2⟩
theorem prs_in {n : Nt} (hG : n.Good) {p : Pt} (h : p ∈ n.prs) : 0 ≤ p.n ∧ p.n < n.ns.length ∧ 0 ≤ p.s ∧ p.s < n.ns.length ∧ p.n < p.s := by
  obtain ⟨i,h1,h2⟩ := prs_mem.1 h
  obtain ⟨e1,e2,e3,e4⟩ := pr_spec h2
  have h3 := has_iff.1 (good_link hG e2).2.1
  rw [e3] at h3
  simp only at h3
  omega
theorem ready_ok {n : Nt} (hn : n.Ok) {p : Pt} (hp : 0 ≤ p.n ∧ p.n < n.ns.length ∧ 0 ≤ p.s ∧ p.s < n.ns.length) : eP S 67 [.g (encT n),.g (encP p)] = some (.a (.b (rdy n p))) := by
  refine x_fn (orcS (by decide)) (fc := F67) rfl rfl ?_
  have g1 := getN (l := n.ns) hp.1 hp.2.1
  have g2 := getN (l := n.ns) hp.2.2.1 hp.2.2.2
  have c1 := Of_ok (hn.nd _ (nd_mem hp.1 hp.2.1)) (hn.nd _ (nd_mem hp.2.2.1 hp.2.2.2))
  obtain ⟨a,ha⟩ : ∃ a,n.nd p.n = a := ⟨_,rfl⟩
  obtain ⟨b,hb⟩ : ∃ b,n.nd p.s = b := ⟨_,rfl⟩
  have ha2 : n.ns.getD p.n.toNat zN = a := ha
  have hb2 : n.ns.getD p.s.toNat zN = b := hb
  unfold rdy
  rw [ha,hb] at c1 ⊢
  rw [ha2] at g1
  rw [hb2] at g2
  obtain ⟨⟨r,e⟩,hr⟩ : ∃ r,ofR a b = r := ⟨_,rfl⟩
  rw [hr] at c1 ⊢
  simp only [encLE,encL,encN] at c1
  simp only [F67,g1,g2,hp.1,hp.2.1,hp.2.2.1,hp.2.2.2,c1,fxa,fxc,fxE,fxL,fxI,nxE,evO,evR,cellsT,ldCells,mkT,lenA,binPV,Env.init,resV,resT,frT,klT,ownT,intT,O.adds,ownA,rowsA,over,wrOk,keysT,keysA,ne_eq,if_true,if_false,ite_self,Nat.reduceLT,Nat.reduceSub,Nat.reduceBEq,Nat.reduceEqDiff,Nat.reduceAdd,Nat.reduceLeDiff,reduceCtorEq,Nat.reduceMul]
noncomputable def Nt.rds (n : Nt) : List Pt := if bool n.Good then n.prs.filter (rdy n) else []
theorem Ready_ok {n : Nt} (hn : n.Ok) : eP S 45 [.g (encT n)] = some (.a (.l (n.rds.map encP))) := by
  refine x_fn (orcS (by decide)) (fc := F45) rfl rfl ?_
  have hns := hn.ns
  have hpl2 : n.prs.length ≤ n.ns.length := prsTo_len n n.ns.length
  have hm := meetings_ok n ((St.empty.add 1 (.var ((encT n).map .p))).add 3 (.var [.nil]))
  simp only [encT,List.map_cons,List.map_nil,add_clk,empty_clk,Nat.zero_add,Nat.reduceAdd] at hm
  simp only [F45,hm,fxa,fxc,fxE,fxL,fxI,nxE,evO,evR,cellsT,ldCells,mkT,lenA,binPV,Env.init,resV,resT,frT,klT,ownT,intT,O.adds,ownA,rowsA,over,wrOk,keysT,keysA,ne_eq,if_true,if_false,ite_self,Nat.reduceLT,Nat.reduceSub,Nat.reduceBEq,Nat.reduceEqDiff,Nat.reduceAdd,Nat.reduceLeDiff,reduceCtorEq,Nat.reduceMul]
  obtain ⟨E,hE⟩ : ∃ E : Env,E = ((((((Env.init [TV.g [.p (.l (n.ns.map encN)),.p (.i .i64 n.cap)]]).put 1 (.a (.ptr (1,0) 0 0))).put 2 (.a .nil)).put 3 (.a (.ptr (3,1) 0 0))).put 5 (.g [.p (.l (n.ns.map encN)),.p (.i .i64 n.cap)])).put 6 (.a (.fn 90 [(1,2)]))) := ⟨_,rfl⟩
  have E1 : E 1 = .a (.ptr (1,0) 0 0) := by rw [hE]; rfl
  have E3 : E 3 = .a (.ptr (3,1) 0 0) := by rw [hE]; rfl
  refine wp_rng (g := 90) (caps := [(1,2)]) (by simp only [fxa,fxc,fxE,fxL,fxI,nxE,evO,evR,cellsT,ldCells,mkT,lenA,binPV,Env.init,resV,resT,frT,klT,ownT,intT,O.adds,ownA,rowsA,over,wrOk,keysT,keysA,ne_eq,if_true,if_false,ite_self,Nat.reduceLT,Nat.reduceSub,Nat.reduceBEq,Nat.reduceEqDiff,Nat.reduceAdd,Nat.reduceLeDiff,reduceCtorEq,Nat.reduceMul]) ?_
  rw [← hE]
  obtain ⟨r0,hr0⟩ : ∃ r0 : LRec,r0 = { env := E,params := [7],assign := (.reg [ia 4 (.new [(.p (.i .i64 0)),(.p (.i .i64 0))]),io (.st 2 (.t 4) (.t 7))]),body := (.block 1 (.seq (.reg [ia 8 (.ld 2 true (.t 1)),ia 9 (.ld 2 true (.t 4)),ia 10 (.call (.f 67) [(.t 8),(.t 9)])]) (.cond (.t 10) (.reg [ia 11 (.ld 1 false (.t 3)),ia 12 (.ld 2 true (.t 4)),ia 13 (.bsl 2 60 [(.p (.i .i64 0)),(.p (.i .i64 0))] 1 [(0,(.t 12))]),ia 14 (.app 2 60 16 (.t 11) (.t 13)),io (.st 1 (.t 3) (.t 14))]) .skip))),st := .ready,pend := none } := ⟨_,rfl⟩
  have hls0 : (((St.empty.add 1 (.var [.p (.l (n.ns.map encN)),.p (.i .i64 n.cap)])).add 3 (.var [.nil])).add 1 (.var [.p (.l (n.ns.map encN)),.p (.i .i64 n.cap)])).ls = [] := rfl
  rw [hls0]
  simp only [List.length_nil,List.nil_append,List.map_cons,List.map_nil]
  rw [← hr0]
  have hcall := each_ok hn 0 (1,2) (fun k σ' => (σ'.bs (1,2) = some (.var ((encT n).map .p)) ∧ (1,2).2 < σ'.clk) ∧ σ'.bs (1,0) = some (.var ((encT n).map .p)) ∧ σ'.ls = [r0] ∧ ∃ x,σ'.bs (3,1) = some (.var [x]) ∧ (((n.prs.take k).filter (rdy n)) = [] ∧ x = .nil ∨ ∃ q : Nat,x = .own (14,q) 0 ((n.prs.take k).filter (rdy n)).length ∧ σ'.bs (14,q) = some (.row 2 60 (((n.prs.take k).filter (rdy n)).map encP)) ∧ q < σ'.clk))
    (fun k σ' h => h.1) (by
      rintro k σ' c b ⟨⟨h1,h2⟩,h3,h4,x,h5,h6⟩ rfl
      refine ⟨⟨by simp only [put_bs,add_bs,Prod.mk.injEq,Nat.reduceEqDiff,false_and,if_false]; exact h1,by simp only [put_clk,add_clk]; omega⟩,by simp only [put_bs,add_bs,Prod.mk.injEq,Nat.reduceEqDiff,false_and,if_false]; exact h3,h4,x,by simp only [put_bs,add_bs,Prod.mk.injEq,Nat.reduceEqDiff,false_and,if_false]; exact h5,?_⟩
      rcases h6 with h6 | ⟨q,e1,e2,e3⟩
      · exact .inl h6
      · exact .inr ⟨q,e1,by simp only [put_bs,add_bs,Prod.mk.injEq,Nat.reduceEqDiff,false_and,if_false]; exact e2,by simp only [put_clk,add_clk]; omega⟩)
  specialize hcall (by
      rintro hG k σ' p ⟨⟨h1,h2⟩,h3,h4,x,h5,h6⟩ hp
      have hpm := prs_in hG (List.mem_of_getElem? hp)
      have c1 := ready_ok hn (p := p) ⟨hpm.1,hpm.2.1,hpm.2.2.1,hpm.2.2.2.1⟩
      obtain ⟨v,σ2,g1,g2⟩ := y_round (S := S) (l := 0) (args := [.g [.p (.i .i64 p.n),.p (.i .i64 p.s)]]) (σ := σ') (r := r0) (by rw [h4]; rfl) (by rw [hr0]; rfl) (K := fun v σ2 => v = .a (.p (.b true)) ∧ (σ2.bs (1,2) = some (.var ((encT n).map .p)) ∧ 2 < σ2.clk) ∧ σ2.bs (1,0) = some (.var ((encT n).map .p)) ∧ σ2.ls = [r0] ∧ ∃ x,σ2.bs (3,1) = some (.var [x]) ∧ (((n.prs.take (k + 1)).filter (rdy n)) = [] ∧ x = .nil ∨ ∃ q : Nat,x = .own (14,q) 0 ((n.prs.take (k + 1)).filter (rdy n)).length ∧ σ2.bs (14,q) = some (.row 2 60 (((n.prs.take (k + 1)).filter (rdy n)).map encP)) ∧ q < σ2.clk)) (by
        have hset : [r0].set 0 { r0 with st := .busy } = [{ r0 with st := .busy }] := rfl
        have hback : [{ r0 with st := LSt.busy }].set 0 { ({ r0 with st := LSt.busy } : LRec) with st := .ready,pend := none } = [r0] := by rw [hr0]; rfl
        have ra : r0.assign = (.reg [ia 4 (.new [(.p (.i .i64 0)),(.p (.i .i64 0))]),io (.st 2 (.t 4) (.t 7))]) := by rw [hr0]
        have rb : r0.body = (.block 1 (.seq (.reg [ia 8 (.ld 2 true (.t 1)),ia 9 (.ld 2 true (.t 4)),ia 10 (.call (.f 67) [(.t 8),(.t 9)])]) (.cond (.t 10) (.reg [ia 11 (.ld 1 false (.t 3)),ia 12 (.ld 2 true (.t 4)),ia 13 (.bsl 2 60 [(.p (.i .i64 0)),(.p (.i .i64 0))] 1 [(0,(.t 12))]),ia 14 (.app 2 60 16 (.t 11) (.t 13)),io (.st 1 (.t 3) (.t 14))]) .skip))) := by rw [hr0]
        have re : r0.env = E := by rw [hr0]
        have rp : r0.params = [7] := by rw [hr0]
        have rs : r0.st = .ready := by rw [hr0]
        obtain ⟨L,hL⟩ : ∃ L,(n.prs.take k).filter (rdy n) = L := ⟨_,rfl⟩
        have hLl : L.length ≤ n.ns.length := by
          have h8 := List.length_filter_le (rdy n) (n.prs.take k)
          rw [hL] at h8
          have h9 := List.length_take_le k n.prs
          rw [List.length_take] at h8; omega
        have hL2 : (n.prs.take (k + 1)).filter (rdy n) = L ++ (if rdy n p then [p] else []) := by
          rw [List.take_add_one,hp,List.filter_append,hL]
          cases h : rdy n p <;> simp [h]
        rw [hL] at h6
        rw [hL2]
        have hbb : (L.length + 1) * 16 ≤ 140737488355328 := by omega
        have htk2 : List.take L.length (L.map encP) = L.map encP := List.take_of_length_le (by simp)
        simp only [encT,encP,List.map_cons,List.map_nil] at c1
        have h1' := h1
        have h3' := h3
        simp only [encT,List.map_cons,List.map_nil] at h1' h3'
        have nc : ¬ 0 = σ'.clk ∧ ¬ 0 = σ'.clk + 1 ∧ ¬ 1 = σ'.clk := by omega
        simp only [ra,rb,re,rp,putAll,fxa,fxc,fxE,fxL,fxI,nxE,evO,evR,cellsT,ldCells,mkT,lenA,binPV,Env.init,resV,resT,frT,klT,ownT,intT,O.adds,ownA,rowsA,over,wrOk,keysT,keysA,ne_eq,if_true,if_false,ite_self,Nat.reduceLT,Nat.reduceSub,Nat.reduceBEq,Nat.reduceEqDiff,Nat.reduceAdd,Nat.reduceLeDiff,reduceCtorEq,Nat.reduceMul]
        refine ⟨r0,by rw [h4]; rfl,rs,?_⟩
        cases hrd : rdy n p with
        | false =>
          rw [hrd] at c1
          simp only [setL_bs,setL_clk,setL_ls,E1,E3,h1',h3',h4,h5,c1,hset,List.getElem?_cons_zero,List.append_nil,Bool.false_eq_true,fxa,fxc,fxE,fxL,fxI,nxE,evO,evR,cellsT,ldCells,mkT,lenA,binPV,Env.init,resV,resT,frT,klT,ownT,intT,O.adds,ownA,rowsA,over,wrOk,keysT,keysA,ne_eq,if_true,if_false,ite_self,Nat.reduceLT,Nat.reduceSub,Nat.reduceBEq,Nat.reduceEqDiff,Nat.reduceAdd,Nat.reduceLeDiff,reduceCtorEq,Nat.reduceMul]
          refine ⟨_,rfl,by omega,hback,?_⟩
          rcases h6 with ⟨rfl,rfl⟩ | ⟨q,rfl,e2,e3⟩
          · exact ⟨_,rfl,.inl ⟨rfl,rfl⟩⟩
          · exact ⟨_,rfl,.inr ⟨q,rfl,e2,by omega⟩⟩
        | true =>
          rw [hrd] at c1
          rcases h6 with ⟨rfl,rfl⟩ | ⟨q,rfl,e2,e3⟩
          · simp only [setL_bs,setL_clk,setL_ls,E1,E3,h1',h3',h4,h5,c1,hset,List.getElem?_cons_zero,Nat.zero_add,Nat.one_mul,Nat.reduceLeDiff,Nat.zero_lt_one,fxa,fxc,fxE,fxL,fxI,nxE,evO,evR,cellsT,ldCells,mkT,lenA,binPV,Env.init,resV,resT,frT,klT,ownT,intT,O.adds,ownA,rowsA,over,wrOk,keysT,keysA,ne_eq,if_true,if_false,ite_self,Nat.reduceLT,Nat.reduceSub,Nat.reduceBEq,Nat.reduceEqDiff,Nat.reduceAdd,Nat.reduceLeDiff,reduceCtorEq,Nat.reduceMul]
            refine ⟨_,rfl,by omega,hback,_,rfl,.inr ⟨σ'.clk + 1 + 1,rfl,?_,by omega⟩⟩
            simp [encP]
          · have nq : ¬ q = σ'.clk ∧ ¬ q = σ'.clk + 1 ∧ ¬ q = σ'.clk + 1 + 1 := by omega
            simp only [setL_bs,setL_clk,setL_ls,E1,E3,h1',h3',h4,h5,e2,c1,nq,hset,htk2,hbb,List.length_map,Nat.le_refl,List.getElem?_cons_zero,Nat.zero_add,Nat.one_mul,Nat.reduceLeDiff,Nat.zero_lt_one,fxa,fxc,fxE,fxL,fxI,nxE,evO,evR,cellsT,ldCells,mkT,lenA,binPV,Env.init,resV,resT,frT,klT,ownT,intT,O.adds,ownA,rowsA,over,wrOk,keysT,keysA,ne_eq,if_true,if_false,ite_self,Nat.reduceLT,Nat.reduceSub,Nat.reduceBEq,Nat.reduceEqDiff,Nat.reduceAdd,Nat.reduceLeDiff,reduceCtorEq,Nat.reduceMul]
            refine ⟨_,rfl,by omega,hback,_,rfl,.inr ⟨σ'.clk + 1 + 1,by simp,?_,by omega⟩⟩
            simp [encP])
      obtain ⟨rfl,g2,g3,g4,g5⟩ := g2
      exact ⟨σ2,g1,g2,g3,g4,g5⟩)
  obtain ⟨σ1,hc,hI⟩ := hcall { (((St.empty.add 1 (.var [.p (.l (n.ns.map encN)),.p (.i .i64 n.cap)])).add 3 (.var [.nil])).add 1 (.var [.p (.l (n.ns.map encN)),.p (.i .i64 n.cap)])) with ls := [r0] } ⟨⟨rfl,by show 2 < 3; omega⟩,rfl,rfl,.nil,rfl,.inl ⟨by simp,rfl⟩⟩
  obtain ⟨_,_,h4,x,h5,h6⟩ := hI
  refine ⟨_,σ1,hc,r0,by rw [h4]; rfl,by rw [hr0]; simp,?_⟩
  have hp0 : r0.pend = none := by rw [hr0]
  rw [hp0]
  have hfin : ∃ L,n.rds = L ∧ (L = [] ∧ x = .nil ∨ ∃ q : Nat,x = .own (14,q) 0 L.length ∧ σ1.bs (14,q) = some (.row 2 60 (L.map encP))) := by
    unfold Nt.rds
    by_cases hG : n.Good
    · rw [bool_t hG] at h6 ⊢
      simp only [if_true,List.take_length] at h6 ⊢
      refine ⟨_,rfl,?_⟩
      rcases h6 with h6 | ⟨q,e1,e2,e3⟩
      · exact .inl h6
      · exact .inr ⟨q,e1,e2⟩
    · rw [bool_f hG] at h6 ⊢
      simp only [Bool.false_eq_true,if_false,List.take_zero,List.filter_nil] at h6 ⊢
      refine ⟨_,rfl,?_⟩
      rcases h6 with h6 | ⟨q,e1,e2,e3⟩
      · exact .inl ⟨rfl,h6.2⟩
      · exact .inr ⟨q,e1,e2⟩
  obtain ⟨L,hL,hx⟩ := hfin
  rw [hL]
  rcases hx with ⟨rfl,rfl⟩ | ⟨q,rfl,e2⟩
  · simp only [Option.getD_none,setL_bs,setL_clk,setL_ls,E3,h5,fxa,fxc,fxE,fxL,fxI,nxE,evO,evR,cellsT,ldCells,mkT,lenA,binPV,Env.init,resV,resT,frT,klT,ownT,intT,O.adds,ownA,rowsA,over,wrOk,keysT,keysA,ne_eq,if_true,if_false,ite_self,Nat.reduceLT,Nat.reduceSub,Nat.reduceBEq,Nat.reduceEqDiff,Nat.reduceAdd,Nat.reduceLeDiff,reduceCtorEq,Nat.reduceMul]
  · have htk2 : List.take L.length (L.map encP) = L.map encP := List.take_of_length_le (by simp)
    simp only [Option.getD_none,setL_bs,setL_clk,setL_ls,E3,h5,e2,htk2,List.length_map,Nat.zero_add,Nat.le_refl,fxa,fxc,fxE,fxL,fxI,nxE,evO,evR,cellsT,ldCells,mkT,lenA,binPV,Env.init,resV,resT,frT,klT,ownT,intT,O.adds,ownA,rowsA,over,wrOk,keysT,keysA,ne_eq,if_true,if_false,ite_self,Nat.reduceLT,Nat.reduceSub,Nat.reduceBEq,Nat.reduceEqDiff,Nat.reduceAdd,Nat.reduceLeDiff,reduceCtorEq,Nat.reduceMul]
def pickI (i : Int) (m : Nat) : Nat := ((i.tmod m + m).tmod m).toNat
theorem Pick_ok {n : Nt} (hn : n.Ok) {i : Int} (hi : wf i) : eP S 40 [.g (encT n),.a (.i .i64 i)] =
    some (.t [(true,encP (if n.rds.length = 0 then zP else n.rds.getD (pickI i n.rds.length) zP)),(false,[.b (decide (n.rds.length ≠ 0))])]) := by
  refine x_fn (orcS (by decide)) (fc := F40) rfl rfl ?_
  have hns := hn.ns
  have c1 := Ready_ok hn
  obtain ⟨L,hL⟩ : ∃ L,n.rds = L := ⟨_,rfl⟩
  have hLl : L.length ≤ n.ns.length := by
    rw [← hL]; unfold Nt.rds
    split
    · have h8 := List.length_filter_le (rdy n) n.prs
      have h9 : n.prs.length ≤ n.ns.length := prsTo_len n n.ns.length
      omega
    · simp
  rw [hL] at c1 ⊢
  simp only [encT] at c1
  by_cases h0 : L.length = 0
  · have : L = [] := List.eq_nil_of_length_eq_zero h0
    subst this
    simp only [List.map_nil] at c1
    simp only [F40,c1,zP,Int.cast_ofNat_Int,Int.reduceEq,not_true_eq_false,fxa,fxc,fxE,fxL,fxI,nxE,evO,evR,cellsT,ldCells,mkT,lenA,binPV,Env.init,resV,resT,frT,klT,ownT,intT,O.adds,ownA,rowsA,over,wrOk,keysT,keysA,ne_eq,if_true,if_false,ite_self,Nat.reduceLT,Nat.reduceSub,Nat.reduceBEq,Nat.reduceEqDiff,Nat.reduceAdd,Nat.reduceLeDiff,reduceCtorEq,Nat.reduceMul]
  · have hm0 : ¬ (L.length : Int) = 0 := by omega
    obtain ⟨M,hM⟩ : ∃ M : Int,(L.length : Int) = M := ⟨_,rfl⟩
    have hMp : 0 < M := by omega
    have b1 := Int.tmod_lt_of_pos i hMp
    have b0 := Int.lt_tmod_of_pos i hMp
    have hw : IntKind.i64.wrap (i.tmod M + M) = i.tmod M + M := wrap_in _ (by omega)
    have b2 := Int.tmod_lt_of_pos (i.tmod M + M) hMp
    have b3 : 0 ≤ (i.tmod M + M).tmod M := Int.tmod_nonneg _ (by omega)
    have g := getP (l := L) (i := (i.tmod M + M).tmod M) b3 (by omega)
    have hpk : pickI i L.length = ((i.tmod M + M).tmod M).toNat := by unfold pickI; rw [hM]
    rw [hM] at hm0
    have hM2 : ¬ M = 0 := by omega
    simp only [F40,c1,hm0,hM,hM2,hw,b2,b3,g,h0,hpk,ne_eq,not_false_eq_true,fxa,fxc,fxE,fxL,fxI,nxE,evO,evR,cellsT,ldCells,mkT,lenA,binPV,Env.init,resV,resT,frT,klT,ownT,intT,O.adds,ownA,rowsA,over,wrOk,keysT,keysA,ne_eq,if_true,if_false,ite_self,Nat.reduceLT,Nat.reduceSub,Nat.reduceBEq,Nat.reduceEqDiff,Nat.reduceAdd,Nat.reduceLeDiff,reduceCtorEq,Nat.reduceMul]
end Go.Proofs.Ytkpfjolcmkikeaa
end
section
set_option linter.unusedSimpArgs false
set_option linter.unusedVariables false
set_option maxHeartbeats 4000000
set_option maxRecDepth 10000
namespace Go.Proofs.Ytkpfjolcmkikeaa
open Go.Fx
theorem fixed17_ok : eP S 39 [] = some (.a (.b true)) := (eP_some S).2 ⟨60,by kernel_rfl⟩
theorem pickI_eq {i : Int} {m : Nat} (hm : 0 < m) : pickI i m = (i % (m : Int)).toNat := by
  unfold pickI
  have h : (0 : Int) < m := by omega
  have b0 := Int.lt_tmod_of_pos i h
  rw [Int.tmod_eq_emod_of_nonneg (by omega),Int.add_emod_right,Int.tmod_def,Int.sub_mul_emod_self_left]
theorem pickI_lt {i : Int} {m : Nat} (hm : 0 < m) : pickI i m < m := by
  rw [pickI_eq hm]
  have := Int.emod_lt_of_pos i (show (0 : Int) < m by omega)
  have := Int.emod_nonneg i (show (m : Int) ≠ 0 by omega)
  omega
end Go.Proofs.Ytkpfjolcmkikeaa
end
section
set_option linter.unusedSimpArgs false
set_option linter.unusedVariables false
set_option maxHeartbeats 4000000
set_option maxRecDepth 10000
namespace Go.Proofs.Ytkpfjolcmkikeaa
open Go.Fx
theorem set_true {l : List Bool} {i j : Nat} (h : l[j]? = some true) : (l.set i true)[j]? = some true := by
  rw [List.getElem?_set]
  have hj := (List.getElem?_eq_some_iff.1 h).1
  split
  · rename_i e; subst e; rw [if_pos hj]
  · exact h
theorem of_set_true {l : List Bool} {i j : Nat} (h : (l.set i true)[j]? = some true) : i = j ∨ l[j]? = some true := by
  rw [List.getElem?_set] at h
  split at h
  · rename_i e; exact .inl e
  · exact .inr h
structure RJ (n : Nt) (seen : List Bool) (W : List Int) (a : Option (Nat × Nat)) : Prop where
  len : seen.length = n.ns.length
  rch : ∀ i,seen[i]? = some true → Rch n i
  root : seen[0]? = some true
  wt : ∀ w,w ∈ W → ∃ i : Nat,w = (i : Int) ∧ seen[i]? = some true
  cl : ∀ i : Nat,seen[i]? = some true → (i : Int) ∉ W → (∀ p,a ≠ some (i,p)) → ∀ j,n.step i j → seen[j]? = some true
  at1 : ∀ i p,a = some (i,p) → seen[i]? = some true ∧ ∀ x m q,n.ns[i]? = some x → m < p → x.to[m]? = some q → ∀ j : Nat,q.n = (j : Int) → seen[j]? = some true
theorem RJ.done {n : Nt} {seen : List Bool} (h : RJ n seen [] none) : seen = (List.range n.ns.length).map fun i => bool (Rch n i) := by
  have hall : ∀ i,Rch n i → seen[i]? = some true := by
    intro i hi
    induction hi with
    | root => exact h.root
    | step _ hs ih => exact h.cl _ ih (by simp) (by simp) _ hs
  refine list_ext (by simp [h.len]) fun j hj => ?_
  have hj2 := h.len
  obtain ⟨b,hb⟩ : ∃ b,seen[j]? = some b := ⟨_,List.getElem?_eq_getElem hj⟩
  rw [hb,List.getElem?_map,List.getElem?_range (by omega)]
  simp only [Option.map_some,Option.some.injEq]
  cases b with
  | true => exact (bool_t (h.rch j hb)).symm
  | false => exact (bool_f fun hr => by rw [hall j hr] at hb; cases hb).symm
def mu (seen : List Bool) (W : List Int) : Nat := 2 * cntF seen + W.length
end Go.Proofs.Ytkpfjolcmkikeaa
end
section
set_option linter.unusedSimpArgs false
set_option linter.unusedVariables false
set_option maxHeartbeats 4000000
set_option maxRecDepth 10000
namespace Go.Proofs.Ytkpfjolcmkikeaa
open Go.Fx
structure RK (n : Nt) (seen : List Bool) : Prop where
  len : seen.length = n.ns.length
  rch : ∀ i,seen[i]? = some true → Rch n i
  root : seen[0]? = some true
def clAt (n : Nt) (seen : List Bool) (i : Nat) : Prop := seen[i]? = some true → ∀ j,n.step i j → seen[j]? = some true
theorem RK.done {n : Nt} {seen : List Bool} (h : RK n seen) (hc : ∀ i,i < n.ns.length → clAt n seen i) : seen = (List.range n.ns.length).map fun i => bool (Rch n i) :=
  RJ.done ⟨h.len,h.rch,h.root,fun w hw => by simp at hw,fun i hi _ _ => hc i (by have := (List.getElem?_eq_some_iff.1 hi).1; have := h.len; omega) hi,fun i p e => by cases e⟩
theorem RK.set {n : Nt} {seen : List Bool} {i j : Nat} (h : RK n seen) (hi : seen[i]? = some true) (hs : n.step i j) : RK n (seen.set j true) :=
  ⟨by simpa using h.len,fun k hk => by
    rcases of_set_true hk with rfl | hk
    · exact .step (h.rch i hi) hs
    · exact h.rch k hk,set_true h.root⟩
end Go.Proofs.Ytkpfjolcmkikeaa
end
section
set_option linter.unusedSimpArgs false
set_option linter.unusedVariables false
set_option maxHeartbeats 4000000
set_option maxRecDepth 10000
namespace Go.Proofs.Ytkpfjolcmkikeaa
open Go.Fx
theorem All_ok {n : Nt} (hn : n.Ok) : eP S 43 [.g (encT n)] = some (.a (.l ((if bool n.Good then n.prs else []).map encP))) := by
  refine x_fn (orcS (by decide)) (fc := F43) rfl rfl ?_
  have hns := hn.ns
  have hpl := prsTo_len n n.ns.length
  have hpl2 : n.prs.length ≤ n.ns.length := hpl
  have app : ∀ (σ : St) (kn : Key),σ.ls = [] → σ.bs kn = some (.var ((encT n).map .p)) → kn.2 < σ.clk →
      ∃ v σ',eS S (.f 89) [.a .nil,.a (.fn 90 [kn])] σ = some (v,σ') ∧ ∃ x,v = .a x ∧ frA σ' x = some (.l ((if bool n.Good then n.prs else []).map encP)) := by
    intro σ kn hls hkn hkl
    refine x_fnS (fc := F89) rfl rfl ?_
    obtain ⟨c0,hc0⟩ : ∃ c,σ.clk = c := ⟨_,rfl⟩
    have hknc : ¬ kn = (2,c0) := by rintro rfl; simp at hkl; omega
    simp only [F89,hc0,fxa,fxc,fxE,fxL,fxI,nxE,evO,evR,cellsT,ldCells,mkT,lenA,binPV,Env.init,resV,resT,frT,klT,ownT,intT,O.adds,ownA,rowsA,over,wrOk,keysT,keysA,ne_eq,if_true,if_false,ite_self,Nat.reduceLT,Nat.reduceSub,Nat.reduceBEq,Nat.reduceEqDiff,Nat.reduceAdd,Nat.reduceLeDiff,reduceCtorEq,Nat.reduceMul]
    obtain ⟨E,hE⟩ : ∃ E : Env,E = (((Env.init [TV.a .nil,.a (.fn 90 [kn])]).put 2 (.a (.ptr (2,c0) 0 0))).put 4 (.a .nil)).put 6 (.a (.fn 90 [kn])) := ⟨_,rfl⟩
    have E2 : E 2 = .a (.ptr (2,c0) 0 0) := by rw [hE]; rfl
    obtain ⟨r0,hr0⟩ : ∃ r0 : LRec,r0 = { env := E,params := [7],assign := (.reg [ia 5 (.new [(.p (.i .i64 0)),(.p (.i .i64 0))]),io (.st 2 (.t 5) (.t 7))]),body := (.block 1 (.reg [ia 8 (.ld 1 false (.t 2)),ia 9 (.ld 2 true (.t 5)),ia 10 (.bsl 2 60 [(.p (.i .i64 0)),(.p (.i .i64 0))] 1 [(0,(.t 9))]),ia 11 (.app 2 60 16 (.t 8) (.t 10)),io (.st 1 (.t 2) (.t 11))])),st := .ready,pend := none } := ⟨_,rfl⟩
    have hcall := each_ok hn 0 kn (fun k σ' => (σ'.bs kn = some (.var ((encT n).map .p)) ∧ kn.2 < σ'.clk) ∧ c0 < σ'.clk ∧ σ'.ls = [r0] ∧ ∃ x,σ'.bs (2,c0) = some (.var [x]) ∧ (k = 0 ∧ x = .nil ∨ ∃ q : Nat,x = .own (11,q) 0 k ∧ σ'.bs (11,q) = some (.row 2 60 ((n.prs.take k).map encP)) ∧ q < σ'.clk ∧ k ≤ n.prs.length))
      (fun k σ' h => h.1) (by
        rintro k σ' c b ⟨⟨h1,h2⟩,h3,h4,x,h5,h6⟩ rfl
        have n1 : ¬ kn = (4,σ'.clk) := by rintro rfl; simp at h2
        refine ⟨⟨by simp only [put_bs,add_bs,n1,if_false]; exact h1,by simp only [put_clk,add_clk]; omega⟩,by simp only [put_clk,add_clk]; omega,h4,x,by simp only [put_bs,add_bs,Prod.mk.injEq,Nat.reduceEqDiff,false_and,if_false]; exact h5,?_⟩
        rcases h6 with h6 | ⟨q,e1,e2,e3,e4⟩
        · exact .inl h6
        · exact .inr ⟨q,e1,by simp only [put_bs,add_bs,Prod.mk.injEq,Nat.reduceEqDiff,false_and,if_false]; exact e2,by simp only [put_clk,add_clk]; omega,e4⟩) (by
        rintro _ k σ' p ⟨⟨h1,h2⟩,h3,h4,x,h5,h6⟩ hp
        obtain ⟨v,σ2,g1,g2⟩ := y_round (S := S) (l := 0) (args := [.g [.p (.i .i64 p.n),.p (.i .i64 p.s)]]) (σ := σ') (r := r0) (by rw [h4]; rfl) (by rw [hr0]; rfl) (K := fun v σ2 => v = .a (.p (.b true)) ∧ (σ2.bs kn = some (.var ((encT n).map .p)) ∧ kn.2 < σ2.clk) ∧ c0 < σ2.clk ∧ σ2.ls = [r0] ∧ ∃ x,σ2.bs (2,c0) = some (.var [x]) ∧ (k + 1 = 0 ∧ x = .nil ∨ ∃ q : Nat,x = .own (11,q) 0 (k + 1) ∧ σ2.bs (11,q) = some (.row 2 60 ((n.prs.take (k + 1)).map encP)) ∧ q < σ2.clk ∧ k + 1 ≤ n.prs.length)) (by
          have hkl := (List.getElem?_eq_some_iff.1 hp).1
          have ne1 : ∀ d j,¬ kn = (d,σ'.clk + j) := by rintro d j rfl; simp at h2; omega
          have ne0 : ∀ d,¬ kn = (d,σ'.clk) := by rintro d rfl; simp at h2
          have ne1s : ∀ d,¬ kn = (d,σ'.clk + 1) := fun d => ne1 d 1
          have ne2 : ∀ d,¬ kn = (d,σ'.clk + 1 + 1) := fun d => ne1 d 2
          have nc : ¬ c0 = σ'.clk ∧ ¬ c0 = σ'.clk + 1 ∧ ¬ c0 = σ'.clk + 1 + 1 := by omega
          have hset : [r0].set 0 { r0 with st := .busy } = [{ r0 with st := .busy }] := rfl
          have hback : [{ r0 with st := LSt.busy }].set 0 { ({ r0 with st := LSt.busy } : LRec) with st := .ready,pend := none } = [r0] := by rw [hr0]; rfl
          have htk : (n.prs.take (k + 1)).map encP = (n.prs.take k).map encP ++ [encP p] := by rw [List.take_add_one,hp]; simp
          have hbb : (k + 1) * 16 ≤ 140737488355328 := by omega
          have hlen : (n.prs.take k).length = k := by rw [List.length_take]; omega
          have htk2 : List.take k ((n.prs.take k).map encP) = (n.prs.take k).map encP := List.take_of_length_le (by simp; omega)
          have ra : r0.assign = (.reg [ia 5 (.new [(.p (.i .i64 0)),(.p (.i .i64 0))]),io (.st 2 (.t 5) (.t 7))]) := by rw [hr0]
          have rb : r0.body = (.block 1 (.reg [ia 8 (.ld 1 false (.t 2)),ia 9 (.ld 2 true (.t 5)),ia 10 (.bsl 2 60 [(.p (.i .i64 0)),(.p (.i .i64 0))] 1 [(0,(.t 9))]),ia 11 (.app 2 60 16 (.t 8) (.t 10)),io (.st 1 (.t 2) (.t 11))])) := by rw [hr0]
          have re : r0.env = E := by rw [hr0]
          have rp : r0.params = [7] := by rw [hr0]
          have rs : r0.st = .ready := by rw [hr0]
          have h1' := h1
          simp only [encT,List.map_cons,List.map_nil] at h1'
          simp only [ra,rb,re,rp,putAll,fxa,fxc,fxE,fxL,fxI,nxE,evO,evR,cellsT,ldCells,mkT,lenA,binPV,Env.init,resV,resT,frT,klT,ownT,intT,O.adds,ownA,rowsA,over,wrOk,keysT,keysA,ne_eq,if_true,if_false,ite_self,Nat.reduceLT,Nat.reduceSub,Nat.reduceBEq,Nat.reduceEqDiff,Nat.reduceAdd,Nat.reduceLeDiff,reduceCtorEq,Nat.reduceMul]
          refine ⟨r0,by rw [h4]; rfl,rs,?_⟩
          rcases h6 with ⟨rfl,rfl⟩ | ⟨q,rfl,e2,e3,e4⟩
          · simp only [setL_bs,setL_clk,setL_ls,E2,h4,h5,hset,nc,Nat.zero_add,Nat.one_mul,Nat.reduceLeDiff,Nat.zero_lt_one,List.getElem?_cons_zero,fxa,fxc,fxE,fxL,fxI,nxE,evO,evR,cellsT,ldCells,mkT,lenA,binPV,Env.init,resV,resT,frT,klT,ownT,intT,O.adds,ownA,rowsA,over,wrOk,keysT,keysA,ne_eq,if_true,if_false,ite_self,Nat.reduceLT,Nat.reduceSub,Nat.reduceBEq,Nat.reduceEqDiff,Nat.reduceAdd,Nat.reduceLeDiff,reduceCtorEq,Nat.reduceMul]
            refine ⟨_,rfl,⟨by simp only [hknc,ne0,ne1s,ne2,if_false]; exact h1',by omega⟩,by omega,hback,_,rfl,.inr ⟨σ'.clk + 1 + 1,rfl,?_,by omega,by omega⟩⟩
            rw [htk]; simp [encP]
          · have hknq : ¬ kn = (11,q) := by rintro rfl; rw [h1] at e2; cases e2
            have nq : ¬ q = σ'.clk ∧ ¬ q = σ'.clk + 1 ∧ ¬ q = σ'.clk + 1 + 1 := by omega
            simp only [setL_bs,setL_clk,setL_ls,E2,h4,h5,e2,hset,nc,nq,hlen,htk2,hbb,List.length_map,Nat.le_refl,Nat.zero_add,Nat.one_mul,Nat.reduceLeDiff,Nat.zero_lt_one,List.getElem?_cons_zero,fxa,fxc,fxE,fxL,fxI,nxE,evO,evR,cellsT,ldCells,mkT,lenA,binPV,Env.init,resV,resT,frT,klT,ownT,intT,O.adds,ownA,rowsA,over,wrOk,keysT,keysA,ne_eq,if_true,if_false,ite_self,Nat.reduceLT,Nat.reduceSub,Nat.reduceBEq,Nat.reduceEqDiff,Nat.reduceAdd,Nat.reduceLeDiff,reduceCtorEq,Nat.reduceMul]
            refine ⟨_,rfl,⟨by simp only [hknc,hknq,ne0,ne1s,ne2,if_false]; exact h1',by omega⟩,by omega,hback,_,rfl,.inr ⟨σ'.clk + 1 + 1,rfl,?_,by omega,by omega⟩⟩
            rw [htk]; simp [encP])
        obtain ⟨rfl,g2⟩ := g2
        exact ⟨σ2,g1,g2⟩)
    refine wp_rng (g := 90) (caps := [kn]) (by simp only [fxa,fxc,fxE,fxL,fxI,nxE,evO,evR,cellsT,ldCells,mkT,lenA,binPV,Env.init,resV,resT,frT,klT,ownT,intT,O.adds,ownA,rowsA,over,wrOk,keysT,keysA,ne_eq,if_true,if_false,ite_self,Nat.reduceLT,Nat.reduceSub,Nat.reduceBEq,Nat.reduceEqDiff,Nat.reduceAdd,Nat.reduceLeDiff,reduceCtorEq,Nat.reduceMul]) ?_
    have hls0 : (σ.add 2 (.var [.nil])).ls = [] := hls
    rw [hls0]
    simp only [List.length_nil,List.nil_append,List.map_cons,List.map_nil]
    rw [← hE,← hr0]
    obtain ⟨σ1,hc,hI⟩ := hcall { (σ.add 2 (.var [.nil])) with ls := [r0] } ⟨⟨by
      show (if kn = (2,σ.clk) then _ else σ.bs kn) = _
      rw [hc0,if_neg hknc]; exact hkn,by show kn.2 < σ.clk + 1; omega⟩,by show c0 < σ.clk + 1; omega,rfl,.nil,by
      show (if (2,c0) = (2,σ.clk) then _ else _) = _
      rw [hc0,if_pos rfl],.inl ⟨rfl,rfl⟩⟩
    obtain ⟨_,h3,h4,x,h5,h6⟩ := hI
    refine ⟨_,σ1,hc,r0,by rw [h4]; rfl,by rw [hr0]; simp,?_⟩
    have hp0 : r0.pend = none := by rw [hr0]
    rw [hp0]
    simp only [Option.getD_none,setL_bs,setL_clk,setL_ls,E2,h5,fxa,fxc,fxE,fxL,fxI,nxE,evO,evR,cellsT,ldCells,mkT,lenA,binPV,Env.init,resV,resT,frT,klT,ownT,intT,O.adds,ownA,rowsA,over,wrOk,keysT,keysA,ne_eq,if_true,if_false,ite_self,Nat.reduceLT,Nat.reduceSub,Nat.reduceBEq,Nat.reduceEqDiff,Nat.reduceAdd,Nat.reduceLeDiff,reduceCtorEq,Nat.reduceMul]
    by_cases hG : n.Good
    · rw [bool_t hG] at h6 ⊢
      simp only [if_true] at h6 ⊢
      rcases h6 with ⟨h0,rfl⟩ | ⟨q,rfl,e2,e3,e4⟩
      · have : n.prs = [] := List.eq_nil_of_length_eq_zero h0
        rw [this]; exact ⟨_,rfl,rfl⟩
      · rw [List.take_length] at e2
        have htk2 : List.take n.prs.length (n.prs.map encP) = n.prs.map encP := List.take_of_length_le (by simp)
        refine ⟨_,rfl,?_⟩
        simp only [frA,setL_bs,e2,List.length_map,Nat.zero_add,Nat.le_refl,if_true,List.drop_zero,htk2]
    · rw [bool_f hG] at h6 ⊢
      simp only [Bool.false_eq_true,if_false] at h6 ⊢
      rcases h6 with ⟨_,rfl⟩ | ⟨q,rfl,e2,e3,e4⟩
      · exact ⟨_,rfl,rfl⟩
      · refine ⟨_,rfl,?_⟩
        simp only [frA,setL_bs,e2,List.take_zero,List.map_nil,List.length_nil,Nat.zero_add,Nat.le_refl,if_true,List.drop_zero]
  have col : ∀ (σ : St) (kn : Key),σ.ls = [] → σ.bs kn = some (.var ((encT n).map .p)) → kn.2 < σ.clk →
      ∃ v σ',eS S (.f 64) [.a (.fn 90 [kn])] σ = some (v,σ') ∧ ∃ x,v = .a x ∧ frA σ' x = some (.l ((if bool n.Good then n.prs else []).map encP)) := by
    intro σ kn h1 h2 h3
    obtain ⟨v,σ',hc,x,rfl,hx⟩ := app σ kn h1 h2 h3
    refine x_fnS (fc := F64) rfl rfl ?_
    simp only [F64,hc,fxa,fxc,fxE,fxL,fxI,nxE,evO,evR,cellsT,ldCells,mkT,lenA,binPV,Env.init,resV,resT,frT,klT,ownT,intT,O.adds,ownA,rowsA,over,wrOk,keysT,keysA,ne_eq,if_true,if_false,ite_self,Nat.reduceLT,Nat.reduceSub,Nat.reduceBEq,Nat.reduceEqDiff,Nat.reduceAdd,Nat.reduceLeDiff,reduceCtorEq,Nat.reduceMul]
    exact ⟨x,rfl,hx⟩
  obtain ⟨σ0,hσ0⟩ : ∃ σ0,σ0 = (St.empty.add 1 (.var ((encT n).map .p))).add 1 (.var ((encT n).map .p)) := ⟨_,rfl⟩
  obtain ⟨v,σ1,hc,x,rfl,hx⟩ := col σ0 (1,1) (by rw [hσ0]; rfl) (by rw [hσ0]; simp [add_bs,add_clk,empty_clk]) (by rw [hσ0]; simp [add_clk,empty_clk])
  have hm := meetings_ok n (St.empty.add 1 (.var ((encT n).map .p)))
  rw [hσ0] at hc
  simp only [encT,List.map_cons,List.map_nil,add_clk,empty_clk,Nat.zero_add] at hm hc
  simp only [F43,hm,hc,hx,fxa,fxc,fxE,fxL,fxI,nxE,evO,evR,cellsT,ldCells,mkT,lenA,binPV,Env.init,resV,resT,frT,klT,ownT,intT,O.adds,ownA,rowsA,over,wrOk,keysT,keysA,ne_eq,if_true,if_false,ite_self,Nat.reduceLT,Nat.reduceSub,Nat.reduceBEq,Nat.reduceEqDiff,Nat.reduceAdd,Nat.reduceLeDiff,reduceCtorEq,Nat.reduceMul]
end Go.Proofs.Ytkpfjolcmkikeaa
end
section
set_option linter.unusedSimpArgs false
set_option linter.unusedVariables false
set_option maxHeartbeats 4000000
set_option maxRecDepth 10000
namespace Go.Proofs.Ytkpfjolcmkikeaa
open Go.Fx
theorem pr_link {n : Nt} (hG : n.Good) {i : Nat} {p : Pt} (h : n.pr i = some p) : n.has ⟨p.n,0⟩ = true ∧ n.lk ⟨p.n,0⟩ = ⟨p.s,0⟩ ∧ n.has ⟨p.s,0⟩ = true ∧ n.lk ⟨p.s,0⟩ = ⟨p.n,0⟩ := by
  obtain ⟨e1,e2,e3,e4⟩ := pr_spec h
  obtain ⟨_,g2,g3⟩ := good_link hG e2
  rw [e3] at g2 g3
  rw [e1]
  exact ⟨e2,e3,g2,g3⟩
end Go.Proofs.Ytkpfjolcmkikeaa
end
section
set_option linter.unusedSimpArgs false
set_option linter.unusedVariables false
set_option maxHeartbeats 4000000
set_option maxRecDepth 10000
namespace Go.Proofs.Ytkpfjolcmkikeaa
open Go.Fx
theorem ofR_to {x y : Nd} {t r : List Pt} (hx : t.length = x.to.length) (hy : r.length = y.to.length) : ofR { x with to := t } { y with to := r } = ofR x y := by
  unfold ofR passR passLv askR pickR pickIx outR outN
  simp only [hx,hy]
structure Apart (p q : Pt) : Prop where
  nn : p.n ≠ q.n
  ns : p.n ≠ q.s
  sn : p.s ≠ q.n
  ss : p.s ≠ q.s
theorem prs_apart {n : Nt} (hG : n.Good) {p q : Pt} (hp : p ∈ n.prs) (hq : q ∈ n.prs) (hne : p ≠ q) : Apart p q := by
  obtain ⟨i,_,hi⟩ := prs_mem.1 hp
  obtain ⟨j,_,hj⟩ := prs_mem.1 hq
  obtain ⟨a1,a2,a3,a4⟩ := pr_link hG hi
  obtain ⟨b1,b2,b3,b4⟩ := pr_link hG hj
  have c1 := (prs_in hG hp).2.2.2.2
  have c2 := (prs_in hG hq).2.2.2.2
  obtain ⟨pn,ps⟩ := p
  obtain ⟨qn,qs⟩ := q
  simp only at a1 a2 a3 a4 b1 b2 b3 b4 c1 c2
  refine ⟨fun e => ?_,fun e => ?_,fun e => ?_,fun e => ?_⟩
  · simp only at e; subst e
    rw [a2] at b2
    simp only [Pt.mk.injEq,and_true] at b2
    exact hne (by rw [b2])
  · simp only at e; subst e
    rw [a2] at b4
    simp only [Pt.mk.injEq,and_true] at b4
    omega
  · simp only at e; subst e
    rw [a4] at b2
    simp only [Pt.mk.injEq,and_true] at b2
    omega
  · simp only at e; subst e
    rw [a4] at b4
    simp only [Pt.mk.injEq,and_true] at b4
    exact hne (by rw [b4])
theorem rds_mem {n : Nt} (hG : n.Good) {p : Pt} : p ∈ n.rds ↔ p ∈ n.prs ∧ (ofR (n.nd p.n) (n.nd p.s)).2 = 0 := by
  unfold Nt.rds
  rw [bool_t hG,if_pos rfl,List.mem_filter]
  unfold rdy
  rw [decide_eq_true_eq]
theorem do_ready {n : Nt} (hn : n.Ok) (hG : n.Good) {p : Pt} (hp : p ∈ n.rds) (hroom : n.used + 30 ≤ n.cap) : ∃ pl m,doR n p.n = (m,pl,0) ∧ DoneOk n p.n pl m ∧ meetR n p.n = p.s ∧ 1 ≤ p.n := by
  obtain ⟨h1,h2⟩ := (rds_mem hG).1 hp
  obtain ⟨i,hi,hpi⟩ := prs_mem.1 h1
  obtain ⟨a1,a2,a3,a4⟩ := pr_link hG hpi
  have hm : meetR n p.n = p.s := by unfold meetR; rw [if_pos ⟨a1,by rw [a2]⟩,a2]
  have hin := prs_in hG h1
  have D := do_case hn p.n
  obtain ⟨r,hr⟩ : ∃ r,doR n p.n = r := ⟨_,rfl⟩
  rw [hr] at D ⊢
  have root : ∀ i k : Int,Meet n i k → ∀ pl : Pl,PlanX (n.nd (if pl.sw = true then k else i)) (n.nd (if pl.sw = true then i else k)) pl → 1 ≤ i := by
    intro i k hM pl hx
    obtain ⟨k1,k2⟩ := planX_k hx
    have hk : (n.nd i).k ≠ 1 := by
      cases hsw : pl.sw with
      | true => rw [hsw] at k2; exact k2
      | false => rw [hsw] at k1; exact k1
    have g := (hG.nds _ _ (get_nd hM.a0 hM.a1)).2.2.1
    have := hM.a0
    by_cases e : i = 0
    · exact absurd (g.1 (by omega)) hk
    · omega
  cases D with
  | bad h => exact absurd hG h
  | none h h3 => rw [hm] at h3; omega
  | pair h e hM he h0 => rw [hm] at he; exact absurd (he.trans h2) h0
  | full h pl hM hp hu =>
    exfalso
    apply hu
    have hX := of_plan hM.ma hM.mb hM.ka hM.kb hM.pa hM.pb (by rw [hp])
    rw [hp] at hX
    simp only at hX
    cases hsw : pl.sw with
    | false =>
      rw [hsw] at hX
      have := need_room hM hX
      unfold needR; rw [hsw,if_neg (by simp)]; omega
    | true =>
      rw [hsw] at hX
      have := need_room hM.swap hX
      unfold needR; rw [hsw,if_pos rfl]; omega
  | done h pl m hd => exact ⟨pl,m,rfl,hd,hm,root _ _ hd.meet pl hd.px⟩
theorem ready_still {n m : Nt} {i k c : Int} (hG : n.Good) (hs : Stepped n i k c m) {p q : Pt} (hp : p ∈ n.prs) (hi : p.n = i) (hk : p.s = k) (hq : q ∈ n.rds) (hne : q ≠ p) : q ∈ m.rds := by
  obtain ⟨h1,h2⟩ := (rds_mem hG).1 hq
  have ap := prs_apart hG h1 hp hne
  obtain ⟨j,hj,hqj⟩ := prs_mem.1 h1
  obtain ⟨a1,a2,a3,a4⟩ := pr_link hG hqj
  obtain ⟨x1,x2,x3,x4,x5⟩ := prs_in hG h1
  obtain ⟨ap1,ap2,ap3,ap4⟩ := ap
  rw [hi] at ap1 ap3
  rw [hk] at ap2 ap4
  obtain ⟨b1,b2⟩ := hs.keep ⟨q.n,0⟩ a1 ap1 ap2 (by rw [a2]; exact ap3) (by rw [a2]; exact ap4)
  rw [a2] at b2
  have hjn := (pr_spec hqj).1
  refine (rds_mem hs.good).2 ⟨prs_mem.2 ⟨j,?_,?_⟩,?_⟩
  · have := has_iff.1 b1; simp only at this; omega
  · unfold Nt.pr
    rw [hjn] at b1 b2
    rw [b2,if_pos ⟨b1,rfl,by simp only; omega⟩,← hjn]
  · have na := semi_k hG.semi a1
    have nb := semi_k hG.semi a3
    obtain ⟨y,g1,g2,g3⟩ := hs.old _ _ (get_nd x1 x2) na (by omega) (by omega)
    obtain ⟨z,f1,f2,f3⟩ := hs.old _ _ (get_nd x3 x4) nb (by omega) (by omega)
    have e1 := nd_get g1
    have e2 := nd_get f1
    rw [show ((q.n.toNat : Nat) : Int) = q.n by omega] at e1
    rw [show ((q.s.toNat : Nat) : Int) = q.s by omega] at e2
    rw [e1,e2,g2,f2,ofR_to g3 f3]; exact h2
theorem cap_good {n : Nt} (hG : n.Good) {c : Int} (h1 : n.cap ≤ c) (h2 : c ≤ 4000) : (⟨n.ns,c⟩ : Nt).Good :=
  ⟨by have := hG.cap1; show 1 ≤ c; omega,h2,hG.ln1,by have := hG.ln2; show (n.ns.length : Int) ≤ c; omega,hG.last,hG.nds⟩
end Go.Proofs.Ytkpfjolcmkikeaa
end
