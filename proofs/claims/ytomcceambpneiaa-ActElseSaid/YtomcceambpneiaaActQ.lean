/- What is done to two nodes of a net, operation by operation: what is open, and what is as it was. Plain. -/
import Derived.Test.YtomcceambpneiaaActP
import Derived.Test.YtomcceambpneiaaActO
set_option linter.unusedSimpArgs false
set_option linter.unusedVariables false
set_option maxHeartbeats 4000000
namespace Go.Proofs.Ytomcceambpneiaa
open Go.Fx

theorem linkR_shp (n : Nt) (p q : Pt) : Shp n (linkR n p q).1 := by
  unfold linkR
  split
  · rename_i h
    simp only [Bool.and_eq_true] at h
    exact ln_shp h.1.1 h.1.2
  · exact Shp.refl n
theorem moveR_shp (n : Nt) (p q : Pt) : Shp n (moveR n p q).1 := by
  unfold moveR
  split
  · split
    · exact Shp.refl n
    · exact linkR_shp _ _ _
  · exact Shp.refl n
theorem joinR_shp (n : Nt) (p q : Pt) : Shp n (joinR n p q).1 := by
  unfold joinR
  split
  · split
    · exact Shp.refl n
    · exact linkR_shp _ _ _
  · exact Shp.refl n
theorem Op.shp (n : Nt) (o : Op) : Shp n (o.run n) := by
  cases o with
  | mv p q => exact moveR_shp n p q
  | jn p q => exact joinR_shp n p q
  | ln p q => exact linkR_shp n p q
theorem runs_shp : ∀ (l : List Op) (n : Nt), Shp n (runs n l)
  | [], n => Shp.refl n
  | o :: l, n => (Op.shp n o).trans (runs_shp l (o.run n))

theorem has_wf {n : Nt} (hn : n.Ok) (hb : n.ns.length ≤ 4000) {p : Pt} (h : n.has p = true) : wfP p := by
  have h1 := has_iff.1 h
  have := (hn.nd _ (nd_mem h1.1 h1.2.1)).to
  unfold wfP wf; omega

/-- from n0, in which a and b meet, with c more nodes, and these ports open -/
structure Run (n0 : Nt) (a b : Int) (c : Int) (n : Nt) (L : List Pt) : Prop where
  good : n0.Good
  nod : L.Nodup
  semi : Semi n (· ∈ L)
  cap : n.cap = n0.cap
  used : n.used = n0.used + c
  old : ∀ (i : Nat) (x : Nd), n0.ns[i]? = some x → x.k ≠ 0 → ∃ y, n.ns[i]? = some y ∧ y = { x with to := y.to } ∧ y.to.length = x.to.length
  keep : ∀ r, n0.has r = true → r.n ≠ a → r.n ≠ b → (n0.lk r).n ≠ a → (n0.lk r).n ≠ b → r ∉ L ∧ n.lk r = n0.lk r
  ok : n.Ok

section
variable {n0 n : Nt} {a b c : Int} {L : List Pt}

theorem Run.perm {M : List Pt} (h : Run n0 a b c n L) (p : L.Perm M) : Run n0 a b c n M :=
  ⟨h.good, p.nodup_iff.1 h.nod, h.semi.iff fun r => p.mem_iff, h.cap, h.used, h.old, fun r h1 h2 h3 h4 h5 => ⟨fun k => (h.keep r h1 h2 h3 h4 h5).1 (p.mem_iff.2 k), (h.keep r h1 h2 h3 h4 h5).2⟩, h.ok⟩

theorem old_shp {m : Nt} (h : ∀ (i : Nat) (x : Nd), n0.ns[i]? = some x → x.k ≠ 0 → ∃ y, n.ns[i]? = some y ∧ y = { x with to := y.to } ∧ y.to.length = x.to.length) (hs : Shp n m) :
    ∀ (i : Nat) (x : Nd), n0.ns[i]? = some x → x.k ≠ 0 → ∃ y, m.ns[i]? = some y ∧ y = { x with to := y.to } ∧ y.to.length = x.to.length := by
  intro i x hx hk
  obtain ⟨y, h1, h2, h3⟩ := h i x hx hk
  obtain ⟨z, g1, g2, g3⟩ := hs.get' h1
  exact ⟨z, g1, by rw [g2, h2], g3.trans h3⟩
theorem Run.has0 (h : Run n0 a b c n L) {p : Pt} (hp : n0.has p = true) : n.has p = true := by
  have h1 := has_iff.1 hp
  have hk := semi_k h.good.semi hp
  obtain ⟨y, g1, g2, g3⟩ := h.old _ _ (get_nd h1.1 h1.2.1) hk
  have := nd_get g1
  rw [show ((p.n.toNat : Nat) : Int) = p.n by omega] at this
  exact has_iff.2 ⟨h1.1, by have := (List.getElem?_eq_some_iff.1 g1).1; omega, h1.2.2.1, by rw [this, g3]; exact h1.2.2.2⟩

theorem Run.link {p q : Pt} (h : Run n0 a b c n (p :: q :: L)) : Run n0 a b c (linkR n p q).1 L := by
  have hnd := h.nod
  simp only [List.nodup_cons, List.mem_cons, not_or] at hnd
  obtain ⟨⟨hpq, hpL⟩, hqL, hL⟩ := hnd
  have hp1 := h.semi.xs p (by simp)
  have hq1 := h.semi.xs q (by simp)
  obtain ⟨e, hs⟩ := h.semi.link (p := p) (q := q) (by simp) (by simp) hpq
  have hsh := linkR_shp n p q
  have hok := linkR_Ok h.ok (has_wf h.ok (semi_big h.semi) hp1) (has_wf h.ok (semi_big h.semi) hq1)
  rw [e] at hsh hok ⊢
  refine ⟨h.good, hL, hs.iff fun r => ?_, hsh.2.1.symm.trans h.cap, hsh.used.trans h.used, old_shp h.old hsh, fun r h1 h2 h3 h4 h5 => ?_, hok⟩
  · constructor
    · rintro ⟨k, k1, k2⟩
      simp only [List.mem_cons] at k
      exact (k.resolve_left k1).resolve_left k2
    · intro k
      exact ⟨by simp [k], fun e => hpL (e ▸ k), fun e => hqL (e ▸ k)⟩
  · obtain ⟨k1, k2⟩ := h.keep r h1 h2 h3 h4 h5
    simp only [List.mem_cons, not_or] at k1
    exact ⟨k1.2.2, by rw [ln_lk hp1 hq1 (h.has0 h1), if_neg k1.2.1, if_neg k1.1, k2]⟩

theorem Run.move {p q : Pt} (h : Run n0 a b c n (q :: L)) (hp1 : n.has p = true) (hp : p ∉ q :: L) (hab : p.n = a ∨ p.n = b) : Run n0 a b c (moveR n p q).1 (p :: L) := by
  have hnd := h.nod
  simp only [List.nodup_cons] at hnd
  simp only [List.mem_cons, not_or] at hp
  have hq1 := h.semi.xs q (by simp)
  obtain ⟨e, hs⟩ := h.semi.move (p := p) (q := q) hp1 (by simp [hp]) (by simp)
  obtain ⟨l1, l2, l3, l4⟩ := h.semi.ln p hp1 (by simp [hp])
  have hsh := moveR_shp n p q
  have hok := moveR_Ok h.ok (has_wf h.ok (semi_big h.semi) hp1) (has_wf h.ok (semi_big h.semi) hq1)
  rw [e] at hsh hok ⊢
  refine ⟨h.good, List.nodup_cons.2 ⟨hp.2, hnd.2⟩, hs.iff fun r => ?_, hsh.2.1.symm.trans h.cap, hsh.used.trans h.used, old_shp h.old hsh, fun r h1 h2 h3 h4 h5 => ?_, hok⟩
  · simp only [List.mem_cons]
    constructor
    · rintro (⟨k, k1⟩ | k)
      · exact .inr (k.resolve_left k1)
      · exact .inl k
    · rintro (k | k)
      · exact .inr k
      · exact .inl ⟨.inr k, fun e => hnd.1 (e ▸ k)⟩
  · obtain ⟨k1, k2⟩ := h.keep r h1 h2 h3 h4 h5
    simp only [List.mem_cons, not_or] at k1 ⊢
    have e1 : r ≠ n.lk p := fun e => by
      have : n0.lk r = p := by rw [← k2, e, l4]
      rw [this] at h4 h5
      exact hab.elim h4 h5
    exact ⟨⟨fun e => by rw [e] at h2 h3; exact hab.elim h2 h3, k1.2⟩, by rw [ln_lk hq1 l2 (h.has0 h1), if_neg e1, if_neg k1.1, k2]⟩

theorem Run.join {p q : Pt} (h : Run n0 a b c n L) (hp1 : n.has p = true) (hq1 : n.has q = true) (hp : p ∉ L) (hq : q ∉ L) (hpq : p ≠ q) (hpa : p.n = a ∨ p.n = b) (hqa : q.n = a ∨ q.n = b) : Run n0 a b c (joinR n p q).1 (p :: q :: L) := by
  obtain ⟨e, hs⟩ := h.semi.join hp1 hp hq1 hq hpq
  obtain ⟨l1, l2, l3, l4⟩ := h.semi.ln p hp1 hp
  obtain ⟨m1, m2, m3, m4⟩ := h.semi.ln q hq1 hq
  have hsh := joinR_shp n p q
  have hok := joinR_Ok h.ok (has_wf h.ok (semi_big h.semi) hp1) (has_wf h.ok (semi_big h.semi) hq1)
  rw [e] at hsh hok ⊢
  refine ⟨h.good, List.nodup_cons.2 ⟨by simp [hpq, hp], List.nodup_cons.2 ⟨hq, h.nod⟩⟩, hs.iff fun r => ?_, hsh.2.1.symm.trans h.cap, hsh.used.trans h.used, old_shp h.old hsh, fun r h1 h2 h3 h4 h5 => ?_, hok⟩
  · simp only [List.mem_cons]
    constructor
    · rintro (k | k | k)
      · exact .inr (.inr k)
      · exact .inl k
      · exact .inr (.inl k)
    · rintro (k | k | k)
      · exact .inr (.inl k)
      · exact .inr (.inr k)
      · exact .inl k
  · obtain ⟨k1, k2⟩ := h.keep r h1 h2 h3 h4 h5
    simp only [List.mem_cons, not_or]
    refine ⟨⟨fun e => by rw [e] at h2 h3; exact hpa.elim h2 h3, fun e => by rw [e] at h2 h3; exact hqa.elim h2 h3, k1⟩, ?_⟩
    have e1 : r ≠ n.lk p := fun e => by
      have : n0.lk r = p := by rw [← k2, e, l4]
      rw [this] at h4 h5
      exact hpa.elim h4 h5
    have e2 : r ≠ n.lk q := fun e => by
      have : n0.lk r = q := by rw [← k2, e, m4]
      rw [this] at h4 h5
      exact hqa.elim h4 h5
    show (if n.lk p = q then n else n.ln (n.lk p) (n.lk q)).lk r = n0.lk r
    split
    · exact k2
    · rw [ln_lk l2 m2 (h.has0 h1), if_neg e2, if_neg e1, k2]

/-- a new node's ports -/
def newP (x : Nd) (t : Int) : List Pt := portsR t 0 x.ports.toNat
structure MadeQ (n : Nt) (x : Nd) (m : Nt) (t : Int) : Prop where
  one : 1 ≤ t
  new : ∀ p, n.has p = true → p.n ≠ t
  has : ∀ p, m.has p = true ↔ n.has p = true ∨ p.n = t ∧ 0 ≤ p.s ∧ p.s < x.ports
  lk : ∀ p, n.has p = true → m.lk p = n.lk p
  nd : m.nd t = x.fresh
  oth : ∀ i : Int, 0 ≤ i → i ≠ t → m.nd i = n.nd i
  free : (n.nd t).k = 0
theorem Run.make (h : Run n0 a b c n L) {x : Nd} (hx : x.Ok) (hm : x.may) (hk0 : x.k ≠ 0) (hk1 : x.k ≠ 1) (hu : n0.used + c < n0.cap) :
    ∃ t, (makeR n x).2 = (t, 0) ∧ MadeQ n x (makeR n x).1 t ∧ Run n0 a b (c + 1) (makeR n x).1 (newP x t ++ L) := by
  have hM := madeS h.semi x
  obtain ⟨e, hs⟩ := h.semi.make hx hm hk0 hk1 (by rw [h.used, h.cap]; exact hu)
  have hok := (makeR_Ok h.ok hx (by have := semi_big h.semi; omega)).1
  have hus := make_used (n := n) hk0
  rw [e] at hok ⊢
  obtain ⟨m, hm⟩ : ∃ m, n.make x = m := ⟨_, rfl⟩
  obtain ⟨t, ht⟩ : ∃ t, n.at = t := ⟨_, rfl⟩
  simp only at hok ⊢
  rw [hm, ht] at hM hs
  rw [hm] at hok hus ⊢
  rw [ht]
  have hpb := ports_b hx
  have hnew : ∀ p, n.has p = true → p.n ≠ t := fun p hp => (hM.lk h.semi hp).1
  have hfree : (n.nd (t : Int)).k = 0 := by
    rcases Nat.lt_or_ge t n.ns.length with hl | hl
    · obtain ⟨y, hy⟩ : ∃ y, n.ns[t]? = some y := ⟨_, List.getElem?_eq_getElem hl⟩
      rw [nd_get hy]; exact hM.was y hy
    · unfold Nt.nd; rw [Int.toNat_natCast, List.getD_eq_getElem?_getD, List.getElem?_eq_none hl]; rfl
  have hmem : ∀ r : Pt, r ∈ newP x t ↔ r.n = t ∧ 0 ≤ r.s ∧ r.s < x.ports := fun r => by
    unfold newP; rw [mem_portsR]
    constructor
    · rintro ⟨h1, h2, h3⟩; exact ⟨h1, by omega, by omega⟩
    · rintro ⟨h1, h2, h3⟩; exact ⟨h1, by omega, by omega⟩
  refine ⟨t, rfl, ⟨by have := hM.one; omega, hnew, fun p => hM.has hx h.semi p, fun p hp => (hM.lk h.semi hp).2, hM.nd_now, fun i h0 hi => hM.nd h0 hi, hfree⟩, ?_⟩
  refine ⟨h.good, ?_, hs.iff fun r => ?_, hM.cap.trans h.cap, by rw [hus, h.used]; omega, fun i y hy hk => ?_, fun r h1 h2 h3 h4 h5 => ?_, hok⟩
  · rw [List.nodup_append]
    refine ⟨portsR_nodup _ _ _, h.nod, fun p hp q hq e => ?_⟩
    subst e
    exact hnew p (h.semi.xs p hq) ((hmem p).1 hp).1
  · rw [List.mem_append, hmem]
    exact ⟨fun k => k.elim .inr .inl, fun k => k.elim .inr .inl⟩
  · obtain ⟨z, g1, g2, g3⟩ := h.old i y hy hk
    have e : i ≠ t := fun e => by
      subst e
      have := hM.was z g1
      rw [g2] at this; exact hk this
    exact ⟨z, by rw [hM.rest i e]; exact g1, g2, g3⟩
  · obtain ⟨k1, k2⟩ := h.keep r h1 h2 h3 h4 h5
    have hr := h.has0 h1
    refine ⟨?_, by rw [(hM.lk h.semi hr).2, k2]⟩
    rw [List.mem_append, hmem]
    exact fun k => k.elim (fun k => hnew r hr k.1) k1

/-! ### many -/
structure LikeQ (n : Nt) (x : Nd) (m : Nt) (ds : List Int) : Prop where
  nod : ds.Nodup
  one : ∀ d ∈ ds, 1 ≤ d
  new : ∀ d ∈ ds, ∀ p, n.has p = true → p.n ≠ d
  has : ∀ p, m.has p = true ↔ n.has p = true ∨ p.n ∈ ds ∧ 0 ≤ p.s ∧ p.s < x.ports
  lk : ∀ p, n.has p = true → m.lk p = n.lk p
  nd : ∀ d ∈ ds, m.nd d = x.fresh
  oth : ∀ i : Int, 0 ≤ i → i ∉ ds → m.nd i = n.nd i
  free : ∀ d ∈ ds, (n.nd d).k = 0
theorem Run.likes (h : Run n0 a b c n L) {x : Nd} (hx : x.Ok) (hm : x.may) (hk0 : x.k ≠ 0) (hk1 : x.k ≠ 1) (hp : 0 < x.ports) : ∀ k : Nat, n0.used + c + k ≤ n0.cap →
    LikeQ n x (likeR n x k).1 (likeR n x k).2 ∧ (likeR n x k).2.length = k ∧ Run n0 a b (c + k) (likeR n x k).1 ((likeR n x k).2.flatMap (newP x) ++ L)
  | 0, _ => ⟨⟨List.nodup_nil, by simp [likeR], by simp [likeR], by simp [likeR], fun _ _ => rfl, by simp [likeR], fun _ _ _ => rfl, by simp [likeR]⟩, rfl, by simpa [likeR] using h⟩
  | k + 1, hu => by
    obtain ⟨h1, h2, h3⟩ := Run.likes h hx hm hk0 hk1 hp k (by omega)
    obtain ⟨t, g1, g2, g3⟩ := h3.make hx hm hk0 hk1 (by omega)
    have hd : ∀ d ∈ (likeR n x k).2, d ≠ t := fun d hd => g2.new ⟨d, 0⟩ ((h1.has _).2 (.inr ⟨hd, by simp, hp⟩))
    have ht : (makeR (likeR n x k).1 x).2.1 = t := by rw [g1]
    simp only [likeR, ht]
    refine ⟨⟨?_, ?_, ?_, fun p => ?_, fun p hp => ?_, fun d hd' => ?_, fun i h0 hi => ?_, fun d hd' => ?_⟩, by simp [h2], ?_⟩
    · rw [List.nodup_append]
      exact ⟨h1.nod, by simp, fun u hu v hv e => by simp at hv; exact hd u hu (e.trans hv)⟩
    · intro d hd
      rcases List.mem_append.1 hd with hd | hd
      · exact h1.one d hd
      · simp at hd; rw [hd]; exact g2.one
    · intro d hd p hp
      rcases List.mem_append.1 hd with hd | hd
      · exact h1.new d hd p hp
      · simp at hd; rw [hd]; exact g2.new p ((h1.has p).2 (.inl hp))
    · rw [g2.has, h1.has]
      simp only [List.mem_append, List.mem_cons, List.not_mem_nil, or_false]
      constructor
      · rintro ((k | ⟨k1, k2⟩) | ⟨k1, k2⟩)
        · exact .inl k
        · exact .inr ⟨.inl k1, k2⟩
        · exact .inr ⟨.inr k1, k2⟩
      · rintro (k | ⟨k1 | k1, k2⟩)
        · exact .inl (.inl k)
        · exact .inl (.inr ⟨k1, k2⟩)
        · exact .inr ⟨k1, k2⟩
    · rw [g2.lk p ((h1.has p).2 (.inl hp)), h1.lk p hp]
    · rcases List.mem_append.1 hd' with hd' | hd'
      · rw [g2.oth d (by have := h1.one d hd'; omega) (hd d hd'), h1.nd d hd']
      · simp at hd'; rw [hd']; exact g2.nd
    · simp only [List.mem_append, List.mem_cons, List.not_mem_nil, or_false, not_or] at hi
      rw [g2.oth i h0 hi.2, h1.oth i h0 hi.1]
    · rcases List.mem_append.1 hd' with hd' | hd'
      · exact h1.free d hd'
      · simp at hd'; subst hd'
        have := g2.free
        rw [h1.oth d (by have := g2.one; omega) (fun k => hd d k rfl)] at this
        exact this
    · have e : (c + ((k + 1 : Nat) : Int)) = c + k + 1 := by omega
      rw [e]
      refine g3.perm ?_
      rw [List.flatMap_append, List.append_assoc]
      simp only [List.flatMap_cons, List.flatMap_nil, List.append_nil]
      rw [← List.append_assoc, ← List.append_assoc]
      exact List.Perm.append_right _ List.perm_append_comm

theorem Run.moves : ∀ (l : List Pt) (ds : List Int) {n : Nt} {L : List Pt}, Run n0 a b c n (ds.map (fun d => ⟨d, 0⟩) ++ L) → l.length = ds.length → l.Nodup →
    (∀ p ∈ l, n.has p = true ∧ p ∉ L ∧ p.n ∉ ds ∧ (p.n = a ∨ p.n = b)) → Run n0 a b c (runs n (dropOps l ds)) (l ++ L)
  | [], [], n, L, h, _, _, _ => h
  | [], _ :: _, n, L, h, hl, _, _ => by simp at hl
  | _ :: _, [], n, L, h, hl, _, _ => by simp at hl
  | p :: l, d :: ds, n, L, h, hl, hn, hp => by
    obtain ⟨p1, p2, p3, p4⟩ := hp p (by simp)
    have hn' := List.nodup_cons.1 hn
    simp only [List.mem_cons, not_or] at p3
    have h : Run n0 a b c n (⟨d, 0⟩ :: (ds.map (fun d => (⟨d, 0⟩ : Pt)) ++ L)) := h
    have h1 := Run.move (p := p) h p1 (by
      simp only [List.mem_cons, List.mem_append, List.mem_map, not_or, not_exists, not_and]
      exact ⟨fun e => p3.1 (by rw [e]), fun x hx e => p3.2 (by rw [← e]; exact hx), p2⟩) p4
    have h2 := Run.moves l ds (L := p :: L) (h1.perm (by exact List.perm_middle.symm)) (by simpa using hl) hn'.2 (fun q hq => by
      obtain ⟨q1, q2, q3, q4⟩ := hp q (by simp [hq])
      simp only [List.mem_cons, not_or] at q3 ⊢
      exact ⟨by rw [(moveR_shp n p ⟨d, 0⟩).has]; exact q1, ⟨fun e => hn'.1 (e ▸ hq), q2⟩, q3.2, q4⟩)
    exact h2.perm List.perm_middle
end
end Go.Proofs.Ytomcceambpneiaa
