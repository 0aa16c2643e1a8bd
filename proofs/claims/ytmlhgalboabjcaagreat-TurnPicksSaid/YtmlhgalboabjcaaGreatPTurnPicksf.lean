/- Part 6 of what is proved for the law TurnPicks: it returns true,whatever the input. No condition. -/
import Derived.Test.YtmlhgalboabjcaaGreatChecked
import Derived.Test.YtmlhgalboabjcaaGreatRows
import Derived.Test.YtmlhgalboabjcaaGreatPTurnPickse
section
set_option linter.unusedSimpArgs false
set_option linter.unusedVariables false
set_option maxHeartbeats 4000000
namespace Go.Proofs.YtmlhgalboabjcaaGreat
open Go.Fx
theorem linkR_shp (n : Nt) (p q : Pt) : Shp n (linkR n p q).1 := by
  unfold linkR
  split
  · rename_i h
    simp only [Bool.and_eq_true] at h
    exact ln_shp h.1.1 h.1.2
  · exact Shp.refl n
theorem moveR_shp (n : Nt) (p q : Pt) : Shp n (moveR n p q).1 := by
  unfold moveR
  split
  · split
    · exact Shp.refl n
    · exact linkR_shp _ _ _
  · exact Shp.refl n
theorem joinR_shp (n : Nt) (p q : Pt) : Shp n (joinR n p q).1 := by
  unfold joinR
  split
  · split
    · exact Shp.refl n
    · exact linkR_shp _ _ _
  · exact Shp.refl n
theorem Op.shp (n : Nt) (o : Op) : Shp n (o.run n) := by
  cases o with
  | mv p q => exact moveR_shp n p q
  | jn p q => exact joinR_shp n p q
  | ln p q => exact linkR_shp n p q
theorem runs_shp : ∀ (l : List Op) (n : Nt),Shp n (runs n l)
  | [],n => Shp.refl n
  | o :: l,n => (Op.shp n o).trans (runs_shp l (o.run n))
theorem has_wf {n : Nt} (hn : n.Ok) (hb : n.ns.length ≤ 4000) {p : Pt} (h : n.has p = true) : wfP p := by
  have h1 := has_iff.1 h
  have := (hn.nd _ (nd_mem h1.1 h1.2.1)).to
  unfold wfP wf; omega
structure Run (n0 : Nt) (a b : Int) (c : Int) (n : Nt) (L : List Pt) : Prop where
  good : n0.Good
  nod : L.Nodup
  semi : Semi n (· ∈ L)
  cap : n.cap = n0.cap
  used : n.used = n0.used + c
  old : ∀ (i : Nat) (x : Nd),n0.ns[i]? = some x → x.k ≠ 0 → ∃ y,n.ns[i]? = some y ∧ y = { x with to := y.to } ∧ y.to.length = x.to.length
  keep : ∀ r,n0.has r = true → r.n ≠ a → r.n ≠ b → (n0.lk r).n ≠ a → (n0.lk r).n ≠ b → r ∉ L ∧ n.lk r = n0.lk r
  ok : n.Ok
section
variable {n0 n : Nt} {a b c : Int} {L : List Pt}
theorem Run.perm {M : List Pt} (h : Run n0 a b c n L) (p : L.Perm M) : Run n0 a b c n M :=
  ⟨h.good,p.nodup_iff.1 h.nod,h.semi.iff fun r => p.mem_iff,h.cap,h.used,h.old,fun r h1 h2 h3 h4 h5 => ⟨fun k => (h.keep r h1 h2 h3 h4 h5).1 (p.mem_iff.2 k),(h.keep r h1 h2 h3 h4 h5).2⟩,h.ok⟩
theorem old_shp {m : Nt} (h : ∀ (i : Nat) (x : Nd),n0.ns[i]? = some x → x.k ≠ 0 → ∃ y,n.ns[i]? = some y ∧ y = { x with to := y.to } ∧ y.to.length = x.to.length) (hs : Shp n m) :
    ∀ (i : Nat) (x : Nd),n0.ns[i]? = some x → x.k ≠ 0 → ∃ y,m.ns[i]? = some y ∧ y = { x with to := y.to } ∧ y.to.length = x.to.length := by
  intro i x hx hk
  obtain ⟨y,h1,h2,h3⟩ := h i x hx hk
  obtain ⟨z,g1,g2,g3⟩ := hs.get' h1
  exact ⟨z,g1,by rw [g2,h2],g3.trans h3⟩
theorem Run.has0 (h : Run n0 a b c n L) {p : Pt} (hp : n0.has p = true) : n.has p = true := by
  have h1 := has_iff.1 hp
  have hk := semi_k h.good.semi hp
  obtain ⟨y,g1,g2,g3⟩ := h.old _ _ (get_nd h1.1 h1.2.1) hk
  have := nd_get g1
  rw [show ((p.n.toNat : Nat) : Int) = p.n by omega] at this
  exact has_iff.2 ⟨h1.1,by have := (List.getElem?_eq_some_iff.1 g1).1; omega,h1.2.2.1,by rw [this,g3]; exact h1.2.2.2⟩
theorem Run.link {p q : Pt} (h : Run n0 a b c n (p :: q :: L)) : Run n0 a b c (linkR n p q).1 L := by
  have hnd := h.nod
  simp only [List.nodup_cons,List.mem_cons,not_or] at hnd
  obtain ⟨⟨hpq,hpL⟩,hqL,hL⟩ := hnd
  have hp1 := h.semi.xs p (by simp)
  have hq1 := h.semi.xs q (by simp)
  obtain ⟨e,hs⟩ := h.semi.link (p := p) (q := q) (by simp) (by simp) hpq
  have hsh := linkR_shp n p q
  have hok := linkR_Ok h.ok (has_wf h.ok (semi_big h.semi) hp1) (has_wf h.ok (semi_big h.semi) hq1)
  rw [e] at hsh hok ⊢
  refine ⟨h.good,hL,hs.iff fun r => ?_,hsh.2.1.symm.trans h.cap,hsh.used.trans h.used,old_shp h.old hsh,fun r h1 h2 h3 h4 h5 => ?_,hok⟩
  · constructor
    · rintro ⟨k,k1,k2⟩
      simp only [List.mem_cons] at k
      exact (k.resolve_left k1).resolve_left k2
    · intro k
      exact ⟨by simp [k],fun e => hpL (e ▸ k),fun e => hqL (e ▸ k)⟩
  · obtain ⟨k1,k2⟩ := h.keep r h1 h2 h3 h4 h5
    simp only [List.mem_cons,not_or] at k1
    exact ⟨k1.2.2,by rw [ln_lk hp1 hq1 (h.has0 h1),if_neg k1.2.1,if_neg k1.1,k2]⟩
theorem Run.move {p q : Pt} (h : Run n0 a b c n (q :: L)) (hp1 : n.has p = true) (hp : p ∉ q :: L) (hab : p.n = a ∨ p.n = b) : Run n0 a b c (moveR n p q).1 (p :: L) := by
  have hnd := h.nod
  simp only [List.nodup_cons] at hnd
  simp only [List.mem_cons,not_or] at hp
  have hq1 := h.semi.xs q (by simp)
  obtain ⟨e,hs⟩ := h.semi.move (p := p) (q := q) hp1 (by simp [hp]) (by simp)
  obtain ⟨l1,l2,l3,l4⟩ := h.semi.ln p hp1 (by simp [hp])
  have hsh := moveR_shp n p q
  have hok := moveR_Ok h.ok (has_wf h.ok (semi_big h.semi) hp1) (has_wf h.ok (semi_big h.semi) hq1)
  rw [e] at hsh hok ⊢
  refine ⟨h.good,List.nodup_cons.2 ⟨hp.2,hnd.2⟩,hs.iff fun r => ?_,hsh.2.1.symm.trans h.cap,hsh.used.trans h.used,old_shp h.old hsh,fun r h1 h2 h3 h4 h5 => ?_,hok⟩
  · simp only [List.mem_cons]
    constructor
    · rintro (⟨k,k1⟩ | k)
      · exact .inr (k.resolve_left k1)
      · exact .inl k
    · rintro (k | k)
      · exact .inr k
      · exact .inl ⟨.inr k,fun e => hnd.1 (e ▸ k)⟩
  · obtain ⟨k1,k2⟩ := h.keep r h1 h2 h3 h4 h5
    simp only [List.mem_cons,not_or] at k1 ⊢
    have e1 : r ≠ n.lk p := fun e => by
      have : n0.lk r = p := by rw [← k2,e,l4]
      rw [this] at h4 h5
      exact hab.elim h4 h5
    exact ⟨⟨fun e => by rw [e] at h2 h3; exact hab.elim h2 h3,k1.2⟩,by rw [ln_lk hq1 l2 (h.has0 h1),if_neg e1,if_neg k1.1,k2]⟩
theorem Run.join {p q : Pt} (h : Run n0 a b c n L) (hp1 : n.has p = true) (hq1 : n.has q = true) (hp : p ∉ L) (hq : q ∉ L) (hpq : p ≠ q) (hpa : p.n = a ∨ p.n = b) (hqa : q.n = a ∨ q.n = b) : Run n0 a b c (joinR n p q).1 (p :: q :: L) := by
  obtain ⟨e,hs⟩ := h.semi.join hp1 hp hq1 hq hpq
  obtain ⟨l1,l2,l3,l4⟩ := h.semi.ln p hp1 hp
  obtain ⟨m1,m2,m3,m4⟩ := h.semi.ln q hq1 hq
  have hsh := joinR_shp n p q
  have hok := joinR_Ok h.ok (has_wf h.ok (semi_big h.semi) hp1) (has_wf h.ok (semi_big h.semi) hq1)
  rw [e] at hsh hok ⊢
  refine ⟨h.good,List.nodup_cons.2 ⟨by simp [hpq,hp],List.nodup_cons.2 ⟨hq,h.nod⟩⟩,hs.iff fun r => ?_,hsh.2.1.symm.trans h.cap,hsh.used.trans h.used,old_shp h.old hsh,fun r h1 h2 h3 h4 h5 => ?_,hok⟩
  · simp only [List.mem_cons]
    constructor
    · rintro (k | k | k)
      · exact .inr (.inr k)
      · exact .inl k
      · exact .inr (.inl k)
    · rintro (k | k | k)
      · exact .inr (.inl k)
      · exact .inr (.inr k)
      · exact .inl k
  · obtain ⟨k1,k2⟩ := h.keep r h1 h2 h3 h4 h5
    simp only [List.mem_cons,not_or]
    refine ⟨⟨fun e => by rw [e] at h2 h3; exact hpa.elim h2 h3,fun e => by rw [e] at h2 h3; exact hqa.elim h2 h3,k1⟩,?_⟩
    have e1 : r ≠ n.lk p := fun e => by
      have : n0.lk r = p := by rw [← k2,e,l4]
      rw [this] at h4 h5
      exact hpa.elim h4 h5
    have e2 : r ≠ n.lk q := fun e => by
      have : n0.lk r = q := by rw [← k2,e,m4]
      rw [this] at h4 h5
      exact hqa.elim h4 h5
    show (if n.lk p = q then n else n.ln (n.lk p) (n.lk q)).lk r = n0.lk r
    split
    · exact k2
    · rw [ln_lk l2 m2 (h.has0 h1),if_neg e2,if_neg e1,k2]
def newP (x : Nd) (t : Int) : List Pt := portsR t 0 x.ports.toNat
structure MadeQ (n : Nt) (x : Nd) (m : Nt) (t : Int) : Prop where
  one : 1 ≤ t
  new : ∀ p,n.has p = true → p.n ≠ t
  has : ∀ p,m.has p = true ↔ n.has p = true ∨ p.n = t ∧ 0 ≤ p.s ∧ p.s < x.ports
  lk : ∀ p,n.has p = true → m.lk p = n.lk p
  nd : m.nd t = x.fresh
  oth : ∀ i : Int,0 ≤ i → i ≠ t → m.nd i = n.nd i
  free : (n.nd t).k = 0
theorem Run.make (h : Run n0 a b c n L) {x : Nd} (hx : x.Ok) (hm : x.may) (hk0 : x.k ≠ 0) (hk1 : x.k ≠ 1) (hu : n0.used + c < n0.cap) :
    ∃ t,(makeR n x).2 = (t,0) ∧ MadeQ n x (makeR n x).1 t ∧ Run n0 a b (c + 1) (makeR n x).1 (newP x t ++ L) := by
  have hM := madeS h.semi x
  obtain ⟨e,hs⟩ := h.semi.make hx hm hk0 hk1 (by rw [h.used,h.cap]; exact hu)
  have hok := (makeR_Ok h.ok hx (by have := semi_big h.semi; omega)).1
  have hus := make_used (n := n) hk0
  rw [e] at hok ⊢
  obtain ⟨m,hm⟩ : ∃ m,n.make x = m := ⟨_,rfl⟩
  obtain ⟨t,ht⟩ : ∃ t,n.at = t := ⟨_,rfl⟩
  simp only at hok ⊢
  rw [hm,ht] at hM hs
  rw [hm] at hok hus ⊢
  rw [ht]
  have hpb := ports_b hx
  have hnew : ∀ p,n.has p = true → p.n ≠ t := fun p hp => (hM.lk h.semi hp).1
  have hfree : (n.nd (t : Int)).k = 0 := by
    rcases Nat.lt_or_ge t n.ns.length with hl | hl
    · obtain ⟨y,hy⟩ : ∃ y,n.ns[t]? = some y := ⟨_,List.getElem?_eq_getElem hl⟩
      rw [nd_get hy]; exact hM.was y hy
    · unfold Nt.nd; rw [Int.toNat_natCast,List.getD_eq_getElem?_getD,List.getElem?_eq_none hl]; rfl
  have hmem : ∀ r : Pt,r ∈ newP x t ↔ r.n = t ∧ 0 ≤ r.s ∧ r.s < x.ports := fun r => by
    unfold newP; rw [mem_portsR]
    constructor
    · rintro ⟨h1,h2,h3⟩; exact ⟨h1,by omega,by omega⟩
    · rintro ⟨h1,h2,h3⟩; exact ⟨h1,by omega,by omega⟩
  refine ⟨t,rfl,⟨by have := hM.one; omega,hnew,fun p => hM.has hx h.semi p,fun p hp => (hM.lk h.semi hp).2,hM.nd_now,fun i h0 hi => hM.nd h0 hi,hfree⟩,?_⟩
  refine ⟨h.good,?_,hs.iff fun r => ?_,hM.cap.trans h.cap,by rw [hus,h.used]; omega,fun i y hy hk => ?_,fun r h1 h2 h3 h4 h5 => ?_,hok⟩
  · rw [List.nodup_append]
    refine ⟨portsR_nodup _ _ _,h.nod,fun p hp q hq e => ?_⟩
    subst e
    exact hnew p (h.semi.xs p hq) ((hmem p).1 hp).1
  · rw [List.mem_append,hmem]
    exact ⟨fun k => k.elim .inr .inl,fun k => k.elim .inr .inl⟩
  · obtain ⟨z,g1,g2,g3⟩ := h.old i y hy hk
    have e : i ≠ t := fun e => by
      subst e
      have := hM.was z g1
      rw [g2] at this; exact hk this
    exact ⟨z,by rw [hM.rest i e]; exact g1,g2,g3⟩
  · obtain ⟨k1,k2⟩ := h.keep r h1 h2 h3 h4 h5
    have hr := h.has0 h1
    refine ⟨?_,by rw [(hM.lk h.semi hr).2,k2]⟩
    rw [List.mem_append,hmem]
    exact fun k => k.elim (fun k => hnew r hr k.1) k1
structure LikeQ (n : Nt) (x : Nd) (m : Nt) (ds : List Int) : Prop where
  nod : ds.Nodup
  one : ∀ d ∈ ds,1 ≤ d
  new : ∀ d ∈ ds,∀ p,n.has p = true → p.n ≠ d
  has : ∀ p,m.has p = true ↔ n.has p = true ∨ p.n ∈ ds ∧ 0 ≤ p.s ∧ p.s < x.ports
  lk : ∀ p,n.has p = true → m.lk p = n.lk p
  nd : ∀ d ∈ ds,m.nd d = x.fresh
  oth : ∀ i : Int,0 ≤ i → i ∉ ds → m.nd i = n.nd i
  free : ∀ d ∈ ds,(n.nd d).k = 0
theorem Run.likes (h : Run n0 a b c n L) {x : Nd} (hx : x.Ok) (hm : x.may) (hk0 : x.k ≠ 0) (hk1 : x.k ≠ 1) (hp : 0 < x.ports) : ∀ k : Nat,n0.used + c + k ≤ n0.cap →
    LikeQ n x (likeR n x k).1 (likeR n x k).2 ∧ (likeR n x k).2.length = k ∧ Run n0 a b (c + k) (likeR n x k).1 ((likeR n x k).2.flatMap (newP x) ++ L)
  | 0,_ => ⟨⟨List.nodup_nil,by simp [likeR],by simp [likeR],by simp [likeR],fun _ _ => rfl,by simp [likeR],fun _ _ _ => rfl,by simp [likeR]⟩,rfl,by simpa [likeR] using h⟩
  | k + 1,hu => by
    obtain ⟨h1,h2,h3⟩ := Run.likes h hx hm hk0 hk1 hp k (by omega)
    obtain ⟨t,g1,g2,g3⟩ := h3.make hx hm hk0 hk1 (by omega)
    have hd : ∀ d ∈ (likeR n x k).2,d ≠ t := fun d hd => g2.new ⟨d,0⟩ ((h1.has _).2 (.inr ⟨hd,by simp,hp⟩))
    have ht : (makeR (likeR n x k).1 x).2.1 = t := by rw [g1]
    simp only [likeR,ht]
    refine ⟨⟨?_,?_,?_,fun p => ?_,fun p hp => ?_,fun d hd' => ?_,fun i h0 hi => ?_,fun d hd' => ?_⟩,by simp [h2],?_⟩
    · rw [List.nodup_append]
      exact ⟨h1.nod,by simp,fun u hu v hv e => by simp at hv; exact hd u hu (e.trans hv)⟩
    · intro d hd
      rcases List.mem_append.1 hd with hd | hd
      · exact h1.one d hd
      · simp at hd; rw [hd]; exact g2.one
    · intro d hd p hp
      rcases List.mem_append.1 hd with hd | hd
      · exact h1.new d hd p hp
      · simp at hd; rw [hd]; exact g2.new p ((h1.has p).2 (.inl hp))
    · rw [g2.has,h1.has]
      simp only [List.mem_append,List.mem_cons,List.not_mem_nil,or_false]
      constructor
      · rintro ((k | ⟨k1,k2⟩) | ⟨k1,k2⟩)
        · exact .inl k
        · exact .inr ⟨.inl k1,k2⟩
        · exact .inr ⟨.inr k1,k2⟩
      · rintro (k | ⟨k1 | k1,k2⟩)
        · exact .inl (.inl k)
        · exact .inl (.inr ⟨k1,k2⟩)
        · exact .inr ⟨k1,k2⟩
    · rw [g2.lk p ((h1.has p).2 (.inl hp)),h1.lk p hp]
    · rcases List.mem_append.1 hd' with hd' | hd'
      · rw [g2.oth d (by have := h1.one d hd'; omega) (hd d hd'),h1.nd d hd']
      · simp at hd'; rw [hd']; exact g2.nd
    · simp only [List.mem_append,List.mem_cons,List.not_mem_nil,or_false,not_or] at hi
      rw [g2.oth i h0 hi.2,h1.oth i h0 hi.1]
    · rcases List.mem_append.1 hd' with hd' | hd'
      · exact h1.free d hd'
      · simp at hd'; subst hd'
        have := g2.free
        rw [h1.oth d (by have := g2.one; omega) (fun k => hd d k rfl)] at this
        exact this
    · have e : (c + ((k + 1 : Nat) : Int)) = c + k + 1 := by omega
      rw [e]
      refine g3.perm ?_
      rw [List.flatMap_append,List.append_assoc]
      simp only [List.flatMap_cons,List.flatMap_nil,List.append_nil]
      rw [← List.append_assoc,← List.append_assoc]
      exact List.Perm.append_right _ List.perm_append_comm
theorem Run.moves : ∀ (l : List Pt) (ds : List Int) {n : Nt} {L : List Pt},Run n0 a b c n (ds.map (fun d => ⟨d,0⟩) ++ L) → l.length = ds.length → l.Nodup →
    (∀ p ∈ l,n.has p = true ∧ p ∉ L ∧ p.n ∉ ds ∧ (p.n = a ∨ p.n = b)) → Run n0 a b c (runs n (dropOps l ds)) (l ++ L)
  | [],[],n,L,h,_,_,_ => h
  | [],_ :: _,n,L,h,hl,_,_ => by simp at hl
  | _ :: _,[],n,L,h,hl,_,_ => by simp at hl
  | p :: l,d :: ds,n,L,h,hl,hn,hp => by
    obtain ⟨p1,p2,p3,p4⟩ := hp p (by simp)
    have hn' := List.nodup_cons.1 hn
    simp only [List.mem_cons,not_or] at p3
    have h : Run n0 a b c n (⟨d,0⟩ :: (ds.map (fun d => (⟨d,0⟩ : Pt)) ++ L)) := h
    have h1 := Run.move (p := p) h p1 (by
      simp only [List.mem_cons,List.mem_append,List.mem_map,not_or,not_exists,not_and]
      exact ⟨fun e => p3.1 (by rw [e]),fun x hx e => p3.2 (by rw [← e]; exact hx),p2⟩) p4
    have h2 := Run.moves l ds (L := p :: L) (h1.perm (by exact List.perm_middle.symm)) (by simpa using hl) hn'.2 (fun q hq => by
      obtain ⟨q1,q2,q3,q4⟩ := hp q (by simp [hq])
      simp only [List.mem_cons,not_or] at q3 ⊢
      exact ⟨by rw [(moveR_shp n p ⟨d,0⟩).has]; exact q1,⟨fun e => hn'.1 (e ▸ hq),q2⟩,q3.2,q4⟩)
    exact h2.perm List.perm_middle
end
end Go.Proofs.YtmlhgalboabjcaaGreat
end
section
set_option linter.unusedSimpArgs false
set_option linter.unusedVariables false
set_option maxHeartbeats 4000000
namespace Go.Proofs.YtmlhgalboabjcaaGreat
open Go.Fx
section
variable {n0 n : Nt} {a b c : Int} {L : List Pt}
theorem Run.start (hn : n0.Ok) (hG : n0.Good) (ha : n0.has ⟨a,0⟩ = true) (hlk : n0.lk ⟨a,0⟩ = ⟨b,0⟩) (hab : a ≠ b) : Run n0 a b 0 n0 [⟨a,0⟩,⟨b,0⟩] := by
  obtain ⟨g1,g2,g3⟩ := good_link hG ha
  rw [hlk] at g1 g2 g3
  refine ⟨hG,by simp [hab],⟨hG.cap1,hG.cap2,hG.ln1,hG.ln2,hG.last,hG.semi.nds,fun p hp => ?_,fun p hp hX => ?_⟩,rfl,by omega,fun i x hx hk => ⟨x,hx,rfl,rfl⟩,fun r h1 h2 h3 h4 h5 => ⟨?_,rfl⟩,hn⟩
  · simp only [List.mem_cons,List.not_mem_nil,or_false] at hp
    rcases hp with rfl | rfl
    · exact ha
    · exact g2
  · simp only [List.mem_cons,List.not_mem_nil,or_false,not_or] at hX ⊢
    obtain ⟨h1,h2,h3⟩ := good_link hG hp
    refine ⟨h1,h2,⟨fun e => ?_,fun e => ?_⟩,h3⟩
    · rw [e,hlk] at h3; exact hX.2 h3.symm
    · rw [e,g3] at h3; exact hX.1 h3.symm
  · simp only [List.mem_cons,List.not_mem_nil,or_false,not_or]
    exact ⟨fun e => h2 (by rw [e]),fun e => h3 (by rw [e])⟩
theorem Run.joins (hab : a ≠ b) : ∀ (l : List Nat) {n : Nt} {L : List Pt},Run n0 a b c n L → l.Nodup → (∀ s ∈ l,n.has ⟨a,s⟩ = true ∧ n.has ⟨b,s⟩ = true ∧ (⟨a,s⟩ : Pt) ∉ L ∧ (⟨b,s⟩ : Pt) ∉ L) →
    Run n0 a b c (runs n (joinOps a b l)) (l.map (fun s : Nat => (⟨a,s⟩ : Pt)) ++ (l.map (fun s : Nat => (⟨b,s⟩ : Pt)) ++ L))
  | [],n,L,h,_,_ => h
  | s :: l,n,L,h,hn,hp => by
    obtain ⟨p1,p2,p3,p4⟩ := hp s (by simp)
    have hn' := List.nodup_cons.1 hn
    have h1 := h.join p1 p2 p3 p4 (fun e => hab (by simpa using e)) (.inl rfl) (.inr rfl)
    have h2 := Run.joins hab l h1 hn'.2 (fun t ht => by
      obtain ⟨q1,q2,q3,q4⟩ := hp t (by simp [ht])
      have hts : ¬ ((t : Int) = (s : Int)) := fun e => hn'.1 (by have : t = s := by omega
                                                                 exact this ▸ ht)
      have hsh := joinR_shp n ⟨a,s⟩ ⟨b,s⟩
      refine ⟨by rw [hsh.has]; exact q1,by rw [hsh.has]; exact q2,?_,?_⟩
      · simp only [List.mem_cons,Pt.mk.injEq,hts,and_false,false_or]; exact q3
      · simp only [List.mem_cons,Pt.mk.injEq,hts,and_false,false_or]; exact q4)
    refine h2.perm ?_
    simp only [List.map_cons,List.cons_append]
    rw [List.perm_iff_count]
    intro r
    simp only [List.count_append,List.count_cons]
    omega
theorem newP3 {x : Nd} (h : x.ports = 3) (t : Int) : newP x t = [⟨t,0⟩,⟨t,1⟩,⟨t,2⟩] := by unfold newP; rw [h]; rfl
theorem newP2 {x : Nd} (h : x.ports = 2) (t : Int) : newP x t = [⟨t,0⟩,⟨t,1⟩] := by unfold newP; rw [h]; rfl
theorem newP1 {x : Nd} (h : x.ports = 1) (t : Int) : newP x t = [⟨t,0⟩] := by unfold newP; rw [h]; rfl
theorem flat1 {x : Nd} (h : x.ports = 1) (ds : List Int) : ds.flatMap (newP x) = ds.map fun d => ⟨d,0⟩ := by
  induction ds with
  | nil => rfl
  | cons d ds ih => rw [List.flatMap_cons,newP1 h,ih]; rfl
theorem Run.picks {apps : List Int} {lv : Int} : ∀ (r : List Int) (d : Int) (i : Nat) {n : Nt} {L : List Pt},Run n0 a b c n (⟨d,1⟩ :: ⟨d,2⟩ :: (r.flatMap (newP (appN lv)) ++ L)) →
    (∀ s : Nat,i < s → s ≤ i + 1 + r.length → n.has ⟨b,s⟩ = true ∧ (⟨b,s⟩ : Pt) ∉ L) → n.has ⟨a,1⟩ = true → (⟨a,1⟩ : Pt) ∉ L → a ∉ d :: r → b ∉ d :: r → a ≠ b →
    Run n0 a b c (runs n (pickOps a b i (d :: r))) (⟨a,1⟩ :: (portsR b (i + 1) (i + 2 + r.length) ++ L))
  | [],d,i,n,L,h,hb,ha,haL,had,hbd,hab => by
    obtain ⟨b1,b2⟩ := hb (i + 1) (by omega) (by simp)
    rw [show ((i + 1 : Nat) : Int) = (i : Int) + 1 by omega] at b1 b2
    simp only [List.mem_cons,List.not_mem_nil,or_false] at had hbd
    have h1 := Run.move (p := ⟨b,(i : Int) + 1⟩) (q := ⟨d,2⟩) (h.perm (List.Perm.swap ..)) b1 (by simpa [hbd] using b2) (.inr rfl)
    have h2 := Run.move (p := ⟨a,1⟩) (q := ⟨d,1⟩) (h1.perm (List.Perm.swap ..)) (by rw [(moveR_shp _ _ _).has]; exact ha) (by simpa [had,hab] using haL) (.inl rfl)
    have e : portsR b (i + 1) (i + 2 + 0) = [⟨b,(i : Int) + 1⟩] := by
      rw [portsR_cons (by omega),portsR_nil (by omega)]; rfl
    rw [List.length_nil,e]
    exact h2
  | e :: r,d,i,n,L,h,hb,ha,haL,had,hbd,hab => by
    obtain ⟨b1,b2⟩ := hb (i + 1) (by omega) (by omega)
    rw [show ((i + 1 : Nat) : Int) = (i : Int) + 1 by omega] at b1 b2
    simp only [List.mem_cons,not_or] at had hbd
    rw [List.flatMap_cons,newP3 rfl] at h
    have hbn : ∀ s : Int,(⟨b,s⟩ : Pt) ∉ r.flatMap (newP (appN lv)) := fun s k => by
      obtain ⟨t,ht,hs⟩ := List.mem_flatMap.1 k
      have e : t = b := (mem_portsR.1 hs).1.symm
      subst e; exact hbd.2.2 ht
    have h1 := Run.move (p := ⟨b,(i : Int) + 1⟩) (q := ⟨d,2⟩) (h.perm (List.Perm.swap ..)) b1 (by
      simp only [List.mem_cons,List.mem_append,Pt.mk.injEq,hbd,false_and,List.not_mem_nil,or_false,false_or,not_or,List.cons_append]
      exact ⟨hbn _,b2⟩) (.inr rfl)
    have h2 := Run.link (p := ⟨d,1⟩) (q := ⟨e,0⟩) (L := ⟨b,(i : Int) + 1⟩ :: ⟨e,1⟩ :: ⟨e,2⟩ :: (r.flatMap (newP (appN lv)) ++ L)) (h1.perm (by
      rw [List.perm_iff_count]; intro r; simp only [List.cons_append,List.nil_append,List.count_cons,List.count_append]; omega))
    have h3 := Run.picks (apps := apps) (lv := lv) r e (i + 1) (L := ⟨b,(i : Int) + 1⟩ :: L) (h2.perm (by
      rw [List.perm_iff_count]; intro r; simp only [List.cons_append,List.nil_append,List.count_cons,List.count_append]; omega)) (fun s h1 h2 => by
        obtain ⟨c1,c2⟩ := hb s (by omega) (by simp only [List.length_cons]; omega)
        refine ⟨by rw [(linkR_shp _ _ _).has,(moveR_shp _ _ _).has]; exact c1,?_⟩
        have : ¬ (s : Int) = (i : Int) + 1 := by omega
        simp only [List.mem_cons,Pt.mk.injEq,this,and_false,false_or]; exact c2) (by rw [(linkR_shp _ _ _).has,(moveR_shp _ _ _).has]; exact ha) (by
        simp only [List.mem_cons,Pt.mk.injEq,hab,false_and,false_or]; exact haL) (by simp only [List.mem_cons,not_or]; exact had.2) (by simp only [List.mem_cons,not_or]; exact hbd.2) hab
    have e' : portsR b (i + 1) (i + 2 + (e :: r).length) = ⟨b,(i : Int) + 1⟩ :: portsR b (i + 1 + 1) (i + 1 + 2 + r.length) := by
      rw [List.length_cons,portsR_cons (by omega),show i + 2 + (r.length + 1) = i + 1 + 2 + r.length by omega]; rfl
    rw [e']
    refine h3.perm ?_
    rw [List.perm_iff_count]; intro r; simp only [List.cons_append,List.nil_append,List.count_cons,List.count_append]; omega
theorem flat_cons {α : Type} (f : α → Pt) (g : α → List Pt) (cs : List α) : (cs.flatMap fun c => f c :: g c).Perm (cs.map f ++ cs.flatMap g) := by
  induction cs with
  | nil => exact List.Perm.refl _
  | cons d cs ih =>
    rw [List.flatMap_cons,List.map_cons,List.flatMap_cons,List.cons_append,List.cons_append]
    refine List.Perm.cons _ ?_
    refine (List.Perm.append_left (g d) ih).trans ?_
    rw [List.perm_iff_count]; intro r; simp only [List.count_append]; omega
theorem Run.lns {m : Int} {k : Nat} : ∀ (cs : List Int) (i : Nat) {n : Nt} {L : List Pt},Run n0 a b c n (portsR m (i + 1) (i + 1 + cs.length) ++ (cs.map (fun d => (⟨d,(k : Int) + 1⟩ : Pt)) ++ L)) → Run n0 a b c (runs n (lnOps m k i cs)) L
  | [],i,n,L,h => by rw [portsR_nil (by simp)] at h; exact h
  | d :: cs,i,n,L,h => by
    rw [List.length_cons,portsR_cons (by omega),show i + 1 + (cs.length + 1) = i + 1 + 1 + cs.length by omega] at h
    have h1 := Run.link (p := ⟨m,(i : Int) + 1⟩) (q := ⟨d,(k : Int) + 1⟩) (L := portsR m (i + 1 + 1) (i + 1 + 1 + cs.length) ++ (cs.map (fun d => (⟨d,(k : Int) + 1⟩ : Pt)) ++ L)) (h.perm (by
      rw [List.perm_iff_count]; intro r
      simp only [List.map_cons,List.cons_append,List.count_cons,List.count_append,Int.natCast_add,Int.cast_ofNat_Int]; omega))
    exact Run.lns cs (i + 1) h1
theorem runs_cons (n : Nt) (o : Op) (l : List Op) : runs n (o :: l) = runs (o.run n) l := rfl
theorem Run.passes {x : Nd} {cs : List Int} (hx : x.ports.toNat = cs.length + 1) : ∀ (r : List Int) (k : Nat) {n : Nt} {L : List Pt},Run n0 a b c n (r.flatMap (newP x) ++ (cs.flatMap (fun d => portsR d (k + 1) (k + 1 + r.length)) ++ L)) →
    (∀ s : Nat,k < s → s < k + 1 + r.length → n.has ⟨b,s⟩ = true ∧ (⟨b,s⟩ : Pt) ∉ L) → b ∉ r → b ∉ cs →
    Run n0 a b c (runs n (passOps b cs k r)) (portsR b (k + 1) (k + 1 + r.length) ++ L)
  | [],k,n,L,h,hb,hbr,hbc => by
    rw [portsR_nil (by simp)]
    have : (cs.flatMap fun d => portsR d (k + 1) (k + 1 + ([] : List Int).length)) = [] := by
      rw [List.flatMap_eq_nil_iff]; intro d _; exact portsR_nil (by simp)
    rw [this] at h
    exact h
  | m :: r,k,n,L,h,hb,hbr,hbc => by
    obtain ⟨b1,b2⟩ := hb (k + 1) (by omega) (by simp only [List.length_cons]; omega)
    rw [show ((k + 1 : Nat) : Int) = (k : Int) + 1 by omega] at b1 b2
    simp only [List.mem_cons,not_or] at hbr
    have hcs : ∀ (j u : Nat),(⟨b,(k : Int) + 1⟩ : Pt) ∉ cs.flatMap fun d => portsR d j u := fun j u hm => by
      obtain ⟨t,ht,hs⟩ := List.mem_flatMap.1 hm
      have e : t = b := (mem_portsR.1 hs).1.symm
      subst e; exact hbc ht
    have hrn : (⟨b,(k : Int) + 1⟩ : Pt) ∉ r.flatMap (newP x) := fun hm => by
      obtain ⟨t,ht,hs⟩ := List.mem_flatMap.1 hm
      have e : t = b := (mem_portsR.1 hs).1.symm
      subst e; exact hbr.2 ht
    have e1 : newP x m = ⟨m,0⟩ :: portsR m 1 (1 + cs.length) := by
      unfold newP; rw [hx,portsR_cons (by omega),show cs.length + 1 = 1 + cs.length by omega]; rfl
    rw [List.flatMap_cons,e1] at h
    have h1 := Run.move (p := ⟨b,(k : Int) + 1⟩) (q := ⟨m,0⟩) (by simpa only [List.cons_append] using h) b1 (by
      have hpm : (⟨b,(k : Int) + 1⟩ : Pt) ∉ portsR m 1 (1 + cs.length) := fun hm => hbr.1 (mem_portsR.1 hm).1
      simp only [List.mem_cons,List.mem_append,Pt.mk.injEq,hbr,false_and,not_or,not_false_eq_true,true_and]
      exact ⟨⟨hpm,hrn⟩,hcs _ _,b2⟩) (.inr rfl)
    have p1 : (cs.flatMap fun d => portsR d (k + 1) (k + 1 + (m :: r).length)).Perm (cs.map (fun d => (⟨d,(k : Int) + 1⟩ : Pt)) ++ cs.flatMap fun d => portsR d (k + 1 + 1) (k + 1 + 1 + r.length)) := by
      have e : (fun d : Int => portsR d (k + 1) (k + 1 + (m :: r).length)) = fun d => (⟨d,(k : Int) + 1⟩ : Pt) :: portsR d (k + 1 + 1) (k + 1 + 1 + r.length) := by
        funext d
        rw [List.length_cons,portsR_cons (by omega),show k + 1 + (r.length + 1) = k + 1 + 1 + r.length by omega]; rfl
      rw [e]; exact flat_cons _ _ _
    have h2 := Run.lns (m := m) (k := k) cs 0 (L := r.flatMap (newP x) ++ ((cs.flatMap fun d => portsR d (k + 1 + 1) (k + 1 + 1 + r.length)) ++ ⟨b,(k : Int) + 1⟩ :: L)) (h1.perm (by
      rw [List.perm_iff_count]; intro q
      have := (List.perm_iff_count.1 p1) q
      simp only [List.cons_append,List.count_cons,List.count_append,Nat.zero_add] at this ⊢
      rw [this]; omega))
    have h3 := Run.passes hx r (k + 1) h2 (fun s h1 h2 => by
      obtain ⟨c1,c2⟩ := hb s (by omega) (by simp only [List.length_cons]; omega)
      refine ⟨by rw [(runs_shp _ _).has,(moveR_shp _ _ _).has]; exact c1,?_⟩
      have : ¬ (s : Int) = (k : Int) + 1 := by omega
      simp only [List.mem_cons,Pt.mk.injEq,this,and_false,false_or]; exact c2) hbr.2 hbc
    have e2 : portsR b (k + 1) (k + 1 + (m :: r).length) = ⟨b,(k : Int) + 1⟩ :: portsR b (k + 1 + 1) (k + 1 + 1 + r.length) := by
      rw [List.length_cons,portsR_cons (by omega),show k + 1 + (r.length + 1) = k + 1 + 1 + r.length by omega]; rfl
    have e3 : runs n (passOps b cs k (m :: r)) = runs (runs (moveR n ⟨b,(k : Int) + 1⟩ ⟨m,0⟩).1 (lnOps m k 0 cs)) (passOps b cs (k + 1) r) := by
      simp only [passOps,runs_cons,runs_app]; rfl
    rw [e2,e3]
    refine h3.perm ?_
    rw [List.perm_iff_count]; intro q; simp only [List.cons_append,List.count_cons,List.count_append]; omega
end
end Go.Proofs.YtmlhgalboabjcaaGreat
end
section
set_option linter.unusedSimpArgs false
set_option linter.unusedVariables false
set_option maxHeartbeats 4000000
namespace Go.Proofs.YtmlhgalboabjcaaGreat
open Go.Fx
structure Meet (n : Nt) (a b : Int) : Prop where
  ok : n.Ok
  good : n.Good
  ab : a ≠ b
  a0 : 0 ≤ a
  a1 : a < n.ns.length
  b0 : 0 ≤ b
  b1 : b < n.ns.length
  ma : (n.nd a).may
  mb : (n.nd b).may
  ka : (n.nd a).Ok
  kb : (n.nd b).Ok
  pa : ((n.nd a).to.length : Int) = (n.nd a).ports
  pb : ((n.nd b).to.length : Int) = (n.nd b).ports
  ha : n.has ⟨a,0⟩ = true
  hb : n.has ⟨b,0⟩ = true
  la : n.lk ⟨a,0⟩ = ⟨b,0⟩
  lb : n.lk ⟨b,0⟩ = ⟨a,0⟩
theorem Meet.of {n : Nt} {a b : Int} (hn : n.Ok) (hG : n.Good) (ha : n.has ⟨a,0⟩ = true) (hl : n.lk ⟨a,0⟩ = ⟨b,0⟩) : Meet n a b := by
  obtain ⟨g1,g2,g3⟩ := good_link hG ha
  rw [hl] at g1 g2 g3
  have h1 := has_iff.1 ha
  have h2 := has_iff.1 g2
  simp only at h1 h2
  have q1 := hG.nds _ _ (get_nd h1.1 h1.2.1)
  have q2 := hG.nds _ _ (get_nd h2.1 h2.2.1)
  exact ⟨hn,hG,fun e => g1 (by rw [e]),h1.1,h1.2.1,h2.1,h2.2.1,q1.1,q2.1,hn.nd _ (nd_mem h1.1 h1.2.1),hn.nd _ (nd_mem h2.1 h2.2.1),q1.2.1,q2.2.1,ha,g2,hl,g3⟩
theorem Meet.swap {n : Nt} {a b : Int} (h : Meet n a b) : Meet n b a := Meet.of h.ok h.good h.hb h.lb
theorem Meet.start {n : Nt} {a b : Int} (h : Meet n a b) : Run n a b 0 n [⟨a,0⟩,⟨b,0⟩] := Run.start h.ok h.good h.ha h.la h.ab
theorem Meet.hasA {n : Nt} {a b : Int} (h : Meet n a b) {s : Nat} (hs : s < (n.nd a).to.length) : n.has ⟨a,s⟩ = true := has_iff.2 ⟨h.a0,h.a1,by simp,by simp only; omega⟩
theorem Meet.hasB {n : Nt} {a b : Int} (h : Meet n a b) {s : Nat} (hs : s < (n.nd b).to.length) : n.has ⟨b,s⟩ = true := has_iff.2 ⟨h.b0,h.b1,by simp,by simp only; omega⟩
theorem Meet.kA {n : Nt} {a b : Int} (h : Meet n a b) : (n.nd a).k ≠ 0 := semi_k h.good.semi h.ha
theorem Meet.kB {n : Nt} {a b : Int} (h : Meet n a b) : (n.nd b).k ≠ 0 := semi_k h.good.semi h.hb
theorem Meet.lenA {n : Nt} {a b : Int} (h : Meet n a b) : 1 ≤ (n.nd a).to.length := by have := has_iff.1 h.ha; simp only at this; omega
theorem Meet.lenB {n : Nt} {a b : Int} (h : Meet n a b) : 1 ≤ (n.nd b).to.length := h.swap.lenA
theorem portsA (a : Int) {k : Nat} (h : 1 ≤ k) : portsR a 0 k = ⟨a,0⟩ :: portsR a 1 k := by rw [portsR_cons (by omega)]; rfl
theorem portsA1 (a : Int) {k : Nat} (h : 2 ≤ k) : portsR a 1 k = ⟨a,1⟩ :: portsR a 2 k := by rw [portsR_cons (by omega)]; rfl
theorem len_of {x : Nd} {k : Nat} (h : (x.to.length : Int) = x.ports) (e : x.ports = k) : x.to.length = k := by omega
theorem to10 {x : Nd} (hm : x.may) (h : (x.to.length : Int) = x.ports) : x.to.length ≤ 10 := by have := (to_le hm (by omega)).1; omega
theorem dropN_may {z : Int} (h0 : 0 ≤ z) (h1 : z ≤ 60) : (dropN z).may :=
  ⟨by show (0 : Int) ≤ 7; omega,by show (7 : Int) ≤ 13; omega,h0,h1,fun h => by have h : (7 : Int) < 2 := h; omega,by simp [dropN],by simp [dropN],by simp [dropN],by simp [dropN],by simp [dropN],by simp [dropN],fun i a h => by simp [dropN] at h⟩
theorem appN_may {z : Int} (h0 : 0 ≤ z) (h1 : z ≤ 60) : (appN z).may :=
  ⟨by show (0 : Int) ≤ 3; omega,by show (3 : Int) ≤ 13; omega,h0,h1,fun h => by have h : (3 : Int) < 2 := h; omega,by simp [appN],by simp [appN],by simp [appN],by simp [appN],by simp [appN],by simp [appN],fun i a h => by simp [appN] at h⟩
theorem fail1_may {z : Int} (h0 : 0 ≤ z) (h1 : z ≤ 60) : (fail1 z).may :=
  ⟨by show (0 : Int) ≤ 13; omega,by show (13 : Int) ≤ 13; omega,h0,h1,fun h => by have h : (13 : Int) < 2 := h; omega,by simp [fail1],by simp [fail1],by simp [fail1],by simp [fail1],by simp [fail1],by simp [fail1],fun i a h => by simp [fail1] at h⟩
theorem appN_Ok {z : Int} (h : wf z) : (appN z).Ok := ⟨by show wf 3; decide,h,by show wf 0; decide,by simp [appN],by simp [appN],by simp [appN],by simp [appN],by simp [appN]⟩
theorem fail1_Ok {z : Int} (h : wf z) : (fail1 z).Ok := ⟨by show wf 13; decide,h,by show wf 0; decide,by simp [fail1],by simp [fail1],by simp [fail1],by simp [fail1],by simp [fail1]⟩
theorem halfN_may {x y : Nd} (hx : x.may) (hk : x.k = 11) : (halfN x y).may :=
  ⟨by show (0 : Int) ≤ 12; omega,by show (12 : Int) ≤ 13; omega,hx.lv0,hx.lv1,fun h => by have h : (12 : Int) < 2 := h; omega,by simp only [halfN]; exact ⟨fun _ => by simp,fun _ => hx.nm.2 (by simp [hk])⟩,by simp [halfN],by simp [halfN],by simp [halfN],by simp [halfN],by simp [halfN],fun i a h => by simp [halfN] at h⟩
theorem halfN_Ok {x y : Nd} (hx : x.Ok) (hy : y.Ok) : (halfN x y).Ok := ⟨by show wf 12; decide,hx.lv,hy.n,hx.s,by simp [halfN],by simp [halfN],by simp [halfN],by simp [halfN]⟩
def endL (n : Nt) (a b : Int) : List Pt := portsR a 0 (n.nd a).to.length ++ portsR b 0 (n.nd b).to.length
section
variable {n : Nt} {a b : Int}
theorem done_join (h : Meet n a b) (he : (n.nd a).to.length = (n.nd b).to.length) : Run n a b 0 (joinD n a b) (endL n a b) := by
  have hl := h.lenA
  have h1 := Run.joins h.ab (List.range' 1 ((n.nd a).to.length - 1)) h.start (List.nodup_range' ..) (fun s hs => by
    rw [List.mem_range'_1] at hs
    have e : ¬ s = 0 := by omega
    refine ⟨h.hasA (by omega),h.hasB (by omega),?_,?_⟩ <;> simp [e])
  refine h1.perm ?_
  unfold endL
  rw [← he,portsA a hl,portsA b hl]
  unfold portsR
  rw [List.perm_iff_count]; intro q; simp only [List.cons_append,List.count_cons,List.count_append,List.count_nil]; omega
theorem done_half (h : Meet n a b) (hx : (n.nd a).k = 11) (hy : (n.nd b).k = 10) (hu : n.used + 1 ≤ n.cap) : Run n a b 1 (halfD n a b) (endL n a b) := by
  obtain ⟨t,g1,g2,g3⟩ := h.start.make (halfN_Ok h.ka h.kb) (halfN_may (y := n.nd b) h.ma hx) (by show ¬ (12 : Int) = 0; omega) (by show ¬ (12 : Int) = 1; omega) (by omega)
  have e3 : (n.nd a).to.length = 3 := len_of h.pa (by unfold Nd.ports; rw [hx]; rfl)
  have e1 : (n.nd b).to.length = 1 := len_of h.pb (by unfold Nd.ports; rw [hy]; rfl)
  rw [newP2 rfl] at g3
  have ht : (makeR n (halfN (n.nd a) (n.nd b))).2.1 = t := by rw [g1]
  have a1 := h.hasA (s := 1) (by omega)
  have a2 := h.hasA (s := 2) (by omega)
  have na : a ≠ t := g2.new _ a1
  have h1 := Run.move (p := ⟨a,2⟩) (q := ⟨t,0⟩) (L := [⟨t,1⟩,⟨a,0⟩,⟨b,0⟩]) g3 ((g2.has _).2 (.inl a2)) (by simp [na]) (.inl rfl)
  have h2 := Run.move (p := ⟨a,1⟩) (q := ⟨t,1⟩) (L := [⟨a,2⟩,⟨a,0⟩,⟨b,0⟩]) (h1.perm (List.Perm.swap ..)) (by rw [(moveR_shp _ _ _).has]; exact (g2.has _).2 (.inl a1)) (by simp [na]) (.inl rfl)
  have e : halfD n a b = (moveR (moveR (makeR n (halfN (n.nd a) (n.nd b))).1 ⟨a,2⟩ ⟨t,0⟩).1 ⟨a,1⟩ ⟨t,1⟩).1 := by unfold halfD; simp only [ht]
  rw [e]
  refine h2.perm ?_
  unfold endL
  rw [e3,e1]
  show List.Perm [(⟨a,1⟩ : Pt),⟨a,2⟩,⟨a,0⟩,⟨b,0⟩] [⟨a,0⟩,⟨a,1⟩,⟨a,2⟩,⟨b,0⟩]
  rw [List.perm_iff_count]; intro q; simp only [List.count_cons,List.count_nil]; omega
theorem done_out (h : Meet n a b) (hx : (n.nd a).k = 12) (hy : (n.nd b).k = 10) {x : Nd} (h1 : x.may) (h2 : x.Ok) (h3 : x.ports = 1) (h4 : x.k ≠ 0) (h5 : x.k ≠ 1) (hu : n.used + 1 ≤ n.cap) : Run n a b 1 (outD n x a) (endL n a b) := by
  obtain ⟨t,g1,g2,g3⟩ := h.start.make h2 h1 h4 h5 (by omega)
  have e3 : (n.nd a).to.length = 2 := len_of h.pa (by unfold Nd.ports; rw [hx]; rfl)
  have e1 : (n.nd b).to.length = 1 := len_of h.pb (by unfold Nd.ports; rw [hy]; rfl)
  rw [newP1 h3] at g3
  have ht : (makeR n x).2.1 = t := by rw [g1]
  have a1 := h.hasA (s := 1) (by omega)
  have na : a ≠ t := g2.new _ a1
  have h1 := Run.move (p := ⟨a,1⟩) (q := ⟨t,0⟩) (L := [⟨a,0⟩,⟨b,0⟩]) g3 ((g2.has _).2 (.inl a1)) (by simp [na]) (.inl rfl)
  have e : outD n x a = (moveR (makeR n x).1 ⟨a,1⟩ ⟨t,0⟩).1 := by unfold outD; simp only [ht]
  rw [e]
  refine h1.perm ?_
  unfold endL
  rw [e3,e1]
  show List.Perm [(⟨a,1⟩ : Pt),⟨a,0⟩,⟨b,0⟩] [⟨a,0⟩,⟨a,1⟩,⟨b,0⟩]
  exact List.Perm.swap ..
theorem done_drop (h : Meet n a b) (hx : (n.nd a).k = 7) (hu : n.used + ((n.nd b).to.length - 1) ≤ n.cap) : Run n a b ((n.nd b).to.length - 1) (dropD n a b) (endL n a b) := by
  have hl := h.lenB
  have e1 : (n.nd a).to.length = 1 := len_of h.pa (by unfold Nd.ports; rw [hx]; rfl)
  have el : (portsR b 1 (n.nd b).to.length).length = (n.nd b).to.length - 1 := portsR_len _ _ _
  obtain ⟨g1,g2,g3⟩ := h.start.likes (dropN_Ok h.ka.lv) (dropN_may h.ma.lv0 h.ma.lv1) (by show ¬ (7 : Int) = 0; omega) (by show ¬ (7 : Int) = 1; omega) (by show (0 : Int) < 1; omega) ((portsR b 1 (n.nd b).to.length).length) (by omega)
  rw [flat1 rfl] at g3
  have h1 := Run.moves (portsR b 1 (n.nd b).to.length) (likeR n (dropN (n.nd a).lv) (portsR b 1 (n.nd b).to.length).length).2 g3 g2.symm (portsR_nodup _ _ _) (fun p hp => by
    obtain ⟨q1,q2,q3⟩ := mem_portsR.1 hp
    have hh : n.has p = true := has_iff.2 ⟨by rw [q1]; exact h.b0,by rw [q1]; exact h.b1,by omega,by rw [q1]; omega⟩
    refine ⟨(g1.has p).2 (.inl hh),?_,fun hd => g1.new _ hd p hh rfl,.inr q1⟩
    have : ¬ p.s = 0 := by omega
    simp only [List.mem_cons,List.not_mem_nil,or_false,not_or]
    exact ⟨fun e => this (by rw [e]),fun e => this (by rw [e])⟩)
  have e : (0 : Int) + ((portsR b 1 (n.nd b).to.length).length : Nat) = (n.nd b).to.length - 1 := by omega
  rw [e] at h1
  refine Run.perm (n := dropD n a b) h1 ?_
  unfold endL
  rw [portsA b hl,e1]
  show List.Perm _ ([(⟨a,0⟩ : Pt)] ++ _)
  rw [List.perm_iff_count]; intro q; simp only [List.cons_append,List.count_cons,List.count_append,List.count_nil]; omega
theorem done_fail (h : Meet n a b) (hx : 2 ≤ (n.nd a).to.length) (hu : n.used + (1 + ((n.nd a).to.length - 2) + ((n.nd b).to.length - 1)) ≤ n.cap) : Run n a b (1 + ((n.nd a).to.length - 2) + ((n.nd b).to.length - 1)) (failD n a b) (endL n a b) := by
  have hl := h.lenB
  obtain ⟨t,g1,g2,g3⟩ := h.start.make (fail1_Ok h.ka.lv) (fail1_may h.ma.lv0 h.ma.lv1) (by show ¬ (13 : Int) = 0; omega) (by show ¬ (13 : Int) = 1; omega) (by omega)
  rw [newP1 rfl] at g3
  have ht : (makeR n (fail1 (n.nd a).lv)).2.1 = t := by rw [g1]
  obtain ⟨m,hm⟩ : ∃ m,(makeR n (fail1 (n.nd a).lv)).1 = m := ⟨_,rfl⟩
  rw [hm] at g2 g3
  have na : a ≠ t := g2.new _ h.ha
  have nb : b ≠ t := g2.new _ h.hb
  have ea : m.nd a = n.nd a := g2.oth a h.a0 na
  have eb : m.nd b = n.nd b := g2.oth b h.b0 nb
  have ef : failD n a b = runs (moveR (likeR m (dropN (n.nd a).lv) (portsR a 2 (n.nd a).to.length ++ portsR b 1 (n.nd b).to.length).length).1 ⟨a,1⟩ ⟨t,0⟩).1
      (dropOps (portsR a 2 (n.nd a).to.length ++ portsR b 1 (n.nd b).to.length) (likeR m (dropN (n.nd a).lv) (portsR a 2 (n.nd a).to.length ++ portsR b 1 (n.nd b).to.length).length).2) := by
    unfold failD; simp only [hm,ht,ea,eb]
  obtain ⟨l,hl0⟩ : ∃ l,portsR a 2 (n.nd a).to.length ++ portsR b 1 (n.nd b).to.length = l := ⟨_,rfl⟩
  rw [hl0] at ef
  have el : l.length = (n.nd a).to.length - 2 + ((n.nd b).to.length - 1) := by rw [← hl0,List.length_append,portsR_len,portsR_len]
  have hmem : ∀ p ∈ l,(p.n = a ∧ 2 ≤ p.s ∧ p.s < (n.nd a).to.length) ∨ (p.n = b ∧ 1 ≤ p.s ∧ p.s < (n.nd b).to.length) := fun p hp => by
    rw [← hl0,List.mem_append,mem_portsR,mem_portsR] at hp; exact hp
  have hnod : l.Nodup := by
    rw [← hl0,List.nodup_append]
    refine ⟨portsR_nodup _ _ _,portsR_nodup _ _ _,fun p hp q hq e => ?_⟩
    subst e
    exact h.ab ((mem_portsR.1 hp).1.symm.trans (mem_portsR.1 hq).1)
  obtain ⟨k1,k2,k3⟩ := g3.likes (dropN_Ok h.ka.lv) (dropN_may h.ma.lv0 h.ma.lv1) (by show ¬ (7 : Int) = 0; omega) (by show ¬ (7 : Int) = 1; omega) (by show (0 : Int) < 1; omega) l.length (by omega)
  rw [flat1 rfl] at k3
  obtain ⟨⟨m2,ds⟩,hr⟩ : ∃ r,likeR m (dropN (n.nd a).lv) l.length = r := ⟨_,rfl⟩
  rw [hr] at k1 k2 k3 ef
  simp only at k1 k2 k3 ef
  have a1 := h.hasA (s := 1) (by omega)
  have a1m : m.has ⟨a,1⟩ = true := (g2.has _).2 (.inl a1)
  have had : a ∉ ds := fun hd => k1.new _ hd _ a1m rfl
  have hbd : b ∉ ds := fun hd => k1.new _ hd _ ((g2.has _).2 (.inl h.hb)) rfl
  have htd : t ∉ ds := fun hd => k1.new _ hd ⟨t,0⟩ ((g2.has _).2 (.inr ⟨rfl,by simp,by show (0 : Int) < 1; omega⟩)) rfl
  have h1 := Run.move (p := ⟨a,1⟩) (q := ⟨t,0⟩) (L := ds.map (fun d => (⟨d,0⟩ : Pt)) ++ [⟨a,0⟩,⟨b,0⟩]) (k3.perm (by
    rw [List.perm_iff_count]; intro q; simp only [List.cons_append,List.count_cons,List.count_append,List.count_nil,List.nil_append]; omega)) ((k1.has _).2 (.inl a1m)) (by
      simp only [List.mem_cons,List.mem_append,List.mem_map,Pt.mk.injEq,na,false_and,List.not_mem_nil,or_false,false_or,not_or,not_exists,not_and]
      refine ⟨fun x hx e => absurd (e ▸ hx) had,by simp,by simp⟩) (.inl rfl)
  have h2 := Run.moves l ds (L := [⟨a,1⟩,⟨a,0⟩,⟨b,0⟩]) (h1.perm (by
    rw [List.perm_iff_count]; intro q; simp only [List.cons_append,List.count_cons,List.count_append,List.count_nil,List.nil_append]; omega)) k2.symm hnod (fun p hp => by
      have hp2 := hmem p hp
      have hh : n.has p = true := by
        rcases hp2 with ⟨q1,q2,q3⟩ | ⟨q1,q2,q3⟩
        · exact has_iff.2 ⟨by rw [q1]; exact h.a0,by rw [q1]; exact h.a1,by omega,by rw [q1]; omega⟩
        · exact has_iff.2 ⟨by rw [q1]; exact h.b0,by rw [q1]; exact h.b1,by omega,by rw [q1]; omega⟩
      refine ⟨by rw [(moveR_shp _ _ _).has]; exact (k1.has p).2 (.inl ((g2.has p).2 (.inl hh))),?_,?_,hp2.imp (·.1) (·.1)⟩
      · simp only [List.mem_cons,List.not_mem_nil,or_false,not_or]
        have hab := h.ab
        refine ⟨fun e => ?_,fun e => ?_,fun e => ?_⟩ <;> rw [e] at hp2 <;> simp only at hp2 <;> omega
      · intro hd
        exact k1.new _ hd p ((g2.has p).2 (.inl hh)) rfl)
  rw [← ef] at h2
  have e : (0 : Int) + 1 + (l.length : Nat) = 1 + ((n.nd a).to.length - 2) + ((n.nd b).to.length - 1) := by omega
  rw [e] at h2
  refine Run.perm h2 ?_
  unfold endL
  rw [portsA b hl,portsA a (by omega),portsA1 a (by omega),← hl0]
  rw [List.perm_iff_count]; intro q; simp only [List.cons_append,List.count_cons,List.count_append,List.count_nil]; omega
end
end Go.Proofs.YtmlhgalboabjcaaGreat
end
section
set_option linter.unusedSimpArgs false
set_option linter.unusedVariables false
set_option maxHeartbeats 4000000
namespace Go.Proofs.YtmlhgalboabjcaaGreat
open Go.Fx
section
variable {n : Nt} {a b : Int}
theorem rest_perm {l : List Pt} (hn : l.Nodup) {q : Pt} (hq : q ∈ l) : l.Perm (q :: l.filter fun r => !decide (r = q)) := by
  refine (List.perm_ext_iff_of_nodup hn (List.nodup_cons.2 ⟨by simp,hn.sublist List.filter_sublist⟩)).2 fun r => ?_
  simp only [List.mem_cons,List.mem_filter,Bool.not_eq_true',decide_eq_false_iff_not]
  constructor
  · intro h
    by_cases e : r = q
    · exact .inl e
    · exact .inr ⟨h,e⟩
  · rintro (h | h)
    · rw [h]; exact hq
    · exact h.1
theorem done_pick (h : Meet n a b) (hx : (n.nd a).k = 9) (hy : (n.nd b).k = 8) {i : Nat} {A : Ar} (hA : (n.nd a).al[i]? = some A) (hN : A.n = ((n.nd b).to.length : Int) - 1) (hu : n.used + (A.n + (n.nd a).al.length - 1) ≤ n.cap) :
    Run n a b (A.n + (n.nd a).al.length - 1) (pickD n i a b) (endL n a b) := by
  have hl := h.lenB
  have hil := (List.getElem?_eq_some_iff.1 hA).1
  have e1 : (n.nd a).to.length = 2 + (n.nd a).al.length := by
    have := h.pa
    unfold Nd.ports at this; rw [hx] at this
    simp at this; omega
  have hA2 : (n.nd a).al.getD i zA = A := by rw [List.getD_eq_getElem?_getD,hA]; rfl
  obtain ⟨k,hk⟩ : ∃ k : Nat,A.n = k := ⟨A.n.toNat,by omega⟩
  have el : (n.nd b).to.length = k + 1 := by omega
  obtain ⟨g1,g2,g3⟩ := h.start.likes (appN_Ok h.ka.lv) (appN_may h.ma.lv0 h.ma.lv1) (by show ¬ (3 : Int) = 0; omega) (by show ¬ (3 : Int) = 1; omega) (by show (0 : Int) < 3; omega) k (by omega)
  obtain ⟨⟨m,apps⟩,hr⟩ : ∃ r,likeR n (appN (n.nd a).lv) k = r := ⟨_,rfl⟩
  rw [hr] at g1 g2 g3
  simp only at g1 g2 g3
  have haa : a ∉ apps := fun hd => g1.new _ hd _ h.ha rfl
  have hba : b ∉ apps := fun hd => g1.new _ hd _ h.hb rfl
  have ea : m.nd a = n.nd a := g1.oth a h.a0 haa
  obtain ⟨l,hl0⟩ : ∃ l,restR m a i = l := ⟨_,rfl⟩
  have hl1 : l = (portsR a 2 (n.nd a).to.length).filter fun r => !decide (r = ⟨a,(i : Int) + 2⟩) := by rw [← hl0]; unfold restR; rw [ea]
  have hq2 : (⟨a,(i : Int) + 2⟩ : Pt) ∈ portsR a 2 (n.nd a).to.length := mem_portsR.2 ⟨rfl,by simp only; omega,by simp only; omega⟩
  have hpl := rest_perm (portsR_nodup a 2 (n.nd a).to.length) hq2
  rw [← hl1] at hpl
  have hll : l.length = (n.nd a).al.length - 1 := by
    have := hpl.length_eq
    rw [portsR_len,List.length_cons] at this; omega
  have hnl : l.Nodup := (List.nodup_cons.1 (hpl.nodup_iff.1 (portsR_nodup _ _ _))).2
  have hql : (⟨a,(i : Int) + 2⟩ : Pt) ∉ l := (List.nodup_cons.1 (hpl.nodup_iff.1 (portsR_nodup _ _ _))).1
  have hml : ∀ p ∈ l,p.n = a ∧ 2 ≤ p.s ∧ p.s < (n.nd a).to.length ∧ p ≠ ⟨a,(i : Int) + 2⟩ := fun p hp => by
    have h1 := mem_portsR.1 (hpl.mem_iff.2 (List.mem_cons_of_mem _ hp))
    exact ⟨h1.1,h1.2.1,h1.2.2,fun e => hql (e ▸ hp)⟩
  obtain ⟨k1,k2,k3⟩ := g3.likes (dropN_Ok h.ka.lv) (dropN_may h.ma.lv0 h.ma.lv1) (by show ¬ (7 : Int) = 0; omega) (by show ¬ (7 : Int) = 1; omega) (by show (0 : Int) < 1; omega) l.length (by omega)
  rw [flat1 rfl] at k3
  obtain ⟨⟨m2,ds⟩,hr2⟩ : ∃ r,likeR m (dropN (n.nd a).lv) l.length = r := ⟨_,rfl⟩
  rw [hr2] at k1 k2 k3
  simp only at k1 k2 k3
  have hm : ∀ p,n.has p = true → m2.has p = true := fun p hp => (k1.has p).2 (.inl ((g1.has p).2 (.inl hp)))
  have had : a ∉ ds := fun hd => k1.new _ hd _ ((g1.has _).2 (.inl h.ha)) rfl
  have hbd : b ∉ ds := fun hd => k1.new _ hd _ ((g1.has _).2 (.inl h.hb)) rfl
  have hdd : ∀ d ∈ apps,d ∉ ds := fun d hd hd2 => k1.new _ hd2 ⟨d,0⟩ ((g1.has _).2 (.inr ⟨hd,by simp,by show (0 : Int) < 3; omega⟩)) rfl
  have a1 := h.hasA (s := 1) (by omega)
  have aq : n.has ⟨a,(i : Int) + 2⟩ = true := by have := h.hasA (s := i + 2) (by omega); exact this
  have nds : ∀ (u v : Int),u = a ∨ u = b → (⟨u,v⟩ : Pt) ∉ ds.map fun d => (⟨d,0⟩ : Pt) := fun u v hu hm => by
    simp only [List.mem_map,Pt.mk.injEq] at hm
    obtain ⟨x,hx,e,_⟩ := hm
    rcases hu with hu | hu
    · exact had (hu ▸ e ▸ hx)
    · exact hbd (hu ▸ e ▸ hx)
  have hab := h.ab
  have hba' : ¬ b = a := fun e => hab e.symm
  have i0 : ¬ (i : Int) + 2 = 0 := by omega
  have i1 : ¬ (i : Int) + 2 = 1 := by omega
  have fin : ∀ (m3 : Nt),(∀ p,n.has p = true → m3.has p = true) → Run n a b (0 + k + l.length) m3 (ds.map (fun d => (⟨d,0⟩ : Pt)) ++ (⟨a,1⟩ :: ⟨a,(i : Int) + 2⟩ :: (portsR b 1 (k + 1) ++ [⟨a,0⟩,⟨b,0⟩]))) →
      Run n a b (A.n + (n.nd a).al.length - 1) (runs m3 (dropOps l ds)) (endL n a b) := by
    intro m3 hm3 hR
    have h2 := Run.moves l ds hR k2.symm hnl (fun p hp => by
      obtain ⟨q1,q2,q3,q4⟩ := hml p hp
      refine ⟨hm3 p (has_iff.2 ⟨by rw [q1]; exact h.a0,by rw [q1]; exact h.a1,by omega,by rw [q1]; omega⟩),?_,by rw [q1]; exact had,.inl q1⟩
      simp only [List.mem_cons,List.mem_append,mem_portsR,List.not_mem_nil,or_false,not_or]
      refine ⟨fun e => ?_,q4,fun e => ?_,fun e => ?_,fun e => ?_⟩
      · rw [e] at q2; simp only at q2; omega
      · rw [q1] at e; exact hab e.1
      · rw [e] at q2; simp only at q2; omega
      · rw [e] at q1; exact hba' q1)
    have e : (0 : Int) + k + (l.length : Nat) = A.n + (n.nd a).al.length - 1 := by omega
    rw [e] at h2
    refine Run.perm h2 ?_
    unfold endL
    rw [portsA b hl,portsA a (by omega),portsA1 a (by omega),el]
    rw [List.perm_iff_count]; intro q
    have hc := List.perm_iff_count.1 hpl q
    simp only [List.cons_append,List.count_cons,List.count_append,List.count_nil] at hc ⊢
    rw [hc]; omega
  cases apps with
  | nil =>
    have hk0 : k = 0 := by rw [← g2]; rfl
    subst hk0
    have e : pickD n i a b = runs (joinR m2 ⟨a,(i : Int) + 2⟩ ⟨a,1⟩).1 (dropOps l ds) := by
      unfold pickD
      simp only [Int.toNat_natCast,hA2,hk,hr,hl0,ea,hr2]
      rfl
    rw [e]
    have h1 := k3.join (p := ⟨a,(i : Int) + 2⟩) (q := ⟨a,1⟩) (hm _ aq) (hm _ a1) (by
      simp only [List.flatMap_nil,List.nil_append,List.mem_append,List.mem_cons,Pt.mk.injEq,i0,hab,and_false,false_and,List.not_mem_nil,or_false]; exact nds _ _ (.inl rfl)) (by
      simp only [List.flatMap_nil,List.nil_append,List.mem_append,List.mem_cons,Pt.mk.injEq,hab,and_false,false_and,List.not_mem_nil,or_false,not_or]; exact ⟨nds _ _ (.inl rfl),by omega⟩) (by
      intro e; simp only [Pt.mk.injEq] at e; exact i1 e.2) (.inl rfl) (.inl rfl)
    refine fin _ (fun p hp => by rw [(joinR_shp _ _ _).has]; exact hm p hp) (h1.perm ?_)
    rw [portsR_nil (by omega)]
    rw [List.perm_iff_count]; intro q; simp only [List.flatMap_nil,List.nil_append,List.cons_append,List.count_cons,List.count_append,List.count_nil]; omega
  | cons d r =>
    have e : pickD n i a b = runs (runs (moveR m2 ⟨a,(i : Int) + 2⟩ ⟨d,0⟩).1 (pickOps a b 0 (d :: r))) (dropOps l ds) := by
      unfold pickD
      simp only [Int.toNat_natCast,hA2,hk,hr,hl0,ea,hr2]
    rw [e]
    rw [List.flatMap_cons,newP3 rfl] at k3
    have nrr : ∀ (u v : Int),u = a ∨ u = b → (⟨u,v⟩ : Pt) ∉ r.flatMap (newP (appN (n.nd a).lv)) := fun u v hu hm => by
      obtain ⟨t,ht,hs⟩ := List.mem_flatMap.1 hm
      have this : u = t := (mem_portsR.1 hs).1
      rcases hu with hu | hu
      · exact haa (List.mem_cons_of_mem _ (by rw [← hu,this]; exact ht))
      · exact hba (List.mem_cons_of_mem _ (by rw [← hu,this]; exact ht))
    have had' : ¬ a = d := fun e => haa (by simp [e])
    have hbd' : ¬ b = d := fun e => hba (by simp [e])
    have h1 := Run.move (p := ⟨a,(i : Int) + 2⟩) (q := ⟨d,0⟩) (L := ⟨d,1⟩ :: ⟨d,2⟩ :: (r.flatMap (newP (appN (n.nd a).lv)) ++ (ds.map (fun d => (⟨d,0⟩ : Pt)) ++ [⟨a,0⟩,⟨b,0⟩]))) (k3.perm (by
      rw [List.perm_iff_count]; intro q; simp only [List.nil_append,List.cons_append,List.count_cons,List.count_append,List.count_nil]; omega)) (hm _ aq) (by
        simp only [List.mem_append,List.mem_cons,Pt.mk.injEq,i0,hab,had',and_false,false_and,List.not_mem_nil,or_false,false_or,not_or]; exact ⟨nrr _ _ (.inl rfl),nds _ _ (.inl rfl)⟩) (.inl rfl)
    have h2 := Run.picks (apps := []) (lv := (n.nd a).lv) r d 0 (L := ⟨a,(i : Int) + 2⟩ :: (ds.map (fun d => (⟨d,0⟩ : Pt)) ++ [⟨a,0⟩,⟨b,0⟩])) (h1.perm (by
      rw [List.perm_iff_count]; intro q; simp only [List.nil_append,List.cons_append,List.count_cons,List.count_append,List.count_nil]; omega)) (fun s s1 s2 => by
        have hlen : r.length + 1 = k := by rw [← g2]; rfl
        refine ⟨by rw [(moveR_shp _ _ _).has]; exact hm _ (h.hasB (by omega)),?_⟩
        have s0 : ¬ (s : Int) = 0 := by omega
        simp only [List.mem_append,List.mem_cons,Pt.mk.injEq,s0,hba',and_false,false_and,List.not_mem_nil,or_false,false_or]; exact nds _ _ (.inr rfl)) (by rw [(moveR_shp _ _ _).has]; exact hm _ a1) (by
        simp only [List.mem_append,List.mem_cons,Pt.mk.injEq,hab,false_and,List.not_mem_nil,or_false,true_and,not_or]
        exact ⟨by omega,nds _ _ (.inl rfl),by omega⟩) haa hba hab
    have hlen : r.length + 1 = k := by rw [← g2]; rfl
    refine fin _ (fun p hp => by rw [(runs_shp _ _).has,(moveR_shp _ _ _).has]; exact hm p hp) (h2.perm ?_)
    rw [show 0 + 2 + r.length = k + 1 by omega]
    rw [List.perm_iff_count]; intro q; simp only [Nat.zero_add,List.nil_append,List.cons_append,List.count_cons,List.count_append,List.count_nil]; omega
theorem lv_may {y : Nd} (hy : y.may) {lv : Int} (h0 : 0 ≤ lv) (h1 : lv ≤ 60) (hk : ¬ y.k < 2) : ({ y with lv := lv } : Nd).may :=
  ⟨hy.k0,hy.k1,h0,h1,fun h => absurd h hk,hy.nm,hy.nn,hy.to8,hy.al9,hy.aln,hy.al8,hy.alt⟩
theorem cls_ne {k : Int} (h : cls k ≠ 0) : k ≠ 0 ∧ k ≠ 1 ∧ ¬ k < 2 := by
  have h1 := cls_1 k
  have h2 := cls_2 k
  have h3 := cls_3 k
  have h4 := cls_4 k
  have h5 := cls_le k
  omega
theorem done_pass (h : Meet n a b) {lv : Int} (hx : cls (n.nd a).k = 3) (hy : cls (n.nd b).k ≠ 0) (h0 : 0 ≤ lv) (h1 : lv ≤ 60) (hu : n.used + (((n.nd a).to.length - 1 : Int) + ((n.nd b).to.length - 1)) ≤ n.cap) :
    Run n a b (((n.nd a).to.length - 1 : Int) + ((n.nd b).to.length - 1)) (passD n lv a b) (endL n a b) := by
  have la := h.lenA
  have lb := h.lenB
  obtain ⟨c0,c1,c2⟩ := cls_ne hy
  obtain ⟨x0,x1,x2⟩ := cls_ne (k := (n.nd a).k) (by omega)
  have hab := h.ab
  have hba' : ¬ b = a := fun e => hab e.symm
  obtain ⟨y,hy0⟩ : ∃ y : Nd,({ n.nd b with lv := lv } : Nd) = y := ⟨_,rfl⟩
  have yk : y.k = (n.nd b).k := by rw [← hy0]
  have yt : y.to = (n.nd b).to := by rw [← hy0]
  have yp : y.ports = (n.nd b).ports := by rw [← hy0]; rfl
  have ym : y.may := by rw [← hy0]; exact lv_may h.mb h0 h1 c2
  have yo : y.Ok := by rw [← hy0]; exact lv_Ok h.kb (by unfold wf; omega)
  have pa := h.pa
  have pb := h.pb
  obtain ⟨g1,g2,g3⟩ := h.start.likes yo ym (by rw [yk]; exact c0) (by rw [yk]; exact c1) (by rw [yp]; omega) ((n.nd a).to.length - 1) (by omega)
  obtain ⟨⟨m,cs⟩,hr⟩ : ∃ r,likeR n y ((n.nd a).to.length - 1) = r := ⟨_,rfl⟩
  rw [hr] at g1 g2 g3
  simp only at g1 g2 g3
  obtain ⟨k1,k2,k3⟩ := g3.likes h.ka h.ma x0 x1 (by omega) ((n.nd b).to.length - 1) (by omega)
  obtain ⟨⟨m2,ds⟩,hr2⟩ : ∃ r,likeR m (n.nd a) ((n.nd b).to.length - 1) = r := ⟨_,rfl⟩
  rw [hr2] at k1 k2 k3
  simp only at k1 k2 k3
  have hm : ∀ p,n.has p = true → m2.has p = true := fun p hp => (k1.has p).2 (.inl ((g1.has p).2 (.inl hp)))
  have hac : a ∉ cs := fun hd => g1.new _ hd _ h.ha rfl
  have hbc : b ∉ cs := fun hd => g1.new _ hd _ h.hb rfl
  have had : a ∉ ds := fun hd => k1.new _ hd _ ((g1.has _).2 (.inl h.ha)) rfl
  have hbd : b ∉ ds := fun hd => k1.new _ hd _ ((g1.has _).2 (.inl h.hb)) rfl
  have e : passD n lv a b = runs (runs m2 (dropOps (portsR a 1 (n.nd a).to.length) cs)) (passOps b cs 0 ds) := by
    unfold passD; simp only [hy0,hr,yt,hr2]
  rw [e]
  have ey : (newP y) = fun d => (⟨d,0⟩ : Pt) :: portsR d 1 (n.nd b).to.length := by
    funext d
    unfold newP
    rw [yp,show (n.nd b).ports.toNat = (n.nd b).to.length by omega,portsA d lb]
  have p1 := flat_cons (fun d : Int => (⟨d,0⟩ : Pt)) (fun d => portsR d 1 (n.nd b).to.length) cs
  rw [ey] at k3
  have nin : ∀ (u v : Int) (f : Int → List Pt) (l : List Int),(∀ d p,p ∈ f d → p.n = d) → u ∉ l → (⟨u,v⟩ : Pt) ∉ l.flatMap f := fun u v f l hf hu hm => by
    obtain ⟨t,ht,hs⟩ := List.mem_flatMap.1 hm
    have := hf t _ hs
    simp only at this
    exact hu (this ▸ ht)
  have h1 := Run.moves (portsR a 1 (n.nd a).to.length) cs (L := ds.flatMap (newP (n.nd a)) ++ ((cs.flatMap fun d => portsR d 1 (n.nd b).to.length) ++ [⟨a,0⟩,⟨b,0⟩])) (k3.perm (by
    rw [List.perm_iff_count]; intro q
    have := List.perm_iff_count.1 p1 q
    simp only [List.nil_append,List.cons_append,List.count_cons,List.count_append,List.count_nil] at this ⊢; omega)) (by rw [portsR_len]; exact g2.symm) (portsR_nodup _ _ _) (fun p hp => by
      obtain ⟨q1,q2,q3⟩ := mem_portsR.1 hp
      obtain ⟨u,v⟩ := p
      simp only at q1 q2 q3
      subst q1
      refine ⟨hm _ (has_iff.2 ⟨h.a0,h.a1,by simp only; omega,by simp only; omega⟩),?_,hac,.inl rfl⟩
      have v0 : ¬ v = 0 := by omega
      simp only [List.mem_append,List.mem_cons,Pt.mk.injEq,v0,and_false,List.not_mem_nil,or_false,not_or]
      exact ⟨nin _ _ _ _ (fun d p hp => (mem_portsR.1 hp).1) had,nin _ _ _ _ (fun d p hp => (mem_portsR.1 hp).1) hac⟩)
  have h2 := Run.passes (x := n.nd a) (cs := cs) (by omega) ds 0 (L := portsR a 1 (n.nd a).to.length ++ [⟨a,0⟩,⟨b,0⟩]) (h1.perm (by
    rw [show 0 + 1 + ds.length = (n.nd b).to.length by omega]
    rw [List.perm_iff_count]; intro q
    simp only [List.nil_append,List.cons_append,List.count_cons,List.count_append,List.count_nil,Nat.zero_add]; omega)) (fun s s1 s2 => by
      refine ⟨by rw [(runs_shp _ _).has]; exact hm _ (h.hasB (by omega)),?_⟩
      have s0 : ¬ (s : Int) = 0 := by omega
      simp only [List.mem_append,List.mem_cons,mem_portsR,Pt.mk.injEq,s0,hba',false_and,and_false,List.not_mem_nil,or_false,not_false_eq_true]) hbd hbc
  have ec : (0 : Int) + (((n.nd a).to.length - 1 : Nat) : Int) + (((n.nd b).to.length - 1 : Nat) : Int) = ((n.nd a).to.length - 1 : Int) + ((n.nd b).to.length - 1) := by omega
  rw [ec] at h2
  refine Run.perm h2 ?_
  unfold endL
  rw [portsA b lb,portsA a la,show 0 + 1 + ds.length = (n.nd b).to.length by omega]
  rw [List.perm_iff_count]; intro q; simp only [List.nil_append,List.cons_append,List.count_cons,List.count_append,List.count_nil,Nat.zero_add]; omega
theorem done_run (h : Meet n a b) {p : Pl} (hp : PlanX (n.nd a) (n.nd b) p) (hu : n.used + needX p (n.nd a) (n.nd b) ≤ n.cap) : Run n a b (needX p (n.nd a) (n.nd b)) (doneR n p a b) (endL n a b) := by
  have la := h.lenA
  have lb := h.lenB
  have ta := to10 h.ma h.pa
  have tb := to10 h.mb h.pb
  have oa : oth (n.nd a) = (n.nd a).to.length - 1 := by rw [oth_in (by omega)]; omega
  have ob : oth (n.nd b) = (n.nd b).to.length - 1 := by rw [oth_in (by omega)]; omega
  have pa := h.pa
  have pb := h.pb
  cases hp with
  | beta h1 hx hy =>
    have e : needX p (n.nd a) (n.nd b) = 0 := by unfold needX; rw [h1]; simp
    have e2 : doneR n p a b = joinD n a b := by unfold doneR; rw [h1]; simp
    rw [e,e2]
    refine done_join h ?_
    unfold Nd.ports at pa pb; rw [hx] at pa; rw [hy] at pb
    simp at pa pb; omega
  | join h1 hx hy =>
    have e : needX p (n.nd a) (n.nd b) = 0 := by unfold needX; rw [h1]; simp
    have e2 : doneR n p a b = joinD n a b := by unfold doneR; rw [h1]; simp
    rw [e,e2]
    refine done_join h ?_
    have hx2 := (cls_3 _).1 hx
    have e3 : (n.nd a).ports = (n.nd b).ports := by
      unfold Nd.ports; rw [← hy]
      rcases hx2 with h | h | h <;> rw [h] <;> simp
    omega
  | pick i A h1 hx hy h2 h3 h4 =>
    have hil := (List.getElem?_eq_some_iff.1 h3).1
    have hal := h.ma.al8
    have hA2 : (n.nd a).al.getD i zA = A := by rw [List.getD_eq_getElem?_getD,h3]; rfl
    have e : needX p (n.nd a) (n.nd b) = A.n + (n.nd a).al.length - 1 := by
      unfold needX; rw [if_pos h1,if_neg (by omega),h2,Int.toNat_natCast,hA2,wr_in (z := A.n + (n.nd a).al.length) (by omega),wr_in (by omega)]
    have e2 : doneR n p a b = pickD n i a b := by unfold doneR; rw [h1,h2]; simp
    rw [e] at hu ⊢
    rw [e2]
    exact done_pick h hx hy h3 h4 hu
  | half h1 hx hy =>
    have e : needX p (n.nd a) (n.nd b) = 1 := by unfold needX; rw [h1]; simp
    have e2 : doneR n p a b = halfD n a b := by unfold doneR; rw [h1]; simp
    rw [e] at hu ⊢
    rw [e2]
    exact done_half h hx hy hu
  | out h1 hx hy g1 g2 g3 g4 g5 =>
    have e : needX p (n.nd a) (n.nd b) = 1 := by unfold needX; rw [h1]; simp
    have e2 : doneR n p a b = outD n p.nd a := by unfold doneR; rw [h1]; simp
    rw [e] at hu ⊢
    rw [e2]
    exact done_out h hx hy g1 g2 g3 g4 g5 hu
  | fail h1 hx hy =>
    have hx2 := (cls_1 _).1 hx
    have hal := h.ma.al8
    have l2 : 2 ≤ (n.nd a).to.length := by
      unfold Nd.ports at pa
      rcases hx2 with h | h | h | h <;> rw [h] at pa <;> simp at pa <;> omega
    have e : needX p (n.nd a) (n.nd b) = 1 + ((n.nd a).to.length - 2) + ((n.nd b).to.length - 1) := by
      unfold needX; rw [h1]
      simp only [Int.reduceEq,if_false,or_self,if_true]
      rw [oa,ob,wr_in (z := (n.nd a).to.length - 1 - 1) (by omega),wr_in (z := 1 + max ((n.nd a).to.length - 1 - 1 : Int) 0) (by omega),wr_in (by omega)]
      omega
    have e2 : doneR n p a b = failD n a b := by unfold doneR; rw [h1]; simp
    rw [e] at hu ⊢
    rw [e2]
    exact done_fail h l2 hu
  | pass h1 hx hy g1 g2 =>
    have hx2 := (cls_3 _).1 hx
    have e : needX p (n.nd a) (n.nd b) = ((n.nd a).to.length - 1 : Int) + ((n.nd b).to.length - 1) := by
      unfold needX; rw [h1]
      simp only [Int.reduceEq,if_false,or_self,if_true]
      rw [ob]
      unfold Nd.ports at pa
      by_cases h4 : (n.nd a).k = 4
      · rw [if_pos h4,wr_in (by omega)]
        rw [h4] at pa; simp at pa; omega
      · rw [if_neg h4,wr_in (by omega)]
        rcases hx2 with h | h | h
        · exact absurd h h4
        · rw [h] at pa; simp at pa; omega
        · rw [h] at pa; simp at pa; omega
    have e2 : doneR n p a b = passD n p.lv a b := by unfold doneR; rw [h1]; simp
    rw [e] at hu ⊢
    rw [e2]
    exact done_pass h hx hy g1 g2 hu
  | drop h1 hx hy =>
    have e : needX p (n.nd a) (n.nd b) = (n.nd b).to.length - 1 := by unfold needX; rw [h1]; simp [ob]
    have e2 : doneR n p a b = dropD n a b := by unfold doneR; rw [h1]; simp
    rw [e] at hu ⊢
    rw [e2]
    exact done_drop h hx hu
end
end Go.Proofs.YtmlhgalboabjcaaGreat
end
section
set_option linter.unusedSimpArgs false
set_option linter.unusedVariables false
set_option maxHeartbeats 4000000
set_option maxRecDepth 10000
namespace Go.Proofs.YtmlhgalboabjcaaGreat
open Go.Fx
theorem Meet.two {n : Nt} {a b : Int} (h : Meet n a b) : Two n a b 4000 :=
  ⟨h.ok,good_big h.good,h.a0,h.a1,h.b0,h.b1,by have := to10 h.ma h.pa; omega,by have := to10 h.mb h.pb; omega,h.kA,h.kB⟩
theorem freeR_Ok {n : Nt} (hn : n.Ok) (i : Int) : (freeR n i).1.Ok ∧ (freeR n i).1.ns.length ≤ n.ns.length := by
  unfold freeR
  split
  · exact ⟨free_Ok hn i,free_len n i⟩
  · exact ⟨hn,Nat.le_refl _⟩
theorem aDo_ok {ks : Key} {n : Nt} {pl : Pl} {a b : Int} {σ : St} (hM : Meet n a b) (hp : PlanX (n.nd a) (n.nd b) pl) (hu : n.used + needX pl (n.nd a) (n.nd b) ≤ n.cap) (h : SG ks n pl a b σ) :
    ∃ σ',eS S (.f 42) [.a (.ptr ks 0 0)] σ = some (.u,σ') ∧ SG ks (stepR n pl a b) pl a b σ' ∧ Fr ks σ σ' := by
  have hT := hM.two
  have hR := done_run hM hp hu
  have hbig := semi_big hR.semi
  have s0 := h.bs
  simp only [stg,List.map_cons,List.map_nil] at s0
  have hmx : (if b > a then b else a) = max a b := by omega
  have hmn : (if b < a then b else a) = min a b := by omega
  obtain ⟨Z,hZ⟩ : ∃ Z : C,(.seq (.reg [
 ir 58 (.mv (.t 0)),ir 59 (.nck (.t 58)),ir 60 (.fad 12 (.t 59)),ir 61 (.ld 1 false (.t 60)),ir 62 (.mv (.t 0)),ir 63 (.nck (.t 62)),ir 64 (.fad 13 (.t 63)),ir 65 (.ld 1 false (.t 64)),ir 66 (.mx (.t 61) (.t 65)),
 ir 67 (.mv (.t 0)),ir 68 (.nck (.t 67)),ir 69 (.fad 12 (.t 68)),ir 70 (.ld 1 false (.t 69)),ir 71 (.mv (.t 0)),ir 72 (.nck (.t 71)),ir 73 (.fad 13 (.t 72)),ir 74 (.ld 1 false (.t 73)),ir 75 (.mn (.t 70) (.t 74)),
 ⟨some 76,none,.bsl 1 3 [(.p (.i .i64 0))] 2 [(0,.t 66),(1,.t 75)],.ad⟩,ir 77 (.len false (.t 76)),ir 78 (.mv (ci 0))]) (.block 1 (.loop F42b0))) = Z := ⟨_,rfl⟩
  have rest : ∀ (e : Env) (σ1 : St),e 0 = .a (.ptr ks 0 0) → SG ks (doneR n pl a b) pl a b σ1 → Fr ks σ σ1 → wp S false Z e σ1 (RetS [] fun v σ' => v = .u ∧ SG ks (stepR n pl a b) pl a b σ' ∧ Fr ks σ σ') := by
    intro e σ1 e0 hS hF
    rw [← hZ]
    have c1 := sFree_ok (n := doneR n pl a b) hR.ok (by omega) (max a b)
    obtain ⟨o1,o2⟩ := freeR_Ok hR.ok (max a b)
    have c2 := sFree_ok (n := (freeR (doneR n pl a b) (max a b)).1) o1 (by omega) (min a b)
    have hst : stepR n pl a b = (freeR (freeR (doneR n pl a b) (max a b)).1 (min a b)).1 := rfl
    rw [hst]
    obtain ⟨m,hm⟩ : ∃ m,doneR n pl a b = m := ⟨_,rfl⟩
    rw [hm] at hS c1 c2 ⊢
    obtain ⟨⟨m1,e1⟩,hm1⟩ : ∃ r,freeR m (max a b) = r := ⟨_,rfl⟩
    rw [hm1] at c1 c2 ⊢
    simp only at c1 c2 ⊢
    obtain ⟨⟨m2,e2⟩,hm2⟩ : ∃ r,freeR m1 (min a b) = r := ⟨_,rfl⟩
    rw [hm2] at c2 ⊢
    have t1 := hS.bs
    have hlt := hS.lt
    have ne0 : ∀ d,¬ ks = (d,σ1.clk) := by rintro d rfl; simp at hlt
    have ne1 : ∀ d,¬ (d,σ1.clk) = ks := fun d e => ne0 d e.symm
    simp only [stg,List.map_cons,List.map_nil] at t1
    simp only [encT,encTE] at c1 c2
    simp only [F42b0,x_loop,e0,t1,hmx,hmn,c1,c2,ne0,ne1,frA_ptr,rowK,Int.toNat_natCast,Nat.zero_add,Int.cast_ofNat_Int,Int.reduceLE,Int.reduceLT,Int.reduceToNat,Int.reduceAdd,Int.reduceSub,Int.reduceNeg,Int.le_refl,wrap_in 1 (by decide),wrap_in 2 (by decide),evI_cl,clOk,ldKeeps,ldKeeps1,iasKeeps,rowK,nwKeeps,sameC,sameL,sameA,sameP,sameR,sameRR_rfl,decide_true,frA_ptr,capsOf,fxa,fxc,fxE,fxL,fxI,nxE,evO,evR,cellsT,ldCells,mkT,lenA,binPV,Env.init,resV,resT,frT,klT,ownT,intT,O.adds,ownA,rowsA,over,wrOk,keysT,keysA,ne_eq,if_true,if_false,ite_self,Nat.reduceLT,Nat.reduceSub,Nat.reduceBEq,Nat.reduceEqDiff,Nat.reduceAdd,Nat.reduceLeDiff,reduceCtorEq,Nat.reduceMul]
    exact ⟨SG.set (n := m2) (p := pl) (a := a) (b := b) (by simp only [put_clk,add_clk]; omega),((hF.add _ _).put (.inl rfl) _).put (.inl rfl) _⟩
  refine x_fnR (fc := F42) rfl rfl ?_
  have fin : ∀ (e : Env) (σ1 : St),e 0 = .a (.ptr ks 0 0) → SG ks (doneR n pl a b) pl a b σ1 → Fr ks σ σ1 → blkQ 0 (seqQ S false Z (RetS [] fun v σ' => v = .u ∧ SG ks (stepR n pl a b) pl a b σ' ∧ Fr ks σ σ')) .norm e σ1 := by
    intro e σ1 h1 h2 h3
    simp only [blkQ_norm,seqQ_norm]
    exact rest e σ1 h1 h2 h3
  have hta := hT.ta
  have htb := hT.tb
  cases hp with
  | beta h1 hx hy =>
    obtain ⟨σ1,q1,hS1,hF1⟩ := aJoinAll_ok hT (by omega) h
    have e2 : doneR n pl a b = joinD n a b := by unfold doneR; rw [h1]; simp
    rw [← e2] at hS1
    rw [h1] at s0
    simp only [F42,hZ,s0,q1,Int.reduceEq,evI_cl,clOk,ldKeeps,ldKeeps1,iasKeeps,rowK,nwKeeps,sameC,sameL,sameA,sameP,sameR,sameRR_rfl,decide_true,frA_ptr,capsOf,fxa,fxc,fxE,fxL,fxI,nxE,evO,evR,cellsT,ldCells,mkT,lenA,binPV,Env.init,resV,resT,frT,klT,ownT,intT,O.adds,ownA,rowsA,over,wrOk,keysT,keysA,ne_eq,if_true,if_false,ite_self,Nat.reduceLT,Nat.reduceSub,Nat.reduceBEq,Nat.reduceEqDiff,Nat.reduceAdd,Nat.reduceLeDiff,reduceCtorEq,Nat.reduceMul]
    exact rest _ _ (by simp only [fxa,fxc,fxE,fxL,fxI,nxE,evO,evR,cellsT,ldCells,mkT,lenA,binPV,Env.init,resV,resT,frT,klT,ownT,intT,O.adds,ownA,rowsA,over,wrOk,keysT,keysA,ne_eq,if_true,if_false,ite_self,Nat.reduceLT,Nat.reduceSub,Nat.reduceBEq,Nat.reduceEqDiff,Nat.reduceAdd,Nat.reduceLeDiff,reduceCtorEq,Nat.reduceMul]) hS1 hF1
  | join h1 hx hy =>
    obtain ⟨σ1,q1,hS1,hF1⟩ := aJoinAll_ok hT (by omega) h
    have e2 : doneR n pl a b = joinD n a b := by unfold doneR; rw [h1]; simp
    rw [← e2] at hS1
    rw [h1] at s0
    simp only [F42,hZ,s0,q1,Int.reduceEq,evI_cl,clOk,ldKeeps,ldKeeps1,iasKeeps,rowK,nwKeeps,sameC,sameL,sameA,sameP,sameR,sameRR_rfl,decide_true,frA_ptr,capsOf,fxa,fxc,fxE,fxL,fxI,nxE,evO,evR,cellsT,ldCells,mkT,lenA,binPV,Env.init,resV,resT,frT,klT,ownT,intT,O.adds,ownA,rowsA,over,wrOk,keysT,keysA,ne_eq,if_true,if_false,ite_self,Nat.reduceLT,Nat.reduceSub,Nat.reduceBEq,Nat.reduceEqDiff,Nat.reduceAdd,Nat.reduceLeDiff,reduceCtorEq,Nat.reduceMul]
    exact rest _ _ (by simp only [fxa,fxc,fxE,fxL,fxI,nxE,evO,evR,cellsT,ldCells,mkT,lenA,binPV,Env.init,resV,resT,frT,klT,ownT,intT,O.adds,ownA,rowsA,over,wrOk,keysT,keysA,ne_eq,if_true,if_false,ite_self,Nat.reduceLT,Nat.reduceSub,Nat.reduceBEq,Nat.reduceEqDiff,Nat.reduceAdd,Nat.reduceLeDiff,reduceCtorEq,Nat.reduceMul]) hS1 hF1
  | pick i A h1 hx hy h2 h3 h4 =>
    have hal := hM.ma.al8
    have ha8 := hM.ma.alt i A h3
    obtain ⟨σ1,q1,hS1,hF1⟩ := aPick_ok hT (by omega) h2 h3 ha8.2.1 (by omega) (by omega) h
    have e2 : doneR n pl a b = pickD n pl.alt a b := by unfold doneR; rw [h1]; simp
    rw [← e2] at hS1
    rw [h1] at s0
    simp only [F42,hZ,s0,q1,Int.reduceEq,evI_cl,clOk,ldKeeps,ldKeeps1,iasKeeps,rowK,nwKeeps,sameC,sameL,sameA,sameP,sameR,sameRR_rfl,decide_true,frA_ptr,capsOf,fxa,fxc,fxE,fxL,fxI,nxE,evO,evR,cellsT,ldCells,mkT,lenA,binPV,Env.init,resV,resT,frT,klT,ownT,intT,O.adds,ownA,rowsA,over,wrOk,keysT,keysA,ne_eq,if_true,if_false,ite_self,Nat.reduceLT,Nat.reduceSub,Nat.reduceBEq,Nat.reduceEqDiff,Nat.reduceAdd,Nat.reduceLeDiff,reduceCtorEq,Nat.reduceMul]
    exact rest _ _ (by simp only [fxa,fxc,fxE,fxL,fxI,nxE,evO,evR,cellsT,ldCells,mkT,lenA,binPV,Env.init,resV,resT,frT,klT,ownT,intT,O.adds,ownA,rowsA,over,wrOk,keysT,keysA,ne_eq,if_true,if_false,ite_self,Nat.reduceLT,Nat.reduceSub,Nat.reduceBEq,Nat.reduceEqDiff,Nat.reduceAdd,Nat.reduceLeDiff,reduceCtorEq,Nat.reduceMul]) hS1 hF1
  | half h1 hx hy =>
    obtain ⟨σ1,q1,hS1,hF1⟩ := aHalf_ok hT (by omega) h
    have e2 : doneR n pl a b = halfD n a b := by unfold doneR; rw [h1]; simp
    rw [← e2] at hS1
    rw [h1] at s0
    simp only [F42,hZ,s0,q1,Int.reduceEq,evI_cl,clOk,ldKeeps,ldKeeps1,iasKeeps,rowK,nwKeeps,sameC,sameL,sameA,sameP,sameR,sameRR_rfl,decide_true,frA_ptr,capsOf,fxa,fxc,fxE,fxL,fxI,nxE,evO,evR,cellsT,ldCells,mkT,lenA,binPV,Env.init,resV,resT,frT,klT,ownT,intT,O.adds,ownA,rowsA,over,wrOk,keysT,keysA,ne_eq,if_true,if_false,ite_self,Nat.reduceLT,Nat.reduceSub,Nat.reduceBEq,Nat.reduceEqDiff,Nat.reduceAdd,Nat.reduceLeDiff,reduceCtorEq,Nat.reduceMul]
    exact rest _ _ (by simp only [fxa,fxc,fxE,fxL,fxI,nxE,evO,evR,cellsT,ldCells,mkT,lenA,binPV,Env.init,resV,resT,frT,klT,ownT,intT,O.adds,ownA,rowsA,over,wrOk,keysT,keysA,ne_eq,if_true,if_false,ite_self,Nat.reduceLT,Nat.reduceSub,Nat.reduceBEq,Nat.reduceEqDiff,Nat.reduceAdd,Nat.reduceLeDiff,reduceCtorEq,Nat.reduceMul]) hS1 hF1
  | out h1 hx hy g1 g2 g3 g4 g5 =>
    have hbg := hT.big
    obtain ⟨σ1,q1,hS1,hF1⟩ := aMade_ok (x := pl.nd) hT.ok (by omega) g2 (NC.p _) (NC.p _) h
    have hti := makeR_wf (n := n) (x := pl.nd) (by omega)
    have hOk := (makeR_Ok (x := pl.nd) hT.ok g2 (by omega)).1
    have e2 : doneR n pl a b = (moveR (makeR n pl.nd).1 ⟨a,1⟩ ⟨(makeR n pl.nd).2.1,0⟩).1 := by unfold doneR outD; rw [h1]; simp
    obtain ⟨⟨m,t,ee⟩,hmk⟩ : ∃ r,makeR n pl.nd = r := ⟨_,rfl⟩
    rw [hmk] at q1 hS1 hti hOk e2
    simp only at q1 hS1 hti hOk e2
    obtain ⟨σ2,q2,hS2,hF2⟩ := aMove_ok (p := ⟨a,1⟩) (q := ⟨t,0⟩) hOk (hT.pa (by omega) (by omega)) ⟨hti,wf_0⟩ hS1
    have p1 := port_ok a 1
    have p2 := port_ok t 0
    have u1 := hS1.bs
    rw [← e2] at hS2
    simp only [stg,List.map_cons,List.map_nil] at u1
    rw [h1] at s0 u1
    simp only [F42,hZ,s0,u1,q1,q2,p1,p2,Int.reduceEq,evI_cl,clOk,ldKeeps,ldKeeps1,iasKeeps,rowK,nwKeeps,sameC,sameL,sameA,sameP,sameR,sameRR_rfl,decide_true,frA_ptr,capsOf,fxa,fxc,fxE,fxL,fxI,nxE,evO,evR,cellsT,ldCells,mkT,lenA,binPV,Env.init,resV,resT,frT,klT,ownT,intT,O.adds,ownA,rowsA,over,wrOk,keysT,keysA,ne_eq,if_true,if_false,ite_self,Nat.reduceLT,Nat.reduceSub,Nat.reduceBEq,Nat.reduceEqDiff,Nat.reduceAdd,Nat.reduceLeDiff,reduceCtorEq,Nat.reduceMul]
    exact rest _ _ (by simp only [fxa,fxc,fxE,fxL,fxI,nxE,evO,evR,cellsT,ldCells,mkT,lenA,binPV,Env.init,resV,resT,frT,klT,ownT,intT,O.adds,ownA,rowsA,over,wrOk,keysT,keysA,ne_eq,if_true,if_false,ite_self,Nat.reduceLT,Nat.reduceSub,Nat.reduceBEq,Nat.reduceEqDiff,Nat.reduceAdd,Nat.reduceLeDiff,reduceCtorEq,Nat.reduceMul]) hS2 (hF1.trans hF2)
  | fail h1 hx hy =>
    obtain ⟨σ1,q1,hS1,hF1⟩ := aFail_ok hT (by omega) h
    have e2 : doneR n pl a b = failD n a b := by unfold doneR; rw [h1]; simp
    rw [← e2] at hS1
    rw [h1] at s0
    simp only [F42,hZ,s0,q1,Int.reduceEq,evI_cl,clOk,ldKeeps,ldKeeps1,iasKeeps,rowK,nwKeeps,sameC,sameL,sameA,sameP,sameR,sameRR_rfl,decide_true,frA_ptr,capsOf,fxa,fxc,fxE,fxL,fxI,nxE,evO,evR,cellsT,ldCells,mkT,lenA,binPV,Env.init,resV,resT,frT,klT,ownT,intT,O.adds,ownA,rowsA,over,wrOk,keysT,keysA,ne_eq,if_true,if_false,ite_self,Nat.reduceLT,Nat.reduceSub,Nat.reduceBEq,Nat.reduceEqDiff,Nat.reduceAdd,Nat.reduceLeDiff,reduceCtorEq,Nat.reduceMul]
    exact rest _ _ (by simp only [fxa,fxc,fxE,fxL,fxI,nxE,evO,evR,cellsT,ldCells,mkT,lenA,binPV,Env.init,resV,resT,frT,klT,ownT,intT,O.adds,ownA,rowsA,over,wrOk,keysT,keysA,ne_eq,if_true,if_false,ite_self,Nat.reduceLT,Nat.reduceSub,Nat.reduceBEq,Nat.reduceEqDiff,Nat.reduceAdd,Nat.reduceLeDiff,reduceCtorEq,Nat.reduceMul]) hS1 hF1
  | pass h1 hx hy g1 g2 =>
    obtain ⟨σ1,q1,hS1,hF1⟩ := aPass_ok hT (by omega) (wf_small g1 (by omega)) hM.lenA hM.lenB h
    have e2 : doneR n pl a b = passD n pl.lv a b := by unfold doneR; rw [h1]; simp
    rw [← e2] at hS1
    rw [h1] at s0
    simp only [F42,hZ,s0,q1,Int.reduceEq,evI_cl,clOk,ldKeeps,ldKeeps1,iasKeeps,rowK,nwKeeps,sameC,sameL,sameA,sameP,sameR,sameRR_rfl,decide_true,frA_ptr,capsOf,fxa,fxc,fxE,fxL,fxI,nxE,evO,evR,cellsT,ldCells,mkT,lenA,binPV,Env.init,resV,resT,frT,klT,ownT,intT,O.adds,ownA,rowsA,over,wrOk,keysT,keysA,ne_eq,if_true,if_false,ite_self,Nat.reduceLT,Nat.reduceSub,Nat.reduceBEq,Nat.reduceEqDiff,Nat.reduceAdd,Nat.reduceLeDiff,reduceCtorEq,Nat.reduceMul]
    exact rest _ _ (by simp only [fxa,fxc,fxE,fxL,fxI,nxE,evO,evR,cellsT,ldCells,mkT,lenA,binPV,Env.init,resV,resT,frT,klT,ownT,intT,O.adds,ownA,rowsA,over,wrOk,keysT,keysA,ne_eq,if_true,if_false,ite_self,Nat.reduceLT,Nat.reduceSub,Nat.reduceBEq,Nat.reduceEqDiff,Nat.reduceAdd,Nat.reduceLeDiff,reduceCtorEq,Nat.reduceMul]) hS1 hF1
  | drop h1 hx hy =>
    have hbg := hT.big
    obtain ⟨σ1,v,q1,hS1,hF1,hL1⟩ := aOthers_ok (j := 1) (jz := 1) rfl (by omega) hT.b0 hT.b1 hT.xb.to h
    obtain ⟨l,hl⟩ : ∃ l,portsR b 1 (n.nd b).to.length = l := ⟨_,rfl⟩
    have nl : l.length ≤ 100 := by rw [← hl,portsR_len]; omega
    have wl : ∀ p ∈ l,wfP p := by intro p hp; rw [← hl] at hp; exact (portsR_wf hT (by omega)).2 p hp
    rw [hl] at hL1
    have e2 : doneR n pl a b = runs (likeR n (dropN (n.nd a).lv) l.length).1 (dropOps l (likeR n (dropN (n.nd a).lv) l.length).2) := by unfold doneR dropD; rw [h1]; simp [hl]
    obtain ⟨σ2,f,q2,hS2,hF2,hDC⟩ := aDrop_ok (l := l) hT.ok (by omega) hT.a0 hT.a1 hS1 hL1
    have hdx := dropN_Ok hT.xa.lv
    obtain ⟨o1,o2,o3⟩ := likeR_Ok hT.ok hdx l.length (by omega)
    obtain ⟨k0,k1,k2,σ3,rfl,q3,hS3,hF3⟩ := aCall_ok o1 wl (likeR_wf hT.ok hdx _ (by omega)) (by omega) (by omega) hS2 hDC
    rw [← e2] at hS3
    rw [h1] at s0
    simp only [F42,hZ,s0,q1,q2,q3,Int.reduceEq,evI_cl,clOk,ldKeeps,ldKeeps1,iasKeeps,rowK,nwKeeps,sameC,sameL,sameA,sameP,sameR,sameRR_rfl,decide_true,frA_ptr,capsOf,fxa,fxc,fxE,fxL,fxI,nxE,evO,evR,cellsT,ldCells,mkT,lenA,binPV,Env.init,resV,resT,frT,klT,ownT,intT,O.adds,ownA,rowsA,over,wrOk,keysT,keysA,ne_eq,if_true,if_false,ite_self,Nat.reduceLT,Nat.reduceSub,Nat.reduceBEq,Nat.reduceEqDiff,Nat.reduceAdd,Nat.reduceLeDiff,reduceCtorEq,Nat.reduceMul]
    exact rest _ _ (by simp only [fxa,fxc,fxE,fxL,fxI,nxE,evO,evR,cellsT,ldCells,mkT,lenA,binPV,Env.init,resV,resT,frT,klT,ownT,intT,O.adds,ownA,rowsA,over,wrOk,keysT,keysA,ne_eq,if_true,if_false,ite_self,Nat.reduceLT,Nat.reduceSub,Nat.reduceBEq,Nat.reduceEqDiff,Nat.reduceAdd,Nat.reduceLeDiff,reduceCtorEq,Nat.reduceMul]) hS3 ((hF1.trans hF2).trans hF3)
end Go.Proofs.YtmlhgalboabjcaaGreat
end
section
set_option linter.unusedSimpArgs false
set_option linter.unusedVariables false
set_option maxHeartbeats 4000000
set_option maxRecDepth 10000
namespace Go.Proofs.YtmlhgalboabjcaaGreat
open Go.Fx
theorem meets_ok (n : Nt) (i : Int) : eP S 38 [.g (encT n),.a (.i .i64 i)] = some (.a (.i .i64 (meetR n i))) := by
  refine x_fn (orcS (by decide)) (fc := F38) rfl rfl ?_
  have c1 := Peer_ok n ⟨i,0⟩
  have p1 := port_ok i 0
  unfold meetR
  obtain ⟨q,hq⟩ : ∃ q,n.lk ⟨i,0⟩ = q := ⟨_,rfl⟩
  rw [hq] at c1 ⊢
  simp only [encT,encP] at c1
  by_cases h1 : n.has ⟨i,0⟩ = true
  · by_cases h2 : q.s = 0
    · simp only [h1,if_true,encP] at c1
      simp only [F38,encT,c1,p1,h1,h2,fxa,fxc,fxE,fxL,fxI,nxE,evO,evR,cellsT,ldCells,mkT,lenA,binPV,Env.init,resV,resT,frT,klT,ownT,intT,O.adds,ownA,rowsA,over,wrOk,keysT,keysA,ne_eq,if_true,if_false,ite_self,Nat.reduceLT,Nat.reduceSub,Nat.reduceBEq,Nat.reduceEqDiff,Nat.reduceAdd,Nat.reduceLeDiff,reduceCtorEq,Nat.reduceMul]
    · simp only [h1,if_true,encP] at c1
      simp only [F38,encT,c1,p1,h1,h2,fxa,fxc,fxE,fxL,fxI,nxE,evO,evR,cellsT,ldCells,mkT,lenA,binPV,Env.init,resV,resT,frT,klT,ownT,intT,O.adds,ownA,rowsA,over,wrOk,keysT,keysA,ne_eq,if_true,if_false,ite_self,Nat.reduceLT,Nat.reduceSub,Nat.reduceBEq,Nat.reduceEqDiff,Nat.reduceAdd,Nat.reduceLeDiff,reduceCtorEq,Nat.reduceMul]
  · simp only [h1,Bool.false_eq_true,if_false,zP,encP] at c1
    simp only [F38,encT,c1,p1,h1,Int.reduceEq,fxa,fxc,fxE,fxL,fxI,nxE,evO,evR,cellsT,ldCells,mkT,lenA,binPV,Env.init,resV,resT,frT,klT,ownT,intT,O.adds,ownA,rowsA,over,wrOk,keysT,keysA,ne_eq,if_true,if_false,ite_self,Nat.reduceLT,Nat.reduceSub,Nat.reduceBEq,Nat.reduceEqDiff,Nat.reduceAdd,Nat.reduceLeDiff,reduceCtorEq,Nat.reduceMul]
def encD (x : Nt × Pl × Int) : PT := .t [(true,encT x.1),(true,encL x.2.1),(false,[.i .i64 x.2.2])]
theorem meetR_meet {n : Nt} {i : Int} (hn : n.Ok) (hG : n.Good) (h : ¬ meetR n i < 0) : Meet n i (meetR n i) := by
  unfold meetR at h ⊢
  by_cases hc : n.has ⟨i,0⟩ = true ∧ (n.lk ⟨i,0⟩).s = 0
  · rw [if_pos hc]
    refine Meet.of hn hG hc.1 ?_
    obtain ⟨q,hq⟩ : ∃ q,n.lk ⟨i,0⟩ = q := ⟨_,rfl⟩
    rw [hq] at hc ⊢
    obtain ⟨u,v⟩ := q
    simp only at hc
    rw [hc.2]
  · rw [if_neg hc] at h; omega
theorem need_room {n : Nt} {a b : Int} {p : Pl} (hM : Meet n a b) (hp : PlanX (n.nd a) (n.nd b) p) : 0 ≤ needX p (n.nd a) (n.nd b) ∧ needX p (n.nd a) (n.nd b) ≤ 30 := by
  have ta := to10 hM.ma hM.pa
  have tb := to10 hM.mb hM.pb
  have la := hM.lenA
  have lb := hM.lenB
  have oa : oth (n.nd a) = (n.nd a).to.length - 1 := by rw [oth_in (by omega)]; omega
  have ob : oth (n.nd b) = (n.nd b).to.length - 1 := by rw [oth_in (by omega)]; omega
  have hal := hM.ma.al8
  have w1 : ∀ z : Int,-1000 ≤ z → z ≤ 1000 → wr z = z := fun z h1 h2 => wr_in (by omega)
  unfold needX
  rw [oa,ob]
  split
  · split
    · omega
    · rename_i h2 h3
      cases hp with
      | pick i A h1 hx hy g2 g3 g4 =>
        have hil := (List.getElem?_eq_some_iff.1 g3).1
        have hA2 : (n.nd a).al.getD p.alt.toNat zA = A := by rw [g2,Int.toNat_natCast,List.getD_eq_getElem?_getD,g3]; rfl
        have := hM.ma.alt i A g3
        rw [hA2,w1 (A.n + (n.nd a).al.length) (by omega) (by omega),w1 _ (by omega) (by omega)]; omega
      | _ => omega
  split
  · omega
  split
  · rw [w1 ((n.nd a).to.length - 1 - 1) (by omega) (by omega),w1 (1 + max _ _) (by omega) (by omega),w1 _ (by omega) (by omega)]; omega
  split
  · split
    · rw [w1 _ (by omega) (by omega)]; omega
    · rw [w1 _ (by omega) (by omega)]; omega
  split
  · omega
  · omega
theorem Do_ok {n : Nt} {i : Int} (hn : n.Ok) : eP S 21 [.g (encT n),.a (.i .i64 i)] = some (encD (doR n i)) := by
  refine x_fn (orcS (by decide)) (fc := F21) rfl rfl ?_
  have c1 := sCheck_ok hn
  have c2 := meets_ok n i
  by_cases hG : n.Good
  case neg =>
    have hd : doR n i = (n,p0,120) := by unfold doR; rw [bool_f hG]; rfl
    rw [hd]
    rw [bool_f hG] at c1
    simp only [Bool.false_eq_true,if_false,encT] at c1
    simp only [F21,c1,encD,encT,encL,p0,zN,Int.reduceEq,List.map_nil,fxa,fxc,fxE,fxL,fxI,nxE,evO,evR,cellsT,ldCells,mkT,lenA,binPV,Env.init,resV,resT,frT,klT,ownT,intT,O.adds,ownA,rowsA,over,wrOk,keysT,keysA,ne_eq,if_true,if_false,ite_self,Nat.reduceLT,Nat.reduceSub,Nat.reduceBEq,Nat.reduceEqDiff,Nat.reduceAdd,Nat.reduceLeDiff,reduceCtorEq,Nat.reduceMul]
  rw [bool_t hG] at c1
  simp only [if_true,encT] at c1
  simp only [encT] at c2
  by_cases hm : meetR n i < 0
  · have hd : doR n i = (n,p0,122) := by unfold doR; rw [bool_t hG]; simp [hm]
    rw [hd]
    simp only [F21,c1,c2,hm,encD,encT,encL,p0,zN,Int.reduceEq,List.map_nil,fxa,fxc,fxE,fxL,fxI,nxE,evO,evR,cellsT,ldCells,mkT,lenA,binPV,Env.init,resV,resT,frT,klT,ownT,intT,O.adds,ownA,rowsA,over,wrOk,keysT,keysA,ne_eq,if_true,if_false,ite_self,Nat.reduceLT,Nat.reduceSub,Nat.reduceBEq,Nat.reduceEqDiff,Nat.reduceAdd,Nat.reduceLeDiff,reduceCtorEq,Nat.reduceMul]
  have hM := meetR_meet hn hG hm
  obtain ⟨k,hk⟩ : ∃ k,meetR n i = k := ⟨_,rfl⟩
  obtain ⟨⟨p,e⟩,hr⟩ : ∃ r,ofR (n.nd i) (n.nd k) = r := ⟨_,rfl⟩
  have hd : doR n i = if e ≠ 0 then (n,p0,e) else if wr (n.used + needR p (n.nd i) (n.nd k)) > n.cap then (n,p0,121)
      else (stepR n p (if p.sw = true then k else i) (if p.sw = true then i else k),p,0) := by
    unfold doR
    rw [bool_t hG]
    simp only [hk,hr]
    rw [if_neg (by simp),if_neg (by rw [← hk]; exact hm)]
  rw [hk] at hM hm c2
  have c3 := Of_ok hM.ka hM.kb
  have ga := getN (l := n.ns) hM.a0 hM.a1
  have gb := getN (l := n.ns) hM.b0 hM.b1
  have a0 := hM.a0
  have a1 := hM.a1
  have b0 := hM.b0
  have b1 := hM.b1
  have hX := of_plan hM.ma hM.mb hM.ka hM.kb hM.pa hM.pb
  have c4 := sUsed_ok hn
  have c5 := need_ok (p := p) (a := n.nd i) (b := n.nd k)
  have hna : n.ns.getD i.toNat zN = n.nd i := rfl
  have hnb : n.ns.getD k.toNat zN = n.nd k := rfl
  rw [hna] at ga
  rw [hnb] at gb
  rw [hr] at c3 hX
  have hpe : p.nd.Ok := by have := of_nd hM.ka hM.kb; rw [hr] at this; exact this
  simp only [encLE,encL,encN] at c3
  simp only [encT] at c4
  simp only [encL,encN] at c5
  simp only [encN] at ga gb
  by_cases he : e = 0
  case neg =>
    rw [if_pos he] at hd
    rw [hd]
    simp only [F21,c1,c2,c3,hm,he,ga,gb,a0,a1,b0,b1,allN,encD,encT,encL,p0,zN,Int.reduceEq,List.map_nil,List.length_map,fxa,fxc,fxE,fxL,fxI,nxE,evO,evR,cellsT,ldCells,mkT,lenA,binPV,Env.init,resV,resT,frT,klT,ownT,intT,O.adds,ownA,rowsA,over,wrOk,keysT,keysA,ne_eq,if_true,if_false,ite_self,Nat.reduceLT,Nat.reduceSub,Nat.reduceBEq,Nat.reduceEqDiff,Nat.reduceAdd,Nat.reduceLeDiff,reduceCtorEq,Nat.reduceMul]
  subst he
  rw [if_neg (by simp)] at hd
  have hX := hX rfl
  by_cases hu : wr (n.used + needR p (n.nd i) (n.nd k)) > n.cap
  · rw [if_pos hu] at hd
    rw [hd]
    unfold wr at hu
    simp only [F21,c1,c2,c3,c4,c5,hm,hu,ga,gb,a0,a1,b0,b1,allN,encD,encT,encL,p0,zN,Int.reduceEq,List.map_nil,List.length_map,fxa,fxc,fxE,fxL,fxI,nxE,evO,evR,cellsT,ldCells,mkT,lenA,binPV,Env.init,resV,resT,frT,klT,ownT,intT,O.adds,ownA,rowsA,over,wrOk,keysT,keysA,ne_eq,if_true,if_false,ite_self,Nat.reduceLT,Nat.reduceSub,Nat.reduceBEq,Nat.reduceEqDiff,Nat.reduceAdd,Nat.reduceLeDiff,reduceCtorEq,Nat.reduceMul]
  rw [if_neg hu] at hd
  rw [hd]
  have hub := good_used hG
  have hgb := hG.cap2
  have hu0 : 0 ≤ n.used := (usedL_le n.ns).1
  have hu' := hu
  unfold wr at hu'
  obtain ⟨τ,hτ⟩ : ∃ τ,τ = ((((St.empty.add 2 (Blk.var [AV.p (PV.l (n.ns.map encN)),AV.p (PV.i .i64 n.cap)])).add 4 (Blk.var [AV.nil,AV.p (PV.i .i64 0)])).add 5
    (Blk.var [AV.p (PV.i .i64 0),AV.p (PV.b false),AV.p (PV.i .i64 0),AV.p (PV.i .i64 0),AV.p (PV.i .i64 0),AV.p (PV.i .i64 0),AV.p (PV.i .i64 0),AV.p (PV.s []),AV.nil,AV.nil])).add 9
    (Blk.var [AV.p (PV.i .i64 0),AV.p (PV.b false),AV.p (PV.i .i64 0),AV.p (PV.i .i64 0),AV.p (PV.i .i64 0),AV.p (PV.i .i64 0),AV.p (PV.i .i64 0),AV.p (PV.s []),AV.nil,AV.nil])).put (9,3)
    (Blk.var [AV.p (PV.i .i64 p.k),AV.p (PV.b p.sw),AV.p (PV.i .i64 p.lv),AV.p (PV.i .i64 p.alt),AV.p (PV.i .i64 p.nd.k),AV.p (PV.i .i64 p.nd.lv),AV.p (PV.i .i64 p.nd.n),AV.p (PV.s p.nd.s),AV.p (PV.l (p.nd.al.map encA)),AV.p (PV.l (p.nd.to.map encP))]) := ⟨_,rfl⟩
  have tc : τ.clk = 4 := by rw [hτ]; rfl
  have t2 : τ.bs (2,0) = some (Blk.var [AV.p (PV.l (n.ns.map encN)),AV.p (PV.i .i64 n.cap)]) := by rw [hτ]; rfl
  have t4 : τ.bs (4,1) = some (Blk.var [AV.nil,AV.p (PV.i .i64 0)]) := by rw [hτ]; rfl
  have t5 : τ.bs (5,2) = some (Blk.var [AV.p (PV.i .i64 0),AV.p (PV.b false),AV.p (PV.i .i64 0),AV.p (PV.i .i64 0),AV.p (PV.i .i64 0),AV.p (PV.i .i64 0),AV.p (PV.i .i64 0),AV.p (PV.s []),AV.nil,AV.nil]) := by rw [hτ]; rfl
  have t9 : τ.bs (9,3) = some (Blk.var [AV.p (PV.i .i64 p.k),AV.p (PV.b p.sw),AV.p (PV.i .i64 p.lv),AV.p (PV.i .i64 p.alt),AV.p (PV.i .i64 p.nd.k),AV.p (PV.i .i64 p.nd.lv),AV.p (PV.i .i64 p.nd.n),AV.p (PV.s p.nd.s),AV.p (PV.l (p.nd.al.map encA)),AV.p (PV.l (p.nd.to.map encP))]) := by rw [hτ]; rfl
  cases hsw : p.sw with
  | false =>
    have hnr : needR p (n.nd i) (n.nd k) = needX p (n.nd i) (n.nd k) := by unfold needR; rw [hsw]; rfl
    rw [hnr] at hu
    rw [hsw] at hX
    simp only [Bool.false_eq_true,if_false] at hX ⊢
    obtain ⟨n0,n1⟩ := need_room hM hX
    rw [wr_in (by omega)] at hu
    obtain ⟨σ1,hσ1⟩ : ∃ σ1,σ1 = τ.add 72 (.var ((stg n p i k).map .p)) := ⟨_,rfl⟩
    have hS1 : SG (72,4) n p i k σ1 := ⟨by rw [hσ1]; simp [add_bs,tc],by rw [hσ1]; simp [add_clk,tc]⟩
    obtain ⟨σ2,q2,hS2,hF2⟩ := aDo_ok hM hX (by omega) hS1
    have hc1 : σ1.clk = 5 := by rw [hσ1]; simp [add_clk,tc]
    have gk : ∀ q : Key,q.2 < 4 → σ2.bs q = τ.bs q := fun q hq => by
      have h1 : ¬ q = (72,4) := by rintro rfl; simp at hq
      refine (hF2.bs q (by omega) h1).trans ?_
      rw [hσ1]; simp only [add_bs,tc,h1,if_false]
    have v4 := (gk (4,1) (by decide)).trans t4
    have v5 := (gk (5,2) (by decide)).trans t5
    have v9 := (gk (9,3) (by decide)).trans t9
    have w9 : σ1.bs (9,3) = τ.bs (9,3) := by rw [hσ1]; simp [add_bs,tc]
    rw [t9] at w9
    have vk := hS2.bs
    simp only [stg,List.map_cons,List.map_nil] at vk hσ1
    rw [hsw] at c3 c5 hτ v9 vk hσ1 t9 w9
    simp only [F21,c1,c2,c3,c4,c5,hm,hu',hsw,ga,gb,a0,a1,b0,b1,← hτ,tc,t2,t4,t5,t9,← hσ1,w9,q2,v4,v5,v9,vk,allN,encD,encT,encL,p0,zN,Int.reduceEq,List.map_nil,List.length_map,frA_ptr,fxa,fxc,fxE,fxL,fxI,nxE,evO,evR,cellsT,ldCells,mkT,lenA,binPV,Env.init,resV,resT,frT,klT,ownT,intT,O.adds,ownA,rowsA,over,wrOk,keysT,keysA,ne_eq,if_true,if_false,ite_self,Nat.reduceLT,Nat.reduceSub,Nat.reduceBEq,Nat.reduceEqDiff,Nat.reduceAdd,Nat.reduceLeDiff,reduceCtorEq,Nat.reduceMul]
  | true =>
    have hnr : needR p (n.nd i) (n.nd k) = needX p (n.nd k) (n.nd i) := by unfold needR; rw [hsw]; rfl
    rw [hnr] at hu
    rw [hsw] at hX
    simp only [if_true] at hX ⊢
    have hM' := hM.swap
    obtain ⟨n0,n1⟩ := need_room hM' hX
    rw [wr_in (by omega)] at hu
    obtain ⟨σ0,hσ0⟩ : ∃ σ0,σ0 = τ.add 72 (.var ((stg n p i k).map .p)) := ⟨_,rfl⟩
    have hk0 : σ0.bs (72,4) = some (.var ((stg n p i k).map .p)) := by rw [hσ0]; simp [add_bs,tc]
    obtain ⟨σ1,hσ1⟩ : ∃ σ1,σ1 = (σ0.put (72,4) (.var ((stg n p k k).map .p))).put (72,4) (.var ((stg n p k i).map .p)) := ⟨_,rfl⟩
    have hS1 : SG (72,4) n p k i σ1 := ⟨by rw [hσ1]; simp [put_bs],by rw [hσ1,hσ0]; simp [put_clk,add_clk,tc]⟩
    obtain ⟨σ2,q2,hS2,hF2⟩ := aDo_ok hM' hX (by omega) hS1
    have hc1 : σ1.clk = 5 := by rw [hσ1,hσ0]; simp [put_clk,add_clk,tc]
    have gk1 : ∀ q : Key,q.2 < 4 → σ1.bs q = τ.bs q ∧ σ0.bs q = τ.bs q := fun q hq => by
      have h1 : ¬ q = (72,4) := by rintro rfl; simp at hq
      rw [hσ1,hσ0]
      simp only [put_bs,add_bs,tc,h1,if_false,and_self]
    have gk : ∀ q : Key,q.2 < 4 → σ2.bs q = τ.bs q := fun q hq => by
      have h1 : ¬ q = (72,4) := by rintro rfl; simp at hq
      exact (hF2.bs q (by omega) h1).trans (gk1 q hq).1
    have v4 := (gk (4,1) (by decide)).trans t4
    have v5 := (gk (5,2) (by decide)).trans t5
    have v9 := (gk (9,3) (by decide)).trans t9
    have w9 := (gk1 (9,3) (by decide)).2.trans t9
    have vk := hS2.bs
    simp only [stg,List.map_cons,List.map_nil] at vk hσ1 hσ0 hk0
    rw [hsw] at c3 c5 hτ v9 vk hσ1 hσ0 hk0 t9 w9
    simp only [F21,c1,c2,c3,c4,c5,hm,hu',hsw,ga,gb,a0,a1,b0,b1,← hτ,tc,t2,t4,t5,t9,← hσ0,hk0,← hσ1,w9,q2,v4,v5,v9,vk,allN,encD,encT,encL,p0,zN,Int.reduceEq,List.map_nil,List.length_map,frA_ptr,fxa,fxc,fxE,fxL,fxI,nxE,evO,evR,cellsT,ldCells,mkT,lenA,binPV,Env.init,resV,resT,frT,klT,ownT,intT,O.adds,ownA,rowsA,over,wrOk,keysT,keysA,ne_eq,if_true,if_false,ite_self,Nat.reduceLT,Nat.reduceSub,Nat.reduceBEq,Nat.reduceEqDiff,Nat.reduceAdd,Nat.reduceLeDiff,reduceCtorEq,Nat.reduceMul]
end Go.Proofs.YtmlhgalboabjcaaGreat
end
section
set_option linter.unusedSimpArgs false
set_option linter.unusedVariables false
set_option maxHeartbeats 4000000
namespace Go.Proofs.YtmlhgalboabjcaaGreat
open Go.Fx
structure Stepped (n : Nt) (a b : Int) (c : Int) (m : Nt) : Prop where
  ok : m.Ok
  good : m.Good
  cap : m.cap = n.cap
  used : m.used = n.used - 2 + c
  old : ∀ (j : Nat) (x : Nd),n.ns[j]? = some x → x.k ≠ 0 → (j : Int) ≠ a → (j : Int) ≠ b → ∃ y,m.ns[j]? = some y ∧ y = { x with to := y.to } ∧ y.to.length = x.to.length
  keep : ∀ r,n.has r = true → r.n ≠ a → r.n ≠ b → (n.lk r).n ≠ a → (n.lk r).n ≠ b → m.has r = true ∧ m.lk r = n.lk r
theorem Stepped.swap {n m : Nt} {a b c : Int} (h : Stepped n a b c m) : Stepped n b a c m :=
  ⟨h.ok,h.good,h.cap,h.used,fun j x h1 h2 h3 h4 => h.old j x h1 h2 h4 h3,fun r h1 h2 h3 h4 h5 => h.keep r h1 h3 h2 h5 h4⟩
theorem mem_endL {n : Nt} {a b : Int} {r : Pt} : r ∈ endL n a b ↔ (r.n = a ∧ 0 ≤ r.s ∧ r.s < (n.nd a).to.length) ∨ (r.n = b ∧ 0 ≤ r.s ∧ r.s < (n.nd b).to.length) := by
  unfold endL
  rw [List.mem_append,mem_portsR,mem_portsR]
  exact Iff.rfl
theorem planX_k {x y : Nd} {p : Pl} (h : PlanX x y p) : x.k ≠ 1 ∧ y.k ≠ 1 := by
  have c1 := cls_1 x.k
  have c2 := cls_2 y.k
  have c3 := cls_3 x.k
  cases h with
  | pass h hx hy h1 h2 => have := cls_ne hy; omega
  | drop h hx hy => have := cls_ne hy; omega
  | _ => omega
theorem free_two {n0 n : Nt} {a b c : Int} (hM : Meet n0 a b) (ka : (n0.nd a).k ≠ 1) (kb : (n0.nd b).k ≠ 1) (h : Run n0 a b c n (endL n0 a b)) {i j : Nat} (hij : (i : Int) = a ∧ (j : Int) = b ∨ (i : Int) = b ∧ (j : Int) = a) :
    Stepped n0 a b c (freeR (freeR n i).1 j).1 := by
  have hab := hM.ab
  have node : ∀ t : Int,0 ≤ t → t < n0.ns.length → (n0.nd t).k ≠ 0 → (n0.nd t).k ≠ 1 → ∃ x,n.ns[t.toNat]? = some x ∧ x.k ≠ 0 ∧ x.to.length = (n0.nd t).to.length ∧ 1 ≤ t := by
    intro t h0 h1 hk hk1
    obtain ⟨y,g1,g2,g3⟩ := h.old _ _ (get_nd h0 h1) hk
    refine ⟨y,g1,by rw [g2]; exact hk,g3,?_⟩
    have g := (hM.good.nds _ _ (get_nd h0 h1)).2.2.1
    by_cases e : t = 0
    · exact absurd (g.1 (by omega)) hk1
    · omega
  have both : ∀ t : Nat,(t : Int) = a ∨ (t : Int) = b → ∃ x,n.ns[t]? = some x ∧ x.k ≠ 0 ∧ 1 ≤ t ∧ ∀ p,n.has p = true → p.n = t → p ∈ endL n0 a b := by
    intro t ht
    rcases ht with ht | ht
    · obtain ⟨x,g1,g2,g3,g4⟩ := node a hM.a0 hM.a1 hM.kA ka
      rw [show a.toNat = t by omega] at g1
      refine ⟨x,g1,g2,by omega,fun p hp e => mem_endL.2 (.inl ?_)⟩
      have h1 := has_iff.1 hp
      rw [e,nd_get g1,g3] at h1
      exact ⟨by omega,h1.2.2.1,h1.2.2.2⟩
    · obtain ⟨x,g1,g2,g3,g4⟩ := node b hM.b0 hM.b1 hM.kB kb
      rw [show b.toNat = t by omega] at g1
      refine ⟨x,g1,g2,by omega,fun p hp e => mem_endL.2 (.inr ?_)⟩
      have h1 := has_iff.1 hp
      rw [e,nd_get g1,g3] at h1
      exact ⟨by omega,h1.2.2.1,h1.2.2.2⟩
  obtain ⟨x,x1,x2,x3,x4⟩ := both i (by omega)
  obtain ⟨y,y1,y2,y3,y4⟩ := both j (by omega)
  obtain ⟨e1,s1,u1,h1,l1⟩ := h.semi.free x1 x3 x2 x4
  have y1' := free_get (i := i) y1 (by omega) y2
  obtain ⟨e2,s2,u2,h2,l2⟩ := s1.free y1' y3 y2 (fun p hp e => ⟨y4 p ((h1 p).1 hp).1 e,by omega⟩)
  rw [e1]
  simp only
  rw [e2]
  simp only
  have hG : ((n.free i).free j).Good := (s2.iff (Y := fun _ => False) fun r => ⟨fun ⟨⟨k1,k2⟩,k3⟩ => by
    rcases mem_endL.1 k1 with ⟨k,_⟩ | ⟨k,_⟩ <;> omega,False.elim⟩).good
  refine ⟨free_Ok (free_Ok h.ok _) _,hG,h.cap,by rw [u2,u1,h.used]; omega,fun t z hz hk ha hb => ?_,fun r h3 h4 h5 h6 h7 => ?_⟩
  · obtain ⟨w,g1,g2,g3⟩ := h.old t z hz hk
    have wk : w.k ≠ 0 := by rw [g2]; exact hk
    exact ⟨w,free_get (free_get g1 (by omega) wk) (by omega) wk,g2,g3⟩
  · have hr := h.has0 h3
    obtain ⟨q1,q2⟩ := h.keep r h3 h4 h5 h6 h7
    have hr1 := (h1 r).2 ⟨hr,by omega⟩
    exact ⟨(h2 r).2 ⟨hr1,by omega⟩,by rw [l2 r hr1 (by omega),l1 r hr (by omega),q2]⟩
theorem step_ok {n : Nt} {a b : Int} {p : Pl} (hM : Meet n a b) (hp : PlanX (n.nd a) (n.nd b) p) (hu : n.used + needX p (n.nd a) (n.nd b) ≤ n.cap) : Stepped n a b (needX p (n.nd a) (n.nd b)) (stepR n p a b) := by
  obtain ⟨ka,kb⟩ := planX_k hp
  have hR := done_run hM hp hu
  have a0 := hM.a0
  have b0 := hM.b0
  have h := free_two hM ka kb hR (i := (max a b).toNat) (j := (min a b).toNat) (by omega)
  rw [show (((max a b).toNat : Nat) : Int) = max a b by omega,show (((min a b).toNat : Nat) : Int) = min a b by omega] at h
  exact h
structure DoneOk (n : Nt) (i : Int) (p : Pl) (m : Nt) : Prop where
  meet : Meet n i (meetR n i)
  pl : ofR (n.nd i) (n.nd (meetR n i)) = (p,0)
  px : PlanX (n.nd (if p.sw = true then meetR n i else i)) (n.nd (if p.sw = true then i else meetR n i)) p
  room : n.used + needR p (n.nd i) (n.nd (meetR n i)) ≤ n.cap
  net : m = stepR n p (if p.sw = true then meetR n i else i) (if p.sw = true then i else meetR n i)
  st : Stepped n i (meetR n i) (needR p (n.nd i) (n.nd (meetR n i))) m
inductive DoCase (n : Nt) (i : Int) : Nt × Pl × Int → Prop
  | bad (h : ¬ n.Good) : DoCase n i (n,p0,120)
  | none (h : n.Good) (hm : meetR n i < 0) : DoCase n i (n,p0,122)
  | pair (h : n.Good) (e : Int) (hm : Meet n i (meetR n i)) (he : e = (ofR (n.nd i) (n.nd (meetR n i))).2) (h0 : e ≠ 0) : DoCase n i (n,p0,e)
  | full (h : n.Good) (p : Pl) (hm : Meet n i (meetR n i)) (hp : ofR (n.nd i) (n.nd (meetR n i)) = (p,0)) (hu : ¬ n.used + needR p (n.nd i) (n.nd (meetR n i)) ≤ n.cap) : DoCase n i (n,p0,121)
  | done (h : n.Good) (p : Pl) (m : Nt) (hd : DoneOk n i p m) : DoCase n i (m,p,0)
theorem do_case {n : Nt} (hn : n.Ok) (i : Int) : DoCase n i (doR n i) := by
  unfold doR
  by_cases hG : n.Good
  case neg => rw [bool_f hG]; exact .bad hG
  rw [bool_t hG,if_neg (by simp)]
  by_cases hm : meetR n i < 0
  · rw [if_pos hm]; exact .none hG hm
  rw [if_neg hm]
  have hM := meetR_meet hn hG hm
  have hX := of_plan hM.ma hM.mb hM.ka hM.kb hM.pa hM.pb
  obtain ⟨⟨p,e⟩,hr⟩ : ∃ r,ofR (n.nd i) (n.nd (meetR n i)) = r := ⟨_,rfl⟩
  simp only [hr]
  rw [hr] at hX
  by_cases he : e = 0
  case neg => rw [if_pos (by simpa using he)]; exact .pair hG e hM (by rw [hr]) he
  subst he
  rw [if_neg (by simp)]
  have hX := hX rfl
  simp only at hX
  have hub := good_used hG
  have hgb := hG.cap2
  have hu0 : 0 ≤ n.used := (usedL_le n.ns).1
  have hw : wr (n.used + needR p (n.nd i) (n.nd (meetR n i))) = n.used + needR p (n.nd i) (n.nd (meetR n i)) := by
    cases hsw : p.sw with
    | false =>
      rw [hsw] at hX
      have := need_room hM hX
      have hnr : needR p (n.nd i) (n.nd (meetR n i)) = needX p (n.nd i) (n.nd (meetR n i)) := by unfold needR; rw [hsw]; rfl
      rw [hnr]; exact wr_in (by omega)
    | true =>
      rw [hsw] at hX
      have := need_room hM.swap hX
      have hnr : needR p (n.nd i) (n.nd (meetR n i)) = needX p (n.nd (meetR n i)) (n.nd i) := by unfold needR; rw [hsw]; rfl
      rw [hnr]; exact wr_in (by omega)
  rw [hw]
  by_cases hu : n.used + needR p (n.nd i) (n.nd (meetR n i)) ≤ n.cap
  case neg => rw [if_pos (by omega)]; exact .full hG p hM hr hu
  rw [if_neg (by omega)]
  refine .done hG p _ ⟨hM,hr,?_,hu,rfl,?_⟩
  · cases hsw : p.sw <;> rw [hsw] at hX <;> exact hX
  · cases hsw : p.sw with
    | false =>
      rw [hsw] at hX
      have hnr : needR p (n.nd i) (n.nd (meetR n i)) = needX p (n.nd i) (n.nd (meetR n i)) := by unfold needR; rw [hsw]; rfl
      rw [hnr] at hu ⊢
      exact step_ok hM hX hu
    | true =>
      rw [hsw] at hX
      have hnr : needR p (n.nd i) (n.nd (meetR n i)) = needX p (n.nd (meetR n i)) (n.nd i) := by unfold needR; rw [hsw]; rfl
      rw [hnr] at hu ⊢
      exact (step_ok hM.swap hX hu).swap
end Go.Proofs.YtmlhgalboabjcaaGreat
end
section
set_option linter.unusedSimpArgs false
set_option linter.unusedVariables false
set_option maxHeartbeats 4000000
set_option maxRecDepth 10000
namespace Go.Proofs.YtmlhgalboabjcaaGreat
open Go.Fx
def Nt.step (n : Nt) (i j : Nat) : Prop := ∃ x q,n.ns[i]? = some x ∧ q ∈ x.to ∧ q.n = (j : Int)
inductive Rch (n : Nt) : Nat → Prop
  | root : Rch n 0
  | step {i j : Nat} : Rch n i → n.step i j → Rch n j
def cntF (l : List Bool) : Nat := l.countP fun b => !b
theorem cntF_set : ∀ {l : List Bool} {i : Nat},l[i]? = some false → cntF (l.set i true) + 1 = cntF l
  | [],i,h => by simp at h
  | b :: l,0,h => by
    simp only [List.getElem?_cons_zero,Option.some.injEq] at h; subst h
    simp [cntF,List.countP_cons]
  | b :: l,i + 1,h => by
    simp only [List.getElem?_cons_succ] at h
    have := cntF_set h
    simp only [cntF,List.set_cons_succ,List.countP_cons] at this ⊢
    omega
theorem cntF_le (l : List Bool) : cntF l ≤ l.length := List.countP_le_length
def MS (rows : List (List PV)) (km ks : Key) (W : List Int) (seen : List Bool) (σ : St) : Prop :=
  km.2 < σ.clk ∧ ks.2 < σ.clk ∧ km ≠ ks ∧ σ.bs ks = some (.row 1 4 (seen.map encB)) ∧
  ∃ wv,σ.bs km = some (.var [.p (.l rows),.own ks 0 seen.length,wv]) ∧
    (wv = .nil ∧ W = [] ∨ ∃ (kw : Key) (full : List Int),wv = .own kw 0 W.length ∧ σ.bs kw = some (.row 1 3 (full.map encI)) ∧ full.take W.length = W ∧ W.length ≤ full.length ∧ kw ≠ km ∧ kw ≠ ks ∧ kw.2 < σ.clk)
theorem MS_put {rows : List (List PV)} {km ks : Key} {W : List Int} {seen : List Bool} {σ : St} (h : MS rows km ks W seen σ) (d : Nat) (k : Nat) (b b' : Blk) (hk : k = σ.clk) : MS rows km ks W seen ((σ.add d b).put (d,k) b') := by
  subst hk
  obtain ⟨h1,h2,h3,h4,wv,h5,h6⟩ := h
  have ne : ∀ s : Key,s.2 < σ.clk → ¬ s = (d,σ.clk) := by rintro s hs rfl; exact Nat.lt_irrefl _ hs
  refine ⟨by simp only [put_clk,add_clk]; omega,by simp only [put_clk,add_clk]; omega,h3,by simp only [put_bs,add_bs,ne ks h2,if_false]; exact h4,wv,by simp only [put_bs,add_bs,ne km h1,if_false]; exact h5,?_⟩
  rcases h6 with h6 | ⟨kw,full,e1,e2,e3,e4,e5,e6,e7⟩
  · exact .inl h6
  · exact .inr ⟨kw,full,e1,by simp only [put_bs,add_bs,ne kw e7,if_false]; exact e2,e3,e4,e5,e6,by simp only [put_clk,add_clk]; omega⟩
theorem mark_ok {rows : List (List PV)} {km ks : Key} {W : List Int} {seen : List Bool} {σ : St} {i : Nat} {b : Bool} (h : MS rows km ks W seen σ) (hi : seen[i]? = some b) (hb : W.length * 8 + 8 ≤ 140737488355328) :
    ∃ v σ',eS S (.f 134) [.a (.ptr km 0 0),.a (.p (.i .i64 (i : Nat)))] σ = some (v,σ') ∧ v = .u ∧ MS rows km ks (if b then W else W ++ [(i : Int)]) (if b then seen else seen.set i true) σ' := by
  have h0 := h
  obtain ⟨h1,h2,h3,h4,wv,h5,h6⟩ := h
  have hil := (List.getElem?_eq_some_iff.1 hi).1
  have hi' := mapGet encB hi
  have hlt : ((i : Nat) : Int) < (seen.length : Int) := by omega
  have hge : (0 : Int) ≤ ((i : Nat) : Int) := by omega
  have ne1 : ∀ s : Key,s.2 < σ.clk → ∀ d j,¬ s = (d,σ.clk + j) := by rintro s hs d j rfl; simp at hs; omega
  have ne0 : ∀ s : Key,s.2 < σ.clk → ∀ d,¬ s = (d,σ.clk) := by rintro s hs d rfl; simp at hs
  have h3' : ¬ ks = km := fun e => h3 e.symm
  refine x_fnS (fc := F134) rfl rfl ?_
  cases b with
  | true =>
    simp only [encB] at hi'
    simp only [F134,h5,h4,hlt,hge,hi',rowK,encB,fxa,fxc,fxE,fxL,fxI,nxE,evO,evR,cellsT,ldCells,mkT,lenA,binPV,Env.init,resV,resT,frT,klT,ownT,intT,O.adds,ownA,rowsA,over,wrOk,keysT,keysA,ne_eq,if_true,if_false,ite_self,Nat.reduceLT,Nat.reduceSub,Nat.reduceBEq,Nat.reduceEqDiff,Nat.reduceAdd,Nat.reduceLeDiff,reduceCtorEq,Nat.reduceMul]
    exact h0
  | false =>
    simp only [encB] at hi'
    have hset : (seen.map encB).set i [.b true] = (seen.set i true).map encB := by rw [List.map_set]; rfl
    have hl : (seen.set i true).length = seen.length := by simp
    rcases h6 with ⟨rfl,rfl⟩ | ⟨kw,full,rfl,e2,e3,e4,e5,e6,e7⟩
    · simp only [F134,h5,h4,hlt,hge,hi',hset,h3,h3',ne0 km h1,ne0 ks h2,ne1 km h1,ne1 ks h2,rowK,encB,Nat.zero_add,Nat.one_mul,Nat.reduceLeDiff,Nat.zero_lt_one,Bool.false_eq_true,Int.toNat_natCast,fxa,fxc,fxE,fxL,fxI,nxE,evO,evR,cellsT,ldCells,mkT,lenA,binPV,Env.init,resV,resT,frT,klT,ownT,intT,O.adds,ownA,rowsA,over,wrOk,keysT,keysA,ne_eq,if_true,if_false,ite_self,Nat.reduceLT,Nat.reduceSub,Nat.reduceBEq,Nat.reduceEqDiff,Nat.reduceAdd,Nat.reduceLeDiff,reduceCtorEq,Nat.reduceMul]
      refine ⟨by simp only [put_clk,add_clk]; omega,by simp only [put_clk,add_clk]; omega,h3,by simp only [put_bs,add_bs,kill_bs,add_clk,put_clk,h3',ne0 ks h2,ne1 ks h2,kill_clk,if_false,if_true],.own (24,σ.clk + 1) 0 1,by simp only [put_bs,if_true,hl],.inr ⟨(24,σ.clk + 1),[(i : Int)],rfl,?_,rfl,by simp,?_,?_,by simp only [put_clk,add_clk]; omega⟩⟩
      · simp only [put_bs,add_bs,add_clk,put_clk,if_true,encI,List.map_cons,List.map_nil]
        rw [if_neg (fun e => ne1 km h1 24 1 e.symm)]
      · exact fun e => ne1 km h1 24 1 e.symm
      · exact fun e => ne1 ks h2 24 1 e.symm
    · have htk : List.take W.length (full.map encI) = W.map encI := by rw [← List.map_take,e3]
      have hb2 : (W.length + 1) * 8 ≤ 140737488355328 := by omega
      have e6' : ¬ ks = kw := fun e => e6 e.symm
      have e5' : ¬ km = kw := fun e => e5 e.symm
      simp only [F134,h5,h4,e2,e4,htk,hb2,hlt,hge,hi',hset,h3,h3',e5,e6,e5',e6',ne0 km h1,ne0 ks h2,ne0 kw e7,ne1 km h1,ne1 ks h2,ne1 kw e7,rowK,encB,List.length_map,Nat.zero_add,Nat.one_mul,Nat.reduceLeDiff,Nat.zero_lt_one,Bool.false_eq_true,Int.toNat_natCast,fxa,fxc,fxE,fxL,fxI,nxE,evO,evR,cellsT,ldCells,mkT,lenA,binPV,Env.init,resV,resT,frT,klT,ownT,intT,O.adds,ownA,rowsA,over,wrOk,keysT,keysA,ne_eq,if_true,if_false,ite_self,Nat.reduceLT,Nat.reduceSub,Nat.reduceBEq,Nat.reduceEqDiff,Nat.reduceAdd,Nat.reduceLeDiff,reduceCtorEq,Nat.reduceMul]
      refine ⟨by simp only [put_clk,add_clk,kill_clk]; omega,by simp only [put_clk,add_clk,kill_clk]; omega,h3,by simp only [put_bs,add_bs,kill_bs,add_clk,put_clk,kill_clk,h3',e6',ne0 ks h2,ne1 ks h2,if_false,if_true],.own (24,σ.clk + 1) 0 (W.length + 1),by simp only [put_bs,if_true,hl],.inr ⟨(24,σ.clk + 1),W ++ [(i : Int)],by simp,?_,List.take_of_length_le (by simp),by simp,?_,?_,by simp only [put_clk,add_clk,kill_clk]; omega⟩⟩
      · simp only [put_bs,add_bs,add_clk,put_clk,kill_clk,kill_bs,if_true,encI,List.map_cons,List.map_nil,List.map_append]
        rw [if_neg (fun e => ne1 km h1 24 1 e.symm)]
      · exact fun e => ne1 km h1 24 1 e.symm
      · exact fun e => ne1 ks h2 24 1 e.symm
end Go.Proofs.YtmlhgalboabjcaaGreat
end
section
set_option linter.unusedSimpArgs false
set_option linter.unusedVariables false
set_option maxHeartbeats 4000000
set_option maxRecDepth 10000
namespace Go.Proofs.YtmlhgalboabjcaaGreat
open Go.Fx
theorem set_true {l : List Bool} {i j : Nat} (h : l[j]? = some true) : (l.set i true)[j]? = some true := by
  rw [List.getElem?_set]
  have hj := (List.getElem?_eq_some_iff.1 h).1
  split
  · rename_i e; subst e; rw [if_pos hj]
  · exact h
theorem of_set_true {l : List Bool} {i j : Nat} (h : (l.set i true)[j]? = some true) : i = j ∨ l[j]? = some true := by
  rw [List.getElem?_set] at h
  split at h
  · rename_i e; exact .inl e
  · exact .inr h
structure RJ (n : Nt) (seen : List Bool) (W : List Int) (a : Option (Nat × Nat)) : Prop where
  len : seen.length = n.ns.length
  rch : ∀ i,seen[i]? = some true → Rch n i
  root : seen[0]? = some true
  wt : ∀ w,w ∈ W → ∃ i : Nat,w = (i : Int) ∧ seen[i]? = some true
  cl : ∀ i : Nat,seen[i]? = some true → (i : Int) ∉ W → (∀ p,a ≠ some (i,p)) → ∀ j,n.step i j → seen[j]? = some true
  at1 : ∀ i p,a = some (i,p) → seen[i]? = some true ∧ ∀ x m q,n.ns[i]? = some x → m < p → x.to[m]? = some q → ∀ j : Nat,q.n = (j : Int) → seen[j]? = some true
theorem RJ.mark {n : Nt} {seen : List Bool} {W : List Int} {a p j : Nat} {x : Nd} {q : Pt} {b : Bool} (h : RJ n seen W (some (a,p))) (hx : n.ns[a]? = some x) (hq : x.to[p]? = some q) (hj : q.n = (j : Int)) (hb : seen[j]? = some b) :
    RJ n (if b then seen else seen.set j true) (if b then W else W ++ [(j : Int)]) (some (a,p + 1)) := by
  have hstep : n.step a j := ⟨x,q,hx,List.mem_of_getElem? hq,hj⟩
  have hjl := (List.getElem?_eq_some_iff.1 hb).1
  have hat := (h.at1 a p rfl).1
  cases b with
  | true =>
    refine ⟨h.len,h.rch,h.root,h.wt,fun i hi hw hn => h.cl i hi hw (fun p' e => ?_),fun i p' e => ?_⟩
    · simp only [Option.some.injEq,Prod.mk.injEq] at e; exact hn (p + 1) (by rw [e.1])
    · simp only [Option.some.injEq,Prod.mk.injEq] at e
      obtain ⟨rfl,rfl⟩ := e
      refine ⟨hat,fun y m r hy hm hr k hk => ?_⟩
      by_cases e : m = p
      · subst e; rw [hx] at hy; rw [← Option.some.inj hy,hq] at hr; rw [← Option.some.inj hr,hj] at hk
        have : j = k := by omega
        rw [← this]; exact hb
      · exact (h.at1 a p rfl).2 y m r hy (by omega) hr k hk
  | false =>
    refine ⟨by simpa using h.len,fun i hi => ?_,set_true h.root,fun w hw => ?_,fun i hi hw hn k hk => ?_,fun i p' e => ?_⟩
    · rcases of_set_true hi with rfl | hi
      · exact .step (h.rch a hat) hstep
      · exact h.rch i hi
    · rcases List.mem_append.1 hw with hw | hw
      · obtain ⟨i,e,hi⟩ := h.wt w hw; exact ⟨i,e,set_true hi⟩
      · simp only [List.mem_cons,List.not_mem_nil,or_false] at hw
        exact ⟨j,hw,by simp [List.getElem?_set,hjl]⟩
    · rcases of_set_true hi with rfl | hi
      · exact absurd (List.mem_append_right _ (by simp)) hw
      · exact set_true (h.cl i hi (fun hm => hw (List.mem_append_left _ hm)) (fun p' e => by
          simp only [Option.some.injEq,Prod.mk.injEq] at e; exact hn (p + 1) (by rw [e.1])) k hk)
    · simp only [Option.some.injEq,Prod.mk.injEq] at e
      obtain ⟨rfl,rfl⟩ := e
      refine ⟨set_true hat,fun y m r hy hm hr k hk => ?_⟩
      by_cases e : m = p
      · subst e; rw [hx] at hy; rw [← Option.some.inj hy,hq] at hr; rw [← Option.some.inj hr,hj] at hk
        have : j = k := by omega
        rw [← this]; simp [List.getElem?_set,hjl]
      · exact set_true ((h.at1 a p rfl).2 y m r hy (by omega) hr k hk)
theorem RJ.done {n : Nt} {seen : List Bool} (h : RJ n seen [] none) : seen = (List.range n.ns.length).map fun i => bool (Rch n i) := by
  have hall : ∀ i,Rch n i → seen[i]? = some true := by
    intro i hi
    induction hi with
    | root => exact h.root
    | step _ hs ih => exact h.cl _ ih (by simp) (by simp) _ hs
  refine list_ext (by simp [h.len]) fun j hj => ?_
  have hj2 := h.len
  obtain ⟨b,hb⟩ : ∃ b,seen[j]? = some b := ⟨_,List.getElem?_eq_getElem hj⟩
  rw [hb,List.getElem?_map,List.getElem?_range (by omega)]
  simp only [Option.map_some,Option.some.injEq]
  cases b with
  | true => exact (bool_t (h.rch j hb)).symm
  | false => exact (bool_f fun hr => by rw [hall j hr] at hb; cases hb).symm
def mu (seen : List Bool) (W : List Int) : Nat := 2 * cntF seen + W.length
theorem mu_mark {seen : List Bool} {W : List Int} {j : Nat} {b : Bool} (hb : seen[j]? = some b) : mu (if b then seen else seen.set j true) (if b then W else W ++ [(j : Int)]) ≤ mu seen W := by
  cases b with
  | true => exact Nat.le_refl _
  | false =>
    have := cntF_set hb
    simp only [mu,Bool.false_eq_true,if_false,List.length_append,List.length_cons,List.length_nil]; omega
theorem good_q {n : Nt} (hG : n.Good) {i p : Nat} {x : Nd} {q : Pt} (hx : n.ns[i]? = some x) (hq : x.to[p]? = some q) : ∃ j : Nat,q.n = (j : Int) ∧ j < n.ns.length := by
  have h := has_iff.1 ((hG.nds i x hx).2.2.2 p q hq).2.1
  exact ⟨q.n.toNat,by omega,by omega⟩
theorem all_ok {n : Nt} (hn : n.Ok) (hG : n.Good) {km ks : Key} {σ : St} (h : MS (n.ns.map encN) km ks [] (List.replicate n.ns.length false) σ) :
    ∃ v σ',eS S (.f 96) [.a (.ptr km 0 0),.a (.p (.i .i64 0))] σ = some (v,σ') ∧ v = .u ∧ MS (n.ns.map encN) km ks [] ((List.range n.ns.length).map fun i => bool (Rch n i)) σ' := by
  have hns := hn.ns
  have hl1 := hG.ln1
  have hb0 : (List.replicate n.ns.length false)[0]? = some false := by rw [List.getElem?_replicate,if_pos (by omega)]
  obtain ⟨_,σ1,hc1,rfl,hM1⟩ := mark_ok h hb0 (by simp)
  simp only [Bool.false_eq_true,if_false,List.nil_append] at hM1
  have hJ1 : RJ n ((List.replicate n.ns.length false).set 0 true) [((0 : Nat) : Int)] none := by
    have hf : ∀ i : Nat,((List.replicate n.ns.length false).set 0 true)[i]? = some true → i = 0 := by
      intro i hi
      rcases of_set_true hi with rfl | hi
      · rfl
      · rw [List.getElem?_replicate] at hi; split at hi <;> simp at hi
    refine ⟨by simp,fun i hi => ?_,by rw [List.getElem?_set,if_pos rfl,if_pos (by simp; omega)],fun w hw => ?_,fun i hi hw => ?_,fun i p e => by cases e⟩
    · rw [hf i hi]; exact .root
    · simp only [List.mem_cons,List.not_mem_nil,or_false] at hw
      exact ⟨0,hw,by rw [List.getElem?_set,if_pos rfl,if_pos (by simp; omega)]⟩
    · rw [hf i hi] at hw; simp at hw
  have hm1 : mu ((List.replicate n.ns.length false).set 0 true) [((0 : Nat) : Int)] ≤ 2 * n.ns.length := by
    have := cntF_set hb0
    have h2 := cntF_le (List.replicate n.ns.length false)
    simp only [List.length_replicate] at h2
    simp only [mu,List.length_cons,List.length_nil]; omega
  refine x_fnS (fc := F96) rfl rfl ?_
  have hc1 : eS S (.f 134) [.a (.ptr km 0 0),.a (.p (.i .i64 0))] σ = some (.u,σ1) := hc1
  simp only [F96,hc1,frA_ptr,fxa,fxc,fxE,fxL,fxI,nxE,evO,evR,cellsT,ldCells,mkT,lenA,binPV,Env.init,resV,resT,frT,klT,ownT,intT,O.adds,ownA,rowsA,over,wrOk,keysT,keysA,ne_eq,if_true,if_false,ite_self,Nat.reduceLT,Nat.reduceSub,Nat.reduceBEq,Nat.reduceEqDiff,Nat.reduceAdd,Nat.reduceLeDiff,reduceCtorEq,Nat.reduceMul]
  refine wp_loop_ind (fun k e σ => ∃ W seen,e 0 = .a (.ptr km 0 0) ∧ MS (n.ns.map encN) km ks W seen σ ∧ RJ n seen W none ∧ mu seen W = k ∧ k ≤ 2 * n.ns.length) ?_ _ _ _ ⟨_,_,?_,hM1,hJ1,rfl,hm1⟩
  case refine_2 => simp only [fxa,fxc,fxE,fxL,fxI,nxE,evO,evR,cellsT,ldCells,mkT,lenA,binPV,Env.init,resV,resT,frT,klT,ownT,intT,O.adds,ownA,rowsA,over,wrOk,keysT,keysA,ne_eq,if_true,if_false,ite_self,Nat.reduceLT,Nat.reduceSub,Nat.reduceBEq,Nat.reduceEqDiff,Nat.reduceAdd,Nat.reduceLeDiff,reduceCtorEq,Nat.reduceMul]
  rintro k e σ ⟨W,seen,e0,hM,hJ,hmu,hk⟩
  have hcat : W = [] ∨ ∃ L b,W = L ++ [b] := by
    rcases List.eq_nil_or_concat W with h | ⟨L,b,h⟩
    · exact .inl h
    · exact .inr ⟨L,b,by rw [h,List.concat_eq_append]⟩
  rcases hcat with rfl | ⟨W0,w,rfl⟩
  · have hMM := hM
    rw [hJ.done] at hMM
    obtain ⟨h1,h2,h3,h4,wv,h5,h6⟩ := hM
    have hgt : ¬ ((0 : Nat) : Int) > 0 := by simp
    rcases h6 with ⟨rfl,_⟩ | ⟨kw,full,rfl,g2,g3,g4,g5,g6,g7⟩
    · simp only [F96b0,e0,h5,hgt,fxa,fxc,fxE,fxL,fxI,nxE,evO,evR,cellsT,ldCells,mkT,lenA,binPV,Env.init,resV,resT,frT,klT,ownT,intT,O.adds,ownA,rowsA,over,wrOk,keysT,keysA,ne_eq,if_true,if_false,ite_self,Nat.reduceLT,Nat.reduceSub,Nat.reduceBEq,Nat.reduceEqDiff,Nat.reduceAdd,Nat.reduceLeDiff,reduceCtorEq,Nat.reduceMul]
      exact hMM
    · simp only [F96b0,e0,h5,hgt,List.length_nil,fxa,fxc,fxE,fxL,fxI,nxE,evO,evR,cellsT,ldCells,mkT,lenA,binPV,Env.init,resV,resT,frT,klT,ownT,intT,O.adds,ownA,rowsA,over,wrOk,keysT,keysA,ne_eq,if_true,if_false,ite_self,Nat.reduceLT,Nat.reduceSub,Nat.reduceBEq,Nat.reduceEqDiff,Nat.reduceAdd,Nat.reduceLeDiff,reduceCtorEq,Nat.reduceMul]
      exact hMM
  · obtain ⟨h1,h2,h3,h4,wv,h5,h6⟩ := hM
    rcases h6 with ⟨_,h6⟩ | ⟨kw,full,rfl,g2,g3,g4,g5,g6,g7⟩
    · simp at h6
    obtain ⟨a,rfl,ha⟩ := hJ.wt w (by simp)
    obtain ⟨L,hL⟩ : ∃ L,W0.length = L := ⟨_,rfl⟩
    have hlen : (W0 ++ [(a : Int)]).length = L + 1 := by simp [hL]
    rw [hlen] at h5 g3 g4
    have hfl : full[L]? = some (a : Int) := by
      have : (full.take (L + 1))[L]? = some (a : Int) := by rw [g3,List.getElem?_append_right (by omega)]; simp [hL]
      rw [List.getElem?_take_of_lt (by omega)] at this; exact this
    have hf0 : full.take L = W0 := by
      have : (full.take (L + 1)).take L = W0 := by rw [g3,← hL]; simp
      rw [List.take_take] at this; rw [← this,Nat.min_eq_left (by omega)]
    have hfl' := mapGet encI hfl
    have hgt : ((L + 1 : Nat) : Int) > 0 := by omega
    have hw : IntKind.i64.wrap (((L + 1 : Nat) : Int) - 1) = (L : Int) := by
      have : 2 * cntF seen + (L + 1) = k := by rw [← hmu]; simp [mu,hL]
      rw [wrap_in _ (by omega)]; omega
    have hlt : (L : Int) < ((L + 1 : Nat) : Int) := by omega
    have hle : (L : Int) ≤ ((L + 1 : Nat) : Int) := by omega
    have hge : (0 : Int) ≤ (L : Int) := by omega
    have hal : a < n.ns.length := by have := (List.getElem?_eq_some_iff.1 ha).1; have := hJ.len; omega
    obtain ⟨x,hx⟩ : ∃ x,n.ns[a]? = some x := ⟨_,List.getElem?_eq_getElem hal⟩
    have hx' := mapGet encN hx
    have hlta : (a : Int) < (n.ns.length : Int) := by omega
    have hgea : (0 : Int) ≤ (a : Int) := by omega
    have hto := (hn.nd x (List.mem_of_getElem? hx)).to
    have g5' : ¬ km = kw := fun e => g5 e.symm
    have h3' : ¬ ks = km := fun e => h3 e.symm
    simp only [encI] at hfl'
    simp only [F96b0,e0,h5,g2,g5,g5',hgt,hw,hlt,hle,hge,hfl',hx',hlta,hgea,rowK,optInt,Int.toNat_zero,Int.le_refl,Nat.sub_zero,encI,fxa,fxc,fxE,fxL,fxI,nxE,evO,evR,cellsT,ldCells,mkT,lenA,binPV,Env.init,resV,resT,frT,klT,ownT,intT,O.adds,ownA,rowsA,over,wrOk,keysT,keysA,ne_eq,if_true,if_false,ite_self,Nat.reduceLT,Nat.reduceSub,Nat.reduceBEq,Nat.reduceEqDiff,Nat.reduceAdd,Nat.reduceLeDiff,reduceCtorEq,Nat.reduceMul]
    have hM2 : MS (n.ns.map encN) km ks W0 seen (σ.put km (.var [.p (.l (n.ns.map encN)),.own ks 0 seen.length,.own kw 0 L])) := by
      refine ⟨h1,h2,h3,by simp only [put_bs,h3',if_false]; exact h4,.own kw 0 L,by simp only [put_bs,if_true],.inr ⟨kw,full,by rw [hL],by simp only [put_bs,g5,if_false]; exact g2,by rw [hL]; exact hf0,by omega,g5,g6,g7⟩⟩
    have hJ2 : RJ n seen W0 (some (a,0)) := by
      refine ⟨hJ.len,hJ.rch,hJ.root,fun w hw => hJ.wt w (by simp [hw]),fun i hi hwi hna j hj => hJ.cl i hi (fun hm => ?_) (by simp) j hj,fun i p e => ?_⟩
      · rcases List.mem_append.1 hm with hm | hm
        · exact hwi hm
        · simp only [List.mem_cons,List.not_mem_nil,or_false] at hm
          exact hna 0 (by simp; omega)
      · simp only [Option.some.injEq,Prod.mk.injEq] at e
        obtain ⟨rfl,rfl⟩ := e
        exact ⟨ha,fun _ _ _ _ h => by omega⟩
    have hmu2 : mu seen W0 + 1 = k := by rw [← hmu]; simp [mu]; omega
    refine loop_nat x.to.length (fun p e σ => e 0 = .a (.ptr km 0 0) ∧ e 46 = .a (.p (.l (x.to.map encP))) ∧ e 47 = .a (.p (.i .i64 x.to.length)) ∧ e 48 = .a (.p (.i .i64 (p : Nat))) ∧ ∃ W seen,MS (n.ns.map encN) km ks W seen σ ∧ RJ n seen W (some (a,p)) ∧ mu seen W + 1 ≤ k) (i0 := 0) (Nat.zero_le _) ?_ ?_ ?_
    · refine ⟨?_,?_,?_,?_,W0,seen,hM2,hJ2,by omega⟩ <;> simp only [e0,fxa,fxc,fxE,fxL,fxI,nxE,evO,evR,cellsT,ldCells,mkT,lenA,binPV,Env.init,resV,resT,frT,klT,ownT,intT,O.adds,ownA,rowsA,over,wrOk,keysT,keysA,ne_eq,if_true,if_false,ite_self,Nat.reduceLT,Nat.reduceSub,Nat.reduceBEq,Nat.reduceEqDiff,Nat.reduceAdd,Nat.reduceLeDiff,reduceCtorEq,Nat.reduceMul]
      rfl
    · rintro p e σ hp ⟨e0,e46,e47,e48,W,seen,hM,hJ,hmu⟩
      obtain ⟨q,hq⟩ : ∃ q,x.to[p]? = some q := ⟨_,List.getElem?_eq_getElem hp⟩
      obtain ⟨j,hj,hjl⟩ := good_q hG hx hq
      obtain ⟨b,hb⟩ : ∃ b,seen[j]? = some b := ⟨_,List.getElem?_eq_getElem (by rw [hJ.len]; exact hjl)⟩
      have hJ' := hJ.mark hx hq hj hb
      have hmu' := mu_mark (W := W) hb
      have hWl : W.length ≤ 2 * n.ns.length := by have : W.length ≤ mu seen W := by unfold mu; omega
                                                  omega
      obtain ⟨qn,qs⟩ := q
      simp only at hj
      subst hj
      obtain ⟨_,σ3,hc3,rfl,hM3⟩ := mark_ok (MS_put hM 7 σ.clk (.var [.p (.i .i64 0),.p (.i .i64 0)]) (.var [.p (.i .i64 (j : Int)),.p (.i .i64 qs)]) rfl) hb (by omega)
      have hq' := mapGet encP hq
      have hlt2 : ((p : Nat) : Int) < (x.to.length : Int) := by omega
      have hge2 : (0 : Int) ≤ ((p : Nat) : Int) := by omega
      simp only [encP] at hq'
      simp only [F96b1,e0,e46,e47,e48,hlt2,hge2,hq',hc3,frA_ptr,fxa,fxc,fxE,fxL,fxI,nxE,evO,evR,cellsT,ldCells,mkT,lenA,binPV,Env.init,resV,resT,frT,klT,ownT,intT,O.adds,ownA,rowsA,over,wrOk,keysT,keysA,ne_eq,if_true,if_false,ite_self,Nat.reduceLT,Nat.reduceSub,Nat.reduceBEq,Nat.reduceEqDiff,Nat.reduceAdd,Nat.reduceLeDiff,reduceCtorEq,Nat.reduceMul]
      exact ⟨by rw [wrap_succ p (by omega)],_,_,hM3,hJ',by omega⟩
    · rintro e σ ⟨e0,e46,e47,e48,W,seen,hM,hJ,hmu⟩
      have hlt2 : ¬ ((x.to.length : Nat) : Int) < (x.to.length : Int) := by omega
      simp only [F96b1,e0,e46,e47,e48,hlt2,fxa,fxc,fxE,fxL,fxI,nxE,evO,evR,cellsT,ldCells,mkT,lenA,binPV,Env.init,resV,resT,frT,klT,ownT,intT,O.adds,ownA,rowsA,over,wrOk,keysT,keysA,ne_eq,if_true,if_false,ite_self,Nat.reduceLT,Nat.reduceSub,Nat.reduceBEq,Nat.reduceEqDiff,Nat.reduceAdd,Nat.reduceLeDiff,reduceCtorEq,Nat.reduceMul]
      refine ⟨mu seen W,by omega,W,seen,hM,⟨hJ.len,hJ.rch,hJ.root,hJ.wt,fun i hi hwi _ j hj => ?_,fun i p e => by cases e⟩,rfl,by omega⟩
      by_cases e : i = a
      · subst e
        obtain ⟨y,r,hy,hr,hrj⟩ := hj
        rw [hx] at hy
        rw [← Option.some.inj hy] at hr
        obtain ⟨m,hm⟩ := List.getElem?_of_mem hr
        exact (hJ.at1 i _ rfl).2 x m r hx (List.getElem?_eq_some_iff.1 hm).1 hm j hrj
      · exact hJ.cl i hi hwi (fun p' e' => by simp only [Option.some.injEq,Prod.mk.injEq] at e'; exact e e'.1.symm) j hj
theorem sReached_ok {n : Nt} (hn : n.Ok) (hG : n.Good) : eP S 54 [.g (encT n)] = some (.a (.l (((List.range n.ns.length).map fun i => bool (Rch n i)).map encB))) := by
  refine x_fn (orcS (by decide)) (fc := F54) rfl rfl ?_
  have hns := hn.ns
  obtain ⟨σ0,hσ0⟩ : ∃ σ0,σ0 = ((St.empty.add 1 (.var ((encT n).map .p))).add 9 (.row 1 4 (List.replicate n.ns.length [.b false]))).add 11 (.var [.p (.l (n.ns.map encN)),.own (9,1) 0 n.ns.length,.nil]) := ⟨_,rfl⟩
  have hM : MS (n.ns.map encN) (11,2) (9,1) [] (List.replicate n.ns.length false) σ0 := by
    rw [hσ0]
    refine ⟨by simp [add_clk,empty_clk],by simp [add_clk,empty_clk],by simp,by simp [add_bs,add_clk,empty_clk,encB],.nil,by simp [add_bs,add_clk,empty_clk],.inl ⟨rfl,rfl⟩⟩
  obtain ⟨_,σ1,hcall,rfl,h1,h2,h3,h4,wv,h5,h6⟩ := all_ok hn hG hM
  rw [hσ0] at hcall
  have hbb : (n.ns.length : Int) * 1 ≤ 140737488355328 := by omega
  have hge : (0 : Int) ≤ (n.ns.length : Int) := by omega
  have hl : ((List.range n.ns.length).map fun i => bool (Rch n i)).length = n.ns.length := by simp
  rw [hl] at h5
  have htk : List.take n.ns.length (((List.range n.ns.length).map fun i => bool (Rch n i)).map encB) = ((List.range n.ns.length).map fun i => bool (Rch n i)).map encB := List.take_of_length_le (by simp)
  simp only [encT,List.map_cons,List.map_nil] at hcall
  simp only [F54,hcall,frA_ptr,hbb,hge,h4,h5,htk,List.length_range,Int.cast_ofNat_Int,Int.le_refl,Int.toNat_natCast,Nat.le_refl,fxa,fxc,fxE,fxL,fxI,nxE,evO,evR,cellsT,ldCells,mkT,lenA,binPV,Env.init,resV,resT,frT,klT,ownT,intT,O.adds,ownA,rowsA,over,wrOk,keysT,keysA,ne_eq,if_true,if_false,ite_self,Nat.reduceLT,Nat.reduceSub,Nat.reduceBEq,Nat.reduceEqDiff,Nat.reduceAdd,Nat.reduceLeDiff,reduceCtorEq,Nat.reduceMul]
end Go.Proofs.YtmlhgalboabjcaaGreat
end
section
set_option linter.unusedSimpArgs false
set_option linter.unusedVariables false
set_option maxHeartbeats 4000000
set_option maxRecDepth 10000
namespace Go.Proofs.YtmlhgalboabjcaaGreat
open Go.Fx
structure RK (n : Nt) (seen : List Bool) : Prop where
  len : seen.length = n.ns.length
  rch : ∀ i,seen[i]? = some true → Rch n i
  root : seen[0]? = some true
def clAt (n : Nt) (seen : List Bool) (i : Nat) : Prop := seen[i]? = some true → ∀ j,n.step i j → seen[j]? = some true
theorem RK.done {n : Nt} {seen : List Bool} (h : RK n seen) (hc : ∀ i,i < n.ns.length → clAt n seen i) : seen = (List.range n.ns.length).map fun i => bool (Rch n i) :=
  RJ.done ⟨h.len,h.rch,h.root,fun w hw => by simp at hw,fun i hi _ _ => hc i (by have := (List.getElem?_eq_some_iff.1 hi).1; have := h.len; omega) hi,fun i p e => by cases e⟩
theorem RK.set {n : Nt} {seen : List Bool} {i j : Nat} (h : RK n seen) (hi : seen[i]? = some true) (hs : n.step i j) : RK n (seen.set j true) :=
  ⟨by simpa using h.len,fun k hk => by
    rcases of_set_true hk with rfl | hk
    · exact .step (h.rch i hi) hs
    · exact h.rch k hk,set_true h.root⟩
end Go.Proofs.YtmlhgalboabjcaaGreat
end
section
set_option linter.unusedSimpArgs false
set_option linter.unusedVariables false
set_option maxHeartbeats 4000000
set_option maxRecDepth 10000
namespace Go.Proofs.YtmlhgalboabjcaaGreat
open Go.Fx
theorem rch_k {n : Nt} (hG : n.Good) {i : Nat} (h : Rch n i) : ∃ x,n.ns[i]? = some x ∧ x.k ≠ 0 := by
  cases h with
  | root => obtain ⟨x,hx,h1⟩ := good_root hG; exact ⟨x,hx,by omega⟩
  | step h1 h2 =>
    obtain ⟨y,q,hy,hq,hj⟩ := h2
    obtain ⟨p,hp⟩ := List.getElem?_of_mem hq
    have h3 := has_iff.1 ((hG.nds _ y hy).2.2.2 p q hp).2.1
    rw [hj] at h3
    obtain ⟨x,hx⟩ : ∃ x,n.ns[i]? = some x := ⟨_,List.getElem?_eq_getElem (by omega)⟩
    rw [nd_get hx] at h3
    obtain ⟨r,hr⟩ : ∃ r,x.to[q.s.toNat]? = some r := ⟨_,List.getElem?_eq_getElem (by omega)⟩
    exact ⟨x,hx,good_no_k hG hx hr⟩
noncomputable def clrFrom (n : Nt) (k : Nat) : List Nd := (List.range n.ns.length).map fun i => if k ≤ i ∧ bool (Rch n i) = false then zN else n.ns.getD i zN
noncomputable def Nt.swept (n : Nt) : Nt := ⟨trim (clrFrom n 0),n.cap⟩
theorem clr_len (n : Nt) (k : Nat) : (clrFrom n k).length = n.ns.length := by simp [clrFrom]
theorem clr_get {n : Nt} {k i : Nat} {x : Nd} (hx : n.ns[i]? = some x) : (clrFrom n k)[i]? = some (if k ≤ i ∧ bool (Rch n i) = false then zN else x) := by
  unfold clrFrom
  rw [List.getElem?_map,List.getElem?_range (List.getElem?_eq_some_iff.1 hx).1]
  simp only [Option.map_some,getD_of hx]
theorem clr_all (n : Nt) : clrFrom n n.ns.length = n.ns := by
  refine list_ext (clr_len n _) fun j hj => ?_
  rw [clr_len] at hj
  obtain ⟨x,hx⟩ : ∃ x,n.ns[j]? = some x := ⟨_,List.getElem?_eq_getElem hj⟩
  rw [clr_get hx,if_neg (by omega),hx]
theorem clr_same {n : Nt} {a : Nat} {x : Nd} (hx : n.ns[a]? = some x) (h : Rch n a ∨ x = zN) : clrFrom n a = clrFrom n (a + 1) := by
  refine list_ext (by rw [clr_len,clr_len]) fun j hj => ?_
  rw [clr_len] at hj
  obtain ⟨y,hy⟩ : ∃ y,n.ns[j]? = some y := ⟨_,List.getElem?_eq_getElem hj⟩
  rw [clr_get hy,clr_get hy]
  by_cases e : j = a
  · subst e
    rw [hx] at hy
    rw [← Option.some.inj hy]
    rw [if_neg (c := j + 1 ≤ j ∧ _) (by omega)]
    rcases h with h | h
    · rw [bool_t h,if_neg (by simp)]
    · rw [h]; simp
  · have : (a ≤ j ↔ a + 1 ≤ j) := by omega
    simp only [this]
theorem clr_set {n : Nt} {a : Nat} {x : Nd} (hx : n.ns[a]? = some x) (h : ¬ Rch n a) : (clrFrom n (a + 1)).set a zN = clrFrom n a := by
  refine list_ext (by rw [List.length_set,clr_len,clr_len]) fun j hj => ?_
  rw [List.length_set,clr_len] at hj
  obtain ⟨y,hy⟩ : ∃ y,n.ns[j]? = some y := ⟨_,List.getElem?_eq_getElem hj⟩
  rw [List.getElem?_set,clr_get hy,clr_get hy]
  by_cases e : a = j
  · subst e; rw [if_pos rfl,clr_len,if_pos hj,bool_f h,if_pos (by simp)]
  · rw [if_neg e]
    have : (a ≤ j ↔ a + 1 ≤ j) := by omega
    simp only [this]
theorem tl_skip {l : List Nd} {t : Nat} : ∀ k,t ≤ k → (∀ i,t ≤ i → i < k → (l.getD i zN).k = 0) → tl l k = tl l t
  | 0,h,_ => by rw [show t = 0 by omega]
  | k + 1,h,hf => by
    by_cases e : t = k + 1
    · rw [e]
    · have : isFree (l.getD k zN) = true := by simpa [isFree] using hf k (by omega) (by omega)
      rw [tl,if_pos this]
      exact tl_skip k (by omega) fun i h1 h2 => hf i h1 (by omega)
theorem tl_take {l : List Nd} {t : Nat} : ∀ k,k ≤ t → tl (l.take t) k = tl l k
  | 0,_ => rfl
  | k + 1,h => by
    have : (l.take t).getD k zN = l.getD k zN := by rw [List.getD_eq_getElem?_getD,List.getD_eq_getElem?_getD,List.getElem?_take_of_lt (by omega)]
    rw [tl,tl,this,tl_take k (by omega)]
theorem trim_take {l : List Nd} {t : Nat} (ht : t ≤ l.length) (h : ∀ i,t ≤ i → i < l.length → (l.getD i zN).k = 0) : trim (l.take t) = trim l := by
  unfold trim
  rw [List.length_take,Nat.min_eq_left ht,tl_take t (Nat.le_refl _),tl_skip l.length ht h,List.take_take,Nat.min_eq_left (tl_le l t)]
theorem trim_set {l : List Nd} {a : Nat} (ha : a < (trim l).length) : trim ((trim l).set a zN) = trim (l.set a zN) := by
  have e : (trim l).set a zN = (l.set a zN).take (tl l l.length) := by unfold trim; rw [List.take_set]
  rw [e]
  rw [trim_len] at ha
  refine trim_take (by rw [List.length_set]; exact tl_le _ _) fun i h1 h2 => ?_
  rw [List.length_set] at h2
  have := tl_free l l.length i h1 h2
  rw [List.getD_eq_getElem?_getD,List.getElem?_set_ne (by omega),← List.getD_eq_getElem?_getD]; exact this
theorem trim_lt {l : List Nd} {a : Nat} {x : Nd} (hx : l[a]? = some x) (hk : x.k ≠ 0) : a < (trim l).length := by
  rw [trim_len]
  by_cases h : a < tl l l.length
  · exact h
  · exfalso
    have := tl_free l l.length a (by omega) (List.getElem?_eq_some_iff.1 hx).1
    rw [getD_of hx] at this; exact hk this
theorem mem_clr {n : Nt} {k : Nat} {x : Nd} (h : x ∈ clrFrom n k) : x = zN ∨ x ∈ n.ns := by
  unfold clrFrom at h
  obtain ⟨i,hi,rfl⟩ := List.mem_map.1 h
  split
  · exact .inl rfl
  · right
    rw [List.getD_eq_getElem?_getD,List.getElem?_eq_getElem (List.mem_range.1 hi)]; exact List.getElem_mem _
theorem clr_Ok {n : Nt} (hn : n.Ok) (k : Nat) : (⟨trim (clrFrom n k),n.cap⟩ : Nt).Ok := by
  have h1 := trim_le (clrFrom n k)
  rw [clr_len] at h1
  have h2 := hn.ns
  refine ⟨?_,hn.cap,fun x hx => ?_⟩
  · show (trim (clrFrom n k)).length * 88 ≤ _; omega
  · rcases mem_clr (mem_trim hx) with rfl | h
    · exact zN_ok
    · exact hn.nd x h
theorem sSweep_ok {n : Nt} (hn : n.Ok) : eP S 36 [.g (encT n)] = some (.g (encT (if bool n.Good then n.swept else n))) := by
  refine x_fn (orcS (by decide)) (fc := F36) rfl rfl ?_
  have hns := hn.ns
  have c1 := sCheck_ok hn
  by_cases hG : n.Good
  case neg =>
    rw [bool_f hG] at c1 ⊢
    simp only [Bool.false_eq_true,if_false,encT] at c1
    simp only [F36,c1,Int.reduceEq,fxa,fxc,fxE,fxL,fxI,nxE,evO,evR,cellsT,ldCells,mkT,lenA,binPV,Env.init,resV,resT,frT,klT,ownT,intT,O.adds,ownA,rowsA,over,wrOk,keysT,keysA,ne_eq,if_true,if_false,ite_self,Nat.reduceLT,Nat.reduceSub,Nat.reduceBEq,Nat.reduceEqDiff,Nat.reduceAdd,Nat.reduceLeDiff,reduceCtorEq,Nat.reduceMul]
  rw [bool_t hG] at c1 ⊢
  have c2 := sReached_ok hn hG
  have hb := good_big hG
  have hl1 := hG.ln1
  simp only [if_true,encT] at c1 c2
  obtain ⟨rows,hrows⟩ : ∃ rows,((List.range n.ns.length).map fun i => bool (Rch n i)).map encB = rows := ⟨_,rfl⟩
  have hrl : rows.length = n.ns.length := by rw [← hrows]; simp
  have hrg : ∀ i,i < n.ns.length → rows[i]? = some [.b (bool (Rch n i))] := by
    intro i hi; rw [← hrows,List.getElem?_map,List.getElem?_map,List.getElem?_range hi]; rfl
  have hra : (rows.all fun r => decide (r.length = 1)) = true := by rw [← hrows]; simp [encB]
  have hw0 : IntKind.i64.wrap ((n.ns.length : Int) - 1) = (n.ns.length : Int) - 1 := wrap_in _ (by omega)
  rw [hrows] at c2
  have hsw : n.swept = ⟨trim (clrFrom n 1),n.cap⟩ := by
    obtain ⟨r,hr,_⟩ := good_root hG
    unfold Nt.swept; rw [clr_same hr (.inl .root)]
  rw [hsw]
  simp only [F36,c1,c2,hrl,hw0,fxa,fxc,fxE,fxL,fxI,nxE,evO,evR,cellsT,ldCells,mkT,lenA,binPV,Env.init,resV,resT,frT,klT,ownT,intT,O.adds,ownA,rowsA,over,wrOk,keysT,keysA,ne_eq,if_true,if_false,ite_self,Nat.reduceLT,Nat.reduceSub,Nat.reduceBEq,Nat.reduceEqDiff,Nat.reduceAdd,Nat.reduceLeDiff,reduceCtorEq,Nat.reduceMul]
  refine loop_nat (n.ns.length - 1) (fun q e σ => e 1 = .a (.ptr (1,0) 0 0) ∧ e 2 = .a (.ptr (2,1) 0 0) ∧ e 3 = .a (.p (.l (n.ns.map encN))) ∧ e 4 = .a (.p (.l rows)) ∧ e 5 = .a (.p (.i .i64 ((n.ns.length : Int) - 1 - (q : Nat)))) ∧
    σ.bs (1,0) = some (.var [.p (.l ((trim (clrFrom n (n.ns.length - q))).map encN)),.p (.i .i64 n.cap)]) ∧ σ.bs (2,1) = some (.var [.nil,.p (.i .i64 0)])) (i0 := 0) (Nat.zero_le _) ?_ ?_ ?_
  · refine ⟨?_,?_,?_,?_,?_,?_,?_⟩ <;> simp only [Nat.sub_zero,clr_all,good_trim hG,fxa,fxc,fxE,fxL,fxI,nxE,evO,evR,cellsT,ldCells,mkT,lenA,binPV,Env.init,resV,resT,frT,klT,ownT,intT,O.adds,ownA,rowsA,over,wrOk,keysT,keysA,ne_eq,if_true,if_false,ite_self,Nat.reduceLT,Nat.reduceSub,Nat.reduceBEq,Nat.reduceEqDiff,Nat.reduceAdd,Nat.reduceLeDiff,reduceCtorEq,Nat.reduceMul]
    simp
  · rintro q e σ hq ⟨e1,e2,e3,e4,e5,s1,s2⟩
    obtain ⟨a,ha⟩ : ∃ a,n.ns.length - q = a + 1 := ⟨n.ns.length - q - 1,by omega⟩
    have ha1 : 1 ≤ a := by omega
    have ha2 : n.ns.length - (q + 1) = a := by omega
    have ha3 : (n.ns.length : Int) - 1 - (q : Nat) = (a : Int) := by omega
    have ha4 : (n.ns.length : Int) - 1 - ((q + 1 : Nat) : Int) = (a : Int) - 1 := by omega
    have hal : a < n.ns.length := by omega
    rw [ha3] at e5
    rw [ha] at s1
    rw [ha2,ha4]
    obtain ⟨x,hx⟩ : ∃ x,n.ns[a]? = some x := ⟨_,List.getElem?_eq_getElem hal⟩
    have hx' := mapGet encN hx
    have hg := hrg a hal
    have hgt : (a : Int) > 0 := by omega
    have hlt : (a : Int) < (n.ns.length : Int) := by omega
    have hge : (0 : Int) ≤ (a : Int) := by omega
    have hw : IntKind.i64.wrap ((a : Int) - 1) = (a : Int) - 1 := wrap_in _ (by omega)
    by_cases hR : Rch n a
    · rw [bool_t hR] at hg
      rw [clr_same hx (.inl hR)]
      simp only [F36b0,e1,e2,e3,e4,e5,s1,s2,hgt,hlt,hge,hg,hrl,hra,hw,fxa,fxc,fxE,fxL,fxI,nxE,evO,evR,cellsT,ldCells,mkT,lenA,binPV,Env.init,resV,resT,frT,klT,ownT,intT,O.adds,ownA,rowsA,over,wrOk,keysT,keysA,ne_eq,if_true,if_false,ite_self,Nat.reduceLT,Nat.reduceSub,Nat.reduceBEq,Nat.reduceEqDiff,Nat.reduceAdd,Nat.reduceLeDiff,reduceCtorEq,Nat.reduceMul]
    · rw [bool_f hR] at hg
      by_cases hk : x.k = 0
      · have hz := free_zN (hG.nds a x hx).1 (hG.nds a x hx).2.1 hk
        rw [clr_same hx (.inr hz)]
        simp only [F36b0,e1,e2,e3,e4,e5,s1,s2,hgt,hlt,hge,hg,hrl,hra,hw,hx',hk,fxa,fxc,fxE,fxL,fxI,nxE,evO,evR,cellsT,ldCells,mkT,lenA,binPV,Env.init,resV,resT,frT,klT,ownT,intT,O.adds,ownA,rowsA,over,wrOk,keysT,keysA,ne_eq,if_true,if_false,ite_self,Nat.reduceLT,Nat.reduceSub,Nat.reduceBEq,Nat.reduceEqDiff,Nat.reduceAdd,Nat.reduceLeDiff,reduceCtorEq,Nat.reduceMul]
      · have hLa : (clrFrom n (a + 1))[a]? = some x := by rw [clr_get hx,if_neg (by omega)]
        have hlt2 := trim_lt hLa hk
        have hnd : (⟨trim (clrFrom n (a + 1)),n.cap⟩ : Nt).nd (a : Int) = x := by
          refine nd_get ?_
          show (trim (clrFrom n (a + 1)))[a]? = some x
          rw [trim_get hlt2]; exact hLa
        have c3 := sFree_ok (clr_Ok hn (a + 1)) (by have := trim_le (clrFrom n (a + 1)); rw [clr_len] at this; show (trim (clrFrom n (a + 1))).length * 88 + 88 ≤ _; omega) (a : Int)
        have hfr : freeR ⟨trim (clrFrom n (a + 1)),n.cap⟩ (a : Int) = (⟨trim (clrFrom n a),n.cap⟩,0) := by
          unfold freeR
          rw [hnd,if_pos ⟨by omega,by show (a : Int) ≤ ((trim (clrFrom n (a + 1))).length : Int) - 1; omega,hk⟩]
          unfold Nt.free
          simp only [Int.toNat_natCast]
          rw [trim_set hlt2,clr_set hx hR]
        rw [hfr] at c3
        simp only [encTE,encT] at c3
        simp only [F36b0,e1,e2,e3,e4,e5,s1,s2,hgt,hlt,hge,hg,hrl,hra,hw,hx',hk,c3,fxa,fxc,fxE,fxL,fxI,nxE,evO,evR,cellsT,ldCells,mkT,lenA,binPV,Env.init,resV,resT,frT,klT,ownT,intT,O.adds,ownA,rowsA,over,wrOk,keysT,keysA,ne_eq,if_true,if_false,ite_self,Nat.reduceLT,Nat.reduceSub,Nat.reduceBEq,Nat.reduceEqDiff,Nat.reduceAdd,Nat.reduceLeDiff,reduceCtorEq,Nat.reduceMul]
  · rintro e σ ⟨e1,e2,e3,e4,e5,s1,s2⟩
    have h1 : n.ns.length - (n.ns.length - 1) = 1 := by omega
    have hgt : ¬ (n.ns.length : Int) - 1 - ((n.ns.length - 1 : Nat) : Int) > 0 := by omega
    rw [h1] at s1
    simp only [F36b0,e1,e2,e3,e4,e5,s1,s2,hgt,fxa,fxc,fxE,fxL,fxI,nxE,evO,evR,cellsT,ldCells,mkT,lenA,binPV,Env.init,resV,resT,frT,klT,ownT,intT,O.adds,ownA,rowsA,over,wrOk,keysT,keysA,ne_eq,if_true,if_false,ite_self,Nat.reduceLT,Nat.reduceSub,Nat.reduceBEq,Nat.reduceEqDiff,Nat.reduceAdd,Nat.reduceLeDiff,reduceCtorEq,Nat.reduceMul]
end Go.Proofs.YtmlhgalboabjcaaGreat
end
section
set_option linter.unusedSimpArgs false
set_option linter.unusedVariables false
set_option maxHeartbeats 4000000
set_option maxRecDepth 10000
namespace Go.Proofs.YtmlhgalboabjcaaGreat
open Go.Fx
theorem swept_in {n : Nt} (hG : n.Good) {i : Nat} {x : Nd} (hR : Rch n i) (hx : n.ns[i]? = some x) : n.swept.ns[i]? = some x := by
  have h := clr_get (k := 0) hx
  rw [bool_t hR,if_neg (by simp)] at h
  obtain ⟨y,hy,hk⟩ := rch_k hG hR
  rw [hx] at hy
  show (trim (clrFrom n 0))[i]? = some x
  rw [trim_get (trim_lt h (by rw [Option.some.inj hy]; exact hk))]; exact h
theorem swept_get {n : Nt} {i : Nat} {z : Nd} (h : n.swept.ns[i]? = some z) : (Rch n i ∧ n.ns[i]? = some z) ∨ (¬ Rch n i ∧ z = zN) := by
  have h1 := (List.getElem?_eq_some_iff.1 h).1
  have h2 : (trim (clrFrom n 0))[i]? = some z := h
  rw [trim_get h1] at h2
  have h3 := (List.getElem?_eq_some_iff.1 h2).1
  rw [clr_len] at h3
  obtain ⟨x,hx⟩ : ∃ x,n.ns[i]? = some x := ⟨_,List.getElem?_eq_getElem h3⟩
  rw [clr_get hx] at h2
  by_cases hR : Rch n i
  · rw [bool_t hR,if_neg (by simp)] at h2
    exact .inl ⟨hR,by rw [hx]; exact h2⟩
  · rw [bool_f hR,if_pos (by simp)] at h2
    exact .inr ⟨hR,(Option.some.inj h2).symm⟩
theorem swept_len (n : Nt) : n.swept.ns.length ≤ n.ns.length := by
  have := trim_le (clrFrom n 0)
  rw [clr_len] at this; exact this
theorem link_back {n : Nt} (hG : n.Good) {i p : Nat} {x : Nd} {q : Pt} (hx : n.ns[i]? = some x) (hq : x.to[p]? = some q) : ∃ (j s : Nat) (y : Nd),q = ⟨j,s⟩ ∧ n.ns[j]? = some y ∧ y.to[s]? = some ⟨i,p⟩ := by
  obtain ⟨h1,h2,h3⟩ := (hG.nds i x hx).2.2.2 p q hq
  have h4 := has_iff.1 h2
  obtain ⟨a,ha⟩ : ∃ a : Nat,q.n = a := ⟨q.n.toNat,by omega⟩
  obtain ⟨b,hb⟩ : ∃ b : Nat,q.s = b := ⟨q.s.toNat,by omega⟩
  have hqe : q = ⟨a,b⟩ := by rw [← ha,← hb]
  obtain ⟨y,hy⟩ : ∃ y,n.ns[a]? = some y := ⟨_,List.getElem?_eq_getElem (by omega)⟩
  rw [ha,nd_get hy] at h4
  obtain ⟨r,hr⟩ : ∃ r,y.to[b]? = some r := ⟨_,List.getElem?_eq_getElem (by omega)⟩
  rw [hqe,lk_get hy hr] at h3
  exact ⟨a,b,y,hqe,hy,by rw [hr,h3]⟩
theorem rch_link {n : Nt} (hG : n.Good) {i p j : Nat} {x : Nd} {q : Pt} (hx : n.ns[i]? = some x) (hq : x.to[p]? = some q) (hj : q.n = (j : Int)) : Rch n j ↔ Rch n i := by
  constructor
  · intro h
    obtain ⟨j',s,y,e,hy,hr⟩ := link_back hG hx hq
    have : j = j' := by rw [e] at hj; simp only at hj; omega
    subst this
    exact .step h ⟨y,_,hy,List.mem_of_getElem? hr,rfl⟩
  · intro h; exact .step h ⟨x,q,hx,List.mem_of_getElem? hq,hj⟩
theorem zN_may : zN.may := ⟨by decide,by decide,by decide,by decide,by decide,by decide,by decide,by decide,by decide,by decide,by decide,fun i a h => by simp [zN] at h⟩
theorem swept_good {n : Nt} (hG : n.Good) : n.swept.Good := by
  obtain ⟨r,hr,hr1⟩ := good_root hG
  have h0 := swept_in hG .root hr
  have hl0 := (List.getElem?_eq_some_iff.1 h0).1
  have hlen := swept_len n
  refine ⟨hG.cap1,hG.cap2,by omega,?_,?_,fun i x hx => ?_⟩
  · have := hG.ln2
    show (n.swept.ns.length : Int) ≤ n.cap; omega
  · have e : n.swept.ns.length = tl (clrFrom n 0) (clrFrom n 0).length := trim_len _
    have h1 := tl_last (clrFrom n 0) (clrFrom n 0).length (by omega)
    obtain ⟨z,hz⟩ : ∃ z,n.swept.ns[n.swept.ns.length - 1]? = some z := ⟨_,List.getElem?_eq_getElem (by omega)⟩
    have h2 : (trim (clrFrom n 0))[n.swept.ns.length - 1]? = some z := hz
    rw [trim_get (by show _ < n.swept.ns.length; omega)] at h2
    rw [← e,getD_of h2] at h1
    have h3 : ((n.swept.ns.length : Nat) : Int) - 1 = ((n.swept.ns.length - 1 : Nat) : Int) := by omega
    rw [h3,nd_get hz]; exact h1
  · rcases swept_get hx with ⟨hR,hx0⟩ | ⟨hR,rfl⟩
    · obtain ⟨g1,g2,g3,g4⟩ := hG.nds i x hx0
      refine ⟨g1,g2,g3,fun j q hq => ?_⟩
      obtain ⟨h1,_,_⟩ := g4 j q hq
      obtain ⟨a,s,y,e,hy,hr⟩ := link_back hG hx0 hq
      have hRa : Rch n a := (rch_link hG hx0 hq (by rw [e])).2 hR
      have hy2 := swept_in hG hRa hy
      refine ⟨h1,?_,?_⟩
      · rw [e]; exact has_get hy2 (List.getElem?_eq_some_iff.1 hr).1
      · rw [e,lk_get hy2 hr]
    · refine ⟨zN_may,by decide,?_,fun j q hq => by simp [zN] at hq⟩
      constructor
      · intro h
        have : i = 0 := by omega
        exact absurd .root (this ▸ hR)
      · intro h; simp [zN] at h
end Go.Proofs.YtmlhgalboabjcaaGreat
end
section
set_option linter.unusedSimpArgs false
set_option linter.unusedVariables false
set_option maxHeartbeats 4000000
namespace Go.Proofs.YtmlhgalboabjcaaGreat
open Go.Fx
noncomputable def turnR (n : Nt) (i : Int) : Nt × Pl × Int :=
  if (doR n i).2.2 ≠ 121 then doR n i else if (doR (if bool n.Good then n.swept else n) i).2.2 ≠ 0 then (n,p0,121) else doR (if bool n.Good then n.swept else n) i
theorem swept_Ok {n : Nt} (hn : n.Ok) : n.swept.Ok := clr_Ok hn 0
theorem do_kind {n : Nt} {i : Int} {p : Pl} {m : Nt} (h : DoneOk n i p m) : 1 ≤ p.k ∧ p.k ≤ 8 := by
  cases h.px <;> omega
structure TurnOkR (n : Nt) (r : Nt × Pl × Int) : Prop where
  ok : r.1.Ok
  good : r.1.Good
  cap : r.1.cap = n.cap
  no : r.2.2 ≠ 0 → r.1 = n ∧ r.2.1 = p0
  k : r.2.2 = 0 → 1 ≤ r.2.1.k ∧ r.2.1.k ≤ 8
  e90 : r.2.2 ≠ 90
theorem of_err' {a b : Nd} (ha : a.may) (hb : b.may) : (ofR a b).2 = 0 ∨ (ofR a b).2 = 140 ∨ (ofR a b).2 = 141 := by
  rcases of_src a b with h | ⟨r,h,e⟩
  · exact (src_kind ha hb h).1
  · have := (src_kind hb ha h).1
    rw [e]; unfold swapR
    split
    · exact .inl rfl
    · exact this
theorem do_turn {n : Nt} (hn : n.Ok) (hG : n.Good) (i : Int) : TurnOkR n (doR n i) := by
  have D := do_case hn i
  obtain ⟨r,hr⟩ : ∃ r,doR n i = r := ⟨_,rfl⟩
  rw [hr] at D ⊢
  cases D with
  | bad h => exact absurd hG h
  | none h hm => exact ⟨hn,hG,rfl,fun _ => ⟨rfl,rfl⟩,fun h => by have h : (122 : Int) = 0 := h; omega,by show (122 : Int) ≠ 90; omega⟩
  | pair h e hM he h0 =>
    have := of_err' hM.ma hM.mb
    exact ⟨hn,hG,rfl,fun _ => ⟨rfl,rfl⟩,fun h => absurd h h0,by show e ≠ 90; omega⟩
  | full h p hM hp hu => exact ⟨hn,hG,rfl,fun _ => ⟨rfl,rfl⟩,fun h => by have h : (121 : Int) = 0 := h; omega,by show (121 : Int) ≠ 90; omega⟩
  | done h p m hd => exact ⟨hd.st.ok,hd.st.good,hd.st.cap,fun h => absurd rfl h,fun _ => do_kind hd,by show (0 : Int) ≠ 90; omega⟩
theorem turn_ok {n : Nt} (hn : n.Ok) (hG : n.Good) (i : Int) : TurnOkR n (turnR n i) := by
  have h1 := do_turn hn hG i
  unfold turnR
  rw [bool_t hG,if_pos rfl]
  have h2 := do_turn (swept_Ok hn) (swept_good hG) i
  split
  · exact h1
  · split
    · exact ⟨hn,hG,rfl,fun _ => ⟨rfl,rfl⟩,fun h => by have h : (121 : Int) = 0 := h; omega,by show (121 : Int) ≠ 90; omega⟩
    · rename_i h3 h4
      refine ⟨h2.ok,h2.good,h2.cap,fun h => absurd h h4,h2.k,h2.e90⟩
def bump (t : List Int) (k : Int) : List Int := t.set k.toNat (t.getD k.toNat 0 + 1)
def addT : List Int → List Int → List Int
  | a :: s,b :: t => (a + b) :: addT s t
  | _,_ => []
def tz : List Int := [0,0,0,0,0,0,0,0,0]
theorem bump_len (t : List Int) (k : Int) : (bump t k).length = t.length := by unfold bump; simp
theorem sum_set : ∀ {t : List Int} {k : Nat} {x : Int},k < t.length → (t.set k x).sum = t.sum - t.getD k 0 + x
  | [],k,x,h => by simp at h
  | a :: t,0,x,h => by simp; omega
  | a :: t,k + 1,x,h => by
    have h' : k < t.length := by simpa using h
    have := sum_set (x := x) h'
    simp only [List.set_cons_succ,List.sum_cons,List.getD_cons_succ,this]; omega
theorem bump_sum {t : List Int} {k : Int} (ht : t.length = 9) (h : 1 ≤ k ∧ k ≤ 8) : (bump t k).sum = t.sum + 1 := by
  unfold bump
  rw [sum_set (by omega)]; omega
theorem addT_set : ∀ {s t : List Int} {k : Nat} {x : Int},s.length = t.length → k < t.length → addT s (t.set k (t.getD k 0 + x)) = (addT s t).set k ((addT s t).getD k 0 + x)
  | [],[],k,x,_,h => by simp at h
  | a :: s,b :: t,0,x,_,_ => by simp [addT]; omega
  | a :: s,b :: t,k + 1,x,h,h2 => by
    have := addT_set (s := s) (t := t) (k := k) (x := x) (by simpa using h) (by simpa using h2)
    simp only [addT,List.set_cons_succ,List.getD_cons_succ,this]
  | [],_ :: _,_,_,h,_ => by simp at h
  | _ :: _,[],_,_,h,_ => by simp at h
theorem addT_bump {s t : List Int} {k : Int} (hs : s.length = t.length) (h : k.toNat < t.length) : addT s (bump t k) = bump (addT s t) k := addT_set hs h
theorem addT_z {s : List Int} (h : s.length = 9) : addT s tz = s := by
  obtain ⟨a0,a1,a2,a3,a4,a5,a6,a7,a8,rfl⟩ : ∃ a0 a1 a2 a3 a4 a5 a6 a7 a8,s = [a0,a1,a2,a3,a4,a5,a6,a7,a8] := by
    match s,h with
    | [a0,a1,a2,a3,a4,a5,a6,a7,a8],_ => exact ⟨_,_,_,_,_,_,_,_,_,rfl⟩
  simp [addT,tz]
structure Cnt (t : List Int) (d : Int) : Prop where
  len : t.length = 9
  pos : ∀ x ∈ t,0 ≤ x
  sum : t.sum = d
theorem Cnt.bump {t : List Int} {d k : Int} (h : Cnt t d) (hk : 1 ≤ k ∧ k ≤ 8) : Cnt (bump t k) (d + 1) := by
  refine ⟨by rw [bump_len,h.len],fun x hx => ?_,by rw [bump_sum h.len hk,h.sum]⟩
  unfold Go.Proofs.YtmlhgalboabjcaaGreat.bump at hx
  rcases List.mem_or_eq_of_mem_set hx with hx | rfl
  · exact h.pos x hx
  · have hl := h.len
    have : t.getD k.toNat 0 ∈ t := by
      rw [List.getD_eq_getElem?_getD,List.getElem?_eq_getElem (by omega)]; exact List.getElem_mem _
    have := h.pos _ this
    omega
theorem sum_le : ∀ {t : List Int},(∀ x ∈ t,0 ≤ x) → ∀ x ∈ t,x ≤ t.sum
  | [],_,x,hx => by simp at hx
  | a :: t,h,x,hx => by
    have h1 := sum_nn (t := t) (fun y hy => h y (by simp [hy]))
    have h0 := h a (by simp)
    rw [List.sum_cons]
    rcases List.mem_cons.1 hx with rfl | hx
    · omega
    · have := sum_le (t := t) (fun y hy => h y (by simp [hy])) x hx; omega
where sum_nn : ∀ {t : List Int},(∀ x ∈ t,0 ≤ x) → 0 ≤ t.sum
  | [],_ => by simp
  | a :: t,h => by
    have := sum_nn (t := t) (fun y hy => h y (by simp [hy]))
    have h0 := h a (by simp)
    rw [List.sum_cons]; omega
theorem tz_cnt : Cnt tz 0 := ⟨rfl,by decide,by decide⟩
end Go.Proofs.YtmlhgalboabjcaaGreat
end
section
set_option linter.unusedSimpArgs false
set_option linter.unusedVariables false
set_option maxHeartbeats 4000000
set_option maxRecDepth 10000
namespace Go.Proofs.YtmlhgalboabjcaaGreat
open Go.Fx
structure Passed (n : Nt) (l : List Int) : Prop where
  nd : l.Nodup
  us : ∀ x,x ∈ l → ∃ (i : Nat) (y : Nd),x = (i : Int) ∧ n.ns[i]? = some y ∧ y.k ≠ 0
theorem nodup_one {l : List Int} (h : l.Nodup) (k : Int) : l.length ≤ (l.filter fun x => decide (x ≠ k)).length + 1 ∧ (k ∉ l → (l.filter fun x => decide (x ≠ k)) = l) := by
  refine ⟨?_,fun hk => List.filter_eq_self.2 fun x hx => by simp; rintro rfl; exact hk hx⟩
  induction l with
  | nil => simp
  | cons a l ih =>
    rw [List.nodup_cons] at h
    by_cases e : a = k
    · subst e
      have : (l.filter fun x => decide (x ≠ a)) = l := List.filter_eq_self.2 fun x hx => by simp; rintro rfl; exact h.1 hx
      rw [List.filter_cons,if_neg (by simp),this]; simp
    · have := ih h.2
      simp only [List.filter_cons]
      simp [e]; simpa using this
theorem passed_le {ns : List Nd} : ∀ (k : Nat),k ≤ ns.length → ∀ (l : List Int),l.Nodup → (∀ x,x ∈ l → ∃ (i : Nat) (y : Nd),x = (i : Int) ∧ i < k ∧ ns[i]? = some y ∧ y.k ≠ 0) → (l.length : Int) ≤ usedL (ns.take k)
  | 0,_,l,_,h => by
    cases l with
    | nil => simp [usedL]
    | cons a l => obtain ⟨i,y,_,hi,_⟩ := h a (by simp); omega
  | k + 1,hk,l,hn,h => by
    obtain ⟨z,hz⟩ : ∃ z,ns[k]? = some z := ⟨_,List.getElem?_eq_getElem (by omega)⟩
    have h1 := nodup_one hn (k : Int)
    have h2 := passed_le (ns := ns) k (by omega) (l.filter fun x => decide (x ≠ (k : Int))) (hn.filter _) (fun x hx => by
      rw [List.mem_filter] at hx
      obtain ⟨i,y,e,hi,hy⟩ := h x hx.1
      have h3 : x ≠ (k : Int) := by simpa using hx.2
      exact ⟨i,y,e,by omega,hy⟩)
    rw [usedL_take hz]
    by_cases hm : (k : Int) ∈ l
    · obtain ⟨i,y,e,hi,hy,hyk⟩ := h _ hm
      have : i = k := by omega
      subst this
      rw [hz] at hy
      rw [Option.some.inj hy,if_neg hyk]
      omega
    · rw [h1.2 hm] at h2
      split <;> omega
theorem Passed.le {n : Nt} {l : List Int} (h : Passed n l) : (l.length : Int) ≤ n.used := by
  have := passed_le (ns := n.ns) n.ns.length (Nat.le_refl _) l h.nd (fun x hx => by
    obtain ⟨i,y,e,hy,hk⟩ := h.us x hx
    exact ⟨i,y,e,(List.getElem?_eq_some_iff.1 hy).1,hy,hk⟩)
  rw [List.take_length] at this; exact this
theorem Passed.len {n : Nt} {l : List Int} (h : Passed n l) : l.length ≤ n.ns.length := by
  have h1 := h.le
  have h2 := usedL_le n.ns
  unfold Nt.used at h1; omega
theorem Passed.add {n : Nt} {l : List Int} (h : Passed n l) {p : Pt} (hG : n.Good) (hp : n.has p = true) (hno : ¬ (l.any fun y => decide (y = p.n)) = true) : Passed n (l ++ [p.n]) := by
  have hp' := has_iff.1 hp
  have hx := get_nd (n := n) hp'.1 hp'.2.1
  have hq := get_tt (x := n.nd p.n) hp'.2.2.1 hp'.2.2.2
  refine ⟨?_,fun x hx' => ?_⟩
  · rw [List.nodup_append]
    refine ⟨h.nd,by simp,fun a ha b hb => ?_⟩
    simp only [List.mem_cons,List.not_mem_nil,or_false] at hb
    rintro rfl
    apply hno
    rw [List.any_eq_true]; exact ⟨a,ha,by simp [hb]⟩
  · rcases List.mem_append.1 hx' with h1 | h1
    · exact h.us x h1
    · simp only [List.mem_cons,List.not_mem_nil,or_false] at h1
      exact ⟨p.n.toNat,_,by omega,hx,good_no_k hG hx hq⟩
end Go.Proofs.YtmlhgalboabjcaaGreat
end
section
set_option linter.unusedSimpArgs false
set_option linter.unusedVariables false
namespace Go.Fx
variable {S : Seat}
theorem evY_up {cp : FuncId → List PT → Option PT} {cs : Cal → List TV → St → Option (TV × St)} {sp : FuncId → Bool} {j k : Nat} (h : j ≤ k) (l : Nat) (args : List TV) (σ : St) : Le (evY cp cs sp j l args σ) (evY cp cs sp k l args σ) := by
  induction h with
  | refl => exact Le.refl _
  | step _ ih => exact ih.trans (evY_le (fun _ _ => Le.refl _) (fun _ _ _ => Le.refl _) _ l args σ)
theorem eS_y_of {n l : Nat} {args : List TV} {σ : St} {x : TV × St} (h : evY (eP S) (eS S) S.sp n l args σ = some x) : eS S (.y l) args σ = some x := by
  have hl := evY_lim (cp := eP S) (cs := eS S) (sp := S.sp) (fun f ps => eP_lim S f ps) (fun f vs σ => eS_lim S f vs σ) n l args σ
  obtain ⟨k,hk⟩ := hl.ex _ h
  refine (eS_some S).2 ⟨max k n + 1,?_⟩
  rw [evS]
  exact evY_up (Nat.le_max_right k n) l args σ _ (hl.mono (Nat.le_max_left k n) _ hk)
theorem y_round {l : Nat} {args : List TV} {σ : St} {r : LRec} (hr : σ.ls[l]? = some r) (hn : args.length = r.params.length) {K : TV → St → Prop}
    (h : wp S true r.assign (putAll r.env r.params args) σ fun x e1 σ1 => x = .norm ∧ ∃ r1,σ1.ls[l]? = some r1 ∧ r1.st = .ready ∧ wp S true r.body e1 (setL σ1 l { r1 with st := .busy }) fun y e2 σ2 =>
      ∃ r2,σ2.ls[l]? = some r2 ∧ (if y = .norm then K (.a (.p (.b true))) (setL σ2 l { r2 with st := .ready,pend := none }) else K (.a (.p (.b false))) (setL σ2 l { r2 with st := .done,pend := some y }))) :
    ∃ v σ',eS S (.y l) args σ = some (v,σ') ∧ K v σ' := by
  obtain ⟨n1,⟨x,e1,σ1⟩,h1,hx,r1,hr1,hst,n2,⟨y,e2,σ2⟩,h2,r2,hr2,hK⟩ := h
  simp only at hx hr1 hst h2 hr2 hK
  subst hx
  have a := evW_le (Nat.le_max_left n1 n2) true r.assign _ _ _ h1
  have b := evW_le (Nat.le_max_right n1 n2) true r.body _ _ _ h2
  simp only [evW] at a b
  by_cases hy : y = .norm
  · subst hy
    rw [if_pos rfl] at hK
    refine ⟨_,_,eS_y_of (n := max n1 n2) ?_,hK⟩
    simp only [evY,hr,hn,if_true,a,Option.bind_some,hr1,hst,b,hr2]
  · rw [if_neg hy] at hK
    refine ⟨_,_,eS_y_of (n := max n1 n2) ?_,hK⟩
    simp only [evY,hr,hn,if_true,a,Option.bind_some,hr1,hst,b,hr2,if_neg hy]
theorem wp_rng {f : X} {ps : List Nat} {assign body : C} {e : Env} {σ : St} {Q : Ex → Env → St → Prop} {g : FuncId} {caps : List Key} (hf : ev e f = .a (.fn g caps))
    (h : ∃ v σ1,eS S (.f g) (.a (.yl σ.ls.length) :: caps.map fun s => .a (.ptr s 0 0)) { σ with ls := σ.ls ++ [{ env := e,params := ps,assign := assign,body := body,st := .ready,pend := none }] } = some (v,σ1) ∧
      ∃ r,σ1.ls[σ.ls.length]? = some r ∧ r.st ≠ .busy ∧ Q (r.pend.getD .norm) e (setL σ1 σ.ls.length { r with st := .gone })) : wp S false (.rng f ps assign body) e σ Q := by
  obtain ⟨v,σ1,h1,r,hr,hs,hQ⟩ := h
  refine ⟨1,(r.pend.getD .norm,e,setL σ1 σ.ls.length { r with st := .gone }),?_,hQ⟩
  simp only [evW,evC,Bool.false_eq_true,if_false,hf,h1,Option.bind_some,hr,if_neg hs]
theorem setL_bs (σ : St) (l : Nat) (r : LRec) : (setL σ l r).bs = σ.bs := rfl
theorem setL_clk (σ : St) (l : Nat) (r : LRec) : (setL σ l r).clk = σ.clk := rfl
theorem setL_ls (σ : St) (l : Nat) (r : LRec) : (setL σ l r).ls = σ.ls.set l r := rfl
end Go.Fx
end
section
set_option linter.unusedSimpArgs false
set_option linter.unusedVariables false
set_option maxHeartbeats 4000000
set_option maxRecDepth 10000
namespace Go.Proofs.YtmlhgalboabjcaaGreat
open Go.Fx
def Nt.pr (n : Nt) (i : Nat) : Option Pt := if n.has ⟨i,0⟩ = true ∧ (n.lk ⟨i,0⟩).s = 0 ∧ (i : Int) < (n.lk ⟨i,0⟩).n then some ⟨i,(n.lk ⟨i,0⟩).n⟩ else none
def prsTo (n : Nt) (k : Nat) : List Pt := (List.range k).filterMap n.pr
def Nt.prs (n : Nt) : List Pt := prsTo n n.ns.length
theorem prsTo_succ (n : Nt) (k : Nat) : prsTo n (k + 1) = prsTo n k ++ (n.pr k).toList := by
  unfold prsTo
  rw [List.range_succ,List.filterMap_append]
  cases h : n.pr k <;> simp [h]
theorem meetings_ok (n : Nt) (σ : St) : eS S (.f 93) [.g ((encT n).map .p)] σ = some (.a (.fn 131 [(1,σ.clk)]),σ.add 1 (.var ((encT n).map .p))) := by
  refine x_fnX (fc := F93) rfl rfl ?_
  simp only [F93,capsOf,fxa,fxc,fxE,fxL,fxI,nxE,evO,evR,cellsT,ldCells,mkT,lenA,binPV,Env.init,resV,resT,frT,klT,ownT,intT,O.adds,ownA,rowsA,over,wrOk,keysT,keysA,ne_eq,if_true,if_false,ite_self,Nat.reduceLT,Nat.reduceSub,Nat.reduceBEq,Nat.reduceEqDiff,Nat.reduceAdd,Nat.reduceLeDiff,reduceCtorEq,Nat.reduceMul]
theorem each_ok {n : Nt} (hn : n.Ok) (l : Nat) (kn : Key) (I : Nat → St → Prop) (hI : ∀ k σ,I k σ → σ.bs kn = some (.var ((encT n).map .p)) ∧ kn.2 < σ.clk)
    (hadd : ∀ k σ c b,I k σ → c = σ.clk → I k ((σ.add 4 (.var [.p (.i .i64 0),.p (.i .i64 0)])).put (4,c) b))
    (hy : n.Good → ∀ k σ p,I k σ → n.prs[k]? = some p → ∃ σ',eS S (.y l) [.g [.p (.i .i64 p.n),.p (.i .i64 p.s)]] σ = some (.a (.p (.b true)),σ') ∧ I (k + 1) σ') (σ : St) (h0 : I 0 σ) :
    ∃ σ',eS S (.f 131) [.a (.yl l),.a (.ptr kn 0 0)] σ = some (.u,σ') ∧ I (if bool n.Good then n.prs.length else 0) σ' := by
  refine x_fnR (fc := F131) rfl rfl ?_
  have c1 := sCheck_ok hn
  have hns := hn.ns
  obtain ⟨s1,hc⟩ := hI 0 σ h0
  by_cases hG : n.Good
  case neg =>
    rw [bool_f hG] at c1 ⊢
    simp only [Bool.false_eq_true,if_false,encT,List.map_cons,List.map_nil] at c1 s1
    simp only [F131,s1,c1,Int.reduceEq,fxa,fxc,fxE,fxL,fxI,nxE,evO,evR,cellsT,ldCells,mkT,lenA,binPV,Env.init,resV,resT,frT,klT,ownT,intT,O.adds,ownA,rowsA,over,wrOk,keysT,keysA,ne_eq,if_true,if_false,ite_self,Nat.reduceLT,Nat.reduceSub,Nat.reduceBEq,Nat.reduceEqDiff,Nat.reduceAdd,Nat.reduceLeDiff,reduceCtorEq,Nat.reduceMul]
    exact h0
  rw [bool_t hG] at c1 ⊢
  simp only [if_true,encT,List.map_cons,List.map_nil] at c1 s1
  simp only [F131,s1,c1,fxa,fxc,fxE,fxL,fxI,nxE,evO,evR,cellsT,ldCells,mkT,lenA,binPV,Env.init,resV,resT,frT,klT,ownT,intT,O.adds,ownA,rowsA,over,wrOk,keysT,keysA,ne_eq,if_true,if_false,ite_self,Nat.reduceLT,Nat.reduceSub,Nat.reduceBEq,Nat.reduceEqDiff,Nat.reduceAdd,Nat.reduceLeDiff,reduceCtorEq,Nat.reduceMul]
  refine loop_nat n.ns.length (fun i e σ => e 0 = .a (.yl l) ∧ e 1 = .a (.ptr kn 0 0) ∧ e 11 = .a (.p (.i .i64 n.ns.length)) ∧ e 12 = .a (.p (.i .i64 (i : Nat))) ∧ I (prsTo n i).length σ) (i0 := 0) (Nat.zero_le _) ?_ ?_ ?_
  · refine ⟨?_,?_,?_,?_,h0⟩ <;> simp only [fxa,fxc,fxE,fxL,fxI,nxE,evO,evR,cellsT,ldCells,mkT,lenA,binPV,Env.init,resV,resT,frT,klT,ownT,intT,O.adds,ownA,rowsA,over,wrOk,keysT,keysA,ne_eq,if_true,if_false,ite_self,Nat.reduceLT,Nat.reduceSub,Nat.reduceBEq,Nat.reduceEqDiff,Nat.reduceAdd,Nat.reduceLeDiff,reduceCtorEq,Nat.reduceMul]
    rfl
  · rintro i e σ hi ⟨e0,e1,e11,e12,hIi⟩
    obtain ⟨s1,hc⟩ := hI _ σ hIi
    have hlt : ((i : Nat) : Int) < (n.ns.length : Int) := by omega
    have c2 := Peer_ok n ⟨i,0⟩
    have hsuc := prsTo_succ n i
    have hkn : ¬ kn = (4,σ.clk) := by rintro rfl; simp at hc
    rw [hsuc]
    simp only [encT,encP,List.map_cons,List.map_nil] at s1 c2
    cases hh : n.has ⟨i,0⟩ with
    | false =>
      have hp : n.pr i = none := by unfold Nt.pr; rw [hh]; simp
      rw [hh] at c2
      simp only [Bool.false_eq_true,if_false,zP] at c2
      simp only [F131b0,e0,e1,e11,e12,s1,hlt,c2,hp,Option.toList_none,Int.reduceEq,fxa,fxc,fxE,fxL,fxI,nxE,evO,evR,cellsT,ldCells,mkT,lenA,binPV,Env.init,resV,resT,frT,klT,ownT,intT,O.adds,ownA,rowsA,over,wrOk,keysT,keysA,ne_eq,if_true,if_false,ite_self,Nat.reduceLT,Nat.reduceSub,Nat.reduceBEq,Nat.reduceEqDiff,Nat.reduceAdd,Nat.reduceLeDiff,reduceCtorEq,Nat.reduceMul]
      exact ⟨by rw [wrap_succ i (by omega)],hadd _ σ _ _ hIi rfl⟩
    | true =>
      rw [hh] at c2
      simp only [if_true] at c2
      obtain ⟨q,hq⟩ : ∃ q,n.lk ⟨i,0⟩ = q := ⟨_,rfl⟩
      rw [hq] at c2
      by_cases h1 : q.s = 0
      case neg =>
        have hp : n.pr i = none := by unfold Nt.pr; rw [hq,if_neg (fun h => h1 h.2.1)]
        simp only [F131b0,e0,e1,e11,e12,s1,hlt,c2,h1,hp,Option.toList_none,Int.reduceEq,fxa,fxc,fxE,fxL,fxI,nxE,evO,evR,cellsT,ldCells,mkT,lenA,binPV,Env.init,resV,resT,frT,klT,ownT,intT,O.adds,ownA,rowsA,over,wrOk,keysT,keysA,ne_eq,if_true,if_false,ite_self,Nat.reduceLT,Nat.reduceSub,Nat.reduceBEq,Nat.reduceEqDiff,Nat.reduceAdd,Nat.reduceLeDiff,reduceCtorEq,Nat.reduceMul]
        exact ⟨by rw [wrap_succ i (by omega)],hadd _ σ _ _ hIi rfl⟩
      by_cases h2 : q.n ≤ (i : Int)
      · have hp : n.pr i = none := by unfold Nt.pr; rw [hq,if_neg (fun h => by have := h.2.2; omega)]
        rw [h1] at c2
        simp only [F131b0,e0,e1,e11,e12,s1,hlt,c2,h1,h2,hp,Option.toList_none,Int.reduceEq,fxa,fxc,fxE,fxL,fxI,nxE,evO,evR,cellsT,ldCells,mkT,lenA,binPV,Env.init,resV,resT,frT,klT,ownT,intT,O.adds,ownA,rowsA,over,wrOk,keysT,keysA,ne_eq,if_true,if_false,ite_self,Nat.reduceLT,Nat.reduceSub,Nat.reduceBEq,Nat.reduceEqDiff,Nat.reduceAdd,Nat.reduceLeDiff,reduceCtorEq,Nat.reduceMul]
        exact ⟨by rw [wrap_succ i (by omega)],hadd _ σ _ _ hIi rfl⟩
      · have hp : n.pr i = some ⟨i,q.n⟩ := by unfold Nt.pr; rw [hq,if_pos ⟨hh,h1,by omega⟩]
        have hget : n.prs[(prsTo n i).length]? = some ⟨i,q.n⟩ := by
          have : ∀ k,i + 1 ≤ k → (prsTo n k)[(prsTo n i).length]? = some ⟨i,q.n⟩ := by
            intro k hk
            induction hk with
            | refl => rw [hsuc,hp]; simp
            | step hk ih =>
              rw [prsTo_succ,List.getElem?_append_left]
              · exact ih
              · exact (List.getElem?_eq_some_iff.1 ih).1
          exact this n.ns.length (by omega)
        obtain ⟨σ',hcall,hI'⟩ := hy hG _ _ _ (hadd _ σ σ.clk (.var [.p (.i .i64 q.n),.p (.i .i64 q.s)]) hIi rfl) hget
        rw [h1] at c2 hcall
        simp only [F131b0,e0,e1,e11,e12,s1,hlt,c2,h1,h2,hp,hcall,Option.toList_some,List.length_append,Int.reduceEq,fxa,fxc,fxE,fxL,fxI,nxE,evO,evR,cellsT,ldCells,mkT,lenA,binPV,Env.init,resV,resT,frT,klT,ownT,intT,O.adds,ownA,rowsA,over,wrOk,keysT,keysA,ne_eq,if_true,if_false,ite_self,Nat.reduceLT,Nat.reduceSub,Nat.reduceBEq,Nat.reduceEqDiff,Nat.reduceAdd,Nat.reduceLeDiff,reduceCtorEq,Nat.reduceMul]
        exact ⟨by rw [wrap_succ i (by omega)],hI'⟩
  · rintro e σ ⟨e0,e1,e11,e12,hIi⟩
    have hlt : ¬ ((n.ns.length : Nat) : Int) < (n.ns.length : Int) := by omega
    simp only [F131b0,e0,e1,e11,e12,hlt,fxa,fxc,fxE,fxL,fxI,nxE,evO,evR,cellsT,ldCells,mkT,lenA,binPV,Env.init,resV,resT,frT,klT,ownT,intT,O.adds,ownA,rowsA,over,wrOk,keysT,keysA,ne_eq,if_true,if_false,ite_self,Nat.reduceLT,Nat.reduceSub,Nat.reduceBEq,Nat.reduceEqDiff,Nat.reduceAdd,Nat.reduceLeDiff,reduceCtorEq,Nat.reduceMul]
    exact hIi
end Go.Proofs.YtmlhgalboabjcaaGreat
end
section
set_option linter.unusedSimpArgs false
set_option linter.unusedVariables false
set_option maxHeartbeats 4000000
set_option maxRecDepth 10000
namespace Go.Proofs.YtmlhgalboabjcaaGreat
open Go.Fx
theorem prsTo_len (n : Nt) (k : Nat) : (prsTo n k).length ≤ k := by
  unfold prsTo
  have := List.length_filterMap_le n.pr (List.range k)
  simpa using this
def rdy (n : Nt) (p : Pt) : Bool := decide ((ofR (n.nd p.n) (n.nd p.s)).2 = 0)
theorem pr_spec {n : Nt} {i : Nat} {p : Pt} (h : n.pr i = some p) : p.n = i ∧ n.has ⟨i,0⟩ = true ∧ n.lk ⟨i,0⟩ = ⟨p.s,0⟩ ∧ (i : Int) < p.s := by
  unfold Nt.pr at h
  split at h
  · rename_i h1
    rw [← Option.some.inj h]
    refine ⟨rfl,h1.1,?_,h1.2.2⟩
    obtain ⟨q,hq⟩ : ∃ q,n.lk ⟨i,0⟩ = q := ⟨_,rfl⟩
    rw [hq] at h1 ⊢
    obtain ⟨a,b⟩ := q
    have h2 : b = 0 := h1.2.1
    rw [h2]
  · cases h
theorem prs_mem {n : Nt} {p : Pt} : p ∈ n.prs ↔ ∃ i,i < n.ns.length ∧ n.pr i = some p := by
  unfold Nt.prs prsTo
  rw [List.mem_filterMap]
  constructor
  · rintro ⟨i,h1,h2⟩; exact ⟨i,List.mem_range.1 h1,h2⟩
  · rintro ⟨i,h1,h2⟩; exact ⟨i,List.mem_range.2 h1,h2⟩
theorem prs_in {n : Nt} (hG : n.Good) {p : Pt} (h : p ∈ n.prs) : 0 ≤ p.n ∧ p.n < n.ns.length ∧ 0 ≤ p.s ∧ p.s < n.ns.length ∧ p.n < p.s := by
  obtain ⟨i,h1,h2⟩ := prs_mem.1 h
  obtain ⟨e1,e2,e3,e4⟩ := pr_spec h2
  have h3 := has_iff.1 (good_link hG e2).2.1
  rw [e3] at h3
  simp only at h3
  omega
theorem ready_ok {n : Nt} (hn : n.Ok) {p : Pt} (hp : 0 ≤ p.n ∧ p.n < n.ns.length ∧ 0 ≤ p.s ∧ p.s < n.ns.length) : eP S 94 [.g (encT n),.g (encP p)] = some (.a (.b (rdy n p))) := by
  refine x_fn (orcS (by decide)) (fc := F94) rfl rfl ?_
  have g1 := getN (l := n.ns) hp.1 hp.2.1
  have g2 := getN (l := n.ns) hp.2.2.1 hp.2.2.2
  have c1 := Of_ok (hn.nd _ (nd_mem hp.1 hp.2.1)) (hn.nd _ (nd_mem hp.2.2.1 hp.2.2.2))
  obtain ⟨a,ha⟩ : ∃ a,n.nd p.n = a := ⟨_,rfl⟩
  obtain ⟨b,hb⟩ : ∃ b,n.nd p.s = b := ⟨_,rfl⟩
  have ha2 : n.ns.getD p.n.toNat zN = a := ha
  have hb2 : n.ns.getD p.s.toNat zN = b := hb
  unfold rdy
  rw [ha,hb] at c1 ⊢
  rw [ha2] at g1
  rw [hb2] at g2
  obtain ⟨⟨r,e⟩,hr⟩ : ∃ r,ofR a b = r := ⟨_,rfl⟩
  rw [hr] at c1 ⊢
  simp only [encLE,encL,encN] at c1
  simp only [F94,g1,g2,hp.1,hp.2.1,hp.2.2.1,hp.2.2.2,c1,fxa,fxc,fxE,fxL,fxI,nxE,evO,evR,cellsT,ldCells,mkT,lenA,binPV,Env.init,resV,resT,frT,klT,ownT,intT,O.adds,ownA,rowsA,over,wrOk,keysT,keysA,ne_eq,if_true,if_false,ite_self,Nat.reduceLT,Nat.reduceSub,Nat.reduceBEq,Nat.reduceEqDiff,Nat.reduceAdd,Nat.reduceLeDiff,reduceCtorEq,Nat.reduceMul]
noncomputable def Nt.rds (n : Nt) : List Pt := if bool n.Good then n.prs.filter (rdy n) else []
theorem Ready_ok {n : Nt} (hn : n.Ok) : eP S 52 [.g (encT n)] = some (.a (.l (n.rds.map encP))) := by
  refine x_fn (orcS (by decide)) (fc := F52) rfl rfl ?_
  have hns := hn.ns
  have hpl2 : n.prs.length ≤ n.ns.length := prsTo_len n n.ns.length
  have hm := meetings_ok n ((St.empty.add 1 (.var ((encT n).map .p))).add 3 (.var [.nil]))
  simp only [encT,List.map_cons,List.map_nil,add_clk,empty_clk,Nat.zero_add,Nat.reduceAdd] at hm
  simp only [F52,hm,fxa,fxc,fxE,fxL,fxI,nxE,evO,evR,cellsT,ldCells,mkT,lenA,binPV,Env.init,resV,resT,frT,klT,ownT,intT,O.adds,ownA,rowsA,over,wrOk,keysT,keysA,ne_eq,if_true,if_false,ite_self,Nat.reduceLT,Nat.reduceSub,Nat.reduceBEq,Nat.reduceEqDiff,Nat.reduceAdd,Nat.reduceLeDiff,reduceCtorEq,Nat.reduceMul]
  obtain ⟨E,hE⟩ : ∃ E : Env,E = ((((((Env.init [TV.g [.p (.l (n.ns.map encN)),.p (.i .i64 n.cap)]]).put 1 (.a (.ptr (1,0) 0 0))).put 2 (.a .nil)).put 3 (.a (.ptr (3,1) 0 0))).put 5 (.g [.p (.l (n.ns.map encN)),.p (.i .i64 n.cap)])).put 6 (.a (.fn 131 [(1,2)]))) := ⟨_,rfl⟩
  have E1 : E 1 = .a (.ptr (1,0) 0 0) := by rw [hE]; rfl
  have E3 : E 3 = .a (.ptr (3,1) 0 0) := by rw [hE]; rfl
  refine wp_rng (g := 131) (caps := [(1,2)]) (by simp only [fxa,fxc,fxE,fxL,fxI,nxE,evO,evR,cellsT,ldCells,mkT,lenA,binPV,Env.init,resV,resT,frT,klT,ownT,intT,O.adds,ownA,rowsA,over,wrOk,keysT,keysA,ne_eq,if_true,if_false,ite_self,Nat.reduceLT,Nat.reduceSub,Nat.reduceBEq,Nat.reduceEqDiff,Nat.reduceAdd,Nat.reduceLeDiff,reduceCtorEq,Nat.reduceMul]) ?_
  rw [← hE]
  obtain ⟨r0,hr0⟩ : ∃ r0 : LRec,r0 = { env := E,params := [7],assign := (.reg [ia 4 (.new [(.p (.i .i64 0)),(.p (.i .i64 0))]),io (.st 2 (.t 4) (.t 7))]),body := (.block 1 (.seq (.reg [ia 8 (.ld 2 true (.t 1)),ia 9 (.ld 2 true (.t 4)),ia 10 (.call (.f 94) [(.t 8),(.t 9)])]) (.cond (.t 10) (.reg [ia 11 (.ld 1 false (.t 3)),ia 12 (.ld 2 true (.t 4)),ia 13 (.bsl 2 74 [(.p (.i .i64 0)),(.p (.i .i64 0))] 1 [(0,(.t 12))]),ia 14 (.app 2 74 16 (.t 11) (.t 13)),io (.st 1 (.t 3) (.t 14))]) .skip))),st := .ready,pend := none } := ⟨_,rfl⟩
  have hls0 : (((St.empty.add 1 (.var [.p (.l (n.ns.map encN)),.p (.i .i64 n.cap)])).add 3 (.var [.nil])).add 1 (.var [.p (.l (n.ns.map encN)),.p (.i .i64 n.cap)])).ls = [] := rfl
  rw [hls0]
  simp only [List.length_nil,List.nil_append,List.map_cons,List.map_nil]
  rw [← hr0]
  have hcall := each_ok hn 0 (1,2) (fun k σ' => (σ'.bs (1,2) = some (.var ((encT n).map .p)) ∧ (1,2).2 < σ'.clk) ∧ σ'.bs (1,0) = some (.var ((encT n).map .p)) ∧ σ'.ls = [r0] ∧ ∃ x,σ'.bs (3,1) = some (.var [x]) ∧ (((n.prs.take k).filter (rdy n)) = [] ∧ x = .nil ∨ ∃ q : Nat,x = .own (14,q) 0 ((n.prs.take k).filter (rdy n)).length ∧ σ'.bs (14,q) = some (.row 2 74 (((n.prs.take k).filter (rdy n)).map encP)) ∧ q < σ'.clk))
    (fun k σ' h => h.1) (by
      rintro k σ' c b ⟨⟨h1,h2⟩,h3,h4,x,h5,h6⟩ rfl
      refine ⟨⟨by simp only [put_bs,add_bs,Prod.mk.injEq,Nat.reduceEqDiff,false_and,if_false]; exact h1,by simp only [put_clk,add_clk]; omega⟩,by simp only [put_bs,add_bs,Prod.mk.injEq,Nat.reduceEqDiff,false_and,if_false]; exact h3,h4,x,by simp only [put_bs,add_bs,Prod.mk.injEq,Nat.reduceEqDiff,false_and,if_false]; exact h5,?_⟩
      rcases h6 with h6 | ⟨q,e1,e2,e3⟩
      · exact .inl h6
      · exact .inr ⟨q,e1,by simp only [put_bs,add_bs,Prod.mk.injEq,Nat.reduceEqDiff,false_and,if_false]; exact e2,by simp only [put_clk,add_clk]; omega⟩)
  specialize hcall (by
      rintro hG k σ' p ⟨⟨h1,h2⟩,h3,h4,x,h5,h6⟩ hp
      have hpm := prs_in hG (List.mem_of_getElem? hp)
      have c1 := ready_ok hn (p := p) ⟨hpm.1,hpm.2.1,hpm.2.2.1,hpm.2.2.2.1⟩
      obtain ⟨v,σ2,g1,g2⟩ := y_round (S := S) (l := 0) (args := [.g [.p (.i .i64 p.n),.p (.i .i64 p.s)]]) (σ := σ') (r := r0) (by rw [h4]; rfl) (by rw [hr0]; rfl) (K := fun v σ2 => v = .a (.p (.b true)) ∧ (σ2.bs (1,2) = some (.var ((encT n).map .p)) ∧ 2 < σ2.clk) ∧ σ2.bs (1,0) = some (.var ((encT n).map .p)) ∧ σ2.ls = [r0] ∧ ∃ x,σ2.bs (3,1) = some (.var [x]) ∧ (((n.prs.take (k + 1)).filter (rdy n)) = [] ∧ x = .nil ∨ ∃ q : Nat,x = .own (14,q) 0 ((n.prs.take (k + 1)).filter (rdy n)).length ∧ σ2.bs (14,q) = some (.row 2 74 (((n.prs.take (k + 1)).filter (rdy n)).map encP)) ∧ q < σ2.clk)) (by
        have hset : [r0].set 0 { r0 with st := .busy } = [{ r0 with st := .busy }] := rfl
        have hback : [{ r0 with st := LSt.busy }].set 0 { ({ r0 with st := LSt.busy } : LRec) with st := .ready,pend := none } = [r0] := by rw [hr0]; rfl
        have ra : r0.assign = (.reg [ia 4 (.new [(.p (.i .i64 0)),(.p (.i .i64 0))]),io (.st 2 (.t 4) (.t 7))]) := by rw [hr0]
        have rb : r0.body = (.block 1 (.seq (.reg [ia 8 (.ld 2 true (.t 1)),ia 9 (.ld 2 true (.t 4)),ia 10 (.call (.f 94) [(.t 8),(.t 9)])]) (.cond (.t 10) (.reg [ia 11 (.ld 1 false (.t 3)),ia 12 (.ld 2 true (.t 4)),ia 13 (.bsl 2 74 [(.p (.i .i64 0)),(.p (.i .i64 0))] 1 [(0,(.t 12))]),ia 14 (.app 2 74 16 (.t 11) (.t 13)),io (.st 1 (.t 3) (.t 14))]) .skip))) := by rw [hr0]
        have re : r0.env = E := by rw [hr0]
        have rp : r0.params = [7] := by rw [hr0]
        have rs : r0.st = .ready := by rw [hr0]
        obtain ⟨L,hL⟩ : ∃ L,(n.prs.take k).filter (rdy n) = L := ⟨_,rfl⟩
        have hLl : L.length ≤ n.ns.length := by
          have h8 := List.length_filter_le (rdy n) (n.prs.take k)
          rw [hL] at h8
          have h9 := List.length_take_le k n.prs
          rw [List.length_take] at h8; omega
        have hL2 : (n.prs.take (k + 1)).filter (rdy n) = L ++ (if rdy n p then [p] else []) := by
          rw [List.take_add_one,hp,List.filter_append,hL]
          cases h : rdy n p <;> simp [h]
        rw [hL] at h6
        rw [hL2]
        have hbb : (L.length + 1) * 16 ≤ 140737488355328 := by omega
        have htk2 : List.take L.length (L.map encP) = L.map encP := List.take_of_length_le (by simp)
        simp only [encT,encP,List.map_cons,List.map_nil] at c1
        have h1' := h1
        have h3' := h3
        simp only [encT,List.map_cons,List.map_nil] at h1' h3'
        have nc : ¬ 0 = σ'.clk ∧ ¬ 0 = σ'.clk + 1 ∧ ¬ 1 = σ'.clk := by omega
        simp only [ra,rb,re,rp,putAll,fxa,fxc,fxE,fxL,fxI,nxE,evO,evR,cellsT,ldCells,mkT,lenA,binPV,Env.init,resV,resT,frT,klT,ownT,intT,O.adds,ownA,rowsA,over,wrOk,keysT,keysA,ne_eq,if_true,if_false,ite_self,Nat.reduceLT,Nat.reduceSub,Nat.reduceBEq,Nat.reduceEqDiff,Nat.reduceAdd,Nat.reduceLeDiff,reduceCtorEq,Nat.reduceMul]
        refine ⟨r0,by rw [h4]; rfl,rs,?_⟩
        cases hrd : rdy n p with
        | false =>
          rw [hrd] at c1
          simp only [setL_bs,setL_clk,setL_ls,E1,E3,h1',h3',h4,h5,c1,hset,List.getElem?_cons_zero,List.append_nil,Bool.false_eq_true,fxa,fxc,fxE,fxL,fxI,nxE,evO,evR,cellsT,ldCells,mkT,lenA,binPV,Env.init,resV,resT,frT,klT,ownT,intT,O.adds,ownA,rowsA,over,wrOk,keysT,keysA,ne_eq,if_true,if_false,ite_self,Nat.reduceLT,Nat.reduceSub,Nat.reduceBEq,Nat.reduceEqDiff,Nat.reduceAdd,Nat.reduceLeDiff,reduceCtorEq,Nat.reduceMul]
          refine ⟨_,rfl,by omega,hback,?_⟩
          rcases h6 with ⟨rfl,rfl⟩ | ⟨q,rfl,e2,e3⟩
          · exact ⟨_,rfl,.inl ⟨rfl,rfl⟩⟩
          · exact ⟨_,rfl,.inr ⟨q,rfl,e2,by omega⟩⟩
        | true =>
          rw [hrd] at c1
          rcases h6 with ⟨rfl,rfl⟩ | ⟨q,rfl,e2,e3⟩
          · simp only [setL_bs,setL_clk,setL_ls,E1,E3,h1',h3',h4,h5,c1,hset,List.getElem?_cons_zero,Nat.zero_add,Nat.one_mul,Nat.reduceLeDiff,Nat.zero_lt_one,fxa,fxc,fxE,fxL,fxI,nxE,evO,evR,cellsT,ldCells,mkT,lenA,binPV,Env.init,resV,resT,frT,klT,ownT,intT,O.adds,ownA,rowsA,over,wrOk,keysT,keysA,ne_eq,if_true,if_false,ite_self,Nat.reduceLT,Nat.reduceSub,Nat.reduceBEq,Nat.reduceEqDiff,Nat.reduceAdd,Nat.reduceLeDiff,reduceCtorEq,Nat.reduceMul]
            refine ⟨_,rfl,by omega,hback,_,rfl,.inr ⟨σ'.clk + 1 + 1,rfl,?_,by omega⟩⟩
            simp [encP]
          · have nq : ¬ q = σ'.clk ∧ ¬ q = σ'.clk + 1 ∧ ¬ q = σ'.clk + 1 + 1 := by omega
            simp only [setL_bs,setL_clk,setL_ls,E1,E3,h1',h3',h4,h5,e2,c1,nq,hset,htk2,hbb,List.length_map,Nat.le_refl,List.getElem?_cons_zero,Nat.zero_add,Nat.one_mul,Nat.reduceLeDiff,Nat.zero_lt_one,fxa,fxc,fxE,fxL,fxI,nxE,evO,evR,cellsT,ldCells,mkT,lenA,binPV,Env.init,resV,resT,frT,klT,ownT,intT,O.adds,ownA,rowsA,over,wrOk,keysT,keysA,ne_eq,if_true,if_false,ite_self,Nat.reduceLT,Nat.reduceSub,Nat.reduceBEq,Nat.reduceEqDiff,Nat.reduceAdd,Nat.reduceLeDiff,reduceCtorEq,Nat.reduceMul]
            refine ⟨_,rfl,by omega,hback,_,rfl,.inr ⟨σ'.clk + 1 + 1,by simp,?_,by omega⟩⟩
            simp [encP])
      obtain ⟨rfl,g2,g3,g4,g5⟩ := g2
      exact ⟨σ2,g1,g2,g3,g4,g5⟩)
  obtain ⟨σ1,hc,hI⟩ := hcall { (((St.empty.add 1 (.var [.p (.l (n.ns.map encN)),.p (.i .i64 n.cap)])).add 3 (.var [.nil])).add 1 (.var [.p (.l (n.ns.map encN)),.p (.i .i64 n.cap)])) with ls := [r0] } ⟨⟨rfl,by show 2 < 3; omega⟩,rfl,rfl,.nil,rfl,.inl ⟨by simp,rfl⟩⟩
  obtain ⟨_,_,h4,x,h5,h6⟩ := hI
  refine ⟨_,σ1,hc,r0,by rw [h4]; rfl,by rw [hr0]; simp,?_⟩
  have hp0 : r0.pend = none := by rw [hr0]
  rw [hp0]
  have hfin : ∃ L,n.rds = L ∧ (L = [] ∧ x = .nil ∨ ∃ q : Nat,x = .own (14,q) 0 L.length ∧ σ1.bs (14,q) = some (.row 2 74 (L.map encP))) := by
    unfold Nt.rds
    by_cases hG : n.Good
    · rw [bool_t hG] at h6 ⊢
      simp only [if_true,List.take_length] at h6 ⊢
      refine ⟨_,rfl,?_⟩
      rcases h6 with h6 | ⟨q,e1,e2,e3⟩
      · exact .inl h6
      · exact .inr ⟨q,e1,e2⟩
    · rw [bool_f hG] at h6 ⊢
      simp only [Bool.false_eq_true,if_false,List.take_zero,List.filter_nil] at h6 ⊢
      refine ⟨_,rfl,?_⟩
      rcases h6 with h6 | ⟨q,e1,e2,e3⟩
      · exact .inl ⟨rfl,h6.2⟩
      · exact .inr ⟨q,e1,e2⟩
  obtain ⟨L,hL,hx⟩ := hfin
  rw [hL]
  rcases hx with ⟨rfl,rfl⟩ | ⟨q,rfl,e2⟩
  · simp only [Option.getD_none,setL_bs,setL_clk,setL_ls,E3,h5,fxa,fxc,fxE,fxL,fxI,nxE,evO,evR,cellsT,ldCells,mkT,lenA,binPV,Env.init,resV,resT,frT,klT,ownT,intT,O.adds,ownA,rowsA,over,wrOk,keysT,keysA,ne_eq,if_true,if_false,ite_self,Nat.reduceLT,Nat.reduceSub,Nat.reduceBEq,Nat.reduceEqDiff,Nat.reduceAdd,Nat.reduceLeDiff,reduceCtorEq,Nat.reduceMul]
  · have htk2 : List.take L.length (L.map encP) = L.map encP := List.take_of_length_le (by simp)
    simp only [Option.getD_none,setL_bs,setL_clk,setL_ls,E3,h5,e2,htk2,List.length_map,Nat.zero_add,Nat.le_refl,fxa,fxc,fxE,fxL,fxI,nxE,evO,evR,cellsT,ldCells,mkT,lenA,binPV,Env.init,resV,resT,frT,klT,ownT,intT,O.adds,ownA,rowsA,over,wrOk,keysT,keysA,ne_eq,if_true,if_false,ite_self,Nat.reduceLT,Nat.reduceSub,Nat.reduceBEq,Nat.reduceEqDiff,Nat.reduceAdd,Nat.reduceLeDiff,reduceCtorEq,Nat.reduceMul]
def pickI (i : Int) (m : Nat) : Nat := ((i.tmod m + m).tmod m).toNat
theorem Pick_ok {n : Nt} (hn : n.Ok) {i : Int} (hi : wf i) : eP S 29 [.g (encT n),.a (.i .i64 i)] =
    some (.t [(true,encP (if n.rds.length = 0 then zP else n.rds.getD (pickI i n.rds.length) zP)),(false,[.b (decide (n.rds.length ≠ 0))])]) := by
  refine x_fn (orcS (by decide)) (fc := F29) rfl rfl ?_
  have hns := hn.ns
  have c1 := Ready_ok hn
  obtain ⟨L,hL⟩ : ∃ L,n.rds = L := ⟨_,rfl⟩
  have hLl : L.length ≤ n.ns.length := by
    rw [← hL]; unfold Nt.rds
    split
    · have h8 := List.length_filter_le (rdy n) n.prs
      have h9 : n.prs.length ≤ n.ns.length := prsTo_len n n.ns.length
      omega
    · simp
  rw [hL] at c1 ⊢
  simp only [encT] at c1
  by_cases h0 : L.length = 0
  · have : L = [] := List.eq_nil_of_length_eq_zero h0
    subst this
    simp only [List.map_nil] at c1
    simp only [F29,c1,zP,Int.cast_ofNat_Int,Int.reduceEq,not_true_eq_false,fxa,fxc,fxE,fxL,fxI,nxE,evO,evR,cellsT,ldCells,mkT,lenA,binPV,Env.init,resV,resT,frT,klT,ownT,intT,O.adds,ownA,rowsA,over,wrOk,keysT,keysA,ne_eq,if_true,if_false,ite_self,Nat.reduceLT,Nat.reduceSub,Nat.reduceBEq,Nat.reduceEqDiff,Nat.reduceAdd,Nat.reduceLeDiff,reduceCtorEq,Nat.reduceMul]
  · have hm0 : ¬ (L.length : Int) = 0 := by omega
    obtain ⟨M,hM⟩ : ∃ M : Int,(L.length : Int) = M := ⟨_,rfl⟩
    have hMp : 0 < M := by omega
    have b1 := Int.tmod_lt_of_pos i hMp
    have b0 := Int.lt_tmod_of_pos i hMp
    have hw : IntKind.i64.wrap (i.tmod M + M) = i.tmod M + M := wrap_in _ (by omega)
    have b2 := Int.tmod_lt_of_pos (i.tmod M + M) hMp
    have b3 : 0 ≤ (i.tmod M + M).tmod M := Int.tmod_nonneg _ (by omega)
    have g := getP (l := L) (i := (i.tmod M + M).tmod M) b3 (by omega)
    have hpk : pickI i L.length = ((i.tmod M + M).tmod M).toNat := by unfold pickI; rw [hM]
    rw [hM] at hm0
    have hM2 : ¬ M = 0 := by omega
    simp only [F29,c1,hm0,hM,hM2,hw,b2,b3,g,h0,hpk,ne_eq,not_false_eq_true,fxa,fxc,fxE,fxL,fxI,nxE,evO,evR,cellsT,ldCells,mkT,lenA,binPV,Env.init,resV,resT,frT,klT,ownT,intT,O.adds,ownA,rowsA,over,wrOk,keysT,keysA,ne_eq,if_true,if_false,ite_self,Nat.reduceLT,Nat.reduceSub,Nat.reduceBEq,Nat.reduceEqDiff,Nat.reduceAdd,Nat.reduceLeDiff,reduceCtorEq,Nat.reduceMul]
end Go.Proofs.YtmlhgalboabjcaaGreat
end
section
set_option linter.unusedSimpArgs false
set_option linter.unusedVariables false
set_option maxHeartbeats 4000000
namespace Go.Proofs.YtmlhgalboabjcaaGreat
open Go.Fx
structure PR where
  n : Nt
  t : List Int
  e : Int
noncomputable def picksF : List Int → Nt → List Int → PR
  | [],n,t => ⟨n,t,0⟩
  | i :: l,n,t => if n.rds.length = 0 then ⟨n,t,0⟩ else
    if (turnR n (n.rds.getD (pickI i n.rds.length) zP).n).2.2 ≠ 0 then ⟨n,t,(turnR n (n.rds.getD (pickI i n.rds.length) zP).n).2.2⟩
    else picksF l (turnR n (n.rds.getD (pickI i n.rds.length) zP).n).1 (bump t (turnR n (n.rds.getD (pickI i n.rds.length) zP).n).2.1.k)
structure POk (n0 : Nt) (d0 : Int) (k : Nat) (r : PR) : Prop where
  ok : r.n.Ok
  good : r.n.Good
  cap : r.n.cap = n0.cap
  cnt : ∃ d,Cnt r.t d ∧ d0 ≤ d ∧ d ≤ d0 + k
theorem picks_ok : ∀ (l : List Int) {n : Nt} {t : List Int} {d : Int},n.Ok → n.Good → Cnt t d → POk n d l.length (picksF l n t) := by
  intro l
  induction l with
  | nil => intro n t d hn hG hC; exact ⟨hn,hG,rfl,d,hC,by omega,by simp⟩
  | cons i l ih =>
    intro n t d hn hG hC
    have hT := turn_ok hn hG (n.rds.getD (pickI i n.rds.length) zP).n
    unfold picksF
    simp only [List.length_cons]
    split
    · exact ⟨hn,hG,rfl,d,hC,by omega,by omega⟩
    · split
      · exact ⟨hn,hG,rfl,d,hC,by omega,by omega⟩
      · rename_i h1 h2
        have h3 : (turnR n (n.rds.getD (pickI i n.rds.length) zP).n).2.2 = 0 := by omega
        have H := ih hT.ok hT.good (hC.bump (hT.k h3))
        obtain ⟨d',e1,e2,e3⟩ := H.cnt
        exact ⟨H.ok,H.good,H.cap.trans hT.cap,d',e1,by omega,by omega⟩
theorem picks_split : ∀ (l m : List Int) {n : Nt} {t : List Int} {d : Int},n.Ok → n.Good → Cnt t d → 
    (if (picksF l n t).e ≠ 0 ∨ (picksF l n t).t.sum < d + l.length then picksF (l ++ m) n t = picksF l n t else picksF (l ++ m) n t = picksF m (picksF l n t).n (picksF l n t).t) := by
  intro l
  induction l with
  | nil =>
    intro m n t d hn hG hC
    have e1 : picksF [] n t = ⟨n,t,0⟩ := rfl
    rw [e1,if_neg]
    · rfl
    · have := hC.sum
      simp only [List.length_nil]; omega
  | cons i l ih =>
    intro m n t d hn hG hC
    have hT := turn_ok hn hG (n.rds.getD (pickI i n.rds.length) zP).n
    have hs := hC.sum
    rw [List.cons_append]
    by_cases h1 : n.rds.length = 0
    · have e1 : ∀ l',picksF (i :: l') n t = ⟨n,t,0⟩ := fun l' => by unfold picksF; rw [if_pos h1]
      rw [e1,e1,if_pos]
      right
      show t.sum < _
      simp only [List.length_cons]; omega
    · by_cases h2 : (turnR n (n.rds.getD (pickI i n.rds.length) zP).n).2.2 ≠ 0
      · have e1 : ∀ l',picksF (i :: l') n t = ⟨n,t,(turnR n (n.rds.getD (pickI i n.rds.length) zP).n).2.2⟩ := fun l' => by show (if _ then _ else _) = _; rw [if_neg h1,if_pos h2]
        rw [e1,e1,if_pos (.inl h2)]
      · have h3 : (turnR n (n.rds.getD (pickI i n.rds.length) zP).n).2.2 = 0 := by omega
        have e1 : ∀ l',picksF (i :: l') n t = picksF l' (turnR n (n.rds.getD (pickI i n.rds.length) zP).n).1 (bump t (turnR n (n.rds.getD (pickI i n.rds.length) zP).n).2.1.k) := fun l' => by show (if _ then _ else _) = _; rw [if_neg h1,if_neg h2]
        rw [e1,e1]
        have H := ih m hT.ok hT.good (hC.bump (hT.k h3))
        have e2 : d + 1 + (l.length : Int) = d + ((i :: l).length : Int) := by simp only [List.length_cons]; omega
        rw [e2] at H
        exact H
theorem picks_add : ∀ (l : List Int) {n : Nt} {s t : List Int},n.Ok → n.Good → s.length = 9 → t.length = 9 → (picksF l n (addT s t)).n = (picksF l n t).n ∧ (picksF l n (addT s t)).t = addT s (picksF l n t).t ∧ (picksF l n (addT s t)).e = (picksF l n t).e := by
  intro l
  induction l with
  | nil => intro n s t hn hG h1 h2; exact ⟨rfl,rfl,rfl⟩
  | cons i l ih =>
    intro n s t hn hG h1 h2
    have hT := turn_ok hn hG (n.rds.getD (pickI i n.rds.length) zP).n
    unfold picksF
    split
    · exact ⟨rfl,rfl,rfl⟩
    · split
      · exact ⟨rfl,rfl,rfl⟩
      · rename_i g1 g2
        have h3 : (turnR n (n.rds.getD (pickI i n.rds.length) zP).n).2.2 = 0 := by omega
        have hk := hT.k h3
        rw [← addT_bump (by omega) (by omega)]
        exact ih hT.ok hT.good h1 (by rw [bump_len,h2])
end Go.Proofs.YtmlhgalboabjcaaGreat
end
section
set_option linter.unusedSimpArgs false
set_option linter.unusedVariables false
set_option maxHeartbeats 4000000
set_option maxRecDepth 10000
namespace Go.Proofs.YtmlhgalboabjcaaGreat
open Go.Fx
theorem turnDo_ok {n : Nt} {i : Int} (hn : n.Ok) : eP S 19 [.g (encT n),.a (.i .i64 i)] = some (encD (turnR n i)) := by
  refine x_fn (orcS (by decide)) (fc := F19) rfl rfl ?_
  have c1 := Do_ok (i := i) hn
  have c2 := sSweep_ok hn
  obtain ⟨m,hm⟩ : ∃ m,(if bool n.Good then n.swept else n) = m := ⟨_,rfl⟩
  have hmo : m.Ok := by
    rw [← hm]; split
    · exact swept_Ok hn
    · exact hn
  have c3 := Do_ok (i := i) hmo
  unfold turnR
  rw [hm] at c2 ⊢
  obtain ⟨⟨a,p,e⟩,hr⟩ : ∃ r,doR n i = r := ⟨_,rfl⟩
  obtain ⟨⟨b,q,f⟩,hs⟩ : ∃ r,doR m i = r := ⟨_,rfl⟩
  rw [hr] at c1 ⊢
  rw [hs] at c3 ⊢
  simp only [encD,encT,encL,encN] at c1 c3
  simp only [encT] at c2
  by_cases he : e = 121
  · subst he
    by_cases hf : f = 0
    · subst hf
      simp only [F19,c1,c2,c3,encD,encT,encL,encN,Int.reduceEq,ne_eq,not_true_eq_false,not_false_eq_true,fxa,fxc,fxE,fxL,fxI,nxE,evO,evR,cellsT,ldCells,mkT,lenA,binPV,Env.init,resV,resT,frT,klT,ownT,intT,O.adds,ownA,rowsA,over,wrOk,keysT,keysA,ne_eq,if_true,if_false,ite_self,Nat.reduceLT,Nat.reduceSub,Nat.reduceBEq,Nat.reduceEqDiff,Nat.reduceAdd,Nat.reduceLeDiff,reduceCtorEq,Nat.reduceMul]
    · simp only [F19,c1,c2,c3,hf,encD,encT,encL,encN,p0,zN,List.map_nil,Int.reduceEq,ne_eq,not_true_eq_false,not_false_eq_true,fxa,fxc,fxE,fxL,fxI,nxE,evO,evR,cellsT,ldCells,mkT,lenA,binPV,Env.init,resV,resT,frT,klT,ownT,intT,O.adds,ownA,rowsA,over,wrOk,keysT,keysA,ne_eq,if_true,if_false,ite_self,Nat.reduceLT,Nat.reduceSub,Nat.reduceBEq,Nat.reduceEqDiff,Nat.reduceAdd,Nat.reduceLeDiff,reduceCtorEq,Nat.reduceMul]
  · simp only [F19,c1,he,encD,encT,encL,encN,Int.reduceEq,ne_eq,not_true_eq_false,not_false_eq_true,fxa,fxc,fxE,fxL,fxI,nxE,evO,evR,cellsT,ldCells,mkT,lenA,binPV,Env.init,resV,resT,frT,klT,ownT,intT,O.adds,ownA,rowsA,over,wrOk,keysT,keysA,ne_eq,if_true,if_false,ite_self,Nat.reduceLT,Nat.reduceSub,Nat.reduceBEq,Nat.reduceEqDiff,Nat.reduceAdd,Nat.reduceLeDiff,reduceCtorEq,Nat.reduceMul]
end Go.Proofs.YtmlhgalboabjcaaGreat
end
section
set_option linter.unusedSimpArgs false
set_option linter.unusedVariables false
set_option maxHeartbeats 4000000
set_option maxRecDepth 10000
namespace Go.Proofs.YtmlhgalboabjcaaGreat
open Go.Fx
def ia1 (x : Int) : PV := .i .i64 x
def mch (n : Nt) (t : List Int) (d : Int) : List PV := .l (n.ns.map encN) :: .i .i64 n.cap :: (t.map ia1 ++ [.i .i64 d])
structure MG (ks : Key) (n : Nt) (t : List Int) (d : Int) (σ : St) : Prop where
  bs : σ.bs ks = some (.var ((mch n t d).map .p))
  lt : ks.2 < σ.clk
theorem MG.add {ks : Key} {n : Nt} {t : List Int} {d : Int} {σ : St} (h : MG ks n t d σ) (e : Nat) (x : Blk) : MG ks n t d (σ.add e x) := by
  have hl := h.lt
  have : ¬ ks = (e,σ.clk) := by rintro rfl; simp at hl
  exact ⟨by simp only [add_bs,this,if_false]; exact h.bs,by simp only [add_clk]; omega⟩
theorem MG.put {ks : Key} {n : Nt} {t : List Int} {d : Int} {σ : St} (h : MG ks n t d σ) {k : Key} (hk : ¬ ks = k) (x : Blk) : MG ks n t d (σ.put k x) :=
  ⟨by simp only [put_bs,hk,if_false]; exact h.bs,h.lt⟩
theorem MG.kill {ks : Key} {n : Nt} {t : List Int} {d : Int} {σ : St} (h : MG ks n t d σ) {k : Key} (hk : ¬ ks = k) : MG ks n t d (σ.kill k) :=
  ⟨by simp only [kill_bs,hk,if_false]; exact h.bs,h.lt⟩
theorem MG.set {ks : Key} {n : Nt} {t : List Int} {d : Int} {σ : St} (h : ks.2 < σ.clk) : MG ks n t d (σ.put ks (.var ((mch n t d).map .p))) :=
  ⟨by simp only [put_bs,if_true],h⟩
theorem nine {t : List Int} (h : t.length = 9) : ∃ a0 a1 a2 a3 a4 a5 a6 a7 a8,t = [a0,a1,a2,a3,a4,a5,a6,a7,a8] := by
  match t,h with
  | [a0,a1,a2,a3,a4,a5,a6,a7,a8],_ => exact ⟨_,_,_,_,_,_,_,_,_,rfl⟩
noncomputable def mAft (n : Nt) (t : List Int) (i : Int) : List Int := if (turnR n i).2.2 = 0 then bump t (turnR n i).2.1.k else t
theorem mDo_ok {ks : Key} {n : Nt} {t : List Int} {d i : Int} {σ : St} (hn : n.Ok) (hG : n.Good) (hC : Cnt t d) (hd : d ≤ 200000) (h : MG ks n t d σ) :
    ∃ σ',eS S (.f 30) [.a (.ptr ks 0 0),.a (.p (.i .i64 i))] σ = some (.a (.p (.i .i64 (turnR n i).2.2)),σ') ∧ MG ks (turnR n i).1 (mAft n t i) (if (turnR n i).2.2 = 0 then d + 1 else d) σ' ∧ Fr ks σ σ' := by
  refine x_fnR (fc := F30) rfl rfl ?_
  have c1 := turnDo_ok (i := i) hn
  have hT := turn_ok hn hG i
  have hno := hT.no
  have hk := hT.k
  unfold mAft
  obtain ⟨⟨m,p,e⟩,hr⟩ : ∃ r,turnR n i = r := ⟨_,rfl⟩
  rw [hr] at c1 hno hk ⊢
  simp only at hno hk ⊢
  have s1 := h.bs
  have hlt := h.lt
  have hle := sum_le hC.pos
  rw [hC.sum] at hle
  have hpos := hC.pos
  have hd0 : 0 ≤ d := by rw [← hC.sum]; exact sum_le.sum_nn hC.pos
  obtain ⟨a0,a1,a2,a3,a4,a5,a6,a7,a8,rfl⟩ := nine hC.len
  simp only [List.mem_cons,List.not_mem_nil,or_false,forall_eq_or_imp,forall_eq] at hle hpos
  have ne0 : ∀ d,¬ ks = (d,σ.clk) := by rintro d rfl; simp at hlt
  have ne1 : ∀ d,¬ ks = (d,σ.clk + 1) := by rintro d rfl; simp at hlt; omega
  have ne2 : ∀ d,¬ (d,σ.clk) = ks := fun d h => ne0 d h.symm
  have ne3 : ∀ d,¬ (d,σ.clk + 1) = ks := fun d h => ne1 d h.symm
  simp only [encD,encT,encL,encN] at c1
  simp only [mch,ia1,List.map_cons,List.map_nil,List.cons_append,List.nil_append] at s1
  by_cases he : e = 0
  · subst he
    have hk := hk rfl
    have w9 : IntKind.i64.wrap (d + 1) = d + 1 := wrap_in _ (by omega)
    obtain ⟨q,hq⟩ : ∃ q,p.k = q := ⟨_,rfl⟩
    rw [hq] at c1 hk ⊢
    have w0 : ∀ x : Int,0 ≤ x → x ≤ d → IntKind.i64.wrap (x + 1) = x + 1 := fun x h1 h2 => wrap_in _ (by omega)
    have v1 := w0 a1 (by omega) (by omega)
    have v2 := w0 a2 (by omega) (by omega)
    have v3 := w0 a3 (by omega) (by omega)
    have v4 := w0 a4 (by omega) (by omega)
    have v5 := w0 a5 (by omega) (by omega)
    have v6 := w0 a6 (by omega) (by omega)
    have v7 := w0 a7 (by omega) (by omega)
    have v8 := w0 a8 (by omega) (by omega)
    obtain rfl | rfl | rfl | rfl | rfl | rfl | rfl | rfl : q = 1 ∨ q = 2 ∨ q = 3 ∨ q = 4 ∨ q = 5 ∨ q = 6 ∨ q = 7 ∨ q = 8 := by omega
    all_goals
      simp only [F30,s1,c1,ne0,ne1,ne2,ne3,v1,v2,v3,v4,v5,v6,v7,v8,w9,Int.cast_ofNat_Int,Int.reduceLE,Int.reduceLT,Int.reduceToNat,Int.reduceAdd,Int.reduceSub,Int.reduceNeg,fxa,fxc,fxE,fxL,fxI,nxE,evO,evR,cellsT,ldCells,mkT,lenA,binPV,Env.init,resV,resT,frT,klT,ownT,intT,O.adds,ownA,rowsA,over,wrOk,keysT,keysA,ne_eq,if_true,if_false,ite_self,Nat.reduceLT,Nat.reduceSub,Nat.reduceBEq,Nat.reduceEqDiff,Nat.reduceAdd,Nat.reduceLeDiff,reduceCtorEq,Nat.reduceMul]
      exact ⟨⟨by simp only [put_bs,if_true]; rfl,by simp only [put_clk,add_clk]; omega⟩,((((((((Fr.refl ks σ).add _ _).add _ _).put (.inr (Nat.le_refl _)) _).put (.inr (Nat.le_succ _)) _).put (.inl rfl) _).put (.inl rfl) _).put (.inl rfl) _)⟩
  · simp only [F30,s1,c1,he,ne0,ne1,ne2,ne3,fxa,fxc,fxE,fxL,fxI,nxE,evO,evR,cellsT,ldCells,mkT,lenA,binPV,Env.init,resV,resT,frT,klT,ownT,intT,O.adds,ownA,rowsA,over,wrOk,keysT,keysA,ne_eq,if_true,if_false,ite_self,Nat.reduceLT,Nat.reduceSub,Nat.reduceBEq,Nat.reduceEqDiff,Nat.reduceAdd,Nat.reduceLeDiff,reduceCtorEq,Nat.reduceMul]
    rw [(hno he).1]
    exact ⟨(((h.add _ _).add _ _).put (ne0 _) _).put (ne1 _) _,((((Fr.refl ks σ).add _ _).add _ _).put (.inr (Nat.le_refl _)) _).put (.inr (Nat.le_succ _)) _⟩
end Go.Proofs.YtmlhgalboabjcaaGreat
end
section
set_option linter.unusedSimpArgs false
set_option linter.unusedVariables false
set_option maxHeartbeats 4000000
set_option maxRecDepth 10000
namespace Go.Proofs.YtmlhgalboabjcaaGreat
open Go.Fx
theorem allI (l : List Int) : (l.map encI).all (fun r => decide (r.length = 1)) = true := by simp [encI]
def encK (r : PR) : PT := .t [(true,encT r.n),(true,r.t.map ia1),(false,[.i .i64 r.e])]
theorem Picks_ok {n : Nt} {l : List Int} (hn : n.Ok) (hG : n.Good) (hl : l.length ≤ 100000) (hw : ∀ i ∈ l,wf i) : eP S 12 [.g (encT n),.a (.l (l.map encI))] = some (encK (picksF l n tz)) := by
  refine x_fn (orcS (by decide)) (fc := F12) rfl rfl ?_
  obtain ⟨σ0,hσ⟩ : ∃ σ,σ = (((St.empty.add 2 (.var [.p (.l (n.ns.map encN)),.p (.i .i64 n.cap)])).add 4 (.var [.nil,.p (.i .i64 0)])).add 5 (.var [.p (.i .i64 0),.p (.i .i64 0),.p (.i .i64 0),.p (.i .i64 0),.p (.i .i64 0),.p (.i .i64 0),.p (.i .i64 0),.p (.i .i64 0),.p (.i .i64 0)])).add 15 (.var ((mch n tz 0).map .p)) := ⟨_,rfl⟩
  have b4 : σ0.bs (4,1) = some (.var [.nil,.p (.i .i64 0)]) := by rw [hσ]; rfl
  have b5 : σ0.bs (5,2) = some (.var [.p (.i .i64 0),.p (.i .i64 0),.p (.i .i64 0),.p (.i .i64 0),.p (.i .i64 0),.p (.i .i64 0),.p (.i .i64 0),.p (.i .i64 0),.p (.i .i64 0)]) := by rw [hσ]; rfl
  have hclk : σ0.clk = 4 := by rw [hσ]; rfl
  have hS0 : MG (15,3) n tz 0 σ0 := ⟨by rw [hσ]; rfl,by rw [hclk]; show 3 < 4; omega⟩
  have hσ' := hσ
  simp only [mch,tz,ia1,List.map_cons,List.map_nil,List.cons_append,List.nil_append] at hσ'
  simp only [F12,encT,fxa,fxc,fxE,fxL,fxI,nxE,evO,evR,cellsT,ldCells,mkT,lenA,binPV,Env.init,resV,resT,frT,klT,ownT,intT,O.adds,ownA,rowsA,over,wrOk,keysT,keysA,ne_eq,if_true,if_false,ite_self,Nat.reduceLT,Nat.reduceSub,Nat.reduceBEq,Nat.reduceEqDiff,Nat.reduceAdd,Nat.reduceLeDiff,reduceCtorEq,Nat.reduceMul]
  rw [← hσ']
  obtain ⟨R,hR⟩ : ∃ R,picksF l n tz = R := ⟨_,rfl⟩
  rw [hR]
  refine wp_loop_ind (fun k e τ => ∃ (i : Nat) (n : Nt) (t : List Int) (d : Int),i + k = l.length ∧ n.Ok ∧ n.Good ∧ Cnt t d ∧ d ≤ i ∧ MG (15,3) n t d τ ∧ Fr (15,3) σ0 τ ∧ e 4 = .a (.ptr (4,1) 0 0) ∧ e 5 = .a (.ptr (5,2) 0 0) ∧ e 7 = .a (.ptr (15,3) 0 0) ∧ e 16 = .a (.p (.l (l.map encI))) ∧ e 17 = .a (.p (.i .i64 (l.length : Nat))) ∧ e 18 = .a (.p (.i .i64 (i : Nat))) ∧ picksF (l.drop i) n t = R) (fun k e τ hI => ?_) l.length _ _ ⟨0,n,tz,0,by omega,hn,hG,tz_cnt,by omega,hS0,Fr.refl _ _,rfl,rfl,rfl,rfl,by simp only [List.length_map,fxa,fxc,fxE,fxL,fxI,nxE,evO,evR,cellsT,ldCells,mkT,lenA,binPV,Env.init,resV,resT,frT,klT,ownT,intT,O.adds,ownA,rowsA,over,wrOk,keysT,keysA,ne_eq,if_true,if_false,ite_self,Nat.reduceLT,Nat.reduceSub,Nat.reduceBEq,Nat.reduceEqDiff,Nat.reduceAdd,Nat.reduceLeDiff,reduceCtorEq,Nat.reduceMul],rfl,hR⟩
  obtain ⟨i,n,t,d,hik,hn,hG,hC,hdi,hS,hF,e4,e5,e7,e16,e17,e18,hR⟩ := hI
  have s1 := hS.bs
  have t4 := (hF.bs (4,1) (by rw [hclk]; show 1 < 4; omega) (by simp)).trans b4
  have t5 := (hF.bs (5,2) (by rw [hclk]; show 2 < 4; omega) (by simp)).trans b5
  have hge := hF.clk
  have e11 : ((mch n t d).map AV.p).length = 12 := by simp [mch,hC.len]
  have g2 : ((((mch n t d).map AV.p).drop 2).take 9) = (t.map ia1).map AV.p := by
    obtain ⟨a0,a1,a2,a3,a4,a5,a6,a7,a8,rfl⟩ := nine hC.len
    rfl
  have g0 : (((mch n t d).map AV.p).take 2) = [.p (.l (n.ns.map encN)),.p (.i .i64 n.cap)] := by
    rfl
  have hlt9 : ((t.map ia1).map AV.p).length = 9 := by simp [hC.len]
  have tk9 : List.take 9 ((t.map ia1).map AV.p) = (t.map ia1).map AV.p := List.take_of_length_le (by omega)
  have fr9 : ∀ τ : St,frL τ ((t.map ia1).map AV.p) = some (t.map ia1) := fun τ => frL_p τ _
  by_cases hi : i < l.length
  case neg =>
    have hd : l.drop i = [] := List.drop_eq_nil_of_le (by omega)
    rw [hd] at hR
    have hR : (⟨n,t,0⟩ : PR) = R := hR
    rw [← hR]
    have hlt : ¬ ((i : Nat) : Int) < (l.length : Int) := by omega
    simp only [F12b0,e4,e5,e7,e16,e17,e18,hlt,s1,t4,t5,e11,g0,g2,hlt9,tk9,fr9,encK,encT,fxa,fxc,fxE,fxL,fxI,nxE,evO,evR,cellsT,ldCells,mkT,lenA,binPV,Env.init,resV,resT,frT,klT,ownT,intT,O.adds,ownA,rowsA,over,wrOk,keysT,keysA,ne_eq,if_true,if_false,ite_self,Nat.reduceLT,Nat.reduceSub,Nat.reduceBEq,Nat.reduceEqDiff,Nat.reduceAdd,Nat.reduceLeDiff,reduceCtorEq,Nat.reduceMul]
  obtain ⟨x,hx⟩ : ∃ x,l[i]? = some x := ⟨_,List.getElem?_eq_getElem hi⟩
  have hxw := hw x (List.mem_of_getElem? hx)
  have gx := mapGet encI hx
  rw [drop_cons hx] at hR
  have hlt : ((i : Nat) : Int) < (l.length : Int) := by omega
  have hge0 : (0 : Int) ≤ ((i : Nat) : Int) := by omega
  have hws : IntKind.i64.wrap ((i : Int) + 1) = ((i + 1 : Nat) : Int) := wrap_succ i (by omega)
  have c1 := Pick_ok hn hxw
  simp only [encI] at gx
  simp only [encT,encP] at c1
  by_cases h0 : n.rds.length = 0
  · have hR2 : (⟨n,t,0⟩ : PR) = R := by
      rw [← hR]; show _ = (if _ then _ else _); rw [if_pos h0]
    rw [← hR2]
    have hd0 : decide (n.rds.length ≠ 0) = false := by simp [h0]
    rw [hd0,if_pos h0] at c1
    simp only [zP] at c1
    simp only [F12b0,e4,e5,e7,e16,e17,e18,hlt,hge0,gx,allI,c1,s1,t4,t5,e11,g0,g2,hlt9,tk9,fr9,encK,encT,Int.toNat_natCast,List.length_map,fxa,fxc,fxE,fxL,fxI,nxE,evO,evR,cellsT,ldCells,mkT,lenA,binPV,Env.init,resV,resT,frT,klT,ownT,intT,O.adds,ownA,rowsA,over,wrOk,keysT,keysA,ne_eq,if_true,if_false,ite_self,Nat.reduceLT,Nat.reduceSub,Nat.reduceBEq,Nat.reduceEqDiff,Nat.reduceAdd,Nat.reduceLeDiff,reduceCtorEq,Nat.reduceMul]
  · have hd0 : decide (n.rds.length ≠ 0) = true := by simp [h0]
    rw [hd0,if_neg h0] at c1
    obtain ⟨p,hp⟩ : ∃ p,n.rds.getD (pickI x n.rds.length) zP = p := ⟨_,rfl⟩
    rw [hp] at c1
    have hT := turn_ok hn hG p.n
    have ne0 : ¬ ((15,3) : Key) = (10,τ.clk) := by simp
    obtain ⟨τ1,c2,hS1,hF1⟩ := mDo_ok (i := p.n) hn hG hC (by omega) ((hS.add 10 (.var [.p (.i .i64 0),.p (.i .i64 0)])).put (k := (10,τ.clk)) ne0 (.var [.p (.i .i64 p.n),.p (.i .i64 p.s)]))
    have hF2 := (((hF.add 10 (.var [.p (.i .i64 0),.p (.i .i64 0)])).put (k := (10,τ.clk)) (.inr (by exact hge)) (.var [.p (.i .i64 p.n),.p (.i .i64 p.s)]))).trans hF1
    unfold mAft at hS1
    have u4 := (hF2.bs (4,1) (by rw [hclk]; show 1 < 4; omega) (by simp)).trans b4
    have u5 := (hF2.bs (5,2) (by rw [hclk]; show 2 < 4; omega) (by simp)).trans b5
    by_cases h3 : (turnR n p.n).2.2 = 0
    · rw [h3,if_pos rfl,if_pos rfl] at hS1
      rw [h3] at c2
      have hR2 : picksF (l.drop (i + 1)) (turnR n p.n).1 (bump t (turnR n p.n).2.1.k) = R := by
        rw [← hR,← hp]; show _ = (if _ then _ else _); rw [if_neg h0,hp,if_neg (by rw [h3]; simp)]
      simp only [F12b0,e4,e5,e7,e16,e17,e18,hlt,hge0,hws,gx,allI,c1,c2,frA_ptr,s1,t4,t5,e11,g0,g2,encT,Int.toNat_natCast,List.length_map,fxa,fxc,fxE,fxL,fxI,nxE,evO,evR,cellsT,ldCells,mkT,lenA,binPV,Env.init,resV,resT,frT,klT,ownT,intT,O.adds,ownA,rowsA,over,wrOk,keysT,keysA,ne_eq,if_true,if_false,ite_self,Nat.reduceLT,Nat.reduceSub,Nat.reduceBEq,Nat.reduceEqDiff,Nat.reduceAdd,Nat.reduceLeDiff,reduceCtorEq,Nat.reduceMul]
      exact ⟨k - 1,by omega,i + 1,_,_,_,by omega,hT.ok,hT.good,hC.bump (hT.k h3),by omega,hS1,hF2,rfl,hR2⟩
    · rw [if_neg h3,if_neg h3] at hS1
      have hR2 : (⟨n,t,(turnR n p.n).2.2⟩ : PR) = R := by
        rw [← hR,← hp]; show _ = (if _ then _ else _); rw [if_neg h0,hp,if_pos h3]
      rw [(hT.no h3).1] at hS1
      have s2 := hS1.bs
      rw [← hR2]
      simp only [F12b0,e4,e5,e7,e16,e17,e18,hlt,hge0,hws,gx,allI,c1,c2,frA_ptr,h3,s1,s2,t4,t5,u4,u5,e11,g0,g2,hlt9,tk9,fr9,encK,encT,Int.toNat_natCast,List.length_map,fxa,fxc,fxE,fxL,fxI,nxE,evO,evR,cellsT,ldCells,mkT,lenA,binPV,Env.init,resV,resT,frT,klT,ownT,intT,O.adds,ownA,rowsA,over,wrOk,keysT,keysA,ne_eq,if_true,if_false,ite_self,Nat.reduceLT,Nat.reduceSub,Nat.reduceBEq,Nat.reduceEqDiff,Nat.reduceAdd,Nat.reduceLeDiff,reduceCtorEq,Nat.reduceMul]
end Go.Proofs.YtmlhgalboabjcaaGreat
end
section
set_option linter.unusedSimpArgs false
set_option linter.unusedVariables false
set_option maxHeartbeats 4000000
set_option maxRecDepth 10000
namespace Go.Proofs.YtmlhgalboabjcaaGreat
open Go.Fx
theorem eqT : ∀ {s t : List Int},s.length = t.length → eqCells (List.replicate s.length 0) ((s.map ia1).map .p) ((t.map ia1).map .p) = some (decide (s = t))
  | [],[],_ => rfl
  | a :: s,b :: t,h => by
    have := eqT (s := s) (t := t) (by simpa using h)
    simp only [List.length_cons,List.replicate_succ,List.map_cons,ia1,eqCells,if_true,Option.bind_eq_bind,List.cons.injEq,Bool.decide_and]
    rw [this]; rfl
  | [],_ :: _,h => by simp at h
  | _ :: _,[],h => by simp at h
theorem eqT9 {s t : List Int} (hs : s.length = 9) (ht : t.length = 9) : eqCells [0,0,0,0,0,0,0,0,0] ((s.map ia1).map .p) ((t.map ia1).map .p) = some (decide (s = t)) := by
  have := eqT (s := s) (t := t) (by omega)
  rw [hs] at this
  exact this
theorem Sum_ok {t : List Int} {d : Int} (hC : Cnt t d) (hd : d ≤ 200000) : eP S 16 [.g (t.map ia1)] = some (.a (.i .i64 d)) := by
  refine x_fn (orcS (by decide)) (fc := F16) rfl rfl ?_
  have hs := hC.sum
  have hpos := hC.pos
  obtain ⟨a0,a1,a2,a3,a4,a5,a6,a7,a8,rfl⟩ := nine hC.len
  simp only [List.mem_cons,List.not_mem_nil,or_false,forall_eq_or_imp,forall_eq] at hpos
  simp only [List.sum_cons,List.sum_nil] at hs
  simp only [F16,ia1,List.map_cons,List.map_nil,fxa,fxc,fxE,fxL,fxI,nxE,evO,evR,cellsT,ldCells,mkT,lenA,binPV,Env.init,resV,resT,frT,klT,ownT,intT,O.adds,ownA,rowsA,over,wrOk,keysT,keysA,ne_eq,if_true,if_false,ite_self,Nat.reduceLT,Nat.reduceSub,Nat.reduceBEq,Nat.reduceEqDiff,Nat.reduceAdd,Nat.reduceLeDiff,reduceCtorEq,Nat.reduceMul]
  refine loop_nat 9 (fun i e τ => τ = St.empty.add 1 (.var [.p (.i .i64 a0),.p (.i .i64 a1),.p (.i .i64 a2),.p (.i .i64 a3),.p (.i .i64 a4),.p (.i .i64 a5),.p (.i .i64 a6),.p (.i .i64 a7),.p (.i .i64 a8)]) ∧ e 1 = .a (.ptr (1,0) 0 0) ∧ e 3 = .a (.p (.i .i64 (([a0,a1,a2,a3,a4,a5,a6,a7,a8].take i).sum))) ∧ e 4 = .a (.p (.i .i64 (i : Nat)))) (i0 := 0) (by omega) ⟨rfl,rfl,rfl,rfl⟩ ?_ ?_
  · rintro i e τ hi ⟨rfl,e1,e3,e4⟩
    obtain rfl | rfl | rfl | rfl | rfl | rfl | rfl | rfl | rfl : i = 0 ∨ i = 1 ∨ i = 2 ∨ i = 3 ∨ i = 4 ∨ i = 5 ∨ i = 6 ∨ i = 7 ∨ i = 8 := by omega
    all_goals
      simp only [List.take_succ_cons,List.take_zero,List.sum_cons,List.sum_nil,Int.cast_ofNat_Int,Int.add_zero] at e3 e4 ⊢
      simp only [F16b0,e1,e3,e4,Int.cast_ofNat_Int,Int.reduceLE,Int.reduceLT,Int.reduceToNat,Int.reduceAdd,Int.reduceSub,Int.reduceNeg,Nat.reduceMul,Nat.reduceAdd,fxa,fxc,fxE,fxL,fxI,nxE,evO,evR,cellsT,ldCells,mkT,lenA,binPV,Env.init,resV,resT,frT,klT,ownT,intT,O.adds,ownA,rowsA,over,wrOk,keysT,keysA,ne_eq,if_true,if_false,ite_self,Nat.reduceLT,Nat.reduceSub,Nat.reduceBEq,Nat.reduceEqDiff,Nat.reduceAdd,Nat.reduceLeDiff,reduceCtorEq,Nat.reduceMul]
      exact ⟨by rw [wrap_in _ (by omega)]; try exact congrArg (fun z => TV.a (.p (.i .i64 z))) (by omega),by rw [wrap_in _ (by omega)]⟩
  · rintro e τ ⟨rfl,e1,e3,e4⟩
    simp only [List.take_succ_cons,List.take_nil,List.take_zero,List.sum_cons,List.sum_nil,Int.cast_ofNat_Int,Int.add_zero] at e3 e4 ⊢
    simp only [F16b0,e1,e3,e4,Int.cast_ofNat_Int,Int.reduceLE,Int.reduceLT,Int.reduceToNat,Int.reduceAdd,Int.reduceSub,Int.reduceNeg,fxa,fxc,fxE,fxL,fxI,nxE,evO,evR,cellsT,ldCells,mkT,lenA,binPV,Env.init,resV,resT,frT,klT,ownT,intT,O.adds,ownA,rowsA,over,wrOk,keysT,keysA,ne_eq,if_true,if_false,ite_self,Nat.reduceLT,Nat.reduceSub,Nat.reduceBEq,Nat.reduceEqDiff,Nat.reduceAdd,Nat.reduceLeDiff,reduceCtorEq,Nat.reduceMul]
    exact congrArg (fun z => some (PT.a (PV.i .i64 z))) (by omega)
end Go.Proofs.YtmlhgalboabjcaaGreat
end
section
set_option linter.unusedSimpArgs false
set_option maxHeartbeats 4000000
set_option maxRecDepth 100000
namespace Go.Proofs.YtmlhgalboabjcaaGreat
open Go.Fx
theorem f20o0 : eP S 23 [.a (.s [40,92,120,46,32,120,41,32,55]),.a (.i .i64 99)] = some (.g [(.l [[(.i .i64 1),(.i .i64 0),(.i .i64 0),(.s []),(.l []),(.l [[(.i .i64 1),(.i .i64 1)]])],[(.i .i64 3),(.i .i64 0),(.i .i64 0),(.s []),(.l []),(.l [[(.i .i64 2),(.i .i64 0)],[(.i .i64 0),(.i .i64 0)],[(.i .i64 4),(.i .i64 0)]])],[(.i .i64 2),(.i .i64 0),(.i .i64 0),(.s []),(.l []),(.l [[(.i .i64 1),(.i .i64 0)],[(.i .i64 3),(.i .i64 1)],[(.i .i64 3),(.i .i64 0)]])],[(.i .i64 5),(.i .i64 0),(.i .i64 0),(.s []),(.l []),(.l [[(.i .i64 2),(.i .i64 2)],[(.i .i64 2),(.i .i64 1)]])],[(.i .i64 10),(.i .i64 1),(.i .i64 7),(.s []),(.l []),(.l [[(.i .i64 1),(.i .i64 2)]])]]),(.i .i64 99)]) := (eP_some S).2 ⟨300,by kernel_rfl⟩
theorem f20o1 : eP S 23 [.a (.s [50,32,43,32,51]),.a (.i .i64 99)] = some (.g [(.l [[(.i .i64 1),(.i .i64 0),(.i .i64 0),(.s []),(.l []),(.l [[(.i .i64 1),(.i .i64 1)]])],[(.i .i64 11),(.i .i64 0),(.i .i64 0),(.s [43]),(.l []),(.l [[(.i .i64 2),(.i .i64 0)],[(.i .i64 0),(.i .i64 0)],[(.i .i64 3),(.i .i64 0)]])],[(.i .i64 10),(.i .i64 0),(.i .i64 2),(.s []),(.l []),(.l [[(.i .i64 1),(.i .i64 0)]])],[(.i .i64 10),(.i .i64 0),(.i .i64 3),(.s []),(.l []),(.l [[(.i .i64 1),(.i .i64 2)]])]]),(.i .i64 99)]) := (eP_some S).2 ⟨300,by kernel_rfl⟩
theorem f20o2 : eP S 23 [.a (.s [49,32,43,32,40,50,32,43,32,51,41]),.a (.i .i64 99)] = some (.g [(.l [[(.i .i64 1),(.i .i64 0),(.i .i64 0),(.s []),(.l []),(.l [[(.i .i64 1),(.i .i64 1)]])],[(.i .i64 11),(.i .i64 0),(.i .i64 0),(.s [43]),(.l []),(.l [[(.i .i64 2),(.i .i64 0)],[(.i .i64 0),(.i .i64 0)],[(.i .i64 3),(.i .i64 1)]])],[(.i .i64 10),(.i .i64 0),(.i .i64 1),(.s []),(.l []),(.l [[(.i .i64 1),(.i .i64 0)]])],[(.i .i64 11),(.i .i64 0),(.i .i64 0),(.s [43]),(.l []),(.l [[(.i .i64 4),(.i .i64 0)],[(.i .i64 1),(.i .i64 2)],[(.i .i64 5),(.i .i64 0)]])],[(.i .i64 10),(.i .i64 0),(.i .i64 2),(.s []),(.l []),(.l [[(.i .i64 3),(.i .i64 0)]])],[(.i .i64 10),(.i .i64 0),(.i .i64 3),(.s []),(.l []),(.l [[(.i .i64 3),(.i .i64 2)]])]]),(.i .i64 99)]) := (eP_some S).2 ⟨300,by kernel_rfl⟩
theorem f20o3 : eP S 23 [.a (.s [99,97,115,101,32,65,32,111,102,32,123,32,65,32,45,62,32,49,32,47,32,48,32,125]),.a (.i .i64 99)] = some (.g [(.l [[(.i .i64 1),(.i .i64 0),(.i .i64 0),(.s []),(.l []),(.l [[(.i .i64 1),(.i .i64 1)]])],[(.i .i64 9),(.i .i64 0),(.i .i64 0),(.s []),(.l [[(.s [65]),(.i .i64 0)]]),(.l [[(.i .i64 2),(.i .i64 0)],[(.i .i64 0),(.i .i64 0)],[(.i .i64 3),(.i .i64 1)]])],[(.i .i64 8),(.i .i64 0),(.i .i64 0),(.s [65]),(.l []),(.l [[(.i .i64 1),(.i .i64 0)]])],[(.i .i64 11),(.i .i64 0),(.i .i64 0),(.s [47]),(.l []),(.l [[(.i .i64 4),(.i .i64 0)],[(.i .i64 1),(.i .i64 2)],[(.i .i64 5),(.i .i64 0)]])],[(.i .i64 10),(.i .i64 0),(.i .i64 1),(.s []),(.l []),(.l [[(.i .i64 3),(.i .i64 0)]])],[(.i .i64 10),(.i .i64 0),(.i .i64 0),(.s []),(.l []),(.l [[(.i .i64 3),(.i .i64 2)]])]]),(.i .i64 99)]) := (eP_some S).2 ⟨300,by kernel_rfl⟩
theorem f20c0 : eP S 13 [(.g [(.l [[(.i .i64 1),(.i .i64 0),(.i .i64 0),(.s []),(.l []),(.l [[(.i .i64 1),(.i .i64 1)]])],[(.i .i64 3),(.i .i64 0),(.i .i64 0),(.s []),(.l []),(.l [[(.i .i64 2),(.i .i64 0)],[(.i .i64 0),(.i .i64 0)],[(.i .i64 4),(.i .i64 0)]])],[(.i .i64 2),(.i .i64 0),(.i .i64 0),(.s []),(.l []),(.l [[(.i .i64 1),(.i .i64 0)],[(.i .i64 3),(.i .i64 1)],[(.i .i64 3),(.i .i64 0)]])],[(.i .i64 5),(.i .i64 0),(.i .i64 0),(.s []),(.l []),(.l [[(.i .i64 2),(.i .i64 2)],[(.i .i64 2),(.i .i64 1)]])],[(.i .i64 10),(.i .i64 1),(.i .i64 7),(.s []),(.l []),(.l [[(.i .i64 1),(.i .i64 2)]])]]),(.i .i64 99)]),.g [.i .i64 0,.i .i64 0],.a (.i .i64 9)] = some (.t [(true,[(.l [[(.i .i64 1),(.i .i64 0),(.i .i64 0),(.s []),(.l []),(.l [[(.i .i64 1),(.i .i64 0)]])],[(.i .i64 10),(.i .i64 0),(.i .i64 7),(.s []),(.l []),(.l [[(.i .i64 0),(.i .i64 0)]])]]),(.i .i64 99)]),(false,[(.i .i64 1)]),(true,[(.i .i64 0),(.i .i64 1),(.i .i64 0),(.i .i64 0),(.i .i64 0),(.i .i64 0),(.i .i64 0),(.i .i64 1),(.i .i64 0)]),(false,[(.i .i64 0)])]) := (eP_some S).2 ⟨300,by kernel_rfl⟩
theorem f20c1 : eP S 13 [(.g [(.l [[(.i .i64 1),(.i .i64 0),(.i .i64 0),(.s []),(.l []),(.l [[(.i .i64 1),(.i .i64 1)]])],[(.i .i64 11),(.i .i64 0),(.i .i64 0),(.s [43]),(.l []),(.l [[(.i .i64 2),(.i .i64 0)],[(.i .i64 0),(.i .i64 0)],[(.i .i64 3),(.i .i64 0)]])],[(.i .i64 10),(.i .i64 0),(.i .i64 2),(.s []),(.l []),(.l [[(.i .i64 1),(.i .i64 0)]])],[(.i .i64 10),(.i .i64 0),(.i .i64 3),(.s []),(.l []),(.l [[(.i .i64 1),(.i .i64 2)]])]]),(.i .i64 99)]),.g [.i .i64 0,.i .i64 0],.a (.i .i64 1)] = some (.t [(true,[(.l [[(.i .i64 1),(.i .i64 0),(.i .i64 0),(.s []),(.l []),(.l [[(.i .i64 4),(.i .i64 1)]])],[(.i .i64 0),(.i .i64 0),(.i .i64 0),(.s []),(.l []),(.l [])],[(.i .i64 0),(.i .i64 0),(.i .i64 0),(.s []),(.l []),(.l [])],[(.i .i64 10),(.i .i64 0),(.i .i64 3),(.s []),(.l []),(.l [[(.i .i64 4),(.i .i64 0)]])],[(.i .i64 12),(.i .i64 0),(.i .i64 2),(.s [43]),(.l []),(.l [[(.i .i64 3),(.i .i64 0)],[(.i .i64 0),(.i .i64 0)]])]]),(.i .i64 99)]),(false,[(.i .i64 0)]),(true,[(.i .i64 0),(.i .i64 0),(.i .i64 0),(.i .i64 1),(.i .i64 0),(.i .i64 0),(.i .i64 0),(.i .i64 0),(.i .i64 0)]),(false,[(.i .i64 90)])]) := (eP_some S).2 ⟨300,by kernel_rfl⟩
theorem f20c2 : eP S 13 [(.g [(.l [[(.i .i64 1),(.i .i64 0),(.i .i64 0),(.s []),(.l []),(.l [[(.i .i64 1),(.i .i64 1)]])],[(.i .i64 11),(.i .i64 0),(.i .i64 0),(.s [43]),(.l []),(.l [[(.i .i64 2),(.i .i64 0)],[(.i .i64 0),(.i .i64 0)],[(.i .i64 3),(.i .i64 0)]])],[(.i .i64 10),(.i .i64 0),(.i .i64 2),(.s []),(.l []),(.l [[(.i .i64 1),(.i .i64 0)]])],[(.i .i64 10),(.i .i64 0),(.i .i64 3),(.s []),(.l []),(.l [[(.i .i64 1),(.i .i64 2)]])]]),(.i .i64 99)]),.g [.i .i64 0,.i .i64 0],.a (.i .i64 2)] = some (.t [(true,[(.l [[(.i .i64 1),(.i .i64 0),(.i .i64 0),(.s []),(.l []),(.l [[(.i .i64 1),(.i .i64 0)]])],[(.i .i64 10),(.i .i64 0),(.i .i64 5),(.s []),(.l []),(.l [[(.i .i64 0),(.i .i64 0)]])]]),(.i .i64 99)]),(false,[(.i .i64 1)]),(true,[(.i .i64 0),(.i .i64 0),(.i .i64 0),(.i .i64 1),(.i .i64 1),(.i .i64 0),(.i .i64 0),(.i .i64 0),(.i .i64 0)]),(false,[(.i .i64 0)])]) := (eP_some S).2 ⟨300,by kernel_rfl⟩
theorem f20c3 : eP S 13 [(.g [(.l [[(.i .i64 1),(.i .i64 0),(.i .i64 0),(.s []),(.l []),(.l [[(.i .i64 1),(.i .i64 1)]])],[(.i .i64 11),(.i .i64 0),(.i .i64 0),(.s [43]),(.l []),(.l [[(.i .i64 2),(.i .i64 0)],[(.i .i64 0),(.i .i64 0)],[(.i .i64 3),(.i .i64 0)]])],[(.i .i64 10),(.i .i64 0),(.i .i64 2),(.s []),(.l []),(.l [[(.i .i64 1),(.i .i64 0)]])],[(.i .i64 10),(.i .i64 0),(.i .i64 3),(.s []),(.l []),(.l [[(.i .i64 1),(.i .i64 2)]])]]),(.i .i64 99)]),.g [.i .i64 0,.i .i64 0],.a (.i .i64 (-1))] = some (.t [(true,[(.l [[(.i .i64 1),(.i .i64 0),(.i .i64 0),(.s []),(.l []),(.l [[(.i .i64 1),(.i .i64 1)]])],[(.i .i64 11),(.i .i64 0),(.i .i64 0),(.s [43]),(.l []),(.l [[(.i .i64 2),(.i .i64 0)],[(.i .i64 0),(.i .i64 0)],[(.i .i64 3),(.i .i64 0)]])],[(.i .i64 10),(.i .i64 0),(.i .i64 2),(.s []),(.l []),(.l [[(.i .i64 1),(.i .i64 0)]])],[(.i .i64 10),(.i .i64 0),(.i .i64 3),(.s []),(.l []),(.l [[(.i .i64 1),(.i .i64 2)]])]]),(.i .i64 99)]),(false,[(.i .i64 0)]),(true,[(.i .i64 0),(.i .i64 0),(.i .i64 0),(.i .i64 0),(.i .i64 0),(.i .i64 0),(.i .i64 0),(.i .i64 0),(.i .i64 0)]),(false,[(.i .i64 1)])]) := (eP_some S).2 ⟨300,by kernel_rfl⟩
theorem f20c4 : eP S 12 [(.g [(.l [[(.i .i64 1),(.i .i64 0),(.i .i64 0),(.s []),(.l []),(.l [[(.i .i64 1),(.i .i64 1)]])],[(.i .i64 11),(.i .i64 0),(.i .i64 0),(.s [43]),(.l []),(.l [[(.i .i64 2),(.i .i64 0)],[(.i .i64 0),(.i .i64 0)],[(.i .i64 3),(.i .i64 1)]])],[(.i .i64 10),(.i .i64 0),(.i .i64 1),(.s []),(.l []),(.l [[(.i .i64 1),(.i .i64 0)]])],[(.i .i64 11),(.i .i64 0),(.i .i64 0),(.s [43]),(.l []),(.l [[(.i .i64 4),(.i .i64 0)],[(.i .i64 1),(.i .i64 2)],[(.i .i64 5),(.i .i64 0)]])],[(.i .i64 10),(.i .i64 0),(.i .i64 2),(.s []),(.l []),(.l [[(.i .i64 3),(.i .i64 0)]])],[(.i .i64 10),(.i .i64 0),(.i .i64 3),(.s []),(.l []),(.l [[(.i .i64 3),(.i .i64 2)]])]]),(.i .i64 99)]),.a (.l [[.i .i64 4],[.i .i64 (-3)],[.i .i64 0],[.i .i64 9],[.i .i64 9],[.i .i64 9]])] = some (.t [(true,[(.l [[(.i .i64 1),(.i .i64 0),(.i .i64 0),(.s []),(.l []),(.l [[(.i .i64 1),(.i .i64 0)]])],[(.i .i64 10),(.i .i64 0),(.i .i64 6),(.s []),(.l []),(.l [[(.i .i64 0),(.i .i64 0)]])]]),(.i .i64 99)]),(true,[(.i .i64 0),(.i .i64 0),(.i .i64 0),(.i .i64 2),(.i .i64 2),(.i .i64 0),(.i .i64 0),(.i .i64 0),(.i .i64 0)]),(false,[(.i .i64 0)])]) := (eP_some S).2 ⟨300,by kernel_rfl⟩
theorem f20c5 : eP S 13 [(.g [(.l [[(.i .i64 1),(.i .i64 0),(.i .i64 0),(.s []),(.l []),(.l [[(.i .i64 1),(.i .i64 1)]])],[(.i .i64 9),(.i .i64 0),(.i .i64 0),(.s []),(.l [[(.s [65]),(.i .i64 0)]]),(.l [[(.i .i64 2),(.i .i64 0)],[(.i .i64 0),(.i .i64 0)],[(.i .i64 3),(.i .i64 1)]])],[(.i .i64 8),(.i .i64 0),(.i .i64 0),(.s [65]),(.l []),(.l [[(.i .i64 1),(.i .i64 0)]])],[(.i .i64 11),(.i .i64 0),(.i .i64 0),(.s [47]),(.l []),(.l [[(.i .i64 4),(.i .i64 0)],[(.i .i64 1),(.i .i64 2)],[(.i .i64 5),(.i .i64 0)]])],[(.i .i64 10),(.i .i64 0),(.i .i64 1),(.s []),(.l []),(.l [[(.i .i64 3),(.i .i64 0)]])],[(.i .i64 10),(.i .i64 0),(.i .i64 0),(.s []),(.l []),(.l [[(.i .i64 3),(.i .i64 2)]])]]),(.i .i64 99)]),.g [.i .i64 0,.i .i64 0],.a (.i .i64 99)] = some (.t [(true,[(.l [[(.i .i64 1),(.i .i64 0),(.i .i64 0),(.s []),(.l []),(.l [[(.i .i64 2),(.i .i64 0)]])],[(.i .i64 0),(.i .i64 0),(.i .i64 0),(.s []),(.l []),(.l [])],[(.i .i64 13),(.i .i64 0),(.i .i64 0),(.s []),(.l []),(.l [[(.i .i64 0),(.i .i64 0)]])]]),(.i .i64 99)]),(false,[(.i .i64 2)]),(true,[(.i .i64 0),(.i .i64 0),(.i .i64 1),(.i .i64 1),(.i .i64 0),(.i .i64 1),(.i .i64 0),(.i .i64 0),(.i .i64 0)]),(false,[(.i .i64 0)])]) := (eP_some S).2 ⟨300,by kernel_rfl⟩
end Go.Proofs.YtmlhgalboabjcaaGreat
end
section
set_option linter.unusedSimpArgs false
set_option linter.unusedVariables false
set_option maxHeartbeats 4000000
set_option maxRecDepth 100000
namespace Go.Proofs.YtmlhgalboabjcaaGreat
open Go.Fx
theorem f20s0 : eP S 16 [.g [.i .i64 0,.i .i64 1,.i .i64 0,.i .i64 0,.i .i64 0,.i .i64 0,.i .i64 0,.i .i64 1,.i .i64 0]] = some (.a (.i .i64 2)) := (eP_some S).2 ⟨60,by kernel_rfl⟩
theorem f20s1 : eP S 16 [.g [.i .i64 0,.i .i64 0,.i .i64 0,.i .i64 2,.i .i64 2,.i .i64 0,.i .i64 0,.i .i64 0,.i .i64 0]] = some (.a (.i .i64 4)) := (eP_some S).2 ⟨60,by kernel_rfl⟩
theorem fixed20_ok : eP S 7 [] = some (.a (.b true)) := by
  refine x_fn (orcS (by decide)) (fc := F7) rfl rfl ?_
  simp only [F7,f20o0,f20o1,f20o2,f20o3,f20c0,f20c1,f20c2,f20c3,f20c4,f20c5,f20s0,f20s1,PT.flat,PV.flat,List.all_cons,List.all_nil,Bool.and_true,Bool.true_and,Bool.false_and,Bool.and_false,Bool.false_eq_true,Int.cast_ofNat_Int,Int.reduceLE,Int.reduceLT,Int.reduceToNat,Int.reduceAdd,Int.reduceSub,Int.reduceNeg,Int.reduceEq,Int.reduceNe,decide_true,decide_false,gt_iff_lt,ge_iff_le,fxa,fxc,fxE,fxL,fxI,nxE,evO,evR,cellsT,ldCells,mkT,lenA,binPV,Env.init,resV,resT,frT,klT,ownT,intT,O.adds,ownA,rowsA,over,wrOk,keysT,keysA,ne_eq,if_true,if_false,ite_self,Nat.reduceLT,Nat.reduceSub,Nat.reduceBEq,Nat.reduceEqDiff,Nat.reduceAdd,Nat.reduceLeDiff,reduceCtorEq,Nat.reduceMul]
end Go.Proofs.YtmlhgalboabjcaaGreat
end
section
set_option linter.unusedSimpArgs false
set_option linter.unusedVariables false
set_option maxHeartbeats 4000000
set_option maxRecDepth 10000
namespace Go.Proofs.YtmlhgalboabjcaaGreat
open Go.Fx
theorem addT_comm : ∀ (s t : List Int),addT s t = addT t s
  | [],[] => rfl
  | a :: s,b :: t => by simp only [addT,addT_comm s t,Int.add_comm]
  | [],_ :: _ => rfl
  | _ :: _,[] => rfl
def mixT (i : Nat) (s t : List Int) : List Int := (addT s t).take i ++ s.drop i
end Go.Proofs.YtmlhgalboabjcaaGreat
end
section
set_option linter.unusedSimpArgs false
set_option linter.unusedVariables false
set_option maxHeartbeats 4000000
set_option maxRecDepth 10000
namespace Go.Proofs.YtmlhgalboabjcaaGreat
open Go.Fx
theorem picksLoop {s t : List Int} {k9 k17 : Key} (hs : s.length = 9) (ht : t.length = 9) (bs : ∀ x ∈ s,0 ≤ x ∧ x ≤ 200000) (bt : ∀ x ∈ t,0 ≤ x ∧ x ≤ 200000) (hk : k9 ≠ k17) {σ : St} (h9 : σ.bs k9 = some (.var ((t.map ia1).map .p))) (h17 : σ.bs k17 = some (.var ((s.map ia1).map .p))) (e : Env)
    (e11 : e 11 = .a (.ptr k9 0 0)) (e14 : e 14 = .a (.ptr k17 0 0)) (e16 : e 16 = .a (.p (.i .i64 0))) :
    wp S false (.loop F6b0) e σ (fun z e' σ' => z = .exit 0 ∧ σ'.bs k17 = some (.var (((addT s t).map ia1).map .p)) ∧ (∀ k,k ≠ k17 → σ'.bs k = σ.bs k) ∧ e' 14 = e 14 ∧ e' 11 = e 11 ∧ e' 1 = e 1 ∧ e' 7 = e 7 ∧ e' 8 = e 8 ∧ e' 9 = e 9 ∧ e' 13 = e 13 ∧ e' 15 = e 15) := by
  obtain ⟨a0,a1,a2,a3,a4,a5,a6,a7,a8,rfl⟩ := nine hs
  obtain ⟨b0,b1,b2,b3,b4,b5,b6,b7,b8,rfl⟩ := nine ht
  simp only [List.mem_cons,List.not_mem_nil,or_false,forall_eq_or_imp,forall_eq] at bs bt
  obtain ⟨u1,hu1⟩ : ∃ z,e 1 = z := ⟨_,rfl⟩
  obtain ⟨u7,hu7⟩ : ∃ z,e 7 = z := ⟨_,rfl⟩
  obtain ⟨u8,hu8⟩ : ∃ z,e 8 = z := ⟨_,rfl⟩
  obtain ⟨u9,hu9⟩ : ∃ z,e 9 = z := ⟨_,rfl⟩
  obtain ⟨u13,hu13⟩ : ∃ z,e 13 = z := ⟨_,rfl⟩
  obtain ⟨u15,hu15⟩ : ∃ z,e 15 = z := ⟨_,rfl⟩
  rw [e11,e14,hu1,hu7,hu8,hu9,hu13,hu15]
  refine loop_nat 9 (fun i e τ => τ.bs k17 = some (.var (((mixT i [a0,a1,a2,a3,a4,a5,a6,a7,a8] [b0,b1,b2,b3,b4,b5,b6,b7,b8]).map ia1).map .p)) ∧ (∀ k,k ≠ k17 → τ.bs k = σ.bs k) ∧ e 16 = .a (.p (.i .i64 (i : Nat))) ∧ e 14 = .a (.ptr k17 0 0) ∧ e 11 = .a (.ptr k9 0 0) ∧ e 1 = u1 ∧ e 7 = u7 ∧ e 8 = u8 ∧ e 9 = u9 ∧ e 13 = u13 ∧ e 15 = u15) (i0 := 0) (by omega) ⟨h17,fun _ _ => rfl,e16,e14,e11,hu1,hu7,hu8,hu9,hu13,hu15⟩ ?_ ?_
  · rintro i e τ hi ⟨t17,tk,e16,e14,e11,e1,e7,e8,e9,e13,e15⟩
    have t9 := (tk k9 hk).trans h9
    have w : ∀ x y : Int,0 ≤ x ∧ x ≤ 200000 → 0 ≤ y ∧ y ≤ 200000 → IntKind.i64.wrap (x + y) = x + y := fun x y h1 h2 => wrap_in _ (by omega)
    obtain rfl | rfl | rfl | rfl | rfl | rfl | rfl | rfl | rfl : i = 0 ∨ i = 1 ∨ i = 2 ∨ i = 3 ∨ i = 4 ∨ i = 5 ∨ i = 6 ∨ i = 7 ∨ i = 8 := by omega
    all_goals
      simp only [mixT,addT,ia1,List.take_succ_cons,List.take_zero,List.drop_succ_cons,List.drop_zero,List.nil_append,List.cons_append,List.map_cons,List.map_nil,Int.cast_ofNat_Int] at t17 t9 e16 ⊢
      simp only [F6b0,e16,e14,e11,e1,e7,e8,e9,e13,e15,t17,t9,bs,bt,w,Int.cast_ofNat_Int,Int.reduceLE,Int.reduceLT,Int.reduceToNat,Int.reduceAdd,Int.reduceSub,Int.reduceNeg,Nat.reduceMul,Nat.reduceAdd,fxa,fxc,fxE,fxL,fxI,nxE,evO,evR,cellsT,ldCells,mkT,lenA,binPV,Env.init,resV,resT,frT,klT,ownT,intT,O.adds,ownA,rowsA,over,wrOk,keysT,keysA,ne_eq,if_true,if_false,ite_self,Nat.reduceLT,Nat.reduceSub,Nat.reduceBEq,Nat.reduceEqDiff,Nat.reduceAdd,Nat.reduceLeDiff,reduceCtorEq,Nat.reduceMul]
      exact ⟨fun k hk' => by rw [if_neg hk']; exact tk k hk',by rw [wrap_in _ (by omega)]⟩
  · rintro e τ ⟨t17,tk,e16,e14,e11,e1,e7,e8,e9,e13,e15⟩
    simp only [F6b0,e16,e14,e11,e1,e7,e8,e9,e13,e15,Int.cast_ofNat_Int,Int.reduceLE,Int.reduceLT,Int.reduceToNat,Int.reduceAdd,Int.reduceSub,Int.reduceNeg,fxa,fxc,fxE,fxL,fxI,nxE,evO,evR,cellsT,ldCells,mkT,lenA,binPV,Env.init,resV,resT,frT,klT,ownT,intT,O.adds,ownA,rowsA,over,wrOk,keysT,keysA,ne_eq,if_true,if_false,ite_self,Nat.reduceLT,Nat.reduceSub,Nat.reduceBEq,Nat.reduceEqDiff,Nat.reduceAdd,Nat.reduceLeDiff,reduceCtorEq,Nat.reduceMul]
    exact ⟨t17,tk⟩
theorem turnPicks_law {n : Nt} {l : List Int} {cut : Int} (hn : n.Ok) (hw : ∀ i ∈ l,wf i) : eP S 6 [.g (encT n),.a (.l (l.map encI)),.a (.i .i64 cut)] = some (.a (.b true)) := by
  have f0 := fixed20_ok
  have a1 := Small_ok hn 120
  have a2 := RCheck_ok hn
  refine x_fn (orcS (by decide)) (fc := F6) rfl rfl ?_
  by_cases h1 : n.small 120
  case neg =>
    rw [bool_f h1] at a1
    simp only [encT] at a1
    simp only [F6,f0,a1,encT,fxa,fxc,fxE,fxL,fxI,nxE,evO,evR,cellsT,ldCells,mkT,lenA,binPV,Env.init,resV,resT,frT,klT,ownT,intT,O.adds,ownA,rowsA,over,wrOk,keysT,keysA,ne_eq,if_true,if_false,ite_self,Nat.reduceLT,Nat.reduceSub,Nat.reduceBEq,Nat.reduceEqDiff,Nat.reduceAdd,Nat.reduceLeDiff,reduceCtorEq,Nat.reduceMul]
  rw [bool_t h1] at a1
  by_cases h2 : n.Good
  case neg =>
    rw [bool_f h2] at a2
    simp only [Bool.false_eq_true,if_false,encT] at a1 a2
    simp only [F6,f0,a1,a2,Int.reduceEq,encT,fxa,fxc,fxE,fxL,fxI,nxE,evO,evR,cellsT,ldCells,mkT,lenA,binPV,Env.init,resV,resT,frT,klT,ownT,intT,O.adds,ownA,rowsA,over,wrOk,keysT,keysA,ne_eq,if_true,if_false,ite_self,Nat.reduceLT,Nat.reduceSub,Nat.reduceBEq,Nat.reduceEqDiff,Nat.reduceAdd,Nat.reduceLeDiff,reduceCtorEq,Nat.reduceMul]
  rw [bool_t h2] at a2
  simp only [if_true,encT] at a1 a2
  by_cases h3 : (l.length : Int) > 20
  · simp only [F6,f0,a1,a2,h3,encT,List.length_map,fxa,fxc,fxE,fxL,fxI,nxE,evO,evR,cellsT,ldCells,mkT,lenA,binPV,Env.init,resV,resT,frT,klT,ownT,intT,O.adds,ownA,rowsA,over,wrOk,keysT,keysA,ne_eq,if_true,if_false,ite_self,Nat.reduceLT,Nat.reduceSub,Nat.reduceBEq,Nat.reduceEqDiff,Nat.reduceAdd,Nat.reduceLeDiff,reduceCtorEq,Nat.reduceMul]
  by_cases h4 : cut < 0
  · simp only [F6,f0,a1,a2,h3,h4,encT,List.length_map,fxa,fxc,fxE,fxL,fxI,nxE,evO,evR,cellsT,ldCells,mkT,lenA,binPV,Env.init,resV,resT,frT,klT,ownT,intT,O.adds,ownA,rowsA,over,wrOk,keysT,keysA,ne_eq,if_true,if_false,ite_self,Nat.reduceLT,Nat.reduceSub,Nat.reduceBEq,Nat.reduceEqDiff,Nat.reduceAdd,Nat.reduceLeDiff,reduceCtorEq,Nat.reduceMul]
  by_cases h5 : cut > (l.length : Int)
  · simp only [F6,f0,a1,a2,h3,h4,h5,encT,List.length_map,fxa,fxc,fxE,fxL,fxI,nxE,evO,evR,cellsT,ldCells,mkT,lenA,binPV,Env.init,resV,resT,frT,klT,ownT,intT,O.adds,ownA,rowsA,over,wrOk,keysT,keysA,ne_eq,if_true,if_false,ite_self,Nat.reduceLT,Nat.reduceSub,Nat.reduceBEq,Nat.reduceEqDiff,Nat.reduceAdd,Nat.reduceLeDiff,reduceCtorEq,Nat.reduceMul]
  have c1 := Picks_ok (l := l) hn h2 (by omega) hw
  have c2 := Picks_ok (l := l.take cut.toNat) hn h2 (by rw [List.length_take]; omega) (fun i hi => hw i (List.mem_of_mem_take hi))
  have H1 := picks_ok l hn h2 tz_cnt
  have H2 := picks_ok (l.take cut.toNat) hn h2 tz_cnt
  have Sp := picks_split (l.take cut.toNat) (l.drop cut.toNat) hn h2 tz_cnt
  have hlt : (l.take cut.toNat).length = cut.toNat := by rw [List.length_take]; omega
  rw [List.take_append_drop] at Sp
  obtain ⟨ra,hra⟩ : ∃ r,picksF l n tz = r := ⟨_,rfl⟩
  obtain ⟨rb,hrb⟩ : ∃ r,picksF (l.take cut.toNat) n tz = r := ⟨_,rfl⟩
  rw [hra] at c1 H1 Sp
  rw [hrb] at c2 H2 Sp
  rw [hlt] at H2 Sp
  obtain ⟨a,t,e⟩ := ra
  obtain ⟨b,u,f⟩ := rb
  have hao := H1.ok
  have hag := H1.good
  have hbo := H2.ok
  have hbg := H2.good
  obtain ⟨d1,hC1,_,hd1⟩ := H1.cnt
  obtain ⟨d2,hC2,_,hd2⟩ := H2.cnt
  simp only at hao hag hbo hbg hC1 hC2 Sp
  rw [hC2.sum] at Sp
  have hsum : ¬ d1 > (l.length : Int) := by omega
  have a3 := RCheck_ok hao
  rw [bool_t hag] at a3
  have a4 := RCheck_ok hbo
  rw [bool_t hbg] at a4
  have a5 := Sum_ok hC1 (by omega)
  have a6 := Sum_ok hC2 (by omega)
  have lt1 : ((t.map ia1).map AV.p).length = 9 := by simp [hC1.len]
  have tk1 : List.take 9 ((t.map ia1).map AV.p) = (t.map ia1).map AV.p := List.take_of_length_le (by omega)
  have fr1 : ∀ (t : List Int) (τ : St),frL τ ((t.map ia1).map AV.p) = some (t.map ia1) := fun t τ => frL_p τ _
  have lt2 : ((u.map ia1).map AV.p).length = 9 := by simp [hC2.len]
  have tk2 : List.take 9 ((u.map ia1).map AV.p) = (u.map ia1).map AV.p := List.take_of_length_le (by omega)
  have q1 := eqT9 hC1.len hC2.len
  have sub1 : subRows (l.map encI) 0 cut = some ((l.take cut.toNat).map encI) := by
    unfold subRows
    rw [if_pos (by simp only [List.length_map]; omega)]
    simp [List.map_take]
  have sub2 : subRows (l.map encI) cut (l.length : Int) = some ((l.drop cut.toNat).map encI) := by
    unfold subRows
    rw [if_pos (by simp only [List.length_map]; omega)]
    rw [List.take_of_length_le (by simp),List.map_drop]
  simp only [if_true,encT] at a3 a4
  simp only [encK,encT] at c1 c2
  by_cases he : f ≠ 0 ∨ d2 < cut
  · rw [if_pos (by rcases he with h | h; exact .inl h; exact .inr (by omega))] at Sp
    simp only [PR.mk.injEq] at Sp
    obtain ⟨rfl,rfl,rfl⟩ := Sp
    obtain rfl : d1 = d2 := by rw [← hC1.sum,hC2.sum]
    have c4 := Same_ok (b := a) hao
    rw [bool_t rfl] at c4
    simp only [encT] at c4
    rw [decide_eq_true rfl] at q1
    by_cases hf : e = 0
    · subst hf
      have hd2c : d1 < cut := by rcases he with h | h; exact absurd rfl h; exact h
      simp only [F6,f0,a1,a2,a3,a4,a5,a6,c1,c2,c4,q1,sub1,sub2,allI,optInt,h3,h4,h5,hd2c,hsum,lt1,tk1,lt2,tk2,fr1,Int.reduceEq,encT,List.length_map,fxa,fxc,fxE,fxL,fxI,nxE,evO,evR,cellsT,ldCells,mkT,lenA,binPV,Env.init,resV,resT,frT,klT,ownT,intT,O.adds,ownA,rowsA,over,wrOk,keysT,keysA,ne_eq,if_true,if_false,ite_self,Nat.reduceLT,Nat.reduceSub,Nat.reduceBEq,Nat.reduceEqDiff,Nat.reduceAdd,Nat.reduceLeDiff,reduceCtorEq,Nat.reduceMul]
    · simp only [F6,f0,a1,a2,a3,a4,a5,a6,c1,c2,c4,q1,sub1,sub2,allI,optInt,h3,h4,h5,hf,hsum,lt1,tk1,lt2,tk2,fr1,Int.reduceEq,encT,List.length_map,fxa,fxc,fxE,fxL,fxI,nxE,evO,evR,cellsT,ldCells,mkT,lenA,binPV,Env.init,resV,resT,frT,klT,ownT,intT,O.adds,ownA,rowsA,over,wrOk,keysT,keysA,ne_eq,if_true,if_false,ite_self,Nat.reduceLT,Nat.reduceSub,Nat.reduceBEq,Nat.reduceEqDiff,Nat.reduceAdd,Nat.reduceLeDiff,reduceCtorEq,Nat.reduceMul]
  · have hf : f = 0 := by omega
    subst hf
    rw [if_neg (by omega)] at Sp
    have hd2c : ¬ d2 < cut := by omega
    have c3 := Picks_ok (l := l.drop cut.toNat) hbo hbg (by rw [List.length_drop]; omega) (fun i hi => hw i (List.mem_of_mem_drop hi))
    have A := picks_add (l.drop cut.toNat) (n := b) (s := u) (t := tz) hbo hbg hC2.len rfl
    rw [addT_z hC2.len,← Sp] at A
    have H3 := picks_ok (l.drop cut.toNat) hbo hbg tz_cnt
    obtain ⟨rc,hrc⟩ : ∃ r,picksF (l.drop cut.toNat) b tz = r := ⟨_,rfl⟩
    rw [hrc] at c3 A H3
    obtain ⟨c,v,g⟩ := rc
    obtain ⟨d3,hC3,_,hd3⟩ := H3.cnt
    rw [List.length_drop] at hd3
    simp only at A hC3
    obtain ⟨rfl,rfl,rfl⟩ := A
    rw [addT_comm] at c1 hC1 lt1 tk1 a5
    have lt3 : ((v.map ia1).map AV.p).length = 9 := by simp [hC3.len]
    have tk3 : List.take 9 ((v.map ia1).map AV.p) = (v.map ia1).map AV.p := List.take_of_length_le (by omega)
    have q2 := eqT9 hC1.len hC1.len
    rw [decide_eq_true rfl] at q2
    have c4 := Same_ok (b := a) hao
    rw [bool_t rfl] at c4
    simp only [encT] at c4
    simp only [encK,encT] at c3
    simp only [F6,f0,a1,a2,a3,a4,a5,a6,c1,c2,c3,c4,q1,sub1,sub2,allI,optInt,h3,h4,h5,hd2c,hsum,lt1,tk1,lt2,tk2,lt3,tk3,fr1,Int.reduceEq,encT,List.length_map,fxa,fxc,fxE,fxL,fxI,nxE,evO,evR,cellsT,ldCells,mkT,lenA,binPV,Env.init,resV,resT,frT,klT,ownT,intT,O.adds,ownA,rowsA,over,wrOk,keysT,keysA,ne_eq,if_true,if_false,ite_self,Nat.reduceLT,Nat.reduceSub,Nat.reduceBEq,Nat.reduceEqDiff,Nat.reduceAdd,Nat.reduceLeDiff,reduceCtorEq,Nat.reduceMul]
    have bd : ∀ {t : List Int} {d : Int},Cnt t d → d ≤ 200000 → ∀ x ∈ t,0 ≤ x ∧ x ≤ 200000 := fun h hd x hx => ⟨h.pos x hx,by have := sum_le h.pos x hx; rw [h.sum] at this; omega⟩
    refine Go.Fx.wp_mono (picksLoop (s := v) (t := u) (k9 := (11,4)) (k17 := (14,6)) hC3.len hC2.len (bd hC3 (by omega)) (bd hC2 (by omega)) (by simp) ?_ ?_ _ ?_ ?_ ?_) ?_
    · simp only [fxa,fxc,fxE,fxL,fxI,nxE,evO,evR,cellsT,ldCells,mkT,lenA,binPV,Env.init,resV,resT,frT,klT,ownT,intT,O.adds,ownA,rowsA,over,wrOk,keysT,keysA,ne_eq,if_true,if_false,ite_self,Nat.reduceLT,Nat.reduceSub,Nat.reduceBEq,Nat.reduceEqDiff,Nat.reduceAdd,Nat.reduceLeDiff,reduceCtorEq,Nat.reduceMul]
    · simp only [fxa,fxc,fxE,fxL,fxI,nxE,evO,evR,cellsT,ldCells,mkT,lenA,binPV,Env.init,resV,resT,frT,klT,ownT,intT,O.adds,ownA,rowsA,over,wrOk,keysT,keysA,ne_eq,if_true,if_false,ite_self,Nat.reduceLT,Nat.reduceSub,Nat.reduceBEq,Nat.reduceEqDiff,Nat.reduceAdd,Nat.reduceLeDiff,reduceCtorEq,Nat.reduceMul]
    · simp only [fxa,fxc,fxE,fxL,fxI,nxE,evO,evR,cellsT,ldCells,mkT,lenA,binPV,Env.init,resV,resT,frT,klT,ownT,intT,O.adds,ownA,rowsA,over,wrOk,keysT,keysA,ne_eq,if_true,if_false,ite_self,Nat.reduceLT,Nat.reduceSub,Nat.reduceBEq,Nat.reduceEqDiff,Nat.reduceAdd,Nat.reduceLeDiff,reduceCtorEq,Nat.reduceMul]
    · simp only [fxa,fxc,fxE,fxL,fxI,nxE,evO,evR,cellsT,ldCells,mkT,lenA,binPV,Env.init,resV,resT,frT,klT,ownT,intT,O.adds,ownA,rowsA,over,wrOk,keysT,keysA,ne_eq,if_true,if_false,ite_self,Nat.reduceLT,Nat.reduceSub,Nat.reduceBEq,Nat.reduceEqDiff,Nat.reduceAdd,Nat.reduceLeDiff,reduceCtorEq,Nat.reduceMul]
    · simp only [fxa,fxc,fxE,fxL,fxI,nxE,evO,evR,cellsT,ldCells,mkT,lenA,binPV,Env.init,resV,resT,frT,klT,ownT,intT,O.adds,ownA,rowsA,over,wrOk,keysT,keysA,ne_eq,if_true,if_false,ite_self,Nat.reduceLT,Nat.reduceSub,Nat.reduceBEq,Nat.reduceEqDiff,Nat.reduceAdd,Nat.reduceLeDiff,reduceCtorEq,Nat.reduceMul]
    rintro z e' σ' ⟨rfl,s14,sk,g14,g11,g1,g7,g8,g9,g13,g15⟩
    have s7 := sk (7,1) (by simp)
    have s8 := sk (8,2) (by simp)
    have s13 := sk (13,5) (by simp)
    simp only [fxa,fxc,fxE,fxL,fxI,nxE,evO,evR,cellsT,ldCells,mkT,lenA,binPV,Env.init,resV,resT,frT,klT,ownT,intT,O.adds,ownA,rowsA,over,wrOk,keysT,keysA,ne_eq,if_true,if_false,ite_self,Nat.reduceLT,Nat.reduceSub,Nat.reduceBEq,Nat.reduceEqDiff,Nat.reduceAdd,Nat.reduceLeDiff,reduceCtorEq,Nat.reduceMul] at s7 s8 s13 g1 g7 g8 g9 g11 g13 g14 g15
    simp only [s7,s8,s13,s14,g1,g7,g8,g9,g11,g13,g14,g15,c4,q2,lt1,tk1,fr1,Int.reduceEq,fxa,fxc,fxE,fxL,fxI,nxE,evO,evR,cellsT,ldCells,mkT,lenA,binPV,Env.init,resV,resT,frT,klT,ownT,intT,O.adds,ownA,rowsA,over,wrOk,keysT,keysA,ne_eq,if_true,if_false,ite_self,Nat.reduceLT,Nat.reduceSub,Nat.reduceBEq,Nat.reduceEqDiff,Nat.reduceAdd,Nat.reduceLeDiff,reduceCtorEq,Nat.reduceMul]
end Go.Proofs.YtmlhgalboabjcaaGreat
end
section
set_option linter.unusedSimpArgs false
set_option linter.unusedVariables false
namespace Go.Proofs.YtmlhgalboabjcaaGreat
open Go.Fx
theorem cellsI : Tryz.prog.cellsOf 3 = 1 := by kernel_rfl
theorem cellsSt : Tryz.prog.cellsOf 9 = 1 := by kernel_rfl
theorem cellsPt : Tryz.prog.cellsOf 42 = 2 := by kernel_rfl
theorem cellsAr : Tryz.prog.cellsOf 107 = 2 := by kernel_rfl
theorem cellsNd : Tryz.prog.cellsOf 46 = 6 := by kernel_rfl
theorem cellsNt : Tryz.prog.cellsOf 31 = 2 := by kernel_rfl
theorem cellsLN : Tryz.prog.cellsOf 29 = 1 := by kernel_rfl
theorem cellsLA : Tryz.prog.cellsOf 43 = 1 := by kernel_rfl
theorem cellsLP : Tryz.prog.cellsOf 44 = 1 := by kernel_rfl
theorem bytesPt : Tryz.prog.bytesOf 42 = 16 := by kernel_rfl
theorem bytesAr : Tryz.prog.bytesOf 107 = 24 := by kernel_rfl
theorem bytesNd : Tryz.prog.bytesOf 46 = 88 := by kernel_rfl
theorem len2 {α : Type} {l : List α} (h : l.length = 2) : ∃ a b,l = [a,b] := by
  match l,h with
  | [a,b],_ => exact ⟨a,b,rfl⟩
theorem len6 {α : Type} {l : List α} (h : l.length = 6) : ∃ a b c d e f,l = [a,b,c,d,e,f] := by
  match l,h with
  | [a,b,c,d,e,f],_ => exact ⟨a,b,c,d,e,f,rfl⟩
theorem wf_int {i : Int} (h : (Lit.int .i64 i).wf = true) : wf i := by
  simp only [Lit.wf,IntKind.min,IntKind.max,IntKind.bits,IntKind.signed,Bool.and_eq_true,decide_eq_true_eq] at h
  rw [if_pos trivial,if_pos trivial] at h
  unfold wf; omega
theorem ct_int {n : Nat} {qs : List PV} (h : CT Tryz.prog n 3 qs) : ∃ i,qs = [.i .i64 i] ∧ wf i := by
  cases n with
  | zero => exact h.elim
  | succ n => simp only [CT,Tryz.underlying3] at h; obtain ⟨i,h1,h2⟩ := h; exact ⟨i,h1,wf_int h2⟩
theorem ct_str {n : Nat} {qs : List PV} (h : CT Tryz.prog n 9 qs) : ∃ s,qs = [.s s] ∧ s.length ≤ 140737488355328 := by
  cases n with
  | zero => exact h.elim
  | succ n => simp only [CT,Tryz.underlying9] at h; obtain ⟨s,h1,h2⟩ := h; exact ⟨s,h1,by simp only [reachBytes] at h2; omega⟩
theorem ct_port {n : Nat} {qs : List PV} (h : CT Tryz.prog n 42 qs) : ∃ p : Pt,(wf p.n ∧ wf p.s) ∧ qs = encP p := by
  cases n with
  | zero => exact h.elim
  | succ n =>
    simp only [CT,Tryz.underlying42,cellsPt] at h
    obtain ⟨hl,hf⟩ := h
    obtain ⟨q0,q1,rfl⟩ := len2 hl
    have f0 : CT Tryz.prog n 3 (List.take (Tryz.prog.cellsOf 3) [q0,q1]) := hf _ (Array.mem_of_getElem? (i := 0) rfl)
    have f1 : CT Tryz.prog n 3 (List.take (Tryz.prog.cellsOf 3) [q1]) := hf _ (Array.mem_of_getElem? (i := 1) rfl)
    rw [cellsI] at f0 f1
    have f0 : CT Tryz.prog n 3 [q0] := f0
    have f1 : CT Tryz.prog n 3 [q1] := f1
    obtain ⟨i,e0,h0⟩ := ct_int f0
    obtain ⟨j,e1,h1⟩ := ct_int f1
    simp only [List.cons.injEq,and_true] at e0 e1
    subst e0 e1
    exact ⟨⟨i,j⟩,⟨h0,h1⟩,rfl⟩
theorem ct_arity {n : Nat} {qs : List PV} (h : CT Tryz.prog n 107 qs) : ∃ a : Ar,wf a.n ∧ qs = encA a := by
  cases n with
  | zero => exact h.elim
  | succ n =>
    simp only [CT,Tryz.underlying107,cellsAr] at h
    obtain ⟨hl,hf⟩ := h
    obtain ⟨q0,q1,rfl⟩ := len2 hl
    have f0 : CT Tryz.prog n 9 (List.take (Tryz.prog.cellsOf 9) [q0,q1]) := hf _ (Array.mem_of_getElem? (i := 0) rfl)
    have f1 : CT Tryz.prog n 3 (List.take (Tryz.prog.cellsOf 3) [q1]) := hf _ (Array.mem_of_getElem? (i := 1) rfl)
    rw [cellsSt] at f0
    rw [cellsI] at f1
    have f0 : CT Tryz.prog n 9 [q0] := f0
    have f1 : CT Tryz.prog n 3 [q1] := f1
    obtain ⟨s,e0,h0⟩ := ct_str f0
    obtain ⟨j,e1,h1⟩ := ct_int f1
    simp only [List.cons.injEq,and_true] at e0 e1
    subst e0 e1
    exact ⟨⟨s,j⟩,h1,rfl⟩
theorem ct_rows {α : Type} {t k : Nat} {n : Nat} {f : α → List PV} {R : α → Prop} (h : ∀ qs,CT Tryz.prog n t qs → ∃ x,R x ∧ qs = f x) : ∀ (rows : List (List PV)),(∀ r,r ∈ rows → r.length = k ∧ CT Tryz.prog n t r) → ∃ l : List α,rows = l.map f ∧ ∀ x,x ∈ l → R x := by
  intro rows
  induction rows with
  | nil => intro _; exact ⟨[],rfl,fun t ht => by simp at ht⟩
  | cons r rows ihr =>
    intro h2
    obtain ⟨x,hx,rfl⟩ := h r (h2 r (by simp)).2
    obtain ⟨l,rfl,hl⟩ := ihr fun r hr => h2 r (by simp [hr])
    exact ⟨x :: l,rfl,fun u hu => by rcases List.mem_cons.1 hu with rfl | hu; exact hx; exact hl u hu⟩
theorem ct_ports {n : Nat} {qs : List PV} (h : CT Tryz.prog n 44 qs) : ∃ l : List Pt,(l.length * 16 ≤ 140737488355328 ∧ ∀ p,p ∈ l → wf p.n ∧ wf p.s) ∧ qs = [.l (l.map encP)] := by
  cases n with
  | zero => exact h.elim
  | succ n =>
    simp only [CT,Tryz.underlying44,bytesPt] at h
    obtain ⟨rows,e,hr,hrow⟩ := h
    obtain ⟨l,rfl,hl⟩ := ct_rows (fun qs => ct_port) rows hrow
    exact ⟨l,⟨by simp only [reachBytes,List.length_map] at hr; omega,hl⟩,e⟩
theorem ct_arities {n : Nat} {qs : List PV} (h : CT Tryz.prog n 43 qs) : ∃ l : List Ar,(l.length * 24 ≤ 140737488355328 ∧ ∀ a,a ∈ l → wf a.n) ∧ qs = [.l (l.map encA)] := by
  cases n with
  | zero => exact h.elim
  | succ n =>
    simp only [CT,Tryz.underlying43,bytesAr] at h
    obtain ⟨rows,e,hr,hrow⟩ := h
    obtain ⟨l,rfl,hl⟩ := ct_rows (fun qs => ct_arity) rows hrow
    exact ⟨l,⟨by simp only [reachBytes,List.length_map] at hr; omega,hl⟩,e⟩
theorem ct_node {n : Nat} {qs : List PV} (h : CT Tryz.prog n 46 qs) : ∃ x : Nd,x.Ok ∧ qs = encN x := by
  cases n with
  | zero => exact h.elim
  | succ n =>
    simp only [CT,Tryz.underlying46,cellsNd] at h
    obtain ⟨hl,hf⟩ := h
    obtain ⟨q0,q1,q2,q3,q4,q5,rfl⟩ := len6 hl
    have f0 : CT Tryz.prog n 3 (List.take (Tryz.prog.cellsOf 3) [q0,q1,q2,q3,q4,q5]) := hf _ (Array.mem_of_getElem? (i := 0) rfl)
    have f1 : CT Tryz.prog n 3 (List.take (Tryz.prog.cellsOf 3) [q1,q2,q3,q4,q5]) := hf _ (Array.mem_of_getElem? (i := 1) rfl)
    have f2 : CT Tryz.prog n 3 (List.take (Tryz.prog.cellsOf 3) [q2,q3,q4,q5]) := hf _ (Array.mem_of_getElem? (i := 2) rfl)
    have f3 : CT Tryz.prog n 9 (List.take (Tryz.prog.cellsOf 9) [q3,q4,q5]) := hf _ (Array.mem_of_getElem? (i := 3) rfl)
    have f4 : CT Tryz.prog n 43 (List.take (Tryz.prog.cellsOf 43) [q4,q5]) := hf _ (Array.mem_of_getElem? (i := 4) rfl)
    have f5 : CT Tryz.prog n 44 (List.take (Tryz.prog.cellsOf 44) [q5]) := hf _ (Array.mem_of_getElem? (i := 5) rfl)
    rw [cellsI] at f0 f1 f2
    rw [cellsSt] at f3
    rw [cellsLA] at f4
    rw [cellsLP] at f5
    have f0 : CT Tryz.prog n 3 [q0] := f0
    have f1 : CT Tryz.prog n 3 [q1] := f1
    have f2 : CT Tryz.prog n 3 [q2] := f2
    have f3 : CT Tryz.prog n 9 [q3] := f3
    have f4 : CT Tryz.prog n 43 [q4] := f4
    have f5 : CT Tryz.prog n 44 [q5] := f5
    obtain ⟨k,e0,h0⟩ := ct_int f0
    obtain ⟨lv,e1,h1⟩ := ct_int f1
    obtain ⟨m,e2,h2⟩ := ct_int f2
    obtain ⟨s,e3,h3⟩ := ct_str f3
    obtain ⟨al,h4,e4⟩ := ct_arities f4
    obtain ⟨to,h5,e5⟩ := ct_ports f5
    simp only [List.cons.injEq,and_true] at e0 e1 e2 e3 e4 e5
    subst e0 e1 e2 e3 e4 e5
    exact ⟨⟨k,lv,m,s,al,to⟩,⟨h0,h1,h2,h3,h4.1,h5.1,h4.2,h5.2⟩,rfl⟩
theorem ct_net {n : Nat} {qs : List PV} (h : CT Tryz.prog n 31 qs) : ∃ x : Nt,x.Ok ∧ qs = encT x := by
  cases n with
  | zero => exact h.elim
  | succ n =>
    simp only [CT,Tryz.underlying31,cellsNt] at h
    obtain ⟨hl,hf⟩ := h
    obtain ⟨q0,q1,rfl⟩ := len2 hl
    have f0 : CT Tryz.prog n 29 (List.take (Tryz.prog.cellsOf 29) [q0,q1]) := hf _ (Array.mem_of_getElem? (i := 0) rfl)
    have f1 : CT Tryz.prog n 3 (List.take (Tryz.prog.cellsOf 3) [q1]) := hf _ (Array.mem_of_getElem? (i := 1) rfl)
    rw [cellsLN] at f0
    rw [cellsI] at f1
    have f0 : CT Tryz.prog n 29 [q0] := f0
    have f1 : CT Tryz.prog n 3 [q1] := f1
    obtain ⟨j,e1,h1⟩ := ct_int f1
    cases n with
    | zero => exact f0.elim
    | succ n =>
      simp only [CT,Tryz.underlying29,bytesNd] at f0
      obtain ⟨rows,e,hr,hrow⟩ := f0
      obtain ⟨l,rfl,hl2⟩ := ct_rows (fun qs => ct_node) rows hrow
      simp only [List.cons.injEq,and_true] at e e1
      subst e e1
      exact ⟨⟨l,j⟩,⟨by simp only [reachBytes,List.length_map] at hr; simp only; omega,h1,hl2⟩,rfl⟩
theorem aggI : aggT Tryz.prog 3 = false := by simp only [aggT,Tryz.underlying3,aggD]
theorem aggNt : aggT Tryz.prog 31 = true := by simp only [aggT,Tryz.underlying31,aggD]
theorem at_int {p : PT} (h : AT Tryz.prog 3 p ∧ p.isG = aggT Tryz.prog 3) : ∃ i,wf i ∧ p = .a (.i .i64 i) := by
  obtain ⟨h1,h2⟩ := h
  rw [aggI] at h2
  cases p with
  | a q => obtain ⟨n,hn⟩ := h1; obtain ⟨i,e,hi⟩ := ct_int hn; simp only [List.cons.injEq,and_true] at e; subst e; exact ⟨i,hi,rfl⟩
  | g qs => simp [PT.isG] at h2
  | _ => exact h1.elim
theorem at_net {p : PT} (h : AT Tryz.prog 31 p ∧ p.isG = aggT Tryz.prog 31) : ∃ x : Nt,x.Ok ∧ p = .g (encT x) := by
  obtain ⟨h1,h2⟩ := h
  rw [aggNt] at h2
  cases p with
  | g qs => obtain ⟨n,hn⟩ := h1; obtain ⟨x,hx,rfl⟩ := ct_net hn; exact ⟨x,hx,rfl⟩
  | _ => simp [PT.isG] at h2
theorem own : ownKnob Tryz.prog.godebug = none := by kernel_rfl
theorem laidOut : laidOutB Tryz.prog = true := by kernel_rfl
end Go.Proofs.YtmlhgalboabjcaaGreat
end
section
set_option linter.unusedSimpArgs false
namespace Go.Proofs.YtmlhgalboabjcaaGreat
open Go.Fx
theorem bytesI : Tryz.prog.bytesOf 3 = 8 := by kernel_rfl
theorem ct_ints {n : Nat} {qs : List PV} (h : CT Tryz.prog n 25 qs) : ∃ l : List Int,(l.length * 8 ≤ 140737488355328 ∧ ∀ i,i ∈ l → wf i) ∧ qs = [.l (l.map encI)] := by
  cases n with
  | zero => exact h.elim
  | succ n =>
    simp only [CT,Tryz.underlying25,bytesI] at h
    obtain ⟨rows,e,hr,hrow⟩ := h
    obtain ⟨l,rfl,hl⟩ := ct_rows (fun qs h => by obtain ⟨i,e,hi⟩ := ct_int h; exact ⟨i,hi,e⟩) (f := encI) rows hrow
    exact ⟨l,⟨by simp only [reachBytes,List.length_map] at hr; omega,hl⟩,e⟩
theorem aggLI : aggT Tryz.prog 25 = false := by simp only [aggT,Tryz.underlying25,aggD]
theorem at_ints {p : PT} (h : AT Tryz.prog 25 p ∧ p.isG = aggT Tryz.prog 25) : ∃ l : List Int,(l.length * 8 ≤ 140737488355328 ∧ ∀ i,i ∈ l → wf i) ∧ p = .a (.l (l.map encI)) := by
  obtain ⟨h1,h2⟩ := h
  rw [aggLI] at h2
  cases p with
  | a q => obtain ⟨n,hn⟩ := h1; obtain ⟨l,hl,e⟩ := ct_ints hn; simp only [List.cons.injEq,and_true] at e; subst e; exact ⟨l,hl,rfl⟩
  | g qs => simp [PT.isG] at h2
  | _ => exact h1.elim
def lawTsJ : List TypeId := [25,3,9,42,107,44,43,46,29,31]
theorem lawTsJOk : closedTs Tryz.prog lawTsJ = true := by kernel_rfl
end Go.Proofs.YtmlhgalboabjcaaGreat
end
namespace Go.Proofs.YtmlhgalboabjcaaGreat.turnPicks
open Go.Fx Go.ChangeShapes Go.WideShapes Go.ChangeAt Go.RowKit
theorem law (ps : List PT) (h : F2 (fun t p => AT Tryz.checked.prog t p ∧ p.isG = aggT Tryz.checked.prog t) Tryz.f6.params.toList ps) : eP S 6 ps = some (.a (.b true)) := by
  have h' : F2 (fun t p => AT Tryz.prog t p ∧ p.isG = aggT Tryz.prog t) [31,25,3] ps := by rw [Tryz.params6] at h; exact h
  obtain _ | ⟨h1,r1⟩ := h'
  obtain _ | ⟨h2,r2⟩ := r1
  obtain _ | ⟨h3,r3⟩ := r2
  obtain _ | _ := r3
  obtain ⟨a1,k1,rfl⟩ := at_net h1
  obtain ⟨a2,k2,rfl⟩ := at_ints h2
  obtain ⟨a3,k3,rfl⟩ := at_int h3
  exact turnPicks_law k1 k2.2
set_option maxRecDepth 100000 in
theorem lifted (os : Os) (started : os.Started) (H : Type) (enc : TypeId × Value → H) :
    ReturnsInHanded {} Tryz.checked os 6 .any (Rows.turnPicksSpec.pre6 enc Tryz.prog Tryz.f6 Rows.turnPicksRow.domain false) (Rows.turnPicksSpec.post enc Tryz.prog Tryz.f6 false true false false) := by
  refine row_ok (C := Tryz.checked) (eqs := [(42,[0,0]),(107,[1,0]),(74,[0,0]),(36,[0,0,0,0,0,0,0,0,0]),(160,[0,0]),(42,[9]),(105,[8]),(107,[8]),(75,[8]),(106,[8]),(79,[8])]) (S := S) (ts := lawTsJ) (tb := 4) own started (by kernel_rfl) Tryz.func6 laidOut
    (ChangeSpec.witness6 (enc := enc) (C := Tryz.checked) false ⟨#[],#[.agg #[.slice none 0 0,.int .i64 0],.slice none 0 0,.int .i64 0],[]⟩ 8 (by kernel_rfl) (by kernel_rfl) (by kernel_rfl) (by kernel_rfl))
    lawTsJOk (by kernel_rfl) rfl Tryz.underlying4 rfl ?_ seatOk law
  intro ds hd
  match ds,hd with
  | [d1,d2,d3],_ => rfl
theorem over : Rows.turnPicksRow.holds Tryz.pinned (OpenSpec.ofChange Rows.turnPicksSpec) :=
  OpenClaim.holds_of_wide 6 Tryz.f6 rfl rfl rfl rfl rfl rfl rfl ⟨rfl,rfl,rfl,rfl,rfl⟩ rfl rfl rfl rfl rfl (by kernel_rfl) Tryz.func6 (by kernel_rfl)
    (of_decide_eq_true (by kernel_rfl)) (by unfold Func.isWrapper; first | (rw [if_pos (by decide +kernel)]; kernel_rfl) | (rw [if_neg (by decide +kernel)]; exact ⟨rfl,rfl⟩))
    (fun os started H enc _ => lifted os started H enc)
theorem proved : Rows.TurnPicksSaid := over
#print axioms proved
end Go.Proofs.YtmlhgalboabjcaaGreat.turnPicks
