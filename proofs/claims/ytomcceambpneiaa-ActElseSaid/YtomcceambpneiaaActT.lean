/- Picks and passes; whatever the plan; then both are freed. Plain. -/
import Derived.Test.YtomcceambpneiaaActS
set_option linter.unusedSimpArgs false
set_option linter.unusedVariables false
set_option maxHeartbeats 4000000
namespace Go.Proofs.Ytomcceambpneiaa
open Go.Fx

section
variable {n : Nt} {a b : Int}

theorem rest_perm {l : List Pt} (hn : l.Nodup) {q : Pt} (hq : q ∈ l) : l.Perm (q :: l.filter fun r => !decide (r = q)) := by
  refine (List.perm_ext_iff_of_nodup hn (List.nodup_cons.2 ⟨by simp, hn.sublist List.filter_sublist⟩)).2 fun r => ?_
  simp only [List.mem_cons, List.mem_filter, Bool.not_eq_true', decide_eq_false_iff_not]
  constructor
  · intro h
    by_cases e : r = q
    · exact .inl e
    · exact .inr ⟨h, e⟩
  · rintro (h | h)
    · rw [h]; exact hq
    · exact h.1

theorem done_pick (h : Meet n a b) (hx : (n.nd a).k = 9) (hy : (n.nd b).k = 8) {i : Nat} {A : Ar} (hA : (n.nd a).al[i]? = some A) (hN : A.n = ((n.nd b).to.length : Int) - 1) (hu : n.used + (A.n + (n.nd a).al.length - 1) ≤ n.cap) :
    Run n a b (A.n + (n.nd a).al.length - 1) (pickD n i a b) (endL n a b) := by
  have hl := h.lenB
  have hil := (List.getElem?_eq_some_iff.1 hA).1
  have e1 : (n.nd a).to.length = 2 + (n.nd a).al.length := by
    have := h.pa
    unfold Nd.ports at this; rw [hx] at this
    simp at this; omega
  have hA2 : (n.nd a).al.getD i zA = A := by rw [List.getD_eq_getElem?_getD, hA]; rfl
  obtain ⟨k, hk⟩ : ∃ k : Nat, A.n = k := ⟨A.n.toNat, by omega⟩
  have el : (n.nd b).to.length = k + 1 := by omega
  obtain ⟨g1, g2, g3⟩ := h.start.likes (appN_Ok h.ka.lv) (appN_may h.ma.lv0 h.ma.lv1) (by show ¬ (3 : Int) = 0; omega) (by show ¬ (3 : Int) = 1; omega) (by show (0 : Int) < 3; omega) k (by omega)
  obtain ⟨⟨m, apps⟩, hr⟩ : ∃ r, likeR n (appN (n.nd a).lv) k = r := ⟨_, rfl⟩
  rw [hr] at g1 g2 g3
  simp only at g1 g2 g3
  have haa : a ∉ apps := fun hd => g1.new _ hd _ h.ha rfl
  have hba : b ∉ apps := fun hd => g1.new _ hd _ h.hb rfl
  have ea : m.nd a = n.nd a := g1.oth a h.a0 haa
  obtain ⟨l, hl0⟩ : ∃ l, restR m a i = l := ⟨_, rfl⟩
  have hl1 : l = (portsR a 2 (n.nd a).to.length).filter fun r => !decide (r = ⟨a, (i : Int) + 2⟩) := by rw [← hl0]; unfold restR; rw [ea]
  have hq2 : (⟨a, (i : Int) + 2⟩ : Pt) ∈ portsR a 2 (n.nd a).to.length := mem_portsR.2 ⟨rfl, by simp only; omega, by simp only; omega⟩
  have hpl := rest_perm (portsR_nodup a 2 (n.nd a).to.length) hq2
  rw [← hl1] at hpl
  have hll : l.length = (n.nd a).al.length - 1 := by
    have := hpl.length_eq
    rw [portsR_len, List.length_cons] at this; omega
  have hnl : l.Nodup := (List.nodup_cons.1 (hpl.nodup_iff.1 (portsR_nodup _ _ _))).2
  have hql : (⟨a, (i : Int) + 2⟩ : Pt) ∉ l := (List.nodup_cons.1 (hpl.nodup_iff.1 (portsR_nodup _ _ _))).1
  have hml : ∀ p ∈ l, p.n = a ∧ 2 ≤ p.s ∧ p.s < (n.nd a).to.length ∧ p ≠ ⟨a, (i : Int) + 2⟩ := fun p hp => by
    have h1 := mem_portsR.1 (hpl.mem_iff.2 (List.mem_cons_of_mem _ hp))
    exact ⟨h1.1, h1.2.1, h1.2.2, fun e => hql (e ▸ hp)⟩
  obtain ⟨k1, k2, k3⟩ := g3.likes (dropN_Ok h.ka.lv) (dropN_may h.ma.lv0 h.ma.lv1) (by show ¬ (7 : Int) = 0; omega) (by show ¬ (7 : Int) = 1; omega) (by show (0 : Int) < 1; omega) l.length (by omega)
  rw [flat1 rfl] at k3
  obtain ⟨⟨m2, ds⟩, hr2⟩ : ∃ r, likeR m (dropN (n.nd a).lv) l.length = r := ⟨_, rfl⟩
  rw [hr2] at k1 k2 k3
  simp only at k1 k2 k3
  have hm : ∀ p, n.has p = true → m2.has p = true := fun p hp => (k1.has p).2 (.inl ((g1.has p).2 (.inl hp)))
  have had : a ∉ ds := fun hd => k1.new _ hd _ ((g1.has _).2 (.inl h.ha)) rfl
  have hbd : b ∉ ds := fun hd => k1.new _ hd _ ((g1.has _).2 (.inl h.hb)) rfl
  have hdd : ∀ d ∈ apps, d ∉ ds := fun d hd hd2 => k1.new _ hd2 ⟨d, 0⟩ ((g1.has _).2 (.inr ⟨hd, by simp, by show (0 : Int) < 3; omega⟩)) rfl
  have a1 := h.hasA (s := 1) (by omega)
  have aq : n.has ⟨a, (i : Int) + 2⟩ = true := by have := h.hasA (s := i + 2) (by omega); exact this
  have nds : ∀ (u v : Int), u = a ∨ u = b → (⟨u, v⟩ : Pt) ∉ ds.map fun d => (⟨d, 0⟩ : Pt) := fun u v hu hm => by
    simp only [List.mem_map, Pt.mk.injEq] at hm
    obtain ⟨x, hx, e, _⟩ := hm
    rcases hu with hu | hu
    · exact had (hu ▸ e ▸ hx)
    · exact hbd (hu ▸ e ▸ hx)
  have hab := h.ab
  have hba' : ¬ b = a := fun e => hab e.symm
  have i0 : ¬ (i : Int) + 2 = 0 := by omega
  have i1 : ¬ (i : Int) + 2 = 1 := by omega
  -- the end, the same either way
  have fin : ∀ (m3 : Nt), (∀ p, n.has p = true → m3.has p = true) → Run n a b (0 + k + l.length) m3 (ds.map (fun d => (⟨d, 0⟩ : Pt)) ++ (⟨a, 1⟩ :: ⟨a, (i : Int) + 2⟩ :: (portsR b 1 (k + 1) ++ [⟨a, 0⟩, ⟨b, 0⟩]))) →
      Run n a b (A.n + (n.nd a).al.length - 1) (runs m3 (dropOps l ds)) (endL n a b) := by
    intro m3 hm3 hR
    have h2 := Run.moves l ds hR k2.symm hnl (fun p hp => by
      obtain ⟨q1, q2, q3, q4⟩ := hml p hp
      refine ⟨hm3 p (has_iff.2 ⟨by rw [q1]; exact h.a0, by rw [q1]; exact h.a1, by omega, by rw [q1]; omega⟩), ?_, by rw [q1]; exact had, .inl q1⟩
      simp only [List.mem_cons, List.mem_append, mem_portsR, List.not_mem_nil, or_false, not_or]
      refine ⟨fun e => ?_, q4, fun e => ?_, fun e => ?_, fun e => ?_⟩
      · rw [e] at q2; simp only at q2; omega
      · rw [q1] at e; exact hab e.1
      · rw [e] at q2; simp only at q2; omega
      · rw [e] at q1; exact hba' q1)
    have e : (0 : Int) + k + (l.length : Nat) = A.n + (n.nd a).al.length - 1 := by omega
    rw [e] at h2
    refine Run.perm h2 ?_
    unfold endL
    rw [portsA b hl, portsA a (by omega), portsA1 a (by omega), el]
    rw [List.perm_iff_count]; intro q
    have hc := List.perm_iff_count.1 hpl q
    simp only [List.cons_append, List.count_cons, List.count_append, List.count_nil] at hc ⊢
    rw [hc]; omega
  cases apps with
  | nil =>
    have hk0 : k = 0 := by rw [← g2]; rfl
    subst hk0
    have e : pickD n i a b = runs (joinR m2 ⟨a, (i : Int) + 2⟩ ⟨a, 1⟩).1 (dropOps l ds) := by
      unfold pickD
      simp only [Int.toNat_natCast, hA2, hk, hr, hl0, ea, hr2]
      rfl
    rw [e]
    have h1 := k3.join (p := ⟨a, (i : Int) + 2⟩) (q := ⟨a, 1⟩) (hm _ aq) (hm _ a1) (by
      simp only [List.flatMap_nil, List.nil_append, List.mem_append, List.mem_cons, Pt.mk.injEq, i0, hab, and_false, false_and, List.not_mem_nil, or_false]; exact nds _ _ (.inl rfl)) (by
      simp only [List.flatMap_nil, List.nil_append, List.mem_append, List.mem_cons, Pt.mk.injEq, hab, and_false, false_and, List.not_mem_nil, or_false, not_or]; exact ⟨nds _ _ (.inl rfl), by omega⟩) (by
      intro e; simp only [Pt.mk.injEq] at e; exact i1 e.2) (.inl rfl) (.inl rfl)
    refine fin _ (fun p hp => by rw [(joinR_shp _ _ _).has]; exact hm p hp) (h1.perm ?_)
    rw [portsR_nil (by omega)]
    rw [List.perm_iff_count]; intro q; simp only [List.flatMap_nil, List.nil_append, List.cons_append, List.count_cons, List.count_append, List.count_nil]; omega
  | cons d r =>
    have e : pickD n i a b = runs (runs (moveR m2 ⟨a, (i : Int) + 2⟩ ⟨d, 0⟩).1 (pickOps a b 0 (d :: r))) (dropOps l ds) := by
      unfold pickD
      simp only [Int.toNat_natCast, hA2, hk, hr, hl0, ea, hr2]
    rw [e]
    rw [List.flatMap_cons, newP3 rfl] at k3
    have nrr : ∀ (u v : Int), u = a ∨ u = b → (⟨u, v⟩ : Pt) ∉ r.flatMap (newP (appN (n.nd a).lv)) := fun u v hu hm => by
      obtain ⟨t, ht, hs⟩ := List.mem_flatMap.1 hm
      have this : u = t := (mem_portsR.1 hs).1
      rcases hu with hu | hu
      · exact haa (List.mem_cons_of_mem _ (by rw [← hu, this]; exact ht))
      · exact hba (List.mem_cons_of_mem _ (by rw [← hu, this]; exact ht))
    have had' : ¬ a = d := fun e => haa (by simp [e])
    have hbd' : ¬ b = d := fun e => hba (by simp [e])
    have h1 := Run.move (p := ⟨a, (i : Int) + 2⟩) (q := ⟨d, 0⟩) (L := ⟨d, 1⟩ :: ⟨d, 2⟩ :: (r.flatMap (newP (appN (n.nd a).lv)) ++ (ds.map (fun d => (⟨d, 0⟩ : Pt)) ++ [⟨a, 0⟩, ⟨b, 0⟩]))) (k3.perm (by
      rw [List.perm_iff_count]; intro q; simp only [List.nil_append, List.cons_append, List.count_cons, List.count_append, List.count_nil]; omega)) (hm _ aq) (by
        simp only [List.mem_append, List.mem_cons, Pt.mk.injEq, i0, hab, had', and_false, false_and, List.not_mem_nil, or_false, false_or, not_or]; exact ⟨nrr _ _ (.inl rfl), nds _ _ (.inl rfl)⟩) (.inl rfl)
    have h2 := Run.picks (apps := []) (lv := (n.nd a).lv) r d 0 (L := ⟨a, (i : Int) + 2⟩ :: (ds.map (fun d => (⟨d, 0⟩ : Pt)) ++ [⟨a, 0⟩, ⟨b, 0⟩])) (h1.perm (by
      rw [List.perm_iff_count]; intro q; simp only [List.nil_append, List.cons_append, List.count_cons, List.count_append, List.count_nil]; omega)) (fun s s1 s2 => by
        have hlen : r.length + 1 = k := by rw [← g2]; rfl
        refine ⟨by rw [(moveR_shp _ _ _).has]; exact hm _ (h.hasB (by omega)), ?_⟩
        have s0 : ¬ (s : Int) = 0 := by omega
        simp only [List.mem_append, List.mem_cons, Pt.mk.injEq, s0, hba', and_false, false_and, List.not_mem_nil, or_false, false_or]; exact nds _ _ (.inr rfl)) (by rw [(moveR_shp _ _ _).has]; exact hm _ a1) (by
        simp only [List.mem_append, List.mem_cons, Pt.mk.injEq, hab, false_and, List.not_mem_nil, or_false, true_and, not_or]
        exact ⟨by omega, nds _ _ (.inl rfl), by omega⟩) haa hba hab
    have hlen : r.length + 1 = k := by rw [← g2]; rfl
    refine fin _ (fun p hp => by rw [(runs_shp _ _).has, (moveR_shp _ _ _).has]; exact hm p hp) (h2.perm ?_)
    rw [show 0 + 2 + r.length = k + 1 by omega]
    rw [List.perm_iff_count]; intro q; simp only [Nat.zero_add, List.nil_append, List.cons_append, List.count_cons, List.count_append, List.count_nil]; omega

theorem lv_may {y : Nd} (hy : y.may) {lv : Int} (h0 : 0 ≤ lv) (h1 : lv ≤ 60) (hk : ¬ y.k < 2) : ({ y with lv := lv } : Nd).may :=
  ⟨hy.k0, hy.k1, h0, h1, fun h => absurd h hk, hy.nm, hy.nn, hy.to8, hy.al9, hy.aln, hy.al8, hy.alt⟩
theorem cls_ne {k : Int} (h : cls k ≠ 0) : k ≠ 0 ∧ k ≠ 1 ∧ ¬ k < 2 := by
  have h1 := cls_1 k
  have h2 := cls_2 k
  have h3 := cls_3 k
  have h4 := cls_4 k
  have h5 := cls_le k
  omega
theorem done_pass (h : Meet n a b) {lv : Int} (hx : cls (n.nd a).k = 3) (hy : cls (n.nd b).k ≠ 0) (h0 : 0 ≤ lv) (h1 : lv ≤ 60) (hu : n.used + (((n.nd a).to.length - 1 : Int) + ((n.nd b).to.length - 1)) ≤ n.cap) :
    Run n a b (((n.nd a).to.length - 1 : Int) + ((n.nd b).to.length - 1)) (passD n lv a b) (endL n a b) := by
  have la := h.lenA
  have lb := h.lenB
  obtain ⟨c0, c1, c2⟩ := cls_ne hy
  obtain ⟨x0, x1, x2⟩ := cls_ne (k := (n.nd a).k) (by omega)
  have hab := h.ab
  have hba' : ¬ b = a := fun e => hab e.symm
  obtain ⟨y, hy0⟩ : ∃ y : Nd, ({ n.nd b with lv := lv } : Nd) = y := ⟨_, rfl⟩
  have yk : y.k = (n.nd b).k := by rw [← hy0]
  have yt : y.to = (n.nd b).to := by rw [← hy0]
  have yp : y.ports = (n.nd b).ports := by rw [← hy0]; rfl
  have ym : y.may := by rw [← hy0]; exact lv_may h.mb h0 h1 c2
  have yo : y.Ok := by rw [← hy0]; exact lv_Ok h.kb (by unfold wf; omega)
  have pa := h.pa
  have pb := h.pb
  obtain ⟨g1, g2, g3⟩ := h.start.likes yo ym (by rw [yk]; exact c0) (by rw [yk]; exact c1) (by rw [yp]; omega) ((n.nd a).to.length - 1) (by omega)
  obtain ⟨⟨m, cs⟩, hr⟩ : ∃ r, likeR n y ((n.nd a).to.length - 1) = r := ⟨_, rfl⟩
  rw [hr] at g1 g2 g3
  simp only at g1 g2 g3
  obtain ⟨k1, k2, k3⟩ := g3.likes h.ka h.ma x0 x1 (by omega) ((n.nd b).to.length - 1) (by omega)
  obtain ⟨⟨m2, ds⟩, hr2⟩ : ∃ r, likeR m (n.nd a) ((n.nd b).to.length - 1) = r := ⟨_, rfl⟩
  rw [hr2] at k1 k2 k3
  simp only at k1 k2 k3
  have hm : ∀ p, n.has p = true → m2.has p = true := fun p hp => (k1.has p).2 (.inl ((g1.has p).2 (.inl hp)))
  have hac : a ∉ cs := fun hd => g1.new _ hd _ h.ha rfl
  have hbc : b ∉ cs := fun hd => g1.new _ hd _ h.hb rfl
  have had : a ∉ ds := fun hd => k1.new _ hd _ ((g1.has _).2 (.inl h.ha)) rfl
  have hbd : b ∉ ds := fun hd => k1.new _ hd _ ((g1.has _).2 (.inl h.hb)) rfl
  have e : passD n lv a b = runs (runs m2 (dropOps (portsR a 1 (n.nd a).to.length) cs)) (passOps b cs 0 ds) := by
    unfold passD; simp only [hy0, hr, yt, hr2]
  rw [e]
  have ey : (newP y) = fun d => (⟨d, 0⟩ : Pt) :: portsR d 1 (n.nd b).to.length := by
    funext d
    unfold newP
    rw [yp, show (n.nd b).ports.toNat = (n.nd b).to.length by omega, portsA d lb]
  have p1 := flat_cons (fun d : Int => (⟨d, 0⟩ : Pt)) (fun d => portsR d 1 (n.nd b).to.length) cs
  rw [ey] at k3
  have nin : ∀ (u v : Int) (f : Int → List Pt) (l : List Int), (∀ d p, p ∈ f d → p.n = d) → u ∉ l → (⟨u, v⟩ : Pt) ∉ l.flatMap f := fun u v f l hf hu hm => by
    obtain ⟨t, ht, hs⟩ := List.mem_flatMap.1 hm
    have := hf t _ hs
    simp only at this
    exact hu (this ▸ ht)
  have h1 := Run.moves (portsR a 1 (n.nd a).to.length) cs (L := ds.flatMap (newP (n.nd a)) ++ ((cs.flatMap fun d => portsR d 1 (n.nd b).to.length) ++ [⟨a, 0⟩, ⟨b, 0⟩])) (k3.perm (by
    rw [List.perm_iff_count]; intro q
    have := List.perm_iff_count.1 p1 q
    simp only [List.nil_append, List.cons_append, List.count_cons, List.count_append, List.count_nil] at this ⊢; omega)) (by rw [portsR_len]; exact g2.symm) (portsR_nodup _ _ _) (fun p hp => by
      obtain ⟨q1, q2, q3⟩ := mem_portsR.1 hp
      obtain ⟨u, v⟩ := p
      simp only at q1 q2 q3
      subst q1
      refine ⟨hm _ (has_iff.2 ⟨h.a0, h.a1, by simp only; omega, by simp only; omega⟩), ?_, hac, .inl rfl⟩
      have v0 : ¬ v = 0 := by omega
      simp only [List.mem_append, List.mem_cons, Pt.mk.injEq, v0, and_false, List.not_mem_nil, or_false, not_or]
      exact ⟨nin _ _ _ _ (fun d p hp => (mem_portsR.1 hp).1) had, nin _ _ _ _ (fun d p hp => (mem_portsR.1 hp).1) hac⟩)
  have h2 := Run.passes (x := n.nd a) (cs := cs) (by omega) ds 0 (L := portsR a 1 (n.nd a).to.length ++ [⟨a, 0⟩, ⟨b, 0⟩]) (h1.perm (by
    rw [show 0 + 1 + ds.length = (n.nd b).to.length by omega]
    rw [List.perm_iff_count]; intro q
    simp only [List.nil_append, List.cons_append, List.count_cons, List.count_append, List.count_nil, Nat.zero_add]; omega)) (fun s s1 s2 => by
      refine ⟨by rw [(runs_shp _ _).has]; exact hm _ (h.hasB (by omega)), ?_⟩
      have s0 : ¬ (s : Int) = 0 := by omega
      simp only [List.mem_append, List.mem_cons, mem_portsR, Pt.mk.injEq, s0, hba', false_and, and_false, List.not_mem_nil, or_false, not_false_eq_true]) hbd hbc
  have ec : (0 : Int) + (((n.nd a).to.length - 1 : Nat) : Int) + (((n.nd b).to.length - 1 : Nat) : Int) = ((n.nd a).to.length - 1 : Int) + ((n.nd b).to.length - 1) := by omega
  rw [ec] at h2
  refine Run.perm h2 ?_
  unfold endL
  rw [portsA b lb, portsA a la, show 0 + 1 + ds.length = (n.nd b).to.length by omega]
  rw [List.perm_iff_count]; intro q; simp only [List.nil_append, List.cons_append, List.count_cons, List.count_append, List.count_nil, Nat.zero_add]; omega

/-- whatever the plan -/
theorem done_run (h : Meet n a b) {p : Pl} (hp : PlanX (n.nd a) (n.nd b) p) (hu : n.used + needX p (n.nd a) (n.nd b) ≤ n.cap) : Run n a b (needX p (n.nd a) (n.nd b)) (doneR n p a b) (endL n a b) := by
  have la := h.lenA
  have lb := h.lenB
  have ta := to10 h.ma h.pa
  have tb := to10 h.mb h.pb
  have oa : oth (n.nd a) = (n.nd a).to.length - 1 := by rw [oth_in (by omega)]; omega
  have ob : oth (n.nd b) = (n.nd b).to.length - 1 := by rw [oth_in (by omega)]; omega
  have pa := h.pa
  have pb := h.pb
  cases hp with
  | beta h1 hx hy =>
    have e : needX p (n.nd a) (n.nd b) = 0 := by unfold needX; rw [h1]; simp
    have e2 : doneR n p a b = joinD n a b := by unfold doneR; rw [h1]; simp
    rw [e, e2]
    refine done_join h ?_
    unfold Nd.ports at pa pb; rw [hx] at pa; rw [hy] at pb
    simp at pa pb; omega
  | join h1 hx hy =>
    have e : needX p (n.nd a) (n.nd b) = 0 := by unfold needX; rw [h1]; simp
    have e2 : doneR n p a b = joinD n a b := by unfold doneR; rw [h1]; simp
    rw [e, e2]
    refine done_join h ?_
    have hx2 := (cls_3 _).1 hx
    have e3 : (n.nd a).ports = (n.nd b).ports := by
      unfold Nd.ports; rw [← hy]
      rcases hx2 with h | h | h <;> rw [h] <;> simp
    omega
  | pick i A h1 hx hy h2 h3 h4 =>
    have hil := (List.getElem?_eq_some_iff.1 h3).1
    have hal := h.ma.al8
    have hA2 : (n.nd a).al.getD i zA = A := by rw [List.getD_eq_getElem?_getD, h3]; rfl
    have e : needX p (n.nd a) (n.nd b) = A.n + (n.nd a).al.length - 1 := by
      unfold needX; rw [if_pos h1, if_neg (by omega), h2, Int.toNat_natCast, hA2, wr_in (z := A.n + (n.nd a).al.length) (by omega), wr_in (by omega)]
    have e2 : doneR n p a b = pickD n i a b := by unfold doneR; rw [h1, h2]; simp
    rw [e] at hu ⊢
    rw [e2]
    exact done_pick h hx hy h3 h4 hu
  | half h1 hx hy =>
    have e : needX p (n.nd a) (n.nd b) = 1 := by unfold needX; rw [h1]; simp
    have e2 : doneR n p a b = halfD n a b := by unfold doneR; rw [h1]; simp
    rw [e] at hu ⊢
    rw [e2]
    exact done_half h hx hy hu
  | out h1 hx hy g1 g2 g3 g4 g5 =>
    have e : needX p (n.nd a) (n.nd b) = 1 := by unfold needX; rw [h1]; simp
    have e2 : doneR n p a b = outD n p.nd a := by unfold doneR; rw [h1]; simp
    rw [e] at hu ⊢
    rw [e2]
    exact done_out h hx hy g1 g2 g3 g4 g5 hu
  | fail h1 hx hy =>
    have hx2 := (cls_1 _).1 hx
    have hal := h.ma.al8
    have l2 : 2 ≤ (n.nd a).to.length := by
      unfold Nd.ports at pa
      rcases hx2 with h | h | h | h <;> rw [h] at pa <;> simp at pa <;> omega
    have e : needX p (n.nd a) (n.nd b) = 1 + ((n.nd a).to.length - 2) + ((n.nd b).to.length - 1) := by
      unfold needX; rw [h1]
      simp only [Int.reduceEq, if_false, or_self, if_true]
      rw [oa, ob, wr_in (z := (n.nd a).to.length - 1 - 1) (by omega), wr_in (z := 1 + max ((n.nd a).to.length - 1 - 1 : Int) 0) (by omega), wr_in (by omega)]
      omega
    have e2 : doneR n p a b = failD n a b := by unfold doneR; rw [h1]; simp
    rw [e] at hu ⊢
    rw [e2]
    exact done_fail h l2 hu
  | pass h1 hx hy g1 g2 =>
    have hx2 := (cls_3 _).1 hx
    have e : needX p (n.nd a) (n.nd b) = ((n.nd a).to.length - 1 : Int) + ((n.nd b).to.length - 1) := by
      unfold needX; rw [h1]
      simp only [Int.reduceEq, if_false, or_self, if_true]
      rw [ob]
      unfold Nd.ports at pa
      by_cases h4 : (n.nd a).k = 4
      · rw [if_pos h4, wr_in (by omega)]
        rw [h4] at pa; simp at pa; omega
      · rw [if_neg h4, wr_in (by omega)]
        rcases hx2 with h | h | h
        · exact absurd h h4
        · rw [h] at pa; simp at pa; omega
        · rw [h] at pa; simp at pa; omega
    have e2 : doneR n p a b = passD n p.lv a b := by unfold doneR; rw [h1]; simp
    rw [e] at hu ⊢
    rw [e2]
    exact done_pass h hx hy g1 g2 hu
  | drop h1 hx hy =>
    have e : needX p (n.nd a) (n.nd b) = (n.nd b).to.length - 1 := by unfold needX; rw [h1]; simp [ob]
    have e2 : doneR n p a b = dropD n a b := by unfold doneR; rw [h1]; simp
    rw [e] at hu ⊢
    rw [e2]
    exact done_drop h hx hu
end
end Go.Proofs.Ytomcceambpneiaa
