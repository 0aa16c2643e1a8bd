/- What a plan does leaves just the two nodes open. Plain. -/
import Derived.Test.YtomcceambpneiaaActQ
import Derived.Test.YtomcceambpneiaaActD
set_option linter.unusedSimpArgs false
set_option linter.unusedVariables false
set_option maxHeartbeats 4000000
namespace Go.Proofs.Ytomcceambpneiaa
open Go.Fx

section
variable {n0 n : Nt} {a b c : Int} {L : List Pt}

theorem Run.start (hn : n0.Ok) (hG : n0.Good) (ha : n0.has ⟨a, 0⟩ = true) (hlk : n0.lk ⟨a, 0⟩ = ⟨b, 0⟩) (hab : a ≠ b) : Run n0 a b 0 n0 [⟨a, 0⟩, ⟨b, 0⟩] := by
  obtain ⟨g1, g2, g3⟩ := good_link hG ha
  rw [hlk] at g1 g2 g3
  refine ⟨hG, by simp [hab], ⟨hG.cap1, hG.cap2, hG.ln1, hG.ln2, hG.last, hG.semi.nds, fun p hp => ?_, fun p hp hX => ?_⟩, rfl, by omega, fun i x hx hk => ⟨x, hx, rfl, rfl⟩, fun r h1 h2 h3 h4 h5 => ⟨?_, rfl⟩, hn⟩
  · simp only [List.mem_cons, List.not_mem_nil, or_false] at hp
    rcases hp with rfl | rfl
    · exact ha
    · exact g2
  · simp only [List.mem_cons, List.not_mem_nil, or_false, not_or] at hX ⊢
    obtain ⟨h1, h2, h3⟩ := good_link hG hp
    refine ⟨h1, h2, ⟨fun e => ?_, fun e => ?_⟩, h3⟩
    · rw [e, hlk] at h3; exact hX.2 h3.symm
    · rw [e, g3] at h3; exact hX.1 h3.symm
  · simp only [List.mem_cons, List.not_mem_nil, or_false, not_or]
    exact ⟨fun e => h2 (by rw [e]), fun e => h3 (by rw [e])⟩

theorem Run.has_nd (h : Run n0 a b c n L) {i : Int} (h0 : 0 ≤ i) (h1 : i < n0.ns.length) (hk : (n0.nd i).k ≠ 0) : n.nd i = { n0.nd i with to := (n.nd i).to } ∧ (n.nd i).to.length = (n0.nd i).to.length := by
  obtain ⟨y, g1, g2, g3⟩ := h.old _ _ (get_nd h0 h1) hk
  have := nd_get g1
  rw [show ((i.toNat : Nat) : Int) = i by omega] at this
  rw [this]; exact ⟨g2, g3⟩

theorem Run.joins (hab : a ≠ b) : ∀ (l : List Nat) {n : Nt} {L : List Pt}, Run n0 a b c n L → l.Nodup → (∀ s ∈ l, n.has ⟨a, s⟩ = true ∧ n.has ⟨b, s⟩ = true ∧ (⟨a, s⟩ : Pt) ∉ L ∧ (⟨b, s⟩ : Pt) ∉ L) →
    Run n0 a b c (runs n (joinOps a b l)) (l.map (fun s : Nat => (⟨a, s⟩ : Pt)) ++ (l.map (fun s : Nat => (⟨b, s⟩ : Pt)) ++ L))
  | [], n, L, h, _, _ => h
  | s :: l, n, L, h, hn, hp => by
    obtain ⟨p1, p2, p3, p4⟩ := hp s (by simp)
    have hn' := List.nodup_cons.1 hn
    have h1 := h.join p1 p2 p3 p4 (fun e => hab (by simpa using e)) (.inl rfl) (.inr rfl)
    have h2 := Run.joins hab l h1 hn'.2 (fun t ht => by
      obtain ⟨q1, q2, q3, q4⟩ := hp t (by simp [ht])
      have hts : ¬ ((t : Int) = (s : Int)) := fun e => hn'.1 (by have : t = s := by omega
                                                                 exact this ▸ ht)
      have hsh := joinR_shp n ⟨a, s⟩ ⟨b, s⟩
      refine ⟨by rw [hsh.has]; exact q1, by rw [hsh.has]; exact q2, ?_, ?_⟩
      · simp only [List.mem_cons, Pt.mk.injEq, hts, and_false, false_or]; exact q3
      · simp only [List.mem_cons, Pt.mk.injEq, hts, and_false, false_or]; exact q4)
    refine h2.perm ?_
    simp only [List.map_cons, List.cons_append]
    rw [List.perm_iff_count]
    intro r
    simp only [List.count_append, List.count_cons]
    omega

theorem newP3 {x : Nd} (h : x.ports = 3) (t : Int) : newP x t = [⟨t, 0⟩, ⟨t, 1⟩, ⟨t, 2⟩] := by unfold newP; rw [h]; rfl
theorem newP2 {x : Nd} (h : x.ports = 2) (t : Int) : newP x t = [⟨t, 0⟩, ⟨t, 1⟩] := by unfold newP; rw [h]; rfl
theorem newP1 {x : Nd} (h : x.ports = 1) (t : Int) : newP x t = [⟨t, 0⟩] := by unfold newP; rw [h]; rfl
theorem flat1 {x : Nd} (h : x.ports = 1) (ds : List Int) : ds.flatMap (newP x) = ds.map fun d => ⟨d, 0⟩ := by
  induction ds with
  | nil => rfl
  | cons d ds ih => rw [List.flatMap_cons, newP1 h, ih]; rfl

theorem Run.picks {apps : List Int} {lv : Int} : ∀ (r : List Int) (d : Int) (i : Nat) {n : Nt} {L : List Pt}, Run n0 a b c n (⟨d, 1⟩ :: ⟨d, 2⟩ :: (r.flatMap (newP (appN lv)) ++ L)) →
    (∀ s : Nat, i < s → s ≤ i + 1 + r.length → n.has ⟨b, s⟩ = true ∧ (⟨b, s⟩ : Pt) ∉ L) → n.has ⟨a, 1⟩ = true → (⟨a, 1⟩ : Pt) ∉ L → a ∉ d :: r → b ∉ d :: r → a ≠ b →
    Run n0 a b c (runs n (pickOps a b i (d :: r))) (⟨a, 1⟩ :: (portsR b (i + 1) (i + 2 + r.length) ++ L))
  | [], d, i, n, L, h, hb, ha, haL, had, hbd, hab => by
    obtain ⟨b1, b2⟩ := hb (i + 1) (by omega) (by simp)
    rw [show ((i + 1 : Nat) : Int) = (i : Int) + 1 by omega] at b1 b2
    simp only [List.mem_cons, List.not_mem_nil, or_false] at had hbd
    have h1 := Run.move (p := ⟨b, (i : Int) + 1⟩) (q := ⟨d, 2⟩) (h.perm (List.Perm.swap ..)) b1 (by simpa [hbd] using b2) (.inr rfl)
    have h2 := Run.move (p := ⟨a, 1⟩) (q := ⟨d, 1⟩) (h1.perm (List.Perm.swap ..)) (by rw [(moveR_shp _ _ _).has]; exact ha) (by simpa [had, hab] using haL) (.inl rfl)
    have e : portsR b (i + 1) (i + 2 + 0) = [⟨b, (i : Int) + 1⟩] := by
      rw [portsR_cons (by omega), portsR_nil (by omega)]; rfl
    rw [List.length_nil, e]
    exact h2
  | e :: r, d, i, n, L, h, hb, ha, haL, had, hbd, hab => by
    obtain ⟨b1, b2⟩ := hb (i + 1) (by omega) (by omega)
    rw [show ((i + 1 : Nat) : Int) = (i : Int) + 1 by omega] at b1 b2
    simp only [List.mem_cons, not_or] at had hbd
    rw [List.flatMap_cons, newP3 rfl] at h
    have hbn : ∀ s : Int, (⟨b, s⟩ : Pt) ∉ r.flatMap (newP (appN lv)) := fun s k => by
      obtain ⟨t, ht, hs⟩ := List.mem_flatMap.1 k
      have e : t = b := (mem_portsR.1 hs).1.symm
      subst e; exact hbd.2.2 ht
    have h1 := Run.move (p := ⟨b, (i : Int) + 1⟩) (q := ⟨d, 2⟩) (h.perm (List.Perm.swap ..)) b1 (by
      simp only [List.mem_cons, List.mem_append, Pt.mk.injEq, hbd, false_and, List.not_mem_nil, or_false, false_or, not_or, List.cons_append]
      exact ⟨hbn _, b2⟩) (.inr rfl)
    have h2 := Run.link (p := ⟨d, 1⟩) (q := ⟨e, 0⟩) (L := ⟨b, (i : Int) + 1⟩ :: ⟨e, 1⟩ :: ⟨e, 2⟩ :: (r.flatMap (newP (appN lv)) ++ L)) (h1.perm (by
      rw [List.perm_iff_count]; intro r; simp only [List.cons_append, List.nil_append, List.count_cons, List.count_append]; omega))
    have h3 := Run.picks (apps := apps) (lv := lv) r e (i + 1) (L := ⟨b, (i : Int) + 1⟩ :: L) (h2.perm (by
      rw [List.perm_iff_count]; intro r; simp only [List.cons_append, List.nil_append, List.count_cons, List.count_append]; omega)) (fun s h1 h2 => by
        obtain ⟨c1, c2⟩ := hb s (by omega) (by simp only [List.length_cons]; omega)
        refine ⟨by rw [(linkR_shp _ _ _).has, (moveR_shp _ _ _).has]; exact c1, ?_⟩
        have : ¬ (s : Int) = (i : Int) + 1 := by omega
        simp only [List.mem_cons, Pt.mk.injEq, this, and_false, false_or]; exact c2) (by rw [(linkR_shp _ _ _).has, (moveR_shp _ _ _).has]; exact ha) (by
        simp only [List.mem_cons, Pt.mk.injEq, hab, false_and, false_or]; exact haL) (by simp only [List.mem_cons, not_or]; exact had.2) (by simp only [List.mem_cons, not_or]; exact hbd.2) hab
    have e' : portsR b (i + 1) (i + 2 + (e :: r).length) = ⟨b, (i : Int) + 1⟩ :: portsR b (i + 1 + 1) (i + 1 + 2 + r.length) := by
      rw [List.length_cons, portsR_cons (by omega), show i + 2 + (r.length + 1) = i + 1 + 2 + r.length by omega]; rfl
    rw [e']
    refine h3.perm ?_
    rw [List.perm_iff_count]; intro r; simp only [List.cons_append, List.nil_append, List.count_cons, List.count_append]; omega

theorem flat_cons {α : Type} (f : α → Pt) (g : α → List Pt) (cs : List α) : (cs.flatMap fun c => f c :: g c).Perm (cs.map f ++ cs.flatMap g) := by
  induction cs with
  | nil => exact List.Perm.refl _
  | cons d cs ih =>
    rw [List.flatMap_cons, List.map_cons, List.flatMap_cons, List.cons_append, List.cons_append]
    refine List.Perm.cons _ ?_
    refine (List.Perm.append_left (g d) ih).trans ?_
    rw [List.perm_iff_count]; intro r; simp only [List.count_append]; omega

theorem Run.lns {m : Int} {k : Nat} : ∀ (cs : List Int) (i : Nat) {n : Nt} {L : List Pt}, Run n0 a b c n (portsR m (i + 1) (i + 1 + cs.length) ++ (cs.map (fun d => (⟨d, (k : Int) + 1⟩ : Pt)) ++ L)) → Run n0 a b c (runs n (lnOps m k i cs)) L
  | [], i, n, L, h => by rw [portsR_nil (by simp)] at h; exact h
  | d :: cs, i, n, L, h => by
    rw [List.length_cons, portsR_cons (by omega), show i + 1 + (cs.length + 1) = i + 1 + 1 + cs.length by omega] at h
    have h1 := Run.link (p := ⟨m, (i : Int) + 1⟩) (q := ⟨d, (k : Int) + 1⟩) (L := portsR m (i + 1 + 1) (i + 1 + 1 + cs.length) ++ (cs.map (fun d => (⟨d, (k : Int) + 1⟩ : Pt)) ++ L)) (h.perm (by
      rw [List.perm_iff_count]; intro r
      simp only [List.map_cons, List.cons_append, List.count_cons, List.count_append, Int.natCast_add, Int.cast_ofNat_Int]; omega))
    exact Run.lns cs (i + 1) h1

theorem runs_cons (n : Nt) (o : Op) (l : List Op) : runs n (o :: l) = runs (o.run n) l := rfl
theorem Run.passes {x : Nd} {cs : List Int} (hx : x.ports.toNat = cs.length + 1) : ∀ (r : List Int) (k : Nat) {n : Nt} {L : List Pt}, Run n0 a b c n (r.flatMap (newP x) ++ (cs.flatMap (fun d => portsR d (k + 1) (k + 1 + r.length)) ++ L)) →
    (∀ s : Nat, k < s → s < k + 1 + r.length → n.has ⟨b, s⟩ = true ∧ (⟨b, s⟩ : Pt) ∉ L) → b ∉ r → b ∉ cs →
    Run n0 a b c (runs n (passOps b cs k r)) (portsR b (k + 1) (k + 1 + r.length) ++ L)
  | [], k, n, L, h, hb, hbr, hbc => by
    rw [portsR_nil (by simp)]
    have : (cs.flatMap fun d => portsR d (k + 1) (k + 1 + ([] : List Int).length)) = [] := by
      rw [List.flatMap_eq_nil_iff]; intro d _; exact portsR_nil (by simp)
    rw [this] at h
    exact h
  | m :: r, k, n, L, h, hb, hbr, hbc => by
    obtain ⟨b1, b2⟩ := hb (k + 1) (by omega) (by simp only [List.length_cons]; omega)
    rw [show ((k + 1 : Nat) : Int) = (k : Int) + 1 by omega] at b1 b2
    simp only [List.mem_cons, not_or] at hbr
    have hcs : ∀ (j u : Nat), (⟨b, (k : Int) + 1⟩ : Pt) ∉ cs.flatMap fun d => portsR d j u := fun j u hm => by
      obtain ⟨t, ht, hs⟩ := List.mem_flatMap.1 hm
      have e : t = b := (mem_portsR.1 hs).1.symm
      subst e; exact hbc ht
    have hrn : (⟨b, (k : Int) + 1⟩ : Pt) ∉ r.flatMap (newP x) := fun hm => by
      obtain ⟨t, ht, hs⟩ := List.mem_flatMap.1 hm
      have e : t = b := (mem_portsR.1 hs).1.symm
      subst e; exact hbr.2 ht
    have e1 : newP x m = ⟨m, 0⟩ :: portsR m 1 (1 + cs.length) := by
      unfold newP; rw [hx, portsR_cons (by omega), show cs.length + 1 = 1 + cs.length by omega]; rfl
    rw [List.flatMap_cons, e1] at h
    have h1 := Run.move (p := ⟨b, (k : Int) + 1⟩) (q := ⟨m, 0⟩) (by simpa only [List.cons_append] using h) b1 (by
      have hpm : (⟨b, (k : Int) + 1⟩ : Pt) ∉ portsR m 1 (1 + cs.length) := fun hm => hbr.1 (mem_portsR.1 hm).1
      simp only [List.mem_cons, List.mem_append, Pt.mk.injEq, hbr, false_and, not_or, not_false_eq_true, true_and]
      exact ⟨⟨hpm, hrn⟩, hcs _ _, b2⟩) (.inr rfl)
    have p1 : (cs.flatMap fun d => portsR d (k + 1) (k + 1 + (m :: r).length)).Perm (cs.map (fun d => (⟨d, (k : Int) + 1⟩ : Pt)) ++ cs.flatMap fun d => portsR d (k + 1 + 1) (k + 1 + 1 + r.length)) := by
      have e : (fun d : Int => portsR d (k + 1) (k + 1 + (m :: r).length)) = fun d => (⟨d, (k : Int) + 1⟩ : Pt) :: portsR d (k + 1 + 1) (k + 1 + 1 + r.length) := by
        funext d
        rw [List.length_cons, portsR_cons (by omega), show k + 1 + (r.length + 1) = k + 1 + 1 + r.length by omega]; rfl
      rw [e]; exact flat_cons _ _ _
    have h2 := Run.lns (m := m) (k := k) cs 0 (L := r.flatMap (newP x) ++ ((cs.flatMap fun d => portsR d (k + 1 + 1) (k + 1 + 1 + r.length)) ++ ⟨b, (k : Int) + 1⟩ :: L)) (h1.perm (by
      rw [List.perm_iff_count]; intro q
      have := (List.perm_iff_count.1 p1) q
      simp only [List.cons_append, List.count_cons, List.count_append, Nat.zero_add] at this ⊢
      rw [this]; omega))
    have h3 := Run.passes hx r (k + 1) h2 (fun s h1 h2 => by
      obtain ⟨c1, c2⟩ := hb s (by omega) (by simp only [List.length_cons]; omega)
      refine ⟨by rw [(runs_shp _ _).has, (moveR_shp _ _ _).has]; exact c1, ?_⟩
      have : ¬ (s : Int) = (k : Int) + 1 := by omega
      simp only [List.mem_cons, Pt.mk.injEq, this, and_false, false_or]; exact c2) hbr.2 hbc
    have e2 : portsR b (k + 1) (k + 1 + (m :: r).length) = ⟨b, (k : Int) + 1⟩ :: portsR b (k + 1 + 1) (k + 1 + 1 + r.length) := by
      rw [List.length_cons, portsR_cons (by omega), show k + 1 + (r.length + 1) = k + 1 + 1 + r.length by omega]; rfl
    have e3 : runs n (passOps b cs k (m :: r)) = runs (runs (moveR n ⟨b, (k : Int) + 1⟩ ⟨m, 0⟩).1 (lnOps m k 0 cs)) (passOps b cs (k + 1) r) := by
      simp only [passOps, runs_cons, runs_app]; rfl
    rw [e2, e3]
    refine h3.perm ?_
    rw [List.perm_iff_count]; intro q; simp only [List.cons_append, List.count_cons, List.count_append]; omega
end
end Go.Proofs.Ytomcceambpneiaa
