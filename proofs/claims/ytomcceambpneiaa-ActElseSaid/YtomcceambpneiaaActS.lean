/- What a plan does to two nodes that meet leaves just their ports open; behind it they are freed. Plain. -/
import Derived.Test.YtomcceambpneiaaActR
set_option linter.unusedSimpArgs false
set_option linter.unusedVariables false
set_option maxHeartbeats 4000000
namespace Go.Proofs.Ytomcceambpneiaa
open Go.Fx

/-- two nodes of a net that may be, that meet -/
structure Meet (n : Nt) (a b : Int) : Prop where
  ok : n.Ok
  good : n.Good
  ab : a ≠ b
  a0 : 0 ≤ a
  a1 : a < n.ns.length
  b0 : 0 ≤ b
  b1 : b < n.ns.length
  ma : (n.nd a).may
  mb : (n.nd b).may
  ka : (n.nd a).Ok
  kb : (n.nd b).Ok
  pa : ((n.nd a).to.length : Int) = (n.nd a).ports
  pb : ((n.nd b).to.length : Int) = (n.nd b).ports
  ha : n.has ⟨a, 0⟩ = true
  hb : n.has ⟨b, 0⟩ = true
  la : n.lk ⟨a, 0⟩ = ⟨b, 0⟩
  lb : n.lk ⟨b, 0⟩ = ⟨a, 0⟩
theorem Meet.of {n : Nt} {a b : Int} (hn : n.Ok) (hG : n.Good) (ha : n.has ⟨a, 0⟩ = true) (hl : n.lk ⟨a, 0⟩ = ⟨b, 0⟩) : Meet n a b := by
  obtain ⟨g1, g2, g3⟩ := good_link hG ha
  rw [hl] at g1 g2 g3
  have h1 := has_iff.1 ha
  have h2 := has_iff.1 g2
  simp only at h1 h2
  have q1 := hG.nds _ _ (get_nd h1.1 h1.2.1)
  have q2 := hG.nds _ _ (get_nd h2.1 h2.2.1)
  exact ⟨hn, hG, fun e => g1 (by rw [e]), h1.1, h1.2.1, h2.1, h2.2.1, q1.1, q2.1, hn.nd _ (nd_mem h1.1 h1.2.1), hn.nd _ (nd_mem h2.1 h2.2.1), q1.2.1, q2.2.1, ha, g2, hl, g3⟩
theorem Meet.swap {n : Nt} {a b : Int} (h : Meet n a b) : Meet n b a := Meet.of h.ok h.good h.hb h.lb
theorem Meet.start {n : Nt} {a b : Int} (h : Meet n a b) : Run n a b 0 n [⟨a, 0⟩, ⟨b, 0⟩] := Run.start h.ok h.good h.ha h.la h.ab
theorem Meet.hasA {n : Nt} {a b : Int} (h : Meet n a b) {s : Nat} (hs : s < (n.nd a).to.length) : n.has ⟨a, s⟩ = true := has_iff.2 ⟨h.a0, h.a1, by simp, by simp only; omega⟩
theorem Meet.hasB {n : Nt} {a b : Int} (h : Meet n a b) {s : Nat} (hs : s < (n.nd b).to.length) : n.has ⟨b, s⟩ = true := has_iff.2 ⟨h.b0, h.b1, by simp, by simp only; omega⟩
theorem Meet.kA {n : Nt} {a b : Int} (h : Meet n a b) : (n.nd a).k ≠ 0 := semi_k h.good.semi h.ha
theorem Meet.kB {n : Nt} {a b : Int} (h : Meet n a b) : (n.nd b).k ≠ 0 := semi_k h.good.semi h.hb
theorem Meet.lenA {n : Nt} {a b : Int} (h : Meet n a b) : 1 ≤ (n.nd a).to.length := by have := has_iff.1 h.ha; simp only at this; omega
theorem Meet.lenB {n : Nt} {a b : Int} (h : Meet n a b) : 1 ≤ (n.nd b).to.length := h.swap.lenA
theorem portsA (a : Int) {k : Nat} (h : 1 ≤ k) : portsR a 0 k = ⟨a, 0⟩ :: portsR a 1 k := by rw [portsR_cons (by omega)]; rfl
theorem portsA1 (a : Int) {k : Nat} (h : 2 ≤ k) : portsR a 1 k = ⟨a, 1⟩ :: portsR a 2 k := by rw [portsR_cons (by omega)]; rfl
theorem len_of {x : Nd} {k : Nat} (h : (x.to.length : Int) = x.ports) (e : x.ports = k) : x.to.length = k := by omega
theorem to10 {x : Nd} (hm : x.may) (h : (x.to.length : Int) = x.ports) : x.to.length ≤ 10 := by have := (to_le hm (by omega)).1; omega

theorem dropN_may {z : Int} (h0 : 0 ≤ z) (h1 : z ≤ 60) : (dropN z).may :=
  ⟨by show (0 : Int) ≤ 7; omega, by show (7 : Int) ≤ 13; omega, h0, h1, fun h => by have h : (7 : Int) < 2 := h; omega, by simp [dropN], by simp [dropN], by simp [dropN], by simp [dropN], by simp [dropN], by simp [dropN], fun i a h => by simp [dropN] at h⟩
theorem appN_may {z : Int} (h0 : 0 ≤ z) (h1 : z ≤ 60) : (appN z).may :=
  ⟨by show (0 : Int) ≤ 3; omega, by show (3 : Int) ≤ 13; omega, h0, h1, fun h => by have h : (3 : Int) < 2 := h; omega, by simp [appN], by simp [appN], by simp [appN], by simp [appN], by simp [appN], by simp [appN], fun i a h => by simp [appN] at h⟩
theorem fail1_may {z : Int} (h0 : 0 ≤ z) (h1 : z ≤ 60) : (fail1 z).may :=
  ⟨by show (0 : Int) ≤ 13; omega, by show (13 : Int) ≤ 13; omega, h0, h1, fun h => by have h : (13 : Int) < 2 := h; omega, by simp [fail1], by simp [fail1], by simp [fail1], by simp [fail1], by simp [fail1], by simp [fail1], fun i a h => by simp [fail1] at h⟩
theorem appN_Ok {z : Int} (h : wf z) : (appN z).Ok := ⟨by show wf 3; decide, h, by show wf 0; decide, by simp [appN], by simp [appN], by simp [appN], by simp [appN], by simp [appN]⟩
theorem fail1_Ok {z : Int} (h : wf z) : (fail1 z).Ok := ⟨by show wf 13; decide, h, by show wf 0; decide, by simp [fail1], by simp [fail1], by simp [fail1], by simp [fail1], by simp [fail1]⟩
theorem halfN_may {x y : Nd} (hx : x.may) (hk : x.k = 11) : (halfN x y).may :=
  ⟨by show (0 : Int) ≤ 12; omega, by show (12 : Int) ≤ 13; omega, hx.lv0, hx.lv1, fun h => by have h : (12 : Int) < 2 := h; omega, by simp only [halfN]; exact ⟨fun _ => by simp, fun _ => hx.nm.2 (by simp [hk])⟩, by simp [halfN], by simp [halfN], by simp [halfN], by simp [halfN], by simp [halfN], fun i a h => by simp [halfN] at h⟩
theorem halfN_Ok {x y : Nd} (hx : x.Ok) (hy : y.Ok) : (halfN x y).Ok := ⟨by show wf 12; decide, hx.lv, hy.n, hx.s, by simp [halfN], by simp [halfN], by simp [halfN], by simp [halfN]⟩

/-- what is open at the end -/
def endL (n : Nt) (a b : Int) : List Pt := portsR a 0 (n.nd a).to.length ++ portsR b 0 (n.nd b).to.length

section
variable {n : Nt} {a b : Int}

theorem done_join (h : Meet n a b) (he : (n.nd a).to.length = (n.nd b).to.length) : Run n a b 0 (joinD n a b) (endL n a b) := by
  have hl := h.lenA
  have h1 := Run.joins h.ab (List.range' 1 ((n.nd a).to.length - 1)) h.start (List.nodup_range' ..) (fun s hs => by
    rw [List.mem_range'_1] at hs
    have e : ¬ s = 0 := by omega
    refine ⟨h.hasA (by omega), h.hasB (by omega), ?_, ?_⟩ <;> simp [e])
  refine h1.perm ?_
  unfold endL
  rw [← he, portsA a hl, portsA b hl]
  unfold portsR
  rw [List.perm_iff_count]; intro q; simp only [List.cons_append, List.count_cons, List.count_append, List.count_nil]; omega

theorem done_half (h : Meet n a b) (hx : (n.nd a).k = 11) (hy : (n.nd b).k = 10) (hu : n.used + 1 ≤ n.cap) : Run n a b 1 (halfD n a b) (endL n a b) := by
  obtain ⟨t, g1, g2, g3⟩ := h.start.make (halfN_Ok h.ka h.kb) (halfN_may (y := n.nd b) h.ma hx) (by show ¬ (12 : Int) = 0; omega) (by show ¬ (12 : Int) = 1; omega) (by omega)
  have e3 : (n.nd a).to.length = 3 := len_of h.pa (by unfold Nd.ports; rw [hx]; rfl)
  have e1 : (n.nd b).to.length = 1 := len_of h.pb (by unfold Nd.ports; rw [hy]; rfl)
  rw [newP2 rfl] at g3
  have ht : (makeR n (halfN (n.nd a) (n.nd b))).2.1 = t := by rw [g1]
  have a1 := h.hasA (s := 1) (by omega)
  have a2 := h.hasA (s := 2) (by omega)
  have na : a ≠ t := g2.new _ a1
  have h1 := Run.move (p := ⟨a, 2⟩) (q := ⟨t, 0⟩) (L := [⟨t, 1⟩, ⟨a, 0⟩, ⟨b, 0⟩]) g3 ((g2.has _).2 (.inl a2)) (by simp [na]) (.inl rfl)
  have h2 := Run.move (p := ⟨a, 1⟩) (q := ⟨t, 1⟩) (L := [⟨a, 2⟩, ⟨a, 0⟩, ⟨b, 0⟩]) (h1.perm (List.Perm.swap ..)) (by rw [(moveR_shp _ _ _).has]; exact (g2.has _).2 (.inl a1)) (by simp [na]) (.inl rfl)
  have e : halfD n a b = (moveR (moveR (makeR n (halfN (n.nd a) (n.nd b))).1 ⟨a, 2⟩ ⟨t, 0⟩).1 ⟨a, 1⟩ ⟨t, 1⟩).1 := by unfold halfD; simp only [ht]
  rw [e]
  refine h2.perm ?_
  unfold endL
  rw [e3, e1]
  show List.Perm [(⟨a, 1⟩ : Pt), ⟨a, 2⟩, ⟨a, 0⟩, ⟨b, 0⟩] [⟨a, 0⟩, ⟨a, 1⟩, ⟨a, 2⟩, ⟨b, 0⟩]
  rw [List.perm_iff_count]; intro q; simp only [List.count_cons, List.count_nil]; omega

theorem done_out (h : Meet n a b) (hx : (n.nd a).k = 12) (hy : (n.nd b).k = 10) {x : Nd} (h1 : x.may) (h2 : x.Ok) (h3 : x.ports = 1) (h4 : x.k ≠ 0) (h5 : x.k ≠ 1) (hu : n.used + 1 ≤ n.cap) : Run n a b 1 (outD n x a) (endL n a b) := by
  obtain ⟨t, g1, g2, g3⟩ := h.start.make h2 h1 h4 h5 (by omega)
  have e3 : (n.nd a).to.length = 2 := len_of h.pa (by unfold Nd.ports; rw [hx]; rfl)
  have e1 : (n.nd b).to.length = 1 := len_of h.pb (by unfold Nd.ports; rw [hy]; rfl)
  rw [newP1 h3] at g3
  have ht : (makeR n x).2.1 = t := by rw [g1]
  have a1 := h.hasA (s := 1) (by omega)
  have na : a ≠ t := g2.new _ a1
  have h1 := Run.move (p := ⟨a, 1⟩) (q := ⟨t, 0⟩) (L := [⟨a, 0⟩, ⟨b, 0⟩]) g3 ((g2.has _).2 (.inl a1)) (by simp [na]) (.inl rfl)
  have e : outD n x a = (moveR (makeR n x).1 ⟨a, 1⟩ ⟨t, 0⟩).1 := by unfold outD; simp only [ht]
  rw [e]
  refine h1.perm ?_
  unfold endL
  rw [e3, e1]
  show List.Perm [(⟨a, 1⟩ : Pt), ⟨a, 0⟩, ⟨b, 0⟩] [⟨a, 0⟩, ⟨a, 1⟩, ⟨b, 0⟩]
  exact List.Perm.swap ..

theorem done_drop (h : Meet n a b) (hx : (n.nd a).k = 7) (hu : n.used + ((n.nd b).to.length - 1) ≤ n.cap) : Run n a b ((n.nd b).to.length - 1) (dropD n a b) (endL n a b) := by
  have hl := h.lenB
  have e1 : (n.nd a).to.length = 1 := len_of h.pa (by unfold Nd.ports; rw [hx]; rfl)
  have el : (portsR b 1 (n.nd b).to.length).length = (n.nd b).to.length - 1 := portsR_len _ _ _
  obtain ⟨g1, g2, g3⟩ := h.start.likes (dropN_Ok h.ka.lv) (dropN_may h.ma.lv0 h.ma.lv1) (by show ¬ (7 : Int) = 0; omega) (by show ¬ (7 : Int) = 1; omega) (by show (0 : Int) < 1; omega) ((portsR b 1 (n.nd b).to.length).length) (by omega)
  rw [flat1 rfl] at g3
  have h1 := Run.moves (portsR b 1 (n.nd b).to.length) (likeR n (dropN (n.nd a).lv) (portsR b 1 (n.nd b).to.length).length).2 g3 g2.symm (portsR_nodup _ _ _) (fun p hp => by
    obtain ⟨q1, q2, q3⟩ := mem_portsR.1 hp
    have hh : n.has p = true := has_iff.2 ⟨by rw [q1]; exact h.b0, by rw [q1]; exact h.b1, by omega, by rw [q1]; omega⟩
    refine ⟨(g1.has p).2 (.inl hh), ?_, fun hd => g1.new _ hd p hh rfl, .inr q1⟩
    have : ¬ p.s = 0 := by omega
    simp only [List.mem_cons, List.not_mem_nil, or_false, not_or]
    exact ⟨fun e => this (by rw [e]), fun e => this (by rw [e])⟩)
  have e : (0 : Int) + ((portsR b 1 (n.nd b).to.length).length : Nat) = (n.nd b).to.length - 1 := by omega
  rw [e] at h1
  refine Run.perm (n := dropD n a b) h1 ?_
  unfold endL
  rw [portsA b hl, e1]
  show List.Perm _ ([(⟨a, 0⟩ : Pt)] ++ _)
  rw [List.perm_iff_count]; intro q; simp only [List.cons_append, List.count_cons, List.count_append, List.count_nil]; omega

theorem done_fail (h : Meet n a b) (hx : 2 ≤ (n.nd a).to.length) (hu : n.used + (1 + ((n.nd a).to.length - 2) + ((n.nd b).to.length - 1)) ≤ n.cap) : Run n a b (1 + ((n.nd a).to.length - 2) + ((n.nd b).to.length - 1)) (failD n a b) (endL n a b) := by
  have hl := h.lenB
  obtain ⟨t, g1, g2, g3⟩ := h.start.make (fail1_Ok h.ka.lv) (fail1_may h.ma.lv0 h.ma.lv1) (by show ¬ (13 : Int) = 0; omega) (by show ¬ (13 : Int) = 1; omega) (by omega)
  rw [newP1 rfl] at g3
  have ht : (makeR n (fail1 (n.nd a).lv)).2.1 = t := by rw [g1]
  obtain ⟨m, hm⟩ : ∃ m, (makeR n (fail1 (n.nd a).lv)).1 = m := ⟨_, rfl⟩
  rw [hm] at g2 g3
  have na : a ≠ t := g2.new _ h.ha
  have nb : b ≠ t := g2.new _ h.hb
  have ea : m.nd a = n.nd a := g2.oth a h.a0 na
  have eb : m.nd b = n.nd b := g2.oth b h.b0 nb
  have ef : failD n a b = runs (moveR (likeR m (dropN (n.nd a).lv) (portsR a 2 (n.nd a).to.length ++ portsR b 1 (n.nd b).to.length).length).1 ⟨a, 1⟩ ⟨t, 0⟩).1
      (dropOps (portsR a 2 (n.nd a).to.length ++ portsR b 1 (n.nd b).to.length) (likeR m (dropN (n.nd a).lv) (portsR a 2 (n.nd a).to.length ++ portsR b 1 (n.nd b).to.length).length).2) := by
    unfold failD; simp only [hm, ht, ea, eb]
  obtain ⟨l, hl0⟩ : ∃ l, portsR a 2 (n.nd a).to.length ++ portsR b 1 (n.nd b).to.length = l := ⟨_, rfl⟩
  rw [hl0] at ef
  have el : l.length = (n.nd a).to.length - 2 + ((n.nd b).to.length - 1) := by rw [← hl0, List.length_append, portsR_len, portsR_len]
  have hmem : ∀ p ∈ l, (p.n = a ∧ 2 ≤ p.s ∧ p.s < (n.nd a).to.length) ∨ (p.n = b ∧ 1 ≤ p.s ∧ p.s < (n.nd b).to.length) := fun p hp => by
    rw [← hl0, List.mem_append, mem_portsR, mem_portsR] at hp; exact hp
  have hnod : l.Nodup := by
    rw [← hl0, List.nodup_append]
    refine ⟨portsR_nodup _ _ _, portsR_nodup _ _ _, fun p hp q hq e => ?_⟩
    subst e
    exact h.ab ((mem_portsR.1 hp).1.symm.trans (mem_portsR.1 hq).1)
  obtain ⟨k1, k2, k3⟩ := g3.likes (dropN_Ok h.ka.lv) (dropN_may h.ma.lv0 h.ma.lv1) (by show ¬ (7 : Int) = 0; omega) (by show ¬ (7 : Int) = 1; omega) (by show (0 : Int) < 1; omega) l.length (by omega)
  rw [flat1 rfl] at k3
  obtain ⟨⟨m2, ds⟩, hr⟩ : ∃ r, likeR m (dropN (n.nd a).lv) l.length = r := ⟨_, rfl⟩
  rw [hr] at k1 k2 k3 ef
  simp only at k1 k2 k3 ef
  have a1 := h.hasA (s := 1) (by omega)
  have a1m : m.has ⟨a, 1⟩ = true := (g2.has _).2 (.inl a1)
  have had : a ∉ ds := fun hd => k1.new _ hd _ a1m rfl
  have hbd : b ∉ ds := fun hd => k1.new _ hd _ ((g2.has _).2 (.inl h.hb)) rfl
  have htd : t ∉ ds := fun hd => k1.new _ hd ⟨t, 0⟩ ((g2.has _).2 (.inr ⟨rfl, by simp, by show (0 : Int) < 1; omega⟩)) rfl
  have h1 := Run.move (p := ⟨a, 1⟩) (q := ⟨t, 0⟩) (L := ds.map (fun d => (⟨d, 0⟩ : Pt)) ++ [⟨a, 0⟩, ⟨b, 0⟩]) (k3.perm (by
    rw [List.perm_iff_count]; intro q; simp only [List.cons_append, List.count_cons, List.count_append, List.count_nil, List.nil_append]; omega)) ((k1.has _).2 (.inl a1m)) (by
      simp only [List.mem_cons, List.mem_append, List.mem_map, Pt.mk.injEq, na, false_and, List.not_mem_nil, or_false, false_or, not_or, not_exists, not_and]
      refine ⟨fun x hx e => absurd (e ▸ hx) had, by simp, by simp⟩) (.inl rfl)
  have h2 := Run.moves l ds (L := [⟨a, 1⟩, ⟨a, 0⟩, ⟨b, 0⟩]) (h1.perm (by
    rw [List.perm_iff_count]; intro q; simp only [List.cons_append, List.count_cons, List.count_append, List.count_nil, List.nil_append]; omega)) k2.symm hnod (fun p hp => by
      have hp2 := hmem p hp
      have hh : n.has p = true := by
        rcases hp2 with ⟨q1, q2, q3⟩ | ⟨q1, q2, q3⟩
        · exact has_iff.2 ⟨by rw [q1]; exact h.a0, by rw [q1]; exact h.a1, by omega, by rw [q1]; omega⟩
        · exact has_iff.2 ⟨by rw [q1]; exact h.b0, by rw [q1]; exact h.b1, by omega, by rw [q1]; omega⟩
      refine ⟨by rw [(moveR_shp _ _ _).has]; exact (k1.has p).2 (.inl ((g2.has p).2 (.inl hh))), ?_, ?_, hp2.imp (·.1) (·.1)⟩
      · simp only [List.mem_cons, List.not_mem_nil, or_false, not_or]
        have hab := h.ab
        refine ⟨fun e => ?_, fun e => ?_, fun e => ?_⟩ <;> rw [e] at hp2 <;> simp only at hp2 <;> omega
      · intro hd
        exact k1.new _ hd p ((g2.has p).2 (.inl hh)) rfl)
  rw [← ef] at h2
  have e : (0 : Int) + 1 + (l.length : Nat) = 1 + ((n.nd a).to.length - 2) + ((n.nd b).to.length - 1) := by omega
  rw [e] at h2
  refine Run.perm h2 ?_
  unfold endL
  rw [portsA b hl, portsA a (by omega), portsA1 a (by omega), ← hl0]
  rw [List.perm_iff_count]; intro q; simp only [List.cons_append, List.count_cons, List.count_append, List.count_nil]; omega
end
end Go.Proofs.Ytomcceambpneiaa
