/- Behind a meeting: the net may be; what is far is as it was. Plain. -/
import Derived.Test.YtomcceambpneiaaAct7
set_option linter.unusedSimpArgs false
set_option linter.unusedVariables false
set_option maxHeartbeats 4000000
namespace Go.Proofs.Ytomcceambpneiaa
open Go.Fx

/-- what a meeting leaves -/
structure Stepped (n : Nt) (a b : Int) (c : Int) (m : Nt) : Prop where
  ok : m.Ok
  good : m.Good
  cap : m.cap = n.cap
  used : m.used = n.used - 2 + c
  old : ∀ (j : Nat) (x : Nd), n.ns[j]? = some x → x.k ≠ 0 → (j : Int) ≠ a → (j : Int) ≠ b → ∃ y, m.ns[j]? = some y ∧ y = { x with to := y.to } ∧ y.to.length = x.to.length
  keep : ∀ r, n.has r = true → r.n ≠ a → r.n ≠ b → (n.lk r).n ≠ a → (n.lk r).n ≠ b → m.has r = true ∧ m.lk r = n.lk r

theorem Stepped.swap {n m : Nt} {a b c : Int} (h : Stepped n a b c m) : Stepped n b a c m :=
  ⟨h.ok, h.good, h.cap, h.used, fun j x h1 h2 h3 h4 => h.old j x h1 h2 h4 h3, fun r h1 h2 h3 h4 h5 => h.keep r h1 h3 h2 h5 h4⟩

theorem mem_endL {n : Nt} {a b : Int} {r : Pt} : r ∈ endL n a b ↔ (r.n = a ∧ 0 ≤ r.s ∧ r.s < (n.nd a).to.length) ∨ (r.n = b ∧ 0 ≤ r.s ∧ r.s < (n.nd b).to.length) := by
  unfold endL
  rw [List.mem_append, mem_portsR, mem_portsR]
  exact Iff.rfl

theorem planX_k {x y : Nd} {p : Pl} (h : PlanX x y p) : x.k ≠ 1 ∧ y.k ≠ 1 := by
  have c1 := cls_1 x.k
  have c2 := cls_2 y.k
  have c3 := cls_3 x.k
  cases h with
  | pass h hx hy h1 h2 => have := cls_ne hy; omega
  | drop h hx hy => have := cls_ne hy; omega
  | _ => omega

/-- two nodes that are open are freed -/
theorem free_two {n0 n : Nt} {a b c : Int} (hM : Meet n0 a b) (ka : (n0.nd a).k ≠ 1) (kb : (n0.nd b).k ≠ 1) (h : Run n0 a b c n (endL n0 a b)) {i j : Nat} (hij : (i : Int) = a ∧ (j : Int) = b ∨ (i : Int) = b ∧ (j : Int) = a) :
    Stepped n0 a b c (freeR (freeR n i).1 j).1 := by
  have hab := hM.ab
  have node : ∀ t : Int, 0 ≤ t → t < n0.ns.length → (n0.nd t).k ≠ 0 → (n0.nd t).k ≠ 1 → ∃ x, n.ns[t.toNat]? = some x ∧ x.k ≠ 0 ∧ x.to.length = (n0.nd t).to.length ∧ 1 ≤ t := by
    intro t h0 h1 hk hk1
    obtain ⟨y, g1, g2, g3⟩ := h.old _ _ (get_nd h0 h1) hk
    refine ⟨y, g1, by rw [g2]; exact hk, g3, ?_⟩
    have g := (hM.good.nds _ _ (get_nd h0 h1)).2.2.1
    by_cases e : t = 0
    · exact absurd (g.1 (by omega)) hk1
    · omega
  have both : ∀ t : Nat, (t : Int) = a ∨ (t : Int) = b → ∃ x, n.ns[t]? = some x ∧ x.k ≠ 0 ∧ 1 ≤ t ∧ ∀ p, n.has p = true → p.n = t → p ∈ endL n0 a b := by
    intro t ht
    rcases ht with ht | ht
    · obtain ⟨x, g1, g2, g3, g4⟩ := node a hM.a0 hM.a1 hM.kA ka
      rw [show a.toNat = t by omega] at g1
      refine ⟨x, g1, g2, by omega, fun p hp e => mem_endL.2 (.inl ?_)⟩
      have h1 := has_iff.1 hp
      rw [e, nd_get g1, g3] at h1
      exact ⟨by omega, h1.2.2.1, h1.2.2.2⟩
    · obtain ⟨x, g1, g2, g3, g4⟩ := node b hM.b0 hM.b1 hM.kB kb
      rw [show b.toNat = t by omega] at g1
      refine ⟨x, g1, g2, by omega, fun p hp e => mem_endL.2 (.inr ?_)⟩
      have h1 := has_iff.1 hp
      rw [e, nd_get g1, g3] at h1
      exact ⟨by omega, h1.2.2.1, h1.2.2.2⟩
  obtain ⟨x, x1, x2, x3, x4⟩ := both i (by omega)
  obtain ⟨y, y1, y2, y3, y4⟩ := both j (by omega)
  obtain ⟨e1, s1, u1, h1, l1⟩ := h.semi.free x1 x3 x2 x4
  have y1' := free_get (i := i) y1 (by omega) y2
  obtain ⟨e2, s2, u2, h2, l2⟩ := s1.free y1' y3 y2 (fun p hp e => ⟨y4 p ((h1 p).1 hp).1 e, by omega⟩)
  rw [e1]
  simp only
  rw [e2]
  simp only
  have hG : ((n.free i).free j).Good := (s2.iff (Y := fun _ => False) fun r => ⟨fun ⟨⟨k1, k2⟩, k3⟩ => by
    rcases mem_endL.1 k1 with ⟨k, _⟩ | ⟨k, _⟩ <;> omega, False.elim⟩).good
  refine ⟨free_Ok (free_Ok h.ok _) _, hG, h.cap, by rw [u2, u1, h.used]; omega, fun t z hz hk ha hb => ?_, fun r h3 h4 h5 h6 h7 => ?_⟩
  · obtain ⟨w, g1, g2, g3⟩ := h.old t z hz hk
    have wk : w.k ≠ 0 := by rw [g2]; exact hk
    exact ⟨w, free_get (free_get g1 (by omega) wk) (by omega) wk, g2, g3⟩
  · have hr := h.has0 h3
    obtain ⟨q1, q2⟩ := h.keep r h3 h4 h5 h6 h7
    have hr1 := (h1 r).2 ⟨hr, by omega⟩
    exact ⟨(h2 r).2 ⟨hr1, by omega⟩, by rw [l2 r hr1 (by omega), l1 r hr (by omega), q2]⟩

theorem step_ok {n : Nt} {a b : Int} {p : Pl} (hM : Meet n a b) (hp : PlanX (n.nd a) (n.nd b) p) (hu : n.used + needX p (n.nd a) (n.nd b) ≤ n.cap) : Stepped n a b (needX p (n.nd a) (n.nd b)) (stepR n p a b) := by
  obtain ⟨ka, kb⟩ := planX_k hp
  have hR := done_run hM hp hu
  have a0 := hM.a0
  have b0 := hM.b0
  have h := free_two hM ka kb hR (i := (max a b).toNat) (j := (min a b).toNat) (by omega)
  rw [show (((max a b).toNat : Nat) : Int) = max a b by omega, show (((min a b).toNat : Nat) : Int) = min a b by omega] at h
  exact h

/-- what act.Do says -/
structure DoneOk (n : Nt) (i : Int) (p : Pl) (m : Nt) : Prop where
  meet : Meet n i (meetR n i)
  pl : ofR (n.nd i) (n.nd (meetR n i)) = (p, 0)
  px : PlanX (n.nd (if p.sw = true then meetR n i else i)) (n.nd (if p.sw = true then i else meetR n i)) p
  room : n.used + needR p (n.nd i) (n.nd (meetR n i)) ≤ n.cap
  net : m = stepR n p (if p.sw = true then meetR n i else i) (if p.sw = true then i else meetR n i)
  st : Stepped n i (meetR n i) (needR p (n.nd i) (n.nd (meetR n i))) m

inductive DoCase (n : Nt) (i : Int) : Nt × Pl × Int → Prop
  | bad (h : ¬ n.Good) : DoCase n i (n, p0, 120)
  | none (h : n.Good) (hm : meetR n i < 0) : DoCase n i (n, p0, 122)
  | pair (h : n.Good) (e : Int) (hm : Meet n i (meetR n i)) (he : e = (ofR (n.nd i) (n.nd (meetR n i))).2) (h0 : e ≠ 0) : DoCase n i (n, p0, e)
  | full (h : n.Good) (p : Pl) (hm : Meet n i (meetR n i)) (hp : ofR (n.nd i) (n.nd (meetR n i)) = (p, 0)) (hu : ¬ n.used + needR p (n.nd i) (n.nd (meetR n i)) ≤ n.cap) : DoCase n i (n, p0, 121)
  | done (h : n.Good) (p : Pl) (m : Nt) (hd : DoneOk n i p m) : DoCase n i (m, p, 0)

theorem do_case {n : Nt} (hn : n.Ok) (i : Int) : DoCase n i (doR n i) := by
  unfold doR
  by_cases hG : n.Good
  case neg => rw [bool_f hG]; exact .bad hG
  rw [bool_t hG, if_neg (by simp)]
  by_cases hm : meetR n i < 0
  · rw [if_pos hm]; exact .none hG hm
  rw [if_neg hm]
  have hM := meetR_meet hn hG hm
  have hX := of_plan hM.ma hM.mb hM.ka hM.kb hM.pa hM.pb
  obtain ⟨⟨p, e⟩, hr⟩ : ∃ r, ofR (n.nd i) (n.nd (meetR n i)) = r := ⟨_, rfl⟩
  simp only [hr]
  rw [hr] at hX
  by_cases he : e = 0
  case neg => rw [if_pos (by simpa using he)]; exact .pair hG e hM (by rw [hr]) he
  subst he
  rw [if_neg (by simp)]
  have hX := hX rfl
  simp only at hX
  have hub := good_used hG
  have hgb := hG.cap2
  have hu0 : 0 ≤ n.used := (usedL_le n.ns).1
  have hw : wr (n.used + needR p (n.nd i) (n.nd (meetR n i))) = n.used + needR p (n.nd i) (n.nd (meetR n i)) := by
    cases hsw : p.sw with
    | false =>
      rw [hsw] at hX
      have := need_room hM hX
      have hnr : needR p (n.nd i) (n.nd (meetR n i)) = needX p (n.nd i) (n.nd (meetR n i)) := by unfold needR; rw [hsw]; rfl
      rw [hnr]; exact wr_in (by omega)
    | true =>
      rw [hsw] at hX
      have := need_room hM.swap hX
      have hnr : needR p (n.nd i) (n.nd (meetR n i)) = needX p (n.nd (meetR n i)) (n.nd i) := by unfold needR; rw [hsw]; rfl
      rw [hnr]; exact wr_in (by omega)
  rw [hw]
  by_cases hu : n.used + needR p (n.nd i) (n.nd (meetR n i)) ≤ n.cap
  case neg => rw [if_pos (by omega)]; exact .full hG p hM hr hu
  rw [if_neg (by omega)]
  refine .done hG p _ ⟨hM, hr, ?_, hu, rfl, ?_⟩
  · cases hsw : p.sw <;> rw [hsw] at hX <;> exact hX
  · cases hsw : p.sw with
    | false =>
      rw [hsw] at hX
      have hnr : needR p (n.nd i) (n.nd (meetR n i)) = needX p (n.nd i) (n.nd (meetR n i)) := by unfold needR; rw [hsw]; rfl
      rw [hnr] at hu ⊢
      exact step_ok hM hX hu
    | true =>
      rw [hsw] at hX
      have hnr : needR p (n.nd i) (n.nd (meetR n i)) = needX p (n.nd (meetR n i)) (n.nd i) := by unfold needR; rw [hsw]; rfl
      rw [hnr] at hu ⊢
      exact (step_ok hM.swap hX hu).swap
end Go.Proofs.Ytomcceambpneiaa
