/- What a sweep leaves: plain. -/
import Derived.Test.YtkpfjolcmkikeaaSweep1
set_option linter.unusedSimpArgs false
set_option linter.unusedVariables false
set_option maxHeartbeats 4000000
set_option maxRecDepth 10000
namespace Go.Proofs.Ytkpfjolcmkikeaa
open Go.Fx

theorem swept_in {n : Nt} (hG : n.Good) {i : Nat} {x : Nd} (hR : Rch n i) (hx : n.ns[i]? = some x) : n.swept.ns[i]? = some x := by
  have h := clr_get (k := 0) hx
  rw [bool_t hR, if_neg (by simp)] at h
  obtain ⟨y, hy, hk⟩ := rch_k hG hR
  rw [hx] at hy
  show (trim (clrFrom n 0))[i]? = some x
  rw [trim_get (trim_lt h (by rw [Option.some.inj hy]; exact hk))]; exact h
theorem swept_get {n : Nt} {i : Nat} {z : Nd} (h : n.swept.ns[i]? = some z) : (Rch n i ∧ n.ns[i]? = some z) ∨ (¬ Rch n i ∧ z = zN) := by
  have h1 := (List.getElem?_eq_some_iff.1 h).1
  have h2 : (trim (clrFrom n 0))[i]? = some z := h
  rw [trim_get h1] at h2
  have h3 := (List.getElem?_eq_some_iff.1 h2).1
  rw [clr_len] at h3
  obtain ⟨x, hx⟩ : ∃ x, n.ns[i]? = some x := ⟨_, List.getElem?_eq_getElem h3⟩
  rw [clr_get hx] at h2
  by_cases hR : Rch n i
  · rw [bool_t hR, if_neg (by simp)] at h2
    exact .inl ⟨hR, by rw [hx]; exact h2⟩
  · rw [bool_f hR, if_pos (by simp)] at h2
    exact .inr ⟨hR, (Option.some.inj h2).symm⟩
theorem swept_len (n : Nt) : n.swept.ns.length ≤ n.ns.length := by
  have := trim_le (clrFrom n 0)
  rw [clr_len] at this; exact this
theorem swept_rch {n : Nt} (hG : n.Good) (i : Nat) : Rch n.swept i ↔ Rch n i := by
  constructor
  · intro h
    induction h with
    | root => exact .root
    | step _ hs ih =>
      obtain ⟨x, q, hx, hq, hj⟩ := hs
      rcases swept_get hx with ⟨_, h2⟩ | ⟨h2, _⟩
      · exact .step ih ⟨x, q, h2, hq, hj⟩
      · exact absurd ih h2
  · intro h
    induction h with
    | root => exact .root
    | step h1 hs ih =>
      obtain ⟨x, q, hx, hq, hj⟩ := hs
      exact .step ih ⟨x, q, swept_in hG h1 hx, hq, hj⟩

/-- a link of a good net, both ways -/
theorem link_back {n : Nt} (hG : n.Good) {i p : Nat} {x : Nd} {q : Pt} (hx : n.ns[i]? = some x) (hq : x.to[p]? = some q) : ∃ (j s : Nat) (y : Nd), q = ⟨j, s⟩ ∧ n.ns[j]? = some y ∧ y.to[s]? = some ⟨i, p⟩ := by
  obtain ⟨h1, h2, h3⟩ := (hG.nds i x hx).2.2.2 p q hq
  have h4 := has_iff.1 h2
  obtain ⟨a, ha⟩ : ∃ a : Nat, q.n = a := ⟨q.n.toNat, by omega⟩
  obtain ⟨b, hb⟩ : ∃ b : Nat, q.s = b := ⟨q.s.toNat, by omega⟩
  have hqe : q = ⟨a, b⟩ := by rw [← ha, ← hb]
  obtain ⟨y, hy⟩ : ∃ y, n.ns[a]? = some y := ⟨_, List.getElem?_eq_getElem (by omega)⟩
  rw [ha, nd_get hy] at h4
  obtain ⟨r, hr⟩ : ∃ r, y.to[b]? = some r := ⟨_, List.getElem?_eq_getElem (by omega)⟩
  rw [hqe, lk_get hy hr] at h3
  exact ⟨a, b, y, hqe, hy, by rw [hr, h3]⟩
theorem rch_link {n : Nt} (hG : n.Good) {i p j : Nat} {x : Nd} {q : Pt} (hx : n.ns[i]? = some x) (hq : x.to[p]? = some q) (hj : q.n = (j : Int)) : Rch n j ↔ Rch n i := by
  constructor
  · intro h
    obtain ⟨j', s, y, e, hy, hr⟩ := link_back hG hx hq
    have : j = j' := by rw [e] at hj; simp only at hj; omega
    subst this
    exact .step h ⟨y, _, hy, List.mem_of_getElem? hr, rfl⟩
  · intro h; exact .step h ⟨x, q, hx, List.mem_of_getElem? hq, hj⟩

theorem zN_may : zN.may := ⟨by decide, by decide, by decide, by decide, by decide, by decide, by decide, by decide, by decide, by decide, by decide, fun i a h => by simp [zN] at h⟩
theorem swept_good {n : Nt} (hG : n.Good) : n.swept.Good := by
  obtain ⟨r, hr, hr1⟩ := good_root hG
  have h0 := swept_in hG .root hr
  have hl0 := (List.getElem?_eq_some_iff.1 h0).1
  have hlen := swept_len n
  refine ⟨hG.cap1, hG.cap2, by omega, ?_, ?_, fun i x hx => ?_⟩
  · have := hG.ln2
    show (n.swept.ns.length : Int) ≤ n.cap; omega
  · have e : n.swept.ns.length = tl (clrFrom n 0) (clrFrom n 0).length := trim_len _
    have h1 := tl_last (clrFrom n 0) (clrFrom n 0).length (by omega)
    obtain ⟨z, hz⟩ : ∃ z, n.swept.ns[n.swept.ns.length - 1]? = some z := ⟨_, List.getElem?_eq_getElem (by omega)⟩
    have h2 : (trim (clrFrom n 0))[n.swept.ns.length - 1]? = some z := hz
    rw [trim_get (by show _ < n.swept.ns.length; omega)] at h2
    rw [← e, getD_of h2] at h1
    have h3 : ((n.swept.ns.length : Nat) : Int) - 1 = ((n.swept.ns.length - 1 : Nat) : Int) := by omega
    rw [h3, nd_get hz]; exact h1
  · rcases swept_get hx with ⟨hR, hx0⟩ | ⟨hR, rfl⟩
    · obtain ⟨g1, g2, g3, g4⟩ := hG.nds i x hx0
      refine ⟨g1, g2, g3, fun j q hq => ?_⟩
      obtain ⟨h1, _, _⟩ := g4 j q hq
      obtain ⟨a, s, y, e, hy, hr⟩ := link_back hG hx0 hq
      have hRa : Rch n a := (rch_link hG hx0 hq (by rw [e])).2 hR
      have hy2 := swept_in hG hRa hy
      refine ⟨h1, ?_, ?_⟩
      · rw [e]; exact has_get hy2 (List.getElem?_eq_some_iff.1 hr).1
      · rw [e, lk_get hy2 hr]
    · refine ⟨zN_may, by decide, ?_, fun j q hq => by simp [zN] at hq⟩
      constructor
      · intro h
        have : i = 0 := by omega
        exact absurd .root (this ▸ hR)
      · intro h; simp [zN] at h

theorem liveTo_stop {n : Nt} {k : Nat} : ∀ k', k ≤ k' → (∀ i, k ≤ i → i < k' → ¬ Rch n i) → liveTo n k' = liveTo n k
  | 0, h, _ => by rw [show k = 0 by omega]
  | k' + 1, h, hn => by
    by_cases e : k = k' + 1
    · rw [e]
    · rw [liveTo_succ, bool_f (hn k' (by omega) (by omega)), if_neg (by simp)]
      exact liveTo_stop k' (by omega) fun i h1 h2 => hn i h1 (by omega)
theorem liveTo_congr {n m : Nt} (h : ∀ i, Rch m i ↔ Rch n i) : ∀ k, liveTo m k = liveTo n k
  | 0 => rfl
  | k + 1 => by rw [liveTo_succ, liveTo_succ, liveTo_congr h k, bool_congr (h k)]
theorem swept_live {n : Nt} (hG : n.Good) : n.swept.live = n.live := by
  unfold Nt.live
  rw [liveTo_congr (swept_rch hG)]
  refine (liveTo_stop _ (swept_len n) fun i h1 h2 hR => ?_).symm
  obtain ⟨x, hx, _⟩ := rch_k hG hR
  have := (List.getElem?_eq_some_iff.1 (swept_in hG hR hx)).1
  omega
theorem swept_swept {n : Nt} (hG : n.Good) : n.swept.swept = n.swept := by
  have e : clrFrom n.swept 0 = n.swept.ns := by
    refine list_ext (clr_len _ _) fun j hj => ?_
    rw [clr_len] at hj
    obtain ⟨x, hx⟩ : ∃ x, n.swept.ns[j]? = some x := ⟨_, List.getElem?_eq_getElem hj⟩
    rw [clr_get hx, hx]
    by_cases hR : Rch n j
    · rw [bool_t ((swept_rch hG j).2 hR), if_neg (by simp)]
    · rw [bool_f (fun h => hR ((swept_rch hG j).1 h)), if_pos (by simp)]
      rcases swept_get hx with ⟨h, _⟩ | ⟨_, h⟩
      · exact absurd h hR
      · rw [h]
  show (⟨trim (clrFrom n.swept 0), n.swept.cap⟩ : Nt) = n.swept
  rw [e, good_trim (swept_good hG)]
theorem swept_used {n : Nt} (hG : n.Good) : n.swept.used = (n.live.length : Int) := by
  rw [← swept_live hG]
  have : ∀ k, k ≤ n.swept.ns.length → usedL (n.swept.ns.take k) = ((liveTo n.swept k).length : Int) := by
    intro k
    induction k with
    | zero => intro _; rfl
    | succ k ih =>
      intro hk
      obtain ⟨x, hx⟩ : ∃ x, n.swept.ns[k]? = some x := ⟨_, List.getElem?_eq_getElem (by omega)⟩
      rw [usedL_take hx, liveTo_succ, ih (by omega)]
      rcases swept_get hx with ⟨hR, h2⟩ | ⟨hR, rfl⟩
      · obtain ⟨y, hy, hyk⟩ := rch_k hG hR
        rw [h2] at hy
        rw [Option.some.inj hy, if_neg hyk, bool_t ((swept_rch hG k).2 hR)]; simp
      · rw [if_pos (show zN.k = 0 from rfl), bool_f (fun h => hR ((swept_rch hG k).1 h))]; simp
  have h := this n.swept.ns.length (Nat.le_refl _)
  rw [List.take_length] at h; exact h
theorem live_head {n : Nt} : ∀ k, 0 < k → ∃ L, liveTo n k = 0 :: L
  | 0, h => by omega
  | k + 1, _ => by
    rcases Nat.eq_zero_or_pos k with rfl | hk
    · rw [liveTo_succ, bool_t .root]; exact ⟨[], rfl⟩
    · obtain ⟨L, hL⟩ := live_head (n := n) k hk
      rw [liveTo_succ, hL]
      split
      · exact ⟨_, rfl⟩
      · exact ⟨L, rfl⟩
end Go.Proofs.Ytkpfjolcmkikeaa
