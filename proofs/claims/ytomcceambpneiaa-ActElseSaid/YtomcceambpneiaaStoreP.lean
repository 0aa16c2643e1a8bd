/- What making and freeing leave: plain. -/
import Derived.Test.YtomcceambpneiaaStoreQ
import Derived.Test.YtomcceambpneiaaStoreO
import Derived.Test.YtomcceambpneiaaWireP
set_option linter.unusedSimpArgs false
set_option linter.unusedVariables false
set_option maxHeartbeats 4000000
set_option maxRecDepth 10000
namespace Go.Proofs.Ytomcceambpneiaa
open Go.Fx

/-- what making leaves -/
structure Made (n : Nt) (x : Nd) (a : Nt) (t : Nat) : Prop where
  one : 1 ≤ t
  lt : t < a.ns.length
  was : ∀ y, n.ns[t]? = some y → y.k = 0
  now : a.ns[t]? = some x.fresh
  used : a.used = n.used + 1
  cap : a.cap = n.cap
  rest : ∀ i : Nat, i ≠ t → i < a.ns.length → i < n.ns.length ∧ a.ns[i]? = n.ns[i]?
  back : a.free t = n
  len : a.ns.length ≤ n.ns.length + 1
  le : n.ns.length ≤ a.ns.length
  ok : a.Ok

theorem good_big {n : Nt} (hG : n.Good) : n.ns.length ≤ 4000 := by
  have := hG.ln2; have := hG.cap2; omega
theorem good_root {n : Nt} (hG : n.Good) : ∃ y, n.ns[0]? = some y ∧ y.k = 1 := by
  have := hG.ln1
  obtain ⟨y, hy⟩ : ∃ y, n.ns[0]? = some y := ⟨_, List.getElem?_eq_getElem (by omega)⟩
  exact ⟨y, hy, (hG.nds 0 y hy).2.2.1.1 (by simp)⟩

theorem made {n : Nt} {x : Nd} (hn : n.Ok) (hG : n.Good) (hx : x.Ok) (hk : x.k ≠ 0) : Made n x (n.make x) n.at := by
  have hb := good_big hG
  obtain ⟨r, hr, hr1⟩ := good_root hG
  have hfk : x.fresh.k = x.k := rfl
  cases hf : n.ns.findIdx? isFree with
  | some i =>
    obtain ⟨hi, hfi, hbef⟩ := List.findIdx?_eq_some_iff_getElem.1 hf
    have e1 : n.at = i := by unfold Nt.at; rw [hf]
    have e2 : n.make x = ⟨n.ns.set i x.fresh, n.cap⟩ := by unfold Nt.make; rw [hf]
    have hy : n.ns[i]? = some n.ns[i] := List.getElem?_eq_getElem hi
    have hyk : (n.ns[i]).k = 0 := by simpa [isFree] using hfi
    rw [e1, e2]
    refine ⟨?_, by simpa using hi, fun y h => ?_, by simp [List.getElem?_set, hi], ?_, rfl, fun j hj hjl => ⟨by simpa using hjl, List.getElem?_set_ne (Ne.symm hj)⟩, ?_, by simp, by simp, ⟨by simp; omega, hn.cap, fun y h => ?_⟩⟩
    · rcases Nat.eq_zero_or_pos i with rfl | h
      · rw [hr] at hy; simp only [Option.some.injEq] at hy; rw [← hy, hr1] at hyk; omega
      · exact h
    · rw [hy] at h; rw [← Option.some.inj h]; exact hyk
    · show usedL (n.ns.set i x.fresh) = usedL n.ns + 1
      rw [usedL_set _ hy, if_pos hyk, hfk, if_neg hk]; omega
    · show (⟨trim ((n.ns.set i x.fresh).set (i : Int).toNat zN), n.cap⟩ : Nt) = n
      rw [Int.toNat_natCast, List.set_set, good_set hG hy hyk, good_trim hG]
    · rcases List.mem_or_eq_of_mem_set h with h | rfl
      · exact hn.nd y h
      · exact fresh_ok hx
  | none =>
    have hnone := List.findIdx?_eq_none_iff.1 hf
    have e1 : n.at = n.ns.length := by unfold Nt.at; rw [hf]
    have e2 : n.make x = ⟨n.ns ++ [x.fresh], n.cap⟩ := by unfold Nt.make; rw [hf]
    rw [e1, e2]
    have hl := hG.ln1
    refine ⟨by omega, by simp, fun y h => ?_, by simp, ?_, rfl, fun j hj hjl => ?_, ?_, by simp, by simp, ⟨by simp; omega, hn.cap, fun y h => ?_⟩⟩
    · rw [List.getElem?_eq_none (Nat.le_refl _)] at h; cases h
    · show usedL (n.ns ++ [x.fresh]) = usedL n.ns + 1
      rw [usedL_app, usedL_cons, usedL_nil, hfk, if_neg hk]; omega
    · simp only [List.length_append, List.length_cons, List.length_nil] at hjl
      exact ⟨by omega, List.getElem?_append_left (by omega)⟩
    · show (⟨trim ((n.ns ++ [x.fresh]).set (n.ns.length : Int).toNat zN), n.cap⟩ : Nt) = n
      have e3 : (n.ns ++ [x.fresh]).set (n.ns.length : Int).toNat zN = n.ns ++ [zN] := by
        rw [Int.toNat_natCast, List.set_append_right _ _ (Nat.le_refl _)]; simp
      have e4 : trim (n.ns ++ [zN]) = n.ns := by
        have hlast := hG.last
        unfold Nt.nd at hlast
        rw [show ((n.ns.length : Int) - 1).toNat = n.ns.length - 1 by omega] at hlast
        have t1 : tl (n.ns ++ [zN]) (n.ns.length + 1) = tl (n.ns ++ [zN]) n.ns.length := by
          simp only [tl]; rw [if_pos]
          rw [List.getD_eq_getElem?_getD, List.getElem?_append_right (Nat.le_refl _)]; simp [isFree, zN]
        have t2 : tl (n.ns ++ [zN]) n.ns.length = n.ns.length := tl_full (by omega) (by
          rw [List.getD_eq_getElem?_getD, List.getElem?_append_left (by omega), ← List.getD_eq_getElem?_getD]; exact hlast)
        unfold trim
        rw [List.length_append, List.length_cons, List.length_nil, t1, t2]; simp
      rw [e3, e4]
    · rcases List.mem_append.1 h with h | h
      · exact hn.nd y h
      · simp only [List.mem_cons, List.not_mem_nil, or_false] at h; rw [h]; exact fresh_ok hx


theorem freeR_made {n a : Nt} {x : Nd} {t : Nat} (h : Made n x a t) (hk : x.k ≠ 0) : freeR a t = (n, 0) := by
  unfold freeR
  have h1 := h.lt
  have h2 : a.nd t = x.fresh := by unfold Nt.nd; rw [Int.toNat_natCast]; exact getD_of h.now
  rw [if_pos ⟨by omega, by omega, by rw [h2]; exact hk⟩, h.back]
theorem small_bound {n : Nt} {m : Int} (h : n.small m) : (n.ns.length : Int) ≤ m := by
  exact h.2

theorem zN_ok : zN.Ok := ⟨by decide, by decide, by decide, by decide, by decide, by decide, by decide, by decide⟩
theorem mem_trim {l : List Nd} {x : Nd} (h : x ∈ trim l) : x ∈ l := List.mem_of_mem_take h
theorem trim_le (l : List Nd) : (trim l).length ≤ l.length := by rw [trim_len]; exact tl_le _ _

theorem free_Ok {n : Nt} (hn : n.Ok) (i : Int) : (n.free i).Ok := by
  have h1 := trim_le (n.ns.set i.toNat zN)
  rw [List.length_set] at h1
  have h2 := hn.ns
  refine ⟨?_, hn.cap, fun x hx => ?_⟩
  · show (trim (n.ns.set i.toNat zN)).length * 88 ≤ _; omega
  · rcases List.mem_or_eq_of_mem_set (mem_trim hx) with h | rfl
    · exact hn.nd x h
    · exact zN_ok
theorem make_Ok {n : Nt} {x : Nd} (hn : n.Ok) (hx : x.Ok) (hb : n.ns.length * 88 + 88 ≤ 140737488355328) : (n.make x).Ok := by
  unfold Nt.make
  cases hf : n.ns.findIdx? isFree with
  | some i =>
    refine ⟨by simp; omega, hn.cap, fun y h => ?_⟩
    rcases List.mem_or_eq_of_mem_set h with h | rfl
    · exact hn.nd y h
    · exact fresh_ok hx
  | none =>
    refine ⟨by simp; omega, hn.cap, fun y h => ?_⟩
    rcases List.mem_append.1 h with h | h
    · exact hn.nd y h
    · simp only [List.mem_cons, List.not_mem_nil, or_false] at h; rw [h]; exact fresh_ok hx
theorem make_used {n : Nt} {x : Nd} (hk : x.k ≠ 0) : (n.make x).used = n.used + 1 := by
  have hfk : x.fresh.k = x.k := rfl
  unfold Nt.make
  cases hf : n.ns.findIdx? isFree with
  | some i =>
    obtain ⟨hi, hfi, hbef⟩ := List.findIdx?_eq_some_iff_getElem.1 hf
    have hy : n.ns[i]? = some n.ns[i] := List.getElem?_eq_getElem hi
    have hyk : (n.ns[i]).k = 0 := by simpa [isFree] using hfi
    show usedL (n.ns.set i x.fresh) = usedL n.ns + 1
    rw [usedL_set _ hy, if_pos hyk, hfk, if_neg hk]; omega
  | none =>
    show usedL (n.ns ++ [x.fresh]) = usedL n.ns + 1
    rw [usedL_app, usedL_cons, usedL_nil, hfk, if_neg hk]; omega
theorem make_len {n : Nt} {x : Nd} : (n.make x).ns.length ≤ n.ns.length + 1 := by
  unfold Nt.make
  cases hf : n.ns.findIdx? isFree with
  | some i => simp
  | none => simp
theorem free_used {n : Nt} {t : Nat} {y : Nd} (hy : n.ns[t]? = some y) (hk : y.k ≠ 0) : (n.free (t : Int)).used = n.used - 1 := by
  show usedL (trim (n.ns.set (t : Int).toNat zN)) = usedL n.ns - 1
  rw [usedL_trim, Int.toNat_natCast, usedL_set zN hy, if_neg hk]
  show usedL n.ns - 1 + (if zN.k = 0 then 0 else 1) = usedL n.ns - 1
  rw [if_pos (show zN.k = 0 from rfl)]; omega
theorem free_len (n : Nt) (t : Int) : (n.free t).ns.length ≤ n.ns.length := by
  have := trim_le (n.ns.set t.toNat zN)
  rw [List.length_set] at this; exact this
theorem free_there {n : Nt} {t : Nat} {z : Nd} (h : (n.free (t : Int)).ns[t]? = some z) : z.k = 0 := by
  have h1 := (List.getElem?_eq_some_iff.1 h).1
  have h2 : (trim (n.ns.set (t : Int).toNat zN))[t]? = some z := h
  rw [trim_get h1, Int.toNat_natCast, List.getElem?_set] at h2
  rw [if_pos rfl] at h2
  split at h2
  · rw [← Option.some.inj h2]; rfl
  · cases h2
theorem free_at (n : Nt) (t : Nat) (ht : t < n.ns.length) : (n.free (t : Int)).at ≤ t := by
  unfold Nt.at
  cases hf : (n.free (t : Int)).ns.findIdx? isFree with
  | some i =>
    obtain ⟨hi, hfi, hbef⟩ := List.findIdx?_eq_some_iff_getElem.1 hf
    show i ≤ t
    by_cases h : t < i
    · have := hbef t h
      have hz : (n.free (t : Int)).ns[t]? = some ((n.free (t : Int)).ns[t]) := List.getElem?_eq_getElem (by omega)
      have := free_there hz
      simp_all [isFree]
    · omega
  | none =>
    show (n.free (t : Int)).ns.length ≤ t
    by_cases h : t < (n.free (t : Int)).ns.length
    · have hz : (n.free (t : Int)).ns[t]? = some ((n.free (t : Int)).ns[t]) := List.getElem?_eq_getElem h
      have h2 := free_there hz
      rw [List.findIdx?_eq_none_iff] at hf
      have := hf _ (List.getElem_mem h)
      simp [isFree, h2] at this
    · omega

theorem good_used {n : Nt} (hG : n.Good) : n.used ≤ n.cap := by
  have := usedL_le n.ns
  have := hG.ln2
  unfold Nt.used; omega

theorem good_no_k {n : Nt} (hG : n.Good) {i j : Nat} {x : Nd} {q : Pt} (hx : n.ns[i]? = some x) (hq : x.to[j]? = some q) : x.k ≠ 0 := by
  intro h
  have h1 := hG.nds i x hx
  have h2 := free_zN h1.1 h1.2.1 h
  rw [h2] at hq; simp [zN] at hq

/-- a node of a net that may be, but for places that were free, is there still when another one is freed -/
theorem free_get {n : Nt} {i m : Nat} {x : Nd} (hx : n.ns[m]? = some x) (hm : m ≠ i) (hk : x.k ≠ 0) : (n.free (i : Int)).ns[m]? = some x := by
  have hset : (n.ns.set (i : Int).toNat zN)[m]? = some x := by rw [Int.toNat_natCast, List.getElem?_set_ne (Ne.symm hm)]; exact hx
  have hlt : m < (trim (n.ns.set (i : Int).toNat zN)).length := by
    rw [trim_len]
    by_cases h : m < tl (n.ns.set (i : Int).toNat zN) (n.ns.set (i : Int).toNat zN).length
    · exact h
    · exfalso
      apply hk
      have := tl_free (n.ns.set (i : Int).toNat zN) _ m (by omega) ((List.getElem?_eq_some_iff.1 hset).1)
      rw [getD_of hset] at this; exact this
  show (trim (n.ns.set (i : Int).toNat zN))[m]? = some x
  rw [trim_get hlt]; exact hset
theorem free_get_inv {n : Nt} {i m : Nat} {x : Nd} (hx : (n.free (i : Int)).ns[m]? = some x) : (m = i ∧ x = zN) ∨ (m ≠ i ∧ n.ns[m]? = some x) := by
  have h1 := (List.getElem?_eq_some_iff.1 hx).1
  have h2 : (trim (n.ns.set (i : Int).toNat zN))[m]? = some x := hx
  rw [trim_get h1, Int.toNat_natCast] at h2
  by_cases h : m = i
  · subst h
    rw [List.getElem?_set] at h2
    rw [if_pos rfl] at h2
    split at h2
    · exact .inl ⟨rfl, (Option.some.inj h2).symm⟩
    · cases h2
  · rw [List.getElem?_set_ne (Ne.symm h)] at h2; exact .inr ⟨h, h2⟩

theorem freed_good {n : Nt} (hG : n.Good) {i : Nat} {x : Nd} (hx : n.ns[i]? = some x) (hp : x.to ≠ []) :
    (n.free (i : Int)).Good ↔ (∀ (j : Nat) (q : Pt), x.to[j]? = some q → q.n = i) ∧ 0 < i := by
  constructor
  · intro hF
    have hi : 0 < i := by
      rcases Nat.eq_zero_or_pos i with rfl | h
      · exfalso
        have h1 := hF.ln1
        obtain ⟨z, hz⟩ : ∃ z, (n.free ((0 : Nat) : Int)).ns[0]? = some z := ⟨_, List.getElem?_eq_getElem (by omega)⟩
        have h2 := (hF.nds 0 z hz).2.2.1.1 (by simp)
        rcases free_get_inv hz with ⟨_, rfl⟩ | ⟨h3, _⟩
        · simp [zN] at h2
        · omega
      · exact h
    refine ⟨fun j q hq => ?_, hi⟩
    obtain ⟨hne, hhas, hlk⟩ := (hG.nds i x hx).2.2.2 j q hq
    have hq' := has_iff.1 hhas
    obtain ⟨a, ha⟩ : ∃ a : Nat, q.n = a := ⟨q.n.toNat, by omega⟩
    obtain ⟨b, hb⟩ : ∃ b : Nat, q.s = b := ⟨q.s.toNat, by omega⟩
    have hqe : q = ⟨a, b⟩ := by rw [← ha, ← hb]
    rw [ha]
    by_cases hai : a = i
    · rw [hai]
    exfalso
    obtain ⟨y, hy⟩ : ∃ y, n.ns[a]? = some y := ⟨_, List.getElem?_eq_getElem (by omega)⟩
    have hnd : n.nd q.n = y := by rw [ha]; exact nd_get hy
    obtain ⟨r, hr⟩ : ∃ r, y.to[b]? = some r := ⟨_, List.getElem?_eq_getElem (by rw [hnd] at hq'; omega)⟩
    have hre : r = ⟨i, j⟩ := by rw [hqe, lk_get hy hr] at hlk; exact hlk
    have hyk := good_no_k hG hy hr
    have hy2 := free_get hy hai hyk
    obtain ⟨_, h6, _⟩ := (hF.nds a y hy2).2.2.2 b r hr
    rw [hre] at h6
    have h7 := has_iff.1 h6
    obtain ⟨z, hz⟩ : ∃ z, (n.free (i : Int)).ns[i]? = some z := ⟨_, List.getElem?_eq_getElem (by simp at h7; omega)⟩
    rcases free_get_inv hz with ⟨_, rfl⟩ | ⟨h3, _⟩
    · simp only at h7; rw [nd_get hz] at h7; simp [zN] at h7; omega
    · exact h3 rfl
  · rintro ⟨hal, hi⟩
    have hlen := free_len n (i : Int)
    obtain ⟨r, hr, hr1⟩ := good_root hG
    have hr2 := free_get (i := i) hr (by omega) (by omega)
    have hl0 := (List.getElem?_eq_some_iff.1 hr2).1
    have hc : (n.free (i : Int)).cap = n.cap := rfl
    refine ⟨hG.cap1, hG.cap2, by omega, ?_, ?_, fun m y hy => ?_⟩
    · have := hG.ln2; rw [hc]; omega
    · have e : (n.free (i : Int)).ns.length = tl (n.ns.set (i : Int).toNat zN) (n.ns.set (i : Int).toNat zN).length := trim_len _
      have h1 := tl_last (n.ns.set (i : Int).toNat zN) (n.ns.set (i : Int).toNat zN).length (by omega)
      obtain ⟨z, hz⟩ : ∃ z, (n.free (i : Int)).ns[(n.free (i : Int)).ns.length - 1]? = some z := ⟨_, List.getElem?_eq_getElem (by omega)⟩
      have h2 : (trim (n.ns.set (i : Int).toNat zN))[(n.free (i : Int)).ns.length - 1]? = some z := hz
      rw [trim_get (by show _ < (n.free (i : Int)).ns.length; omega)] at h2
      rw [← e, getD_of h2] at h1
      have h3 : (((n.free (i : Int)).ns.length : Nat) : Int) - 1 = (((n.free (i : Int)).ns.length - 1 : Nat) : Int) := by omega
      rw [h3, nd_get hz]; exact h1
    · rcases free_get_inv hy with ⟨rfl, rfl⟩ | ⟨hmi, hy0⟩
      · refine ⟨⟨by decide, by decide, by decide, by decide, by decide, by decide, by decide, by decide, by decide, by decide, by decide, fun i a h => by simp [zN] at h⟩, by decide, ?_, fun j q hq => by simp [zN] at hq⟩
        constructor
        · intro h; omega
        · intro h; simp [zN] at h
      · obtain ⟨g1, g2, g3, g4⟩ := hG.nds m y hy0
        refine ⟨g1, g2, g3, fun j q hq => ?_⟩
        obtain ⟨hne, hhas, hlk⟩ := g4 j q hq
        have hq' := has_iff.1 hhas
        obtain ⟨a, ha⟩ : ∃ a : Nat, q.n = a := ⟨q.n.toNat, by omega⟩
        obtain ⟨b, hb⟩ : ∃ b : Nat, q.s = b := ⟨q.s.toNat, by omega⟩
        have hqe : q = ⟨a, b⟩ := by rw [← ha, ← hb]
        obtain ⟨z, hz⟩ : ∃ z, n.ns[a]? = some z := ⟨_, List.getElem?_eq_getElem (by omega)⟩
        have hnd : n.nd q.n = z := by rw [ha]; exact nd_get hz
        have hbl : b < z.to.length := by rw [hnd] at hq'; omega
        obtain ⟨u, hu⟩ : ∃ u, z.to[b]? = some u := ⟨_, List.getElem?_eq_getElem hbl⟩
        have hue : u = ⟨m, j⟩ := by rw [hqe, lk_get hz hu] at hlk; exact hlk
        have hai : a ≠ i := by
          rintro rfl
          rw [hx] at hz; rw [← Option.some.inj hz] at hu
          have := hal b u hu
          rw [hue] at this; simp at this; omega
        have hz2 := free_get hz hai (good_no_k hG hz hu)
        rw [hqe]
        refine ⟨by rw [← hqe]; exact hne, has_get hz2 hbl, ?_⟩
        rw [lk_get hz2 hu, hue]

end Go.Proofs.Ytomcceambpneiaa
