/- Part 5 of what is proved for the law ActRoom: it returns true, whatever the input. No condition. -/
import Derived.Test.YtomcceambpneiaaGreatPActRoomd
section
set_option linter.unusedSimpArgs false
set_option linter.unusedVariables false
set_option maxHeartbeats 4000000
namespace Go.Proofs.YtomcceambpneiaaGreat
open Go.Fx
def appN (z : Int) : Nd := ⟨3, z, 0, [], [], []⟩
def fail1 (z : Int) : Nd := ⟨13, z, 0, [], [], []⟩
def halfN (x y : Nd) : Nd := ⟨12, x.lv, y.n, x.s, [], []⟩
def joinOps (a b : Int) (l : List Nat) : List Op := l.map fun (s : Nat) => .jn ⟨a, (s : Int)⟩ ⟨b, (s : Int)⟩
def joinD (n : Nt) (a b : Int) : Nt := runs n (joinOps a b (List.range' 1 ((n.nd a).to.length - 1)))
def pickOps (a b : Int) : Nat → List Int → List Op
  | _, [] => []
  | i, [d] => [.mv ⟨b, (i : Int) + 1⟩ ⟨d, 2⟩, .mv ⟨a, 1⟩ ⟨d, 1⟩]
  | i, d :: e :: r => .mv ⟨b, (i : Int) + 1⟩ ⟨d, 2⟩ :: .ln ⟨d, 1⟩ ⟨e, 0⟩ :: pickOps a b (i + 1) (e :: r)
def restR (n : Nt) (a alt : Int) : List Pt := (portsR a 2 (n.nd a).to.length).filter fun r => !decide (r = ⟨a, alt + 2⟩)
noncomputable def pickD (n : Nt) (alt : Int) (a b : Int) : Nt :=
  let k := ((n.nd a).al.getD alt.toNat zA).n.toNat
  let r1 := likeR n (appN (n.nd a).lv) k
  let l := restR r1.1 a alt
  let r2 := likeR r1.1 (dropN (r1.1.nd a).lv) l.length
  let m := match r1.2 with
    | [] => (joinR r2.1 ⟨a, alt + 2⟩ ⟨a, 1⟩).1
    | d :: _ => (moveR r2.1 ⟨a, alt + 2⟩ ⟨d, 0⟩).1
  runs (runs m (pickOps a b 0 r1.2)) (dropOps l r2.2)
noncomputable def halfD (n : Nt) (a b : Int) : Nt :=
  let r := makeR n (halfN (n.nd a) (n.nd b))
  (moveR (moveR r.1 ⟨a, 2⟩ ⟨r.2.1, 0⟩).1 ⟨a, 1⟩ ⟨r.2.1, 1⟩).1
noncomputable def outD (n : Nt) (x : Nd) (a : Int) : Nt :=
  let r := makeR n x
  (moveR r.1 ⟨a, 1⟩ ⟨r.2.1, 0⟩).1
noncomputable def failD (n : Nt) (a b : Int) : Nt :=
  let r := makeR n (fail1 (n.nd a).lv)
  let l := portsR a 2 (r.1.nd a).to.length ++ portsR b 1 (r.1.nd b).to.length
  let r2 := likeR r.1 (dropN (r.1.nd a).lv) l.length
  runs (moveR r2.1 ⟨a, 1⟩ ⟨r.2.1, 0⟩).1 (dropOps l r2.2)
def lnOps (m : Int) (k : Nat) : Nat → List Int → List Op
  | _, [] => []
  | i, c :: r => .ln ⟨m, (i : Int) + 1⟩ ⟨c, (k : Int) + 1⟩ :: lnOps m k (i + 1) r
def passOps (b : Int) (cs : List Int) : Nat → List Int → List Op
  | _, [] => []
  | k, m :: r => .mv ⟨b, (k : Int) + 1⟩ ⟨m, 0⟩ :: (lnOps m k 0 cs ++ passOps b cs (k + 1) r)
noncomputable def passD (n : Nt) (lv : Int) (a b : Int) : Nt :=
  let x := n.nd a
  let y : Nd := { n.nd b with lv := lv }
  let r1 := likeR n y (x.to.length - 1)
  let r2 := likeR r1.1 x (y.to.length - 1)
  runs (runs r2.1 (dropOps (portsR a 1 x.to.length) r1.2)) (passOps b r1.2 0 r2.2)
noncomputable def dropD (n : Nt) (a b : Int) : Nt :=
  let l := portsR b 1 (n.nd b).to.length
  let r := likeR n (dropN (n.nd a).lv) l.length
  runs r.1 (dropOps l r.2)
noncomputable def doneR (n : Nt) (p : Pl) (a b : Int) : Nt :=
  if p.k = 1 ∨ p.k = 6 then joinD n a b else if p.k = 2 then pickD n p.alt a b else if p.k = 3 then halfD n a b else if p.k = 4 then outD n p.nd a
  else if p.k = 5 then failD n a b else if p.k = 7 then passD n p.lv a b else if p.k = 8 then dropD n a b else n
noncomputable def stepR (n : Nt) (p : Pl) (a b : Int) : Nt := (freeR (freeR (doneR n p a b) (max a b)).1 (min a b)).1
def meetR (n : Nt) (i : Int) : Int := if n.has ⟨i, 0⟩ = true ∧ (n.lk ⟨i, 0⟩).s = 0 then (n.lk ⟨i, 0⟩).n else -1
noncomputable def doR (n : Nt) (i : Int) : Nt × Pl × Int :=
  if bool n.Good = false then (n, p0, 120) else if meetR n i < 0 then (n, p0, 122)
  else
    let r := ofR (n.nd i) (n.nd (meetR n i))
    if r.2 ≠ 0 then (n, p0, r.2) else if wr (n.used + needR r.1 (n.nd i) (n.nd (meetR n i))) > n.cap then (n, p0, 121)
    else (stepR n r.1 (if r.1.sw = true then meetR n i else i) (if r.1.sw = true then i else meetR n i), r.1, 0)
inductive PlanX (x y : Nd) (p : Pl) : Prop
  | beta (h : p.k = 1) (hx : x.k = 3) (hy : y.k = 2)
  | pick (i : Nat) (A : Ar) (h : p.k = 2) (hx : x.k = 9) (hy : y.k = 8) (h1 : p.alt = i) (h2 : x.al[i]? = some A) (h3 : A.n = (y.to.length : Int) - 1)
  | half (h : p.k = 3) (hx : x.k = 11) (hy : y.k = 10)
  | out (h : p.k = 4) (hx : x.k = 12) (hy : y.k = 10) (h1 : p.nd.may) (h2 : p.nd.Ok) (h3 : p.nd.ports = 1) (h4 : p.nd.k ≠ 0) (h5 : p.nd.k ≠ 1)
  | fail (h : p.k = 5) (hx : cls x.k = 1) (hy : cls y.k = 2)
  | join (h : p.k = 6) (hx : cls x.k = 3) (hy : x.k = y.k)
  | pass (h : p.k = 7) (hx : cls x.k = 3) (hy : cls y.k ≠ 0) (h1 : 0 ≤ p.lv) (h2 : p.lv ≤ 60)
  | drop (h : p.k = 8) (hx : x.k = 7) (hy : cls y.k ≠ 0)
theorem out_more {x y : Nd} (hx : x.Ok) : ({ outN x y with lv := x.lv } : Nd).Ok ∧ ({ outN x y with lv := x.lv } : Nd).ports = 1 ∧ (outN x y).k ≠ 0 ∧ (outN x y).k ≠ 1 := by
  refine ⟨lv_Ok (out_Ok x y) hx.lv, ?_⟩
  unfold outN
  repeat' split
  all_goals first
    | exact ⟨rfl, by show ¬ (10 : Int) = 0; omega, by show ¬ (10 : Int) = 1; omega⟩
    | exact ⟨rfl, by show ¬ (8 : Int) = 0; omega, by show ¬ (8 : Int) = 1; omega⟩
theorem src_plan {x y : Nd} (hx : x.may) (hy : y.may) (kx : x.Ok) (ty : (y.to.length : Int) = y.ports) (cy : cls y.k ≠ 0) {r : Pl × Int} (h : Src x y r) (h0 : r.2 = 0) (p : Pl) (hk : p.k = r.1.k) (hl : p.lv = r.1.lv) (ha : p.alt = r.1.alt) (hn : p.nd = r.1.nd) : PlanX x y p := by
  have y0 := hy.lv0
  have y1 := hy.lv1
  have x0 := hx.lv0
  cases h with
  | no => have h0 : (140 : Int) = 0 := h0; omega
  | drop h => exact .drop hk h cy
  | join h1 h2 h3 => exact .join hk h1 h2
  | pass h1 =>
    unfold passR at h0 hk hl ha hn
    split at h0
    · have h0 : (140 : Int) = 0 := h0; omega
    rename_i g1
    rw [if_neg g1] at hk hl ha hn
    split at h0
    · have h0 : (141 : Int) = 0 := h0; omega
    rename_i g2
    rw [if_neg g2] at hk hl ha hn
    rw [passLv_in ⟨y0, y1⟩] at g2 hl
    have hl : p.lv = if x.k = 5 then y.lv - 1 else if x.k = 6 then y.lv + 1 else y.lv := hl
    refine .pass hk h1 cy ?_ ?_
    · rw [hl]; split
      · omega
      · split <;> omega
    · rw [hl]; omega
  | ask h1 h2 =>
    unfold askR at h0 hk hl ha hn
    by_cases c1 : x.k = 3 ∧ y.k = 2
    · rw [if_pos c1] at h0 hk hl ha hn
      by_cases c2 : x.lv ≠ y.lv
      · rw [if_pos c2] at h0; have h0 : (140 : Int) = 0 := h0; omega
      · rw [if_neg c2] at hk; exact .beta hk c1.1 c1.2
    rw [if_neg c1] at h0 hk hl ha hn
    by_cases c3 : x.k = 9 ∧ y.k = 8
    · rw [if_pos c3] at h0 hk hl ha hn
      unfold pickR at h0 hk hl ha hn
      by_cases c2 : x.lv ≠ y.lv
      · rw [if_pos c2] at h0; have h0 : (140 : Int) = 0 := h0; omega
      rw [if_neg c2] at h0 hk hl ha hn
      by_cases c4 : pickIx x y < 0
      · rw [if_pos c4] at hk; exact .fail hk h1 h2
      rw [if_neg c4] at h0 hk hl ha hn
      have h8 := hy.to8 c3.2
      have hw : wr ((y.to.length : Int) - 1) = y.to.length - 1 := wr_in (by omega)
      obtain ⟨i, A, e1, e2⟩ := idx_lt c4
      have e1 : pickIx x y = (i : Int) := e1
      refine .pick i A hk c3.1 c3.2 (by rw [ha]; exact e1) e2 ?_
      have e3 := e1
      unfold pickIx idx at e3
      split at e3
      · rename_i j hj
        have : j = i := by omega
        subst this
        rw [List.findIdx?_eq_some_iff_getElem] at hj
        obtain ⟨q1, q2, _⟩ := hj
        obtain ⟨_, q3⟩ := List.getElem?_eq_some_iff.1 e2
        rw [q3] at q2
        simp only [Bool.and_eq_true, decide_eq_true_eq] at q2
        rw [q2.2, hw]
      · omega
    rw [if_neg c3] at h0 hk hl ha hn
    by_cases c5 : x.k = 11 ∧ y.k = 10
    · rw [if_pos c5] at hk; exact .half hk c5.1 c5.2
    rw [if_neg c5] at h0 hk hl ha hn
    by_cases c6 : x.k = 12 ∧ y.k = 10
    · rw [if_pos c6] at h0 hk hl ha hn
      unfold outR at h0 hk hl ha hn
      by_cases c7 : x.s = [47] ∧ y.n = 0
      · rw [if_pos c7] at hk; exact .fail hk h1 h2
      · rw [if_neg c7] at h0 hk hl ha hn
        have e : p.nd = { outN x y with lv := x.lv } := hn
        obtain ⟨m1, m2, m3, m4⟩ := out_more (y := y) kx
        exact .out hk c6.1 c6.2 (by rw [e]; exact (out_may (y := y) hx).1) (by rw [e]; exact m1) (by rw [e]; exact m2) (by rw [e]; exact m3) (by rw [e]; exact m4)
    rw [if_neg c6] at hk
    exact .fail hk h1 h2
theorem of_plan {a b : Nd} (ha : a.may) (hb : b.may) (ka : a.Ok) (kb : b.Ok) (ta : (a.to.length : Int) = a.ports) (tb : (b.to.length : Int) = b.ports) (h : (ofR a b).2 = 0) :
    PlanX (if (ofR a b).1.sw = true then b else a) (if (ofR a b).1.sw = true then a else b) (ofR a b).1 := by
  have hc : ¬ (cls a.k = 0 ∨ cls b.k = 0) := by
    intro hc
    unfold ofR at h
    rw [if_pos hc] at h
    have h : (140 : Int) = 0 := h
    omega
  rcases of_src a b with h1 | ⟨r, h1, h2⟩
  · have := (src_kind ha hb h1).2.2
    rw [if_neg (by simp [this]), if_neg (by simp [this])]
    exact src_plan ha hb ka tb (fun e => hc (.inr e)) h1 h _ rfl rfl rfl rfl
  · have h3 := (src_kind hb ha h1).2.2
    have hr : r.2 = 0 := by
      rw [h2] at h; unfold swapR at h
      split at h
      · assumption
      · exact h
    have e : swapR r = (⟨r.1.k, true, r.1.lv, r.1.alt, r.1.nd⟩, 0) := by unfold swapR; rw [if_pos hr]
    rw [h2, e]
    simp only [if_true]
    exact src_plan hb ha kb ta (fun e => hc (.inl e)) h1 hr _ rfl rfl rfl rfl
end Go.Proofs.YtomcceambpneiaaGreat
end
section
set_option linter.unusedSimpArgs false
set_option linter.unusedVariables false
set_option maxHeartbeats 4000000
set_option maxRecDepth 10000
namespace Go.Proofs.YtomcceambpneiaaGreat
open Go.Fx
theorem wf_small {i : Int} (h0 : 0 ≤ i) (h1 : i ≤ 1000000000000000000) : wf i := by unfold wf; omega
theorem wf_place {n : Nt} (hn : n.Ok) {i : Int} (h0 : 0 ≤ i) (h1 : i < n.ns.length) : wf i := by have := hn.ns; unfold wf; omega
theorem wf_0 : wf 0 := by decide
theorem wf_1 : wf 1 := by decide
theorem makeR_wf {n : Nt} {x : Nd} (hb : n.ns.length ≤ 100000) : wf (makeR n x).2.1 := by
  unfold makeR
  split
  · exact wf_0
  · split
    · exact wf_0
    · refine wf_small (by simp only; omega) ?_
      have : n.at ≤ n.ns.length := by
        unfold Nt.at
        split
        · rename_i i hi; have := (List.findIdx?_eq_some_iff_getElem.1 hi).1; omega
        · exact Nat.le_refl _
      simp only; omega
structure Two (n : Nt) (a b : Int) (B : Nat) : Prop where
  ok : n.Ok
  big : n.ns.length ≤ B
  a0 : 0 ≤ a
  a1 : a < n.ns.length
  b0 : 0 ≤ b
  b1 : b < n.ns.length
  ta : (n.nd a).to.length ≤ 100
  tb : (n.nd b).to.length ≤ 100
  ka : (n.nd a).k ≠ 0
  kb : (n.nd b).k ≠ 0
theorem Two.pa {n : Nt} {a b : Int} {B : Nat} (h : Two n a b B) {s : Int} (h0 : 0 ≤ s) (h1 : s ≤ 1000) : wfP ⟨a, s⟩ := ⟨wf_place h.ok h.a0 h.a1, wf_small h0 (by simp only; omega)⟩
theorem Two.pb {n : Nt} {a b : Int} {B : Nat} (h : Two n a b B) {s : Int} (h0 : 0 ≤ s) (h1 : s ≤ 1000) : wfP ⟨b, s⟩ := ⟨wf_place h.ok h.b0 h.b1, wf_small h0 (by simp only; omega)⟩
theorem Two.xa {n : Nt} {a b : Int} {B : Nat} (h : Two n a b B) : (n.nd a).Ok := h.ok.nd _ (nd_mem h.a0 h.a1)
theorem Two.xb {n : Nt} {a b : Int} {B : Nat} (h : Two n a b B) : (n.nd b).Ok := h.ok.nd _ (nd_mem h.b0 h.b1)
theorem make_nd {n : Nt} {x : Nd} {i : Int} (h0 : 0 ≤ i) (h1 : i < n.ns.length) (hk : (n.nd i).k ≠ 0) : (n.make x).nd i = n.nd i ∧ n.ns.length ≤ (n.make x).ns.length := by
  unfold Nt.make
  have g := get_nd (n := n) h0 h1
  cases hf : n.ns.findIdx? isFree with
  | some j =>
    obtain ⟨hi, hfi, hbef⟩ := List.findIdx?_eq_some_iff_getElem.1 hf
    refine ⟨?_, by simp⟩
    have hne : j ≠ i.toNat := by
      rintro rfl
      obtain ⟨_, g2⟩ := List.getElem?_eq_some_iff.1 g
      rw [g2] at hfi
      simp only [isFree, decide_eq_true_eq] at hfi
      exact hk hfi
    unfold Nt.nd
    simp only
    rw [List.getD_eq_getElem?_getD, List.getD_eq_getElem?_getD, List.getElem?_set_ne hne]
  | none =>
    refine ⟨?_, by simp⟩
    unfold Nt.nd
    simp only
    rw [List.getD_eq_getElem?_getD, List.getD_eq_getElem?_getD, List.getElem?_append_left (by omega)]
theorem makeR_nd {n : Nt} (x : Nd) {i : Int} (h0 : 0 ≤ i) (h1 : i < n.ns.length) (hk : (n.nd i).k ≠ 0) : (makeR n x).1.nd i = n.nd i ∧ n.ns.length ≤ (makeR n x).1.ns.length := by
  unfold makeR
  split
  · exact ⟨rfl, Nat.le_refl _⟩
  · split
    · exact ⟨rfl, Nat.le_refl _⟩
    · exact make_nd h0 h1 hk
theorem Two.make {n : Nt} {a b : Int} {B : Nat} (h : Two n a b B) {x : Nd} (hx : x.Ok) (hB : B ≤ 100000) : Two (makeR n x).1 a b (B + 1) ∧ (makeR n x).1.nd a = n.nd a ∧ (makeR n x).1.nd b = n.nd b := by
  obtain ⟨e1, e2⟩ := makeR_nd x h.a0 h.a1 h.ka
  obtain ⟨e3, _⟩ := makeR_nd x h.b0 h.b1 h.kb
  have hb := h.big
  obtain ⟨g1, g2⟩ := makeR_Ok h.ok hx (by omega)
  have h1 := h.a1
  have h2 := h.b1
  exact ⟨⟨g1, by omega, h.a0, by omega, h.b0, by omega, by rw [e1]; exact h.ta, by rw [e3]; exact h.tb, by rw [e1]; exact h.ka, by rw [e3]; exact h.kb⟩, e1, e3⟩
theorem Two.like {n : Nt} {a b : Int} {B : Nat} (h : Two n a b B) {x : Nd} (hx : x.Ok) : ∀ k : Nat, B + k ≤ 100000 → Two (likeR n x k).1 a b (B + k) ∧ (likeR n x k).1.nd a = n.nd a ∧ (likeR n x k).1.nd b = n.nd b
  | 0, _ => ⟨h, rfl, rfl⟩
  | k + 1, hB => by
    obtain ⟨h1, h2, h3⟩ := Two.like h hx k (by omega)
    obtain ⟨g1, g2, g3⟩ := h1.make hx (by omega)
    exact ⟨g1, g2.trans h2, g3.trans h3⟩
theorem likeR_wf {n : Nt} {x : Nd} (hn : n.Ok) (hx : x.Ok) : ∀ k : Nat, n.ns.length + k ≤ 100000 → ∀ d ∈ (likeR n x k).2, wf d
  | 0, _, d, hd => by simp [likeR] at hd
  | k + 1, hB, d, hd => by
    simp only [likeR, List.mem_append, List.mem_cons, List.not_mem_nil, or_false] at hd
    rcases hd with hd | rfl
    · exact likeR_wf hn hx k (by omega) d hd
    · exact makeR_wf (by have := (likeR_Ok hn hx k (by omega)).2.1; omega)
theorem aJoinAll_ok {ks : Key} {n : Nt} {pl : Pl} {a b : Int} {B : Nat} {σ : St} (hT : Two n a b B) (hB : B ≤ 90000) (h : SG ks n pl a b σ) :
    ∃ σ', eS S (.f 50) [.a (.ptr ks 0 0)] σ = some (.u, σ') ∧ SG ks (joinD n a b) pl a b σ' ∧ Fr ks σ σ' := by
  have hn := hT.ok
  obtain ⟨σ1, v, q1, hS1, hF1, hL⟩ := aOthers_ok (j := 1) (jz := 1) rfl (by omega) hT.a0 hT.a1 (hn.nd _ (nd_mem hT.a0 hT.a1)).to h
  have hta := hT.ta
  obtain ⟨m, hm⟩ : ∃ m, (n.nd a).to.length - 1 = m := ⟨_, rfl⟩
  have hpl : (portsR a 1 (n.nd a).to.length).length = m := by rw [portsR_len, hm]
  have hJ : joinD n a b = runs n (joinOps a b (List.range' 1 m)) := by unfold joinD; rw [hm]
  rw [hJ]
  refine x_fnR (fc := F50) rfl rfl ?_
  have s1 := h.bs
  simp only [stg, List.map_cons, List.map_nil] at s1
  have go : ∀ (e : Env), e 0 = .a (.ptr ks 0 0) → e 9 = .a (.p (.i .i64 (m : Nat))) → e 10 = .a (.p (.i .i64 0)) →
      wp S false (.loop F50b0) e σ1 (fun x e' σ' => x = .exit 0 ∧ SG ks (runs n (joinOps a b (List.range' 1 m))) pl a b σ' ∧ Fr ks σ σ') := by
    intro e e0 e9 e10
    refine loop_nat m (fun k e τ => e 0 = .a (.ptr ks 0 0) ∧ e 9 = .a (.p (.i .i64 (m : Nat))) ∧ e 10 = .a (.p (.i .i64 (k : Nat))) ∧ SG ks (runs n (joinOps a b (List.range' 1 k))) pl a b τ ∧ Fr ks σ τ) (i0 := 0) (Nat.zero_le _) ⟨e0, e9, e10, hS1, hF1⟩ ?_ ?_
    · rintro k e τ hk ⟨e0, e9, e10, hS, hF⟩
      have hlt : ((k : Nat) : Int) < (m : Int) := by omega
      have hw : IntKind.i64.wrap ((k : Int) + 1) = (k : Int) + 1 := wrap_in _ (by omega)
      have t1 := hS.bs
      simp only [stg, List.map_cons, List.map_nil] at t1
      have wo : ∀ o ∈ joinOps a b (List.range' 1 k), o.wf := by
        intro o ho
        unfold joinOps at ho
        obtain ⟨s, hs, rfl⟩ := List.mem_map.1 ho
        rw [List.mem_range'_1] at hs
        exact ⟨hT.pa (by omega) (by omega), hT.pb (by omega) (by omega)⟩
      have hsu : joinOps a b (List.range' 1 (k + 1)) = joinOps a b (List.range' 1 k) ++ [.jn ⟨a, (k : Int) + 1⟩ ⟨b, (k : Int) + 1⟩] := by
        unfold joinOps
        rw [List.range'_concat, List.map_append]
        simp only [List.map_cons, List.map_nil, Nat.one_mul]
        rw [show ((1 + k : Nat) : Int) = (k : Int) + 1 by omega]
      rw [hsu, runs_one]
      obtain ⟨τ', c1, hS', hF'⟩ := aJoin_ok (p := ⟨a, (k : Int) + 1⟩) (q := ⟨b, (k : Int) + 1⟩) (runs_Ok hn wo) (hT.pa (by omega) (by omega)) (hT.pb (by omega) (by omega)) hS
      have p1 := port_ok a ((k : Int) + 1)
      have p2 := port_ok b ((k : Int) + 1)
      simp only [F50b0, e0, e9, e10, t1, hlt, hw, p1, p2, c1, evI_cl, clOk, ldKeeps, ldKeeps1, iasKeeps, rowK, nwKeeps, sameC, sameL, sameA, sameP, decide_true, frA_ptr, capsOf, fxa, fxc, fxE, fxL, fxI, nxE, evO, evR, cellsT, ldCells, mkT, lenA, binPV, Env.init, resV, resT, frT, klT, ownT, intT, O.adds, ownA, rowsA, over, wrOk, keysT, keysA, ne_eq, if_true, if_false, ite_self, Nat.reduceLT, Nat.reduceSub, Nat.reduceBEq, Nat.reduceEqDiff, Nat.reduceAdd, Nat.reduceLeDiff, reduceCtorEq, Nat.reduceMul]
      exact ⟨rfl, hS', hF.trans hF'⟩
    · rintro e τ ⟨e0, e9, e10, hS, hF⟩
      have hlt : ¬ ((m : Nat) : Int) < (m : Int) := by omega
      simp only [F50b0, e0, e9, e10, hlt, fxa, fxc, fxE, fxL, fxI, nxE, evO, evR, cellsT, ldCells, mkT, lenA, binPV, Env.init, resV, resT, frT, klT, ownT, intT, O.adds, ownA, rowsA, over, wrOk, keysT, keysA, ne_eq, if_true, if_false, ite_self, Nat.reduceLT, Nat.reduceSub, Nat.reduceBEq, Nat.reduceEqDiff, Nat.reduceAdd, Nat.reduceLeDiff, reduceCtorEq, Nat.reduceMul]
      exact ⟨hS, hF⟩
  rcases hL with ⟨rfl, hr⟩ | ⟨q, rfl, r2, r3, r4⟩
  · have hr2 : portsR a 1 (n.nd a).to.length = [] := List.map_eq_nil_iff.1 hr
    rw [hr2] at hpl
    have hm0 : m = 0 := by rw [← hpl]; rfl
    subst hm0
    simp only [F50, s1, q1, evI_cl, clOk, ldKeeps, ldKeeps1, iasKeeps, rowK, nwKeeps, sameC, sameL, sameA, sameP, decide_true, frA_ptr, capsOf, fxa, fxc, fxE, fxL, fxI, nxE, evO, evR, cellsT, ldCells, mkT, lenA, binPV, Env.init, resV, resT, frT, klT, ownT, intT, O.adds, ownA, rowsA, over, wrOk, keysT, keysA, ne_eq, if_true, if_false, ite_self, Nat.reduceLT, Nat.reduceSub, Nat.reduceBEq, Nat.reduceEqDiff, Nat.reduceAdd, Nat.reduceLeDiff, reduceCtorEq, Nat.reduceMul]
    refine Go.Fx.wp_mono (go _ ?_ ?_ ?_) ?_
    all_goals first
      | (simp only [fxa, fxc, fxE, fxL, fxI, nxE, evO, evR, cellsT, ldCells, mkT, lenA, binPV, Env.init, resV, resT, frT, klT, ownT, intT, O.adds, ownA, rowsA, over, wrOk, keysT, keysA, ne_eq, if_true, if_false, ite_self, Nat.reduceLT, Nat.reduceSub, Nat.reduceBEq, Nat.reduceEqDiff, Nat.reduceAdd, Nat.reduceLeDiff, reduceCtorEq, Nat.reduceMul]; done)
      | (rintro x e' σ' ⟨rfl, g1, g2⟩; simp only [fxa, fxc, fxE, fxL, fxI, nxE, evO, evR, cellsT, ldCells, mkT, lenA, binPV, Env.init, resV, resT, frT, klT, ownT, intT, O.adds, ownA, rowsA, over, wrOk, keysT, keysA, ne_eq, if_true, if_false, ite_self, Nat.reduceLT, Nat.reduceSub, Nat.reduceBEq, Nat.reduceEqDiff, Nat.reduceAdd, Nat.reduceLeDiff, reduceCtorEq, Nat.reduceMul]; exact ⟨g1, g2⟩)
  · rw [List.length_map, hpl] at q1
    simp only [F50, s1, q1, evI_cl, clOk, ldKeeps, ldKeeps1, iasKeeps, rowK, nwKeeps, sameC, sameL, sameA, sameP, decide_true, frA_ptr, capsOf, fxa, fxc, fxE, fxL, fxI, nxE, evO, evR, cellsT, ldCells, mkT, lenA, binPV, Env.init, resV, resT, frT, klT, ownT, intT, O.adds, ownA, rowsA, over, wrOk, keysT, keysA, ne_eq, if_true, if_false, ite_self, Nat.reduceLT, Nat.reduceSub, Nat.reduceBEq, Nat.reduceEqDiff, Nat.reduceAdd, Nat.reduceLeDiff, reduceCtorEq, Nat.reduceMul]
    refine Go.Fx.wp_mono (go _ ?_ ?_ ?_) ?_
    all_goals first
      | (simp only [fxa, fxc, fxE, fxL, fxI, nxE, evO, evR, cellsT, ldCells, mkT, lenA, binPV, Env.init, resV, resT, frT, klT, ownT, intT, O.adds, ownA, rowsA, over, wrOk, keysT, keysA, ne_eq, if_true, if_false, ite_self, Nat.reduceLT, Nat.reduceSub, Nat.reduceBEq, Nat.reduceEqDiff, Nat.reduceAdd, Nat.reduceLeDiff, reduceCtorEq, Nat.reduceMul]; done)
      | (rintro x e' σ' ⟨rfl, g1, g2⟩; simp only [fxa, fxc, fxE, fxL, fxI, nxE, evO, evR, cellsT, ldCells, mkT, lenA, binPV, Env.init, resV, resT, frT, klT, ownT, intT, O.adds, ownA, rowsA, over, wrOk, keysT, keysA, ne_eq, if_true, if_false, ite_self, Nat.reduceLT, Nat.reduceSub, Nat.reduceBEq, Nat.reduceEqDiff, Nat.reduceAdd, Nat.reduceLeDiff, reduceCtorEq, Nat.reduceMul]; exact ⟨g1, g2⟩)
theorem aHalf_ok {ks : Key} {n : Nt} {pl : Pl} {a b : Int} {B : Nat} {σ : St} (hT : Two n a b B) (hB : B ≤ 90000) (h : SG ks n pl a b σ) :
    ∃ σ', eS S (.f 52) [.a (.ptr ks 0 0)] σ = some (.u, σ') ∧ SG ks (halfD n a b) pl a b σ' ∧ Fr ks σ σ' := by
  have hn := hT.ok
  have hbg : n.ns.length ≤ 100000 := by have := hT.big; omega
  obtain ⟨x, hx0⟩ : ∃ x, n.nd a = x := ⟨_, rfl⟩
  obtain ⟨y, hy0⟩ : ∃ y, n.nd b = y := ⟨_, rfl⟩
  have hx := hn.nd _ (nd_mem hT.a0 hT.a1)
  have hy := hn.nd _ (nd_mem hT.b0 hT.b1)
  rw [hx0] at hx
  rw [hy0] at hy
  have s0 := h.bs
  simp only [stg, List.map_cons, List.map_nil] at s0
  obtain ⟨σ1, q1, hS1, hF1⟩ := aNode_ok hT.a0 hT.a1 h
  rw [hx0] at q1
  obtain ⟨c1, hc1⟩ : ∃ c, σ1.clk = c := ⟨_, rfl⟩
  obtain ⟨σ2, hσ2⟩ : ∃ σ2, σ2 = (σ1.add 2 (.var [.p (.i .i64 0), .p (.i .i64 0), .p (.i .i64 0), .p (.s []), .nil, .nil])).put (2, c1) (.var ((encN x).map .p)) := ⟨_, rfl⟩
  have hlt := h.lt
  have hcl1 := hF1.clk
  have nk : ∀ d, ¬ ks = (d, c1) := by rintro d rfl; simp at hlt; omega
  have hS2 : SG ks n pl a b σ2 := by rw [hσ2]; exact (hS1.add _ _).put (nk 2) _
  have hF2 : Fr ks σ σ2 := by rw [hσ2]; exact (hF1.add _ _).put (.inr (by simp only; omega)) _
  have hcl2 : σ2.clk = c1 + 1 := by rw [hσ2]; simp only [put_clk, add_clk]; omega
  have b2 : σ2.bs (2, c1) = some (.var ((encN x).map .p)) := by rw [hσ2]; simp only [put_bs, if_true]
  obtain ⟨σ3, q3, hS3, hF3⟩ := aNode_ok hT.b0 hT.b1 hS2
  rw [hy0] at q3
  have b2' : σ3.bs (2, c1) = some (.var ((encN x).map .p)) := (hF3.bs (2, c1) (by simp only; omega) (fun e => nk 2 e.symm)).trans b2
  obtain ⟨σ4, q4, hS4, hF4⟩ := aMade_ok (x := halfN x y) hn (by omega) ⟨by show wf 12; decide, hx.lv, hy.n, hx.s, by simp [halfN], by simp [halfN], by simp [halfN], by simp [halfN]⟩ NC.nil NC.nil hS3
  have hD : halfD n a b = (moveR (moveR (makeR n (halfN x y)).1 ⟨a, 2⟩ ⟨(makeR n (halfN x y)).2.1, 0⟩).1 ⟨a, 1⟩ ⟨(makeR n (halfN x y)).2.1, 1⟩).1 := by unfold halfD; simp only [hx0, hy0]
  have hOk := (makeR_Ok (x := halfN x y) hn ⟨by show wf 12; decide, hx.lv, hy.n, hx.s, by simp [halfN], by simp [halfN], by simp [halfN], by simp [halfN]⟩ (by omega)).1
  have hti := makeR_wf (x := halfN x y) hbg
  obtain ⟨⟨m, t, ee⟩, hmk⟩ : ∃ r, makeR n (halfN x y) = r := ⟨_, rfl⟩
  rw [hD]
  rw [hmk] at q4 hS4 hOk hti ⊢
  simp only at q4 hS4 hOk hti ⊢
  obtain ⟨σ5, q5, hS5, hF5⟩ := aMove_ok (p := ⟨a, 2⟩) (q := ⟨t, 0⟩) hOk (hT.pa (by omega) (by omega)) ⟨hti, wf_0⟩ hS4
  obtain ⟨σ6, q6, hS6, hF6⟩ := aMove_ok (p := ⟨a, 1⟩) (q := ⟨t, 1⟩) (moveR_Ok (q := ⟨t, 0⟩) hOk (hT.pa (s := 2) (by omega) (by omega)) ⟨hti, wf_0⟩) (hT.pa (by omega) (by omega)) ⟨hti, wf_1⟩ hS5
  have p1 := port_ok a 1
  have p2 := port_ok a 2
  have p3 := port_ok t 0
  have p4 := port_ok t 1
  have u2 := hS2.bs
  have u3 := hS3.bs
  have u4 := hS4.bs
  have u5 := hS5.bs
  simp only [stg, List.map_cons, List.map_nil] at u2 u3 u4 u5
  simp only [encN, List.map_cons, List.map_nil] at q1 q3 b2 b2' hσ2
  simp only [halfN] at q4
  refine x_fnR (fc := F52) rfl rfl ?_
  simp only [F52, s0, q1, ← hσ2, hc1, b2, b2', u2, q3, u3, q4, u4, q5, u5, q6, p1, p2, p3, p4, evI_cl, clOk, ldKeeps, ldKeeps1, iasKeeps, rowK, nwKeeps, sameC, sameL, sameA, sameP, decide_true, frA_ptr, capsOf, fxa, fxc, fxE, fxL, fxI, nxE, evO, evR, cellsT, ldCells, mkT, lenA, binPV, Env.init, resV, resT, frT, klT, ownT, intT, O.adds, ownA, rowsA, over, wrOk, keysT, keysA, ne_eq, if_true, if_false, ite_self, Nat.reduceLT, Nat.reduceSub, Nat.reduceBEq, Nat.reduceEqDiff, Nat.reduceAdd, Nat.reduceLeDiff, reduceCtorEq, Nat.reduceMul]
  exact ⟨hS6, (((hF2.trans hF3).trans hF4).trans hF5).trans hF6⟩
theorem portsR_wf {n : Nt} {a b : Int} {B : Nat} (h : Two n a b B) {j k : Nat} (hk : k ≤ 1000) : (∀ p ∈ portsR a j k, wfP p) ∧ (∀ p ∈ portsR b j k, wfP p) := by
  constructor
  · intro p hp
    unfold portsR at hp
    obtain ⟨s, hs, rfl⟩ := List.mem_map.1 hp
    rw [List.mem_range'_1] at hs
    exact h.pa (by omega) (by omega)
  · intro p hp
    unfold portsR at hp
    obtain ⟨s, hs, rfl⟩ := List.mem_map.1 hp
    rw [List.mem_range'_1] at hs
    exact h.pb (by omega) (by omega)
theorem aCall_ok {ks : Key} {n : Nt} {pl : Pl} {a b : Int} {l : List Pt} {ds : List Int} {f : AV} {σ : St} (hn : n.Ok) (hl : ∀ p ∈ l, wfP p) (hd : ∀ d ∈ ds, wf d) (hld : l.length ≤ ds.length) (hlb : l.length ≤ 1000000000) (h : SG ks n pl a b σ) (hD : DropC ks l ds f σ) :
    ∃ k0 k1 k2 σ', f = .fn 74 [k0, k1, k2] ∧ eS S (.f 74) [.a (.ptr k0 0 0), .a (.ptr k1 0 0), .a (.ptr k2 0 0)] σ = some (.u, σ') ∧ SG ks (runs n (dropOps l ds)) pl a b σ' ∧ Fr ks σ σ' := by
  obtain ⟨k0, k1, k2, lv, dv, e1, e2, e3, e4, e5, e6, e7, e8, e9⟩ := hD.ex
  obtain ⟨σ', g1, g2, g3⟩ := aDrops_ok hn hl hd hld hlb h e2 e3 e4 e5 e6 e7 e8 e9
  exact ⟨k0, k1, k2, σ', e1, g1, g2, g3⟩
theorem SL.fa {c0 w : Nat} {t : TypeId} {rows : List (List PV)} {v : AV} {σ : St} (h : SL c0 w t rows v σ) : frA σ v = some (.l rows) := by
  rcases h with ⟨rfl, rfl⟩ | ⟨q, rfl, h2, _, _⟩
  · rfl
  · rw [frA_own, h2]; simp
theorem aFail_ok {ks : Key} {n : Nt} {pl : Pl} {a b : Int} {B : Nat} {σ : St} (hT : Two n a b B) (hB : B ≤ 90000) (h : SG ks n pl a b σ) :
    ∃ σ', eS S (.f 55) [.a (.ptr ks 0 0)] σ = some (.u, σ') ∧ SG ks (failD n a b) pl a b σ' ∧ Fr ks σ σ' := by
  have hn := hT.ok
  have hbg : n.ns.length ≤ 100000 := by have := hT.big; omega
  have hfx : (fail1 (n.nd a).lv).Ok := ⟨by show wf 13; decide, hT.xa.lv, by show wf 0; decide, by simp [fail1], by simp [fail1], by simp [fail1], by simp [fail1], by simp [fail1]⟩
  obtain ⟨σ1, q1, hS1, hF1⟩ := aLevel_ok hT.a0 hT.a1 h
  obtain ⟨σ2, q2, hS2, hF2⟩ := aMade_ok (x := fail1 (n.nd a).lv) hn (by omega) hfx NC.nil NC.nil hS1
  obtain ⟨hT2, ea, eb⟩ := hT.make hfx (by omega)
  have hti := makeR_wf (x := fail1 (n.nd a).lv) hbg
  have hD : failD n a b = (let r := makeR n (fail1 (n.nd a).lv)
    let l := portsR a 2 (r.1.nd a).to.length ++ portsR b 1 (r.1.nd b).to.length
    let r2 := likeR r.1 (dropN (r.1.nd a).lv) l.length
    runs (moveR r2.1 ⟨a, 1⟩ ⟨r.2.1, 0⟩).1 (dropOps l r2.2)) := rfl
  obtain ⟨⟨m, t, ee⟩, hmk⟩ : ∃ r, makeR n (fail1 (n.nd a).lv) = r := ⟨_, rfl⟩
  rw [hmk] at q2 hS2 hT2 hti ea eb hD
  simp only at q2 hS2 hT2 hti ea eb hD
  obtain ⟨σ3, v1, q3, hS3, hF3, hL3⟩ := aOthers_ok (j := 2) (jz := 2) rfl (by omega) hT2.a0 hT2.a1 hT2.xa.to hS2
  obtain ⟨σ4, v2, q4, hS4, hF4, hL4⟩ := aOthers_ok (j := 1) (jz := 1) rfl (by omega) hT2.b0 hT2.b1 hT2.xb.to hS3
  have hL3' := hL3.fr hS3 hF4
  have fa2 := hL4.fa
  obtain ⟨l1, hl1⟩ : ∃ l, portsR a 2 (m.nd a).to.length = l := ⟨_, rfl⟩
  obtain ⟨l2, hl2⟩ : ∃ l, portsR b 1 (m.nd b).to.length = l := ⟨_, rfl⟩
  have w1 : ∀ p ∈ l1 ++ l2, wfP p := by
    intro p hp
    have := hT2.ta
    have := hT2.tb
    rcases List.mem_append.1 hp with hp | hp
    · rw [← hl1] at hp; exact (portsR_wf hT2 (by omega)).1 p hp
    · rw [← hl2] at hp; exact (portsR_wf hT2 (by omega)).2 p hp
  have n1 : l1.length ≤ 100 := by rw [← hl1, portsR_len]; have := hT2.ta; omega
  have n2 : l2.length ≤ 100 := by rw [← hl2, portsR_len]; have := hT2.tb; omega
  rw [hl1, hl2] at hD
  rw [hl1] at hL3'
  rw [hl2] at fa2
  have key : ∀ σ5, SG ks m pl a b σ5 → Fr ks σ σ5 → SL 0 2 46 ((l1 ++ l2).map encP) (.own (22, σ4.clk) 0 (l1.length + l2.length)) σ5 →
      ∃ k0 k1 k2 σ6 σ7 σ8, eS S (.f 57) [.a (.ptr ks 0 0), .a (.own (22, σ4.clk) 0 (l1.length + l2.length))] σ5 = some (.a (.fn 74 [k0, k1, k2]), σ6) ∧
        σ6.bs ks = some (.var ((stg (likeR m (dropN (m.nd a).lv) (l1 ++ l2).length).1 pl a b).map .p)) ∧
        eS S (.f 53) [.a (.ptr ks 0 0), .g [.p (.i .i64 a), .p (.i .i64 1)], .g [.p (.i .i64 t), .p (.i .i64 0)]] σ6 = some (.u, σ7) ∧
        eS S (.f 74) [.a (.ptr k0 0 0), .a (.ptr k1 0 0), .a (.ptr k2 0 0)] σ7 = some (.u, σ8) ∧ SG ks (failD n a b) pl a b σ8 ∧ Fr ks σ σ8 := by
    intro σ5 hS5 hF5 hL5
    have hb2 := hT2.big
    obtain ⟨σ6, f, g1, hS6, hF6, hDC⟩ := aDrop_ok (l := l1 ++ l2) (c0 := 0) hT2.ok (by rw [List.length_append]; omega) hT2.a0 hT2.a1 hS5 hL5
    have hdx := dropN_Ok hT2.xa.lv
    obtain ⟨o1, o2, o3⟩ := likeR_Ok hT2.ok hdx (l1 ++ l2).length (by rw [List.length_append]; omega)
    obtain ⟨σ7, g2, hS7, hF7⟩ := aMove_ok (p := ⟨a, 1⟩) (q := ⟨t, 0⟩) o1 (hT.pa (by omega) (by omega)) ⟨hti, wf_0⟩ hS6
    obtain ⟨k0, k1, k2, σ8, rfl, g3, hS8, hF8⟩ := aCall_ok (moveR_Ok (p := ⟨a, 1⟩) (q := ⟨t, 0⟩) o1 (hT.pa (by omega) (by omega)) ⟨hti, wf_0⟩) w1 (likeR_wf hT2.ok hdx _ (by rw [List.length_append]; omega)) (by rw [o3]; exact Nat.le_refl _) (by rw [List.length_append]; omega) hS7 (hDC.fr hS6 hF7)
    exact ⟨k0, k1, k2, σ6, σ7, σ8, g1, hS6.bs, g2, g3, by rw [hD]; exact hS8, ((hF5.trans hF6).trans hF7).trans hF8⟩
  have s0 := h.bs
  have u2 := hS2.bs
  have u3 := hS3.bs
  have hF04 := ((hF1.trans hF2).trans hF3).trans hF4
  have hcl4 := hS4.lt
  have n4 : ∀ d, ¬ ks = (d, σ4.clk) := by rintro d rfl; simp at hcl4
  have p1 := port_ok a 1
  have p3 := port_ok t 0
  refine x_fnR (fc := F55) rfl rfl ?_
  simp only [fail1] at q2
  simp only [stg, List.map_cons, List.map_nil] at s0 u2 u3
  rcases hL3' with ⟨rfl, hr⟩ | ⟨q, rfl, r2, r3, r4⟩
  · have hl0 : l1 = [] := List.map_eq_nil_iff.1 hr
    subst hl0
    obtain ⟨k0, k1, k2, σ6, σ7, σ8, g1, g2, g3, g4, g5, g6⟩ := key (σ4.add 22 (.row 2 46 (l2.map encP))) (hS4.add _ _) (hF04.add _ _) (.inr ⟨(22, σ4.clk), by simp, by simp only [add_bs, if_true]; simp, Nat.zero_le _, by simp only [add_clk]; omega⟩)
    simp only [List.length_nil, Nat.zero_add] at g1
    simp only [stg, List.map_cons, List.map_nil] at g2
    have hbb : l2.length * 16 ≤ 140737488355328 := by omega
    simp only [F55, s0, q1, q2, u2, q3, u3, q4, fa2, hbb, allP, g1, g2, g3, g4, p1, p3, List.length_map, evI_cl, clOk, ldKeeps, ldKeeps1, iasKeeps, rowK, nwKeeps, sameC, sameL, sameA, sameP, decide_true, frA_ptr, capsOf, fxa, fxc, fxE, fxL, fxI, nxE, evO, evR, cellsT, ldCells, mkT, lenA, binPV, Env.init, resV, resT, frT, klT, ownT, intT, O.adds, ownA, rowsA, over, wrOk, keysT, keysA, ne_eq, if_true, if_false, ite_self, Nat.reduceLT, Nat.reduceSub, Nat.reduceBEq, Nat.reduceEqDiff, Nat.reduceAdd, Nat.reduceLeDiff, reduceCtorEq, Nat.reduceMul]
    exact ⟨g5, g6⟩
  · have n5 : ¬ ks = q := by rintro rfl; rw [hS4.bs] at r2; cases r2
    rw [List.length_map] at q3
    obtain ⟨k0, k1, k2, σ6, σ7, σ8, g1, g2, g3, g4, g5, g6⟩ := key ((σ4.kill q).add 22 (.row 2 46 (l1.map encP ++ l2.map encP))) ((hS4.kill n5).add _ _) ((hF04.kill (by have := (hF1.trans hF2).clk; omega)).add _ _) (.inr ⟨(22, σ4.clk), by simp, by simp only [add_bs, kill_clk, if_true, List.map_append], Nat.zero_le _, by simp only [add_clk, kill_clk]; omega⟩)
    simp only [stg, List.map_cons, List.map_nil] at g2
    have htk : List.take l1.length (l1.map encP) = l1.map encP := List.take_of_length_le (by simp)
    have hbb : (l1.length + l2.length) * 16 ≤ 140737488355328 := by omega
    simp only [F55, s0, q1, q2, u2, q3, u3, q4, r2, fa2, hbb, htk, allP, g1, g2, g3, g4, p1, p3, List.length_map, evI_cl, clOk, ldKeeps, ldKeeps1, iasKeeps, rowK, nwKeeps, sameC, sameL, sameA, sameP, decide_true, frA_ptr, capsOf, fxa, fxc, fxE, fxL, fxI, nxE, evO, evR, cellsT, ldCells, mkT, lenA, binPV, Env.init, resV, resT, frT, klT, ownT, intT, O.adds, ownA, rowsA, over, wrOk, keysT, keysA, ne_eq, if_true, if_false, ite_self, Nat.reduceLT, Nat.reduceSub, Nat.reduceBEq, Nat.reduceEqDiff, Nat.reduceAdd, Nat.reduceLeDiff, reduceCtorEq, Nat.reduceMul]
    exact ⟨g5, g6⟩
end Go.Proofs.YtomcceambpneiaaGreat
end
section
set_option linter.unusedSimpArgs false
set_option linter.unusedVariables false
set_option maxHeartbeats 4000000
set_option maxRecDepth 10000
namespace Go.Proofs.YtomcceambpneiaaGreat
open Go.Fx
theorem pickLoop0 {ks kq : Key} {n : Nt} {pl : Pl} {a b : Int} {l : List Pt} {q : Pt} {lv : AV} {c0 : Nat} {σ : St} (h : SG ks n pl a b σ) (hq : σ.bs kq = some (.var [.p (.i .i64 q.n), .p (.i .i64 q.s)])) (hkq : kq.2 < σ.clk)
    (hL : SL c0 2 46 (l.map encP) lv σ) (hlen : l.length ≤ 1000) (e : Env) (e3 : e 3 = .a (.ptr kq 0 0)) (e5 : e 5 = .a .nil) (e48 : e 48 = .a lv) (e49 : e 49 = .a (.p (.i .i64 (l.length : Nat)))) (e50 : e 50 = .a (.p (.i .i64 0))) :
    wp S false (.loop F51b0) e σ (fun x e' σ' => x = .exit 0 ∧ (∃ y, e' 5 = .a y ∧ SL σ.clk 2 46 ((l.filter fun r => !decide (r = q)).map encP) y σ') ∧ e' 0 = e 0 ∧ e' 2 = e 2 ∧ e' 3 = e 3 ∧ e' 4 = e 4 ∧ SG ks n pl a b σ' ∧ Fr ks σ σ') := by
  obtain ⟨c1, hc1⟩ : ∃ c, σ.clk = c := ⟨_, rfl⟩
  have hqs : kq ≠ ks := by rintro rfl; rw [h.bs] at hq; simp [stg] at hq
  have hlv : lv = .nil ∧ l = [] ∨ ∃ r : Key, lv = .own r 0 l.length ∧ σ.bs r = some (.row 2 46 (l.map encP)) ∧ r.2 < σ.clk := by
    rcases hL with ⟨e1, e2⟩ | ⟨r, e1, e2, e3, e4⟩
    · exact .inl ⟨e1, List.map_eq_nil_iff.1 e2⟩
    · exact .inr ⟨r, by simpa using e1, e2, e4⟩
  obtain ⟨u0, hu0⟩ : ∃ z, e 0 = z := ⟨_, rfl⟩
  obtain ⟨u2, hu2⟩ : ∃ z, e 2 = z := ⟨_, rfl⟩
  obtain ⟨u4, hu4⟩ : ∃ z, e 4 = z := ⟨_, rfl⟩
  rw [hu0, hu2, hu4, e3]
  refine loop_nat l.length (fun k e τ => e 0 = u0 ∧ e 2 = u2 ∧ e 4 = u4 ∧ e 3 = .a (.ptr kq 0 0) ∧ e 48 = .a lv ∧ e 49 = .a (.p (.i .i64 (l.length : Nat))) ∧ e 50 = .a (.p (.i .i64 (k : Nat))) ∧ SG ks n pl a b τ ∧ Fr ks σ τ ∧
    ∃ y, e 5 = .a y ∧ SL c1 2 46 (((l.take k).filter fun r => !decide (r = q)).map encP) y τ) (i0 := 0) (Nat.zero_le _) ⟨hu0, hu2, hu4, e3, e48, e49, e50, h, Fr.refl ks σ, .nil, e5, .inl ⟨rfl, rfl⟩⟩ ?_ ?_
  · rintro k e τ hk ⟨e0, e2, e4, e3, e48, e49, e50, hS, hF, y, e5, hy⟩
    obtain ⟨p, hp⟩ : ∃ p, l[k]? = some p := ⟨_, List.getElem?_eq_getElem hk⟩
    have hp' := mapGet encP hp
    have hlt : ((k : Nat) : Int) < (l.length : Int) := by omega
    have hge : (0 : Int) ≤ ((k : Nat) : Int) := by omega
    have hw : IntKind.i64.wrap ((k : Int) + 1) = ((k + 1 : Nat) : Int) := wrap_succ k (by omega)
    obtain ⟨r, rfl, r2, r3⟩ : ∃ r : Key, lv = .own r 0 l.length ∧ σ.bs r = some (.row 2 46 (l.map encP)) ∧ r.2 < σ.clk := by
      rcases hlv with ⟨_, e⟩ | h
      · rw [e] at hk; simp at hk
      · exact h
    have nr : r ≠ ks := by rintro rfl; rw [h.bs] at r2; cases r2
    have tr := (hF.bs r r3 nr).trans r2
    have tq := (hF.bs kq hkq hqs).trans hq
    have hcl := hF.clk
    have nn : ∀ {k : Key}, k.2 < σ.clk → ∀ d, ¬ k = (d, τ.clk) := by rintro k hk d rfl; simp at hk; omega
    have nq7 := nn hkq 7
    have nr7 := nn r3 7
    have htk : l.take (k + 1) = l.take k ++ [p] := by rw [List.take_add_one, hp]; rfl
    have hd := ptEq p q
    simp only [encP] at hp'
    obtain ⟨fl, hfl⟩ : ∃ fl, (l.take k).filter (fun r => !decide (r = q)) = fl := ⟨_, rfl⟩
    have hfn : fl.length ≤ 1000 := by rw [← hfl]; have := List.length_filter_le (fun r => !decide (r = q)) (l.take k); rw [List.length_take] at this; omega
    rw [hfl] at hy
    by_cases hpq : p = q
    · have hd2 : decide (p = q) = true := decide_eq_true hpq
      rw [hd2] at hd
      have hsu : (l.take (k + 1)).filter (fun r => !decide (r = q)) = fl := by rw [htk, List.filter_append, hfl]; simp [hpq]
      rw [hsu]
      simp only [F51b0, e0, e2, e3, e4, e5, e48, e49, e50, hlt, hge, tr, tq, hp', hw, hd, nq7, nr7, frA_ptr, rowK, Int.toNat_natCast, Nat.zero_add, List.length_map, fxa, fxc, fxE, fxL, fxI, nxE, evO, evR, cellsT, ldCells, mkT, lenA, binPV, Env.init, resV, resT, frT, klT, ownT, intT, O.adds, ownA, rowsA, over, wrOk, keysT, keysA, ne_eq, if_true, if_false, ite_self, Nat.reduceLT, Nat.reduceSub, Nat.reduceBEq, Nat.reduceEqDiff, Nat.reduceAdd, Nat.reduceLeDiff, reduceCtorEq, Nat.reduceMul]
      refine ⟨(hS.add _ _).put (by intro e; have := hS.lt; rw [e] at this; simp at this) _, (hF.add _ _).put (.inr (by simp only; omega)) _, y, rfl, ?_⟩
      rcases hy with hy | ⟨s, s1, s2, s3, s4⟩
      · exact .inl hy
      · have ns : ¬ s = (7, τ.clk) := by rintro rfl; simp at s4
        exact .inr ⟨s, s1, by simp only [put_bs, add_bs, ns, if_false]; exact s2, s3, by simp only [put_clk, add_clk]; omega⟩
    · have hd2 : decide (p = q) = false := decide_eq_false hpq
      rw [hd2] at hd
      have hsu : (l.take (k + 1)).filter (fun r => !decide (r = q)) = fl ++ [p] := by rw [htk, List.filter_append, hfl]; simp [hpq]
      rw [hsu]
      have hSn : SG ks n pl a b (((τ.add 7 (.var [.p (.i .i64 0), .p (.i .i64 0)])).put (7, τ.clk) (.var [.p (.i .i64 p.n), .p (.i .i64 p.s)])).add 59 (.row 2 46 [[.i .i64 p.n, .i .i64 p.s]])) := ((hS.add _ _).put (by intro e; have := hS.lt; rw [e] at this; simp at this) _).add _ _
      have hFn : Fr ks σ (((τ.add 7 (.var [.p (.i .i64 0), .p (.i .i64 0)])).put (7, τ.clk) (.var [.p (.i .i64 p.n), .p (.i .i64 p.s)])).add 59 (.row 2 46 [[.i .i64 p.n, .i .i64 p.s]])) := ((hF.add _ _).put (.inr (by simp only; omega)) _).add _ _
      rcases hy with ⟨rfl, hr⟩ | ⟨s, rfl, s2, s3, s4⟩
      · have hr2 : fl = [] := List.map_eq_nil_iff.1 hr
        subst hr2
        simp only [F51b0, e0, e2, e3, e4, e5, e48, e49, e50, hlt, hge, tr, tq, hp', hw, hd, nq7, nr7, frA_ptr, rowK, Int.toNat_natCast, Nat.zero_add, Nat.one_mul, Nat.zero_lt_one, List.length_map, fxa, fxc, fxE, fxL, fxI, nxE, evO, evR, cellsT, ldCells, mkT, lenA, binPV, Env.init, resV, resT, frT, klT, ownT, intT, O.adds, ownA, rowsA, over, wrOk, keysT, keysA, ne_eq, if_true, if_false, ite_self, Nat.reduceLT, Nat.reduceSub, Nat.reduceBEq, Nat.reduceEqDiff, Nat.reduceAdd, Nat.reduceLeDiff, reduceCtorEq, Nat.reduceMul]
        exact ⟨hSn.add _ _, hFn.add _ _, _, rfl, .inr ⟨(60, τ.clk + 1 + 1), rfl, by simp only [add_bs, add_clk, put_clk, if_true, encP, List.map_cons, List.map_nil, List.nil_append], by simp only; omega, by simp only [add_clk, put_clk]; omega⟩⟩
      · have ns7 : ¬ s = (7, τ.clk) := by rintro rfl; simp at s4
        have ns59 : ¬ s = (59, τ.clk + 1) := by rintro rfl; simp at s4; omega
        have n2 : ¬ ks = s := by rintro rfl; rw [hS.bs] at s2; cases s2
        have htk2 : List.take fl.length (fl.map encP) = fl.map encP := List.take_of_length_le (by simp)
        have hbb : (fl.length + 1) * 16 ≤ 140737488355328 := by omega
        rw [List.length_map] at e5
        simp only [F51b0, e0, e2, e3, e4, e5, e48, e49, e50, hlt, hge, tr, tq, hp', hw, hd, nq7, nr7, s2, ns7, ns59, htk2, hbb, frA_ptr, rowK, Int.toNat_natCast, Nat.zero_add, Nat.one_mul, Nat.zero_lt_one, List.length_map, fxa, fxc, fxE, fxL, fxI, nxE, evO, evR, cellsT, ldCells, mkT, lenA, binPV, Env.init, resV, resT, frT, klT, ownT, intT, O.adds, ownA, rowsA, over, wrOk, keysT, keysA, ne_eq, if_true, if_false, ite_self, Nat.reduceLT, Nat.reduceSub, Nat.reduceBEq, Nat.reduceEqDiff, Nat.reduceAdd, Nat.reduceLeDiff, reduceCtorEq, Nat.reduceMul]
        exact ⟨(hSn.kill n2).add _ _, (hFn.kill (by omega)).add _ _, _, rfl, .inr ⟨(60, τ.clk + 1 + 1), by simp, by simp only [add_bs, add_clk, put_clk, kill_clk, if_true, List.map_append, List.map_cons, List.map_nil, encP], by simp only; omega, by simp only [add_clk, put_clk, kill_clk]; omega⟩⟩
  · rintro e τ ⟨e0, e2, e4, e3, e48, e49, e50, hS, hF, y, e5, hy⟩
    have hlt : ¬ ((l.length : Nat) : Int) < (l.length : Int) := by omega
    rw [List.take_length] at hy
    simp only [F51b0, e0, e2, e3, e4, e5, e48, e49, e50, hlt, fxa, fxc, fxE, fxL, fxI, nxE, evO, evR, cellsT, ldCells, mkT, lenA, binPV, Env.init, resV, resT, frT, klT, ownT, intT, O.adds, ownA, rowsA, over, wrOk, keysT, keysA, ne_eq, if_true, if_false, ite_self, Nat.reduceLT, Nat.reduceSub, Nat.reduceBEq, Nat.reduceEqDiff, Nat.reduceAdd, Nat.reduceLeDiff, reduceCtorEq, Nat.reduceMul]
    exact ⟨⟨y, rfl, hc1 ▸ hy⟩, hS, hF⟩
theorem pickLoop1 {ks : Key} {n m0 : Nt} {pl : Pl} {a b : Int} {B : Nat} {apps : List Int} {lv : AV} {c0 : Nat} {σ : St} (hT : Two n a b B) (hm0 : m0.Ok) (h : SG ks m0 pl a b σ)
    (hL : SL c0 1 3 (apps.map encI) lv σ) (hd : ∀ d ∈ apps, wf d) (hlen : apps.length ≤ 500) (e : Env) (e0 : e 0 = .a (.ptr ks 0 0)) (e2 : e 2 = .a (.p (.i .i64 (apps.length : Nat)))) (e4 : e 4 = .a lv) (e82 : e 82 = .a lv)
    (e83 : e 83 = .a (.p (.i .i64 (apps.length : Nat)))) (e84 : e 84 = .a (.p (.i .i64 0))) :
    wp S false (.loop F51b1) e σ (fun x e' σ' => x = .exit 2 ∧ e' 8 = e 8 ∧ SG ks (runs m0 (pickOps a b 0 apps)) pl a b σ' ∧ Fr ks σ σ' ∧ (runs m0 (pickOps a b 0 apps)).Ok) := by
  have hlv : lv = .nil ∧ apps = [] ∨ ∃ r : Key, lv = .own r 0 apps.length ∧ σ.bs r = some (.row 1 3 (apps.map encI)) ∧ r.2 < σ.clk := by
    rcases hL with ⟨e1, e2⟩ | ⟨r, e1, e2, e3, e4⟩
    · exact .inl ⟨e1, List.map_eq_nil_iff.1 e2⟩
    · exact .inr ⟨r, by simpa using e1, e2, e4⟩
  obtain ⟨u8, hu8⟩ : ∃ z, e 8 = z := ⟨_, rfl⟩
  rw [hu8]
  refine loop_nat apps.length (fun i e τ => e 8 = u8 ∧ e 0 = .a (.ptr ks 0 0) ∧ e 2 = .a (.p (.i .i64 (apps.length : Nat))) ∧ e 4 = .a lv ∧ e 82 = .a lv ∧ e 83 = .a (.p (.i .i64 (apps.length : Nat))) ∧ e 84 = .a (.p (.i .i64 (i : Nat))) ∧
    ∃ m, m.Ok ∧ SG ks m pl a b τ ∧ Fr ks σ τ ∧ runs m (pickOps a b i (apps.drop i)) = runs m0 (pickOps a b 0 apps)) (i0 := 0) (Nat.zero_le _) ⟨hu8, e0, e2, e4, e82, e83, e84, m0, hm0, h, Fr.refl ks σ, by rw [List.drop_zero]⟩ ?_ ?_
  · rintro i e τ hi ⟨e8, e0, e2, e4, e82, e83, e84, m, hm, hS, hF, hR⟩
    obtain ⟨d, hdi⟩ : ∃ d, apps[i]? = some d := ⟨_, List.getElem?_eq_getElem hi⟩
    have hd' := mapGet encI hdi
    have wd := hd d (List.mem_of_getElem? hdi)
    have hlt : ((i : Nat) : Int) < (apps.length : Int) := by omega
    have hge : (0 : Int) ≤ ((i : Nat) : Int) := by omega
    have hge1 : (0 : Int) ≤ ((i : Nat) : Int) + 1 := by omega
    have hw : IntKind.i64.wrap ((i : Int) + 1) = (i : Int) + 1 := wrap_in _ (by omega)
    have htn : ((i : Int) + 1).toNat = i + 1 := by omega
    obtain ⟨r, rfl, r2, r3⟩ : ∃ r : Key, lv = .own r 0 apps.length ∧ σ.bs r = some (.row 1 3 (apps.map encI)) ∧ r.2 < σ.clk := by
      rcases hlv with ⟨_, e⟩ | h
      · rw [e] at hi; simp at hi
      · exact h
    have nr : r ≠ ks := by rintro rfl; rw [h.bs] at r2; cases r2
    have tr := (hF.bs r r3 nr).trans r2
    have t1 := hS.bs
    simp only [stg, List.map_cons, List.map_nil] at t1
    obtain ⟨τ1, c1, hS1, hF1⟩ := aMove_ok (p := ⟨b, (i : Int) + 1⟩) (q := ⟨d, 2⟩) hm (hT.pb (by omega) (by omega)) ⟨wd, by show wf 2; decide⟩ hS
    have tr1 := (hF1.bs r (Nat.lt_of_lt_of_le r3 hF.clk) nr).trans tr
    have t2 := hS1.bs
    simp only [stg, List.map_cons, List.map_nil] at t2
    have hm1 := moveR_Ok (p := ⟨b, (i : Int) + 1⟩) (q := ⟨d, 2⟩) hm (hT.pb (by omega) (by omega)) ⟨wd, by show wf 2; decide⟩
    have p1 := port_ok b ((i : Int) + 1)
    have p2 := port_ok d 2
    have p3 := port_ok d 1
    have hdr : apps.drop i = d :: apps.drop (i + 1) := by
      rw [List.drop_eq_getElem_cons hi]
      obtain ⟨_, h2⟩ := List.getElem?_eq_some_iff.1 hdi
      rw [h2]
    rw [hdr] at hR
    simp only [encI] at hd'
    by_cases hl : i + 1 < apps.length
    · obtain ⟨f, hfi⟩ : ∃ f, apps[i + 1]? = some f := ⟨_, List.getElem?_eq_getElem hl⟩
      have hf' := mapGet encI hfi
      have wf' := hd f (List.mem_of_getElem? hfi)
      have hlt2 : ((i : Nat) : Int) + 1 < (apps.length : Int) := by omega
      have hdr2 : apps.drop (i + 1) = f :: apps.drop (i + 1 + 1) := by
        rw [List.drop_eq_getElem_cons hl]
        obtain ⟨_, h2⟩ := List.getElem?_eq_some_iff.1 hfi
        rw [h2]
      obtain ⟨τ2, c2, hS2, hF2⟩ := aLink_ok (p := ⟨d, 1⟩) (q := ⟨f, 0⟩) hm1 ⟨wd, wf_1⟩ ⟨wf', wf_0⟩ hS1
      have hm2 := linkR_Ok (p := ⟨d, 1⟩) (q := ⟨f, 0⟩) hm1 ⟨wd, wf_1⟩ ⟨wf', wf_0⟩
      have p4 := port_ok f 0
      simp only [encI] at hf'
      simp only [F51b1, e0, e2, e4, e8, e82, e83, e84, hlt, hlt2, hge, hge1, htn, hw, tr, tr1, t1, t2, hd', hf', c1, c2, p1, p2, p3, p4, frA_ptr, rowK, Int.toNat_natCast, Nat.zero_add, List.length_map, fxa, fxc, fxE, fxL, fxI, nxE, evO, evR, cellsT, ldCells, mkT, lenA, binPV, Env.init, resV, resT, frT, klT, ownT, intT, O.adds, ownA, rowsA, over, wrOk, keysT, keysA, ne_eq, if_true, if_false, ite_self, Nat.reduceLT, Nat.reduceSub, Nat.reduceBEq, Nat.reduceEqDiff, Nat.reduceAdd, Nat.reduceLeDiff, reduceCtorEq, Nat.reduceMul]
      refine ⟨rfl, _, hm2, hS2, (hF.trans hF1).trans hF2, ?_⟩
      rw [hdr2] at hR ⊢
      exact hR
    · have hlt2 : ¬ ((i : Nat) : Int) + 1 < (apps.length : Int) := by omega
      have hdr2 : apps.drop (i + 1) = [] := List.drop_eq_nil_of_le (by omega)
      obtain ⟨τ2, c2, hS2, hF2⟩ := aMove_ok (p := ⟨a, 1⟩) (q := ⟨d, 1⟩) hm1 (hT.pa (by omega) (by omega)) ⟨wd, wf_1⟩ hS1
      have hm2 := moveR_Ok (p := ⟨a, 1⟩) (q := ⟨d, 1⟩) hm1 (hT.pa (by omega) (by omega)) ⟨wd, wf_1⟩
      have p4 := port_ok a 1
      simp only [F51b1, e0, e2, e4, e8, e82, e83, e84, hlt, hlt2, hge, hge1, htn, hw, tr, tr1, t1, t2, hd', c1, c2, p1, p2, p3, p4, frA_ptr, rowK, Int.toNat_natCast, Nat.zero_add, List.length_map, fxa, fxc, fxE, fxL, fxI, nxE, evO, evR, cellsT, ldCells, mkT, lenA, binPV, Env.init, resV, resT, frT, klT, ownT, intT, O.adds, ownA, rowsA, over, wrOk, keysT, keysA, ne_eq, if_true, if_false, ite_self, Nat.reduceLT, Nat.reduceSub, Nat.reduceBEq, Nat.reduceEqDiff, Nat.reduceAdd, Nat.reduceLeDiff, reduceCtorEq, Nat.reduceMul]
      refine ⟨rfl, _, hm2, hS2, (hF.trans hF1).trans hF2, ?_⟩
      rw [hdr2] at hR ⊢
      exact hR
  · rintro e τ ⟨e8, e0, e2, e4, e82, e83, e84, m, hm, hS, hF, hR⟩
    have hlt : ¬ ((apps.length : Nat) : Int) < (apps.length : Int) := by omega
    rw [List.drop_length] at hR
    simp only [F51b1, e0, e2, e4, e8, e82, e83, e84, hlt, fxa, fxc, fxE, fxL, fxI, nxE, evO, evR, cellsT, ldCells, mkT, lenA, binPV, Env.init, resV, resT, frT, klT, ownT, intT, O.adds, ownA, rowsA, over, wrOk, keysT, keysA, ne_eq, if_true, if_false, ite_self, Nat.reduceLT, Nat.reduceSub, Nat.reduceBEq, Nat.reduceEqDiff, Nat.reduceAdd, Nat.reduceLeDiff, reduceCtorEq, Nat.reduceMul]
    have hR : m = runs m0 (pickOps a b 0 apps) := hR
    exact ⟨by rw [← hR]; exact hS, hF, by rw [← hR]; exact hm⟩
theorem aPick_ok {ks : Key} {n : Nt} {pl : Pl} {a b : Int} {B : Nat} {i : Nat} {A : Ar} {σ : St} (hT : Two n a b B) (hB : B ≤ 80000) (hi : pl.alt = (i : Nat)) (hA : (n.nd a).al[i]? = some A) (hk0 : 0 ≤ A.n) (hk1 : A.n ≤ 100) (hal : (n.nd a).al.length ≤ 100) (h : SG ks n pl a b σ) :
    ∃ σ', eS S (.f 51) [.a (.ptr ks 0 0)] σ = some (.u, σ') ∧ SG ks (pickD n pl.alt a b) pl a b σ' ∧ Fr ks σ σ' := by
  have hn := hT.ok
  have hbg := hT.big
  have hil := (List.getElem?_eq_some_iff.1 hA).1
  obtain ⟨k, hk⟩ : ∃ k : Nat, A.n = k := ⟨A.n.toNat, by omega⟩
  obtain ⟨c, hc⟩ : ∃ c, σ.clk = c := ⟨_, rfl⟩
  have hlt := h.lt
  have nk : ∀ d, ¬ ks = (d, c) := by rintro d rfl; simp at hlt; omega
  have s0 := h.bs
  obtain ⟨σ0, hσ0⟩ : ∃ σ0, σ0 = σ.add 3 (.var [.p (.i .i64 0), .p (.i .i64 0)]) := ⟨_, rfl⟩
  have hS0 : SG ks n pl a b σ0 := by rw [hσ0]; exact h.add _ _
  have hF0 : Fr ks σ σ0 := by rw [hσ0]; exact (Fr.refl ks σ).add _ _
  have hcl0 : σ0.clk = c + 1 := by rw [hσ0]; simp only [add_clk]; omega
  have b3 : σ0.bs (3, c) = some (.var [.p (.i .i64 0), .p (.i .i64 0)]) := by rw [hσ0]; simp [add_bs, hc]
  obtain ⟨σ1, q1, hS1, hF1⟩ := aNode_ok hT.a0 hT.a1 hS0
  have b31 := (hF1.bs (3, c) (by simp only; omega) (fun e => nk 3 e.symm)).trans b3
  have hcl1 := hF1.clk
  obtain ⟨σ2, hσ2⟩ : ∃ σ2, σ2 = σ1.put (3, c) (.var [.p (.i .i64 a), .p (.i .i64 ((i : Int) + 2))]) := ⟨_, rfl⟩
  have hS2 : SG ks n pl a b σ2 := by rw [hσ2]; exact hS1.put (nk 3) _
  have hF2 : Fr ks σ σ2 := by rw [hσ2]; exact (hF0.trans hF1).put (.inr (by simp only; omega)) _
  have b32 : σ2.bs (3, c) = some (.var [.p (.i .i64 a), .p (.i .i64 ((i : Int) + 2))]) := by rw [hσ2]; simp [put_bs]
  have hcl2 : σ2.clk = σ1.clk := by rw [hσ2]; rfl
  obtain ⟨σ3, q3, hS3, hF3⟩ := aLevel_ok hT.a0 hT.a1 hS2
  have hax : (appN (n.nd a).lv).Ok := ⟨by show wf 3; decide, hT.xa.lv, by show wf 0; decide, by simp [appN], by simp [appN], by simp [appN], by simp [appN], by simp [appN]⟩
  obtain ⟨σ4, v4, q4, hS4, hF4, hL4⟩ := aLike_ok (x := appN (n.nd a).lv) (m := k) hn hax NC.nil NC.nil (by omega) hS3
  obtain ⟨hT1, ea, eb⟩ := hT.like hax k (by omega)
  have hAD : (n.nd a).al.getD i zA = A := by rw [List.getD_eq_getElem?_getD, hA]; rfl
  have wap := likeR_wf hn hax k (by omega)
  have lap := (likeR_Ok hn hax k (by omega)).2.2
  have hD : pickD n pl.alt a b = (let r1 := likeR n (appN (n.nd a).lv) k
    let l := restR r1.1 a i
    let r2 := likeR r1.1 (dropN (r1.1.nd a).lv) l.length
    let m := match r1.2 with
      | [] => (joinR r2.1 ⟨a, (i : Int) + 2⟩ ⟨a, 1⟩).1
      | d :: _ => (moveR r2.1 ⟨a, (i : Int) + 2⟩ ⟨d, 0⟩).1
    runs (runs m (pickOps a b 0 r1.2)) (dropOps l r2.2)) := by
    unfold pickD; simp only [hi, Int.toNat_natCast, hAD, hk]; try rfl
  obtain ⟨⟨m1, apps⟩, hr⟩ : ∃ r, likeR n (appN (n.nd a).lv) k = r := ⟨_, rfl⟩
  rw [hr] at hS4 hL4 hT1 ea eb hD wap lap
  simp only at hS4 hL4 hT1 ea eb hD wap lap
  have hbg1 := hT1.big
  obtain ⟨σ5, v5, q5, hS5, hF5, hL5⟩ := aOthers_ok (j := 2) (jz := 2) rfl (by omega) hT1.a0 hT1.a1 hT1.xa.to hS4
  obtain ⟨l0, hl0⟩ : ∃ l, portsR a 2 (m1.nd a).to.length = l := ⟨_, rfl⟩
  have nl0 : l0.length ≤ 100 := by rw [← hl0, portsR_len]; have := hT1.ta; omega
  rw [hl0] at hL5
  have hl1 : restR m1 a i = l0.filter fun r => !decide (r = ⟨a, (i : Int) + 2⟩) := by unfold restR; rw [hl0]
  obtain ⟨l, hl2⟩ : ∃ l, l0.filter (fun r => !decide (r = ⟨a, (i : Int) + 2⟩)) = l := ⟨_, rfl⟩
  rw [hl1, hl2] at hD
  have nl : l.length ≤ 100 := by rw [← hl2]; have := List.length_filter_le (fun r => !decide (r = (⟨a, (i : Int) + 2⟩ : Pt))) l0; omega
  have wl : ∀ p ∈ l, wfP p := by
    intro p hp
    rw [← hl2] at hp
    have := (List.mem_filter.1 hp).1
    rw [← hl0] at this
    exact (portsR_wf hT1 (by have := hT1.ta; omega)).1 p this
  have b34 := (hF4.bs (3, c) (by have := hF3.clk; simp only; omega) (fun e => nk 3 e.symm)).trans ((hF3.bs (3, c) (by simp only; omega) (fun e => nk 3 e.symm)).trans b32)
  have b35 := (hF5.bs (3, c) (by have := hF3.clk; have := hF4.clk; simp only; omega) (fun e => nk 3 e.symm)).trans b34
  have hF05 := ((hF2.trans hF3).trans hF4).trans hF5
  have hc5 : c < σ5.clk := by have := hF3.clk; have := hF4.clk; have := hF5.clk; omega
  have hL45 := hL4.fr hS4 hF5
  have u0 := hS0.bs
  have u1 := hS1.bs
  have u3 := hS3.bs
  have u4 := hS4.bs
  have gA := mapGet encA hA
  have p1 := port_ok a ((i : Int) + 2)
  have p2 := port_ok a 1
  have hw : IntKind.i64.wrap ((i : Int) + 2) = (i : Int) + 2 := wrap_in _ (by omega)
  have hge : (0 : Int) ≤ (i : Int) := by omega
  have hlti : (i : Int) < ((n.nd a).al.length : Int) := by omega
  obtain ⟨x, hx⟩ : ∃ x, n.nd a = x := ⟨_, rfl⟩
  rw [hx] at q1 q3 q4 gA hlti
  simp only [stg, List.map_cons, List.map_nil, hi] at s0 u0 u1 u3 u4
  simp only [encN, List.map_cons, List.map_nil] at q1
  simp only [appN] at q4
  simp only [encA] at gA
  refine x_fnR (fc := F51) rfl rfl ?_
  have hb2 : ∀ {τ : St}, Fr ks σ5 τ → τ.bs (3, c) = some (.var [.p (.i .i64 a), .p (.i .i64 ((i : Int) + 2))]) := fun hF => (hF.bs (3, c) hc5 (fun e => nk 3 e.symm)).trans b35
  obtain ⟨Z, hZ⟩ : ∃ Z : C, (.seq (.seq (.reg [
  ia 82 (.mv (.t 4)), ia 83 (.len false (.t 82)), ia 84 (.mv (ci 0))]) (.block 2 (.loop F51b1))) (.reg [
  ia 124 (.mv (.t 8)), ia 125 (.call (.t 124) [])])) = Z := ⟨_, rfl⟩
  have rest : ∀ (e : Env) (σ6 : St) (y : AV), e 0 = .a (.ptr ks 0 0) → e 2 = .a (.p (.i .i64 (k : Nat))) → e 3 = .a (.ptr (3, c) 0 0) → e 4 = .a v4 → e 5 = .a y → SL σ5.clk 2 46 (l.map encP) y σ6 → SG ks m1 pl a b σ6 → Fr ks σ5 σ6 →
      wp S false (.seq (.reg [
  ia 62 (.mv (.t 0)), ia 63 (.mv (.t 5)), ia 64 (.call (.f 57) [(.t 62), (.t 63)]), ia 8 (.mv (.t 64))]) (.seq (.seq (.reg [
  ia 65 (.mv (.t 2)), ia 66 (.bin .eql (.t 65) (ci 0))]) (.cond (.t 66) (.reg [
  ir 67 (.mv (.t 0)), ir 68 (.ld 2 true (.t 3)), ir 69 (.mv (.t 0)), ir 70 (.nck (.t 69)), ir 71 (.fad 12 (.t 70)), ir 72 (.ld 1 false (.t 71)), ir 73 (.call (.f 40) [(.t 72), (ci 1)]), ia 74 (.call (.f 67) [(.t 67), (.t 68), (.t 73)])]) (.reg [
  ir 75 (.mv (.t 0)), ir 76 (.ld 2 true (.t 3)), ir 77 (.mv (.t 4)), ir 78 (.ias 1 (.t 77) (ci 0)), ir 79 (.ld 1 false (.t 78)), ir 80 (.call (.f 40) [(.t 79), (ci 0)]), ia 81 (.call (.f 53) [(.t 75), (.t 76), (.t 80)])]))) Z)) e σ6 (RetS [] fun v σ' => v = .u ∧ SG ks (pickD n pl.alt a b) pl a b σ' ∧ Fr ks σ σ') := by
    intro e σ6 y e0 e2 e3 e4 e5 hy hS6 hF6
    obtain ⟨σ7, f, q7, hS7, hF7, hDC⟩ := aDrop_ok (l := l) hT1.ok (by omega) hT1.a0 hT1.a1 hS6 hy
    have hdx := dropN_Ok hT1.xa.lv
    obtain ⟨hOk2, o2, o3⟩ := likeR_Ok hT1.ok hdx l.length (by omega)
    have wds := likeR_wf hT1.ok hdx l.length (by omega)
    obtain ⟨⟨m2, ds⟩, hr2⟩ : ∃ r, likeR m1 (dropN (m1.nd a).lv) l.length = r := ⟨_, rfl⟩
    rw [hr2] at hS7 hDC hOk2 o3 wds hD
    simp only at hS7 hDC hOk2 o3 wds hD
    have b37 := hb2 (hF6.trans hF7)
    have hL47 := (hL45.fr hS5 hF6).fr hS6 hF7
    have u7 := hS7.bs
    simp only [stg, List.map_cons, List.map_nil] at u7
    have w1 : wfP ⟨a, (i : Int) + 2⟩ := hT.pa (by omega) (by omega)
    have w2 : wfP ⟨a, 1⟩ := hT.pa (by omega) (by omega)
    have fin : ∀ (m3 : Nt) (σ8 : St) (e : Env), m3.Ok → SG ks m3 pl a b σ8 → Fr ks σ7 σ8 → pickD n pl.alt a b = runs (runs m3 (pickOps a b 0 apps)) (dropOps l ds) → e 0 = .a (.ptr ks 0 0) → e 2 = .a (.p (.i .i64 (k : Nat))) → e 4 = .a v4 → e 8 = .a f →
        wp S false Z e σ8 (RetS [] fun v σ' => v = .u ∧ SG ks (pickD n pl.alt a b) pl a b σ' ∧ Fr ks σ σ') := by
      rw [← hZ]
      intro m3 σ8 e hm3 hS8 hF8 hD2 e0 e2 e4 e8
      have hL48 := hL47.fr hS7 hF8
      have hop : v4 = .nil ∧ apps.length = 0 ∨ ∃ r : Key, v4 = .own r 0 apps.length := by
        rcases hL48 with ⟨e1, e2⟩ | ⟨r, e1, _, _, _⟩
        · exact .inl ⟨e1, by rw [List.map_eq_nil_iff.1 e2]; rfl⟩
        · exact .inr ⟨r, by simpa using e1⟩
      rcases hop with ⟨rfl, ha0⟩ | ⟨r, rfl⟩
      all_goals
        simp only [e0, e2, e4, e8, fxa, fxc, fxE, fxL, fxI, nxE, evO, evR, cellsT, ldCells, mkT, lenA, binPV, Env.init, resV, resT, frT, klT, ownT, intT, O.adds, ownA, rowsA, over, wrOk, keysT, keysA, ne_eq, if_true, if_false, ite_self, Nat.reduceLT, Nat.reduceSub, Nat.reduceBEq, Nat.reduceEqDiff, Nat.reduceAdd, Nat.reduceLeDiff, reduceCtorEq, Nat.reduceMul]
        refine Go.Fx.wp_mono (pickLoop1 (n := n) hT hm3 hS8 hL48 wap (by omega) _ ?_ ?_ ?_ ?_ ?_ ?_) ?_
        all_goals first
          | (simp only [e0, e2, e4, lap, fxa, fxc, fxE, fxL, fxI, nxE, evO, evR, cellsT, ldCells, mkT, lenA, binPV, Env.init, resV, resT, frT, klT, ownT, intT, O.adds, ownA, rowsA, over, wrOk, keysT, keysA, ne_eq, if_true, if_false, ite_self, Nat.reduceLT, Nat.reduceSub, Nat.reduceBEq, Nat.reduceEqDiff, Nat.reduceAdd, Nat.reduceLeDiff, reduceCtorEq, Nat.reduceMul]; done)
          | (simp only [ha0, fxa, fxc, fxE, fxL, fxI, nxE, evO, evR, cellsT, ldCells, mkT, lenA, binPV, Env.init, resV, resT, frT, klT, ownT, intT, O.adds, ownA, rowsA, over, wrOk, keysT, keysA, ne_eq, if_true, if_false, ite_self, Nat.reduceLT, Nat.reduceSub, Nat.reduceBEq, Nat.reduceEqDiff, Nat.reduceAdd, Nat.reduceLeDiff, reduceCtorEq, Nat.reduceMul]; done)
          | skip
        rintro x e' σ9 ⟨rfl, g8, hS9, hF9, hm9⟩
        simp only [e8, fxa, fxc, fxE, fxL, fxI, nxE, evO, evR, cellsT, ldCells, mkT, lenA, binPV, Env.init, resV, resT, frT, klT, ownT, intT, O.adds, ownA, rowsA, over, wrOk, keysT, keysA, ne_eq, if_true, if_false, ite_self, Nat.reduceLT, Nat.reduceSub, Nat.reduceBEq, Nat.reduceEqDiff, Nat.reduceAdd, Nat.reduceLeDiff, reduceCtorEq, Nat.reduceMul] at g8
        obtain ⟨k0, k1, k2, σ10, rfl, q10, hS10, hF10⟩ := aCall_ok hm9 wl wds (by omega) (by omega) hS9 (hDC.fr hS7 (hF8.trans hF9))
        simp only [g8, q10, fxa, fxc, fxE, fxL, fxI, nxE, evO, evR, cellsT, ldCells, mkT, lenA, binPV, Env.init, resV, resT, frT, klT, ownT, intT, O.adds, ownA, rowsA, over, wrOk, keysT, keysA, ne_eq, if_true, if_false, ite_self, Nat.reduceLT, Nat.reduceSub, Nat.reduceBEq, Nat.reduceEqDiff, Nat.reduceAdd, Nat.reduceLeDiff, reduceCtorEq, Nat.reduceMul]
        exact ⟨by rw [hD2]; exact hS10, hF05.trans (hF6.trans (hF7.trans (hF8.trans (hF9.trans hF10))))⟩
    rcases apps with _ | ⟨d, r⟩
    · have hk00 : (((k : Nat) : Int) = 0) = True := by have : k = 0 := lap.symm; rw [this]; simp
      obtain ⟨σ8, q8, hS8, hF8⟩ := aJoin_ok (p := ⟨a, (i : Int) + 2⟩) (q := ⟨a, 1⟩) hOk2 w1 w2 hS7
      simp only [e0, e2, e3, e4, e5, q7, b37, u7, hk00, p2, q8, evI_cl, clOk, ldKeeps, ldKeeps1, iasKeeps, rowK, nwKeeps, sameC, sameL, sameA, sameP, decide_true, frA_ptr, capsOf, fxa, fxc, fxE, fxL, fxI, nxE, evO, evR, cellsT, ldCells, mkT, lenA, binPV, Env.init, resV, resT, frT, klT, ownT, intT, O.adds, ownA, rowsA, over, wrOk, keysT, keysA, ne_eq, if_true, if_false, ite_self, Nat.reduceLT, Nat.reduceSub, Nat.reduceBEq, Nat.reduceEqDiff, Nat.reduceAdd, Nat.reduceLeDiff, reduceCtorEq, Nat.reduceMul]
      exact fin _ _ _ (joinR_Ok hOk2 w1 w2) hS8 hF8 hD (by simp only [e0, fxa, fxc, fxE, fxL, fxI, nxE, evO, evR, cellsT, ldCells, mkT, lenA, binPV, Env.init, resV, resT, frT, klT, ownT, intT, O.adds, ownA, rowsA, over, wrOk, keysT, keysA, ne_eq, if_true, if_false, ite_self, Nat.reduceLT, Nat.reduceSub, Nat.reduceBEq, Nat.reduceEqDiff, Nat.reduceAdd, Nat.reduceLeDiff, reduceCtorEq, Nat.reduceMul]) (by simp only [e2, fxa, fxc, fxE, fxL, fxI, nxE, evO, evR, cellsT, ldCells, mkT, lenA, binPV, Env.init, resV, resT, frT, klT, ownT, intT, O.adds, ownA, rowsA, over, wrOk, keysT, keysA, ne_eq, if_true, if_false, ite_self, Nat.reduceLT, Nat.reduceSub, Nat.reduceBEq, Nat.reduceEqDiff, Nat.reduceAdd, Nat.reduceLeDiff, reduceCtorEq, Nat.reduceMul]) (by simp only [e4, fxa, fxc, fxE, fxL, fxI, nxE, evO, evR, cellsT, ldCells, mkT, lenA, binPV, Env.init, resV, resT, frT, klT, ownT, intT, O.adds, ownA, rowsA, over, wrOk, keysT, keysA, ne_eq, if_true, if_false, ite_self, Nat.reduceLT, Nat.reduceSub, Nat.reduceBEq, Nat.reduceEqDiff, Nat.reduceAdd, Nat.reduceLeDiff, reduceCtorEq, Nat.reduceMul]) (by simp only [fxa, fxc, fxE, fxL, fxI, nxE, evO, evR, cellsT, ldCells, mkT, lenA, binPV, Env.init, resV, resT, frT, klT, ownT, intT, O.adds, ownA, rowsA, over, wrOk, keysT, keysA, ne_eq, if_true, if_false, ite_self, Nat.reduceLT, Nat.reduceSub, Nat.reduceBEq, Nat.reduceEqDiff, Nat.reduceAdd, Nat.reduceLeDiff, reduceCtorEq, Nat.reduceMul])
    · have hk00 : (((k : Nat) : Int) = 0) = False := by have : r.length + 1 = k := lap; simp; omega
      have wd := wap d (by simp)
      have p5 := port_ok d 0
      obtain ⟨σ8, q8, hS8, hF8⟩ := aMove_ok (p := ⟨a, (i : Int) + 2⟩) (q := ⟨d, 0⟩) hOk2 w1 ⟨wd, wf_0⟩ hS7
      obtain ⟨r4, rfl, s4⟩ : ∃ r4 : Key, v4 = .own r4 0 (r.length + 1) ∧ σ7.bs r4 = some (.row 1 3 ([.i .i64 d] :: r.map encI)) := by
        rcases hL47 with ⟨_, e2⟩ | ⟨r4, e1, e2, _, _⟩
        · simp at e2
        · exact ⟨r4, by simpa using e1, e2⟩
      have hlt0 : (0 : Int) < ((r.length + 1 : Nat) : Int) := by omega
      simp only [e0, e2, e3, e4, e5, q7, b37, u7, s4, hlt0, hk00, p5, q8, Int.toNat_zero, Int.reduceLE, Int.le_refl, evI_cl, clOk, ldKeeps, ldKeeps1, iasKeeps, rowK, nwKeeps, sameC, sameL, sameA, sameP, decide_true, frA_ptr, capsOf, fxa, fxc, fxE, fxL, fxI, nxE, evO, evR, cellsT, ldCells, mkT, lenA, binPV, Env.init, resV, resT, frT, klT, ownT, intT, O.adds, ownA, rowsA, over, wrOk, keysT, keysA, ne_eq, if_true, if_false, ite_self, Nat.reduceLT, Nat.reduceSub, Nat.reduceBEq, Nat.reduceEqDiff, Nat.reduceAdd, Nat.reduceLeDiff, reduceCtorEq, Nat.reduceMul]
      exact fin _ _ _ (moveR_Ok hOk2 w1 ⟨wd, wf_0⟩) hS8 hF8 hD (by simp only [e0, fxa, fxc, fxE, fxL, fxI, nxE, evO, evR, cellsT, ldCells, mkT, lenA, binPV, Env.init, resV, resT, frT, klT, ownT, intT, O.adds, ownA, rowsA, over, wrOk, keysT, keysA, ne_eq, if_true, if_false, ite_self, Nat.reduceLT, Nat.reduceSub, Nat.reduceBEq, Nat.reduceEqDiff, Nat.reduceAdd, Nat.reduceLeDiff, reduceCtorEq, Nat.reduceMul]) (by simp only [e2, fxa, fxc, fxE, fxL, fxI, nxE, evO, evR, cellsT, ldCells, mkT, lenA, binPV, Env.init, resV, resT, frT, klT, ownT, intT, O.adds, ownA, rowsA, over, wrOk, keysT, keysA, ne_eq, if_true, if_false, ite_self, Nat.reduceLT, Nat.reduceSub, Nat.reduceBEq, Nat.reduceEqDiff, Nat.reduceAdd, Nat.reduceLeDiff, reduceCtorEq, Nat.reduceMul]) (by simp only [e4, fxa, fxc, fxE, fxL, fxI, nxE, evO, evR, cellsT, ldCells, mkT, lenA, binPV, Env.init, resV, resT, frT, klT, ownT, intT, O.adds, ownA, rowsA, over, wrOk, keysT, keysA, ne_eq, if_true, if_false, ite_self, Nat.reduceLT, Nat.reduceSub, Nat.reduceBEq, Nat.reduceEqDiff, Nat.reduceAdd, Nat.reduceLeDiff, reduceCtorEq, Nat.reduceMul]) (by simp only [fxa, fxc, fxE, fxL, fxI, nxE, evO, evR, cellsT, ldCells, mkT, lenA, binPV, Env.init, resV, resT, frT, klT, ownT, intT, O.adds, ownA, rowsA, over, wrOk, keysT, keysA, ne_eq, if_true, if_false, ite_self, Nat.reduceLT, Nat.reduceSub, Nat.reduceBEq, Nat.reduceEqDiff, Nat.reduceAdd, Nat.reduceLeDiff, reduceCtorEq, Nat.reduceMul])
  have hln : v5 = .nil ∧ l0.length = 0 ∨ ∃ q : Key, v5 = .own q 0 l0.length := by
    rcases hL5 with ⟨e1, e2⟩ | ⟨r, e1, _, _, _⟩
    · exact .inl ⟨e1, by rw [List.map_eq_nil_iff.1 e2]; rfl⟩
    · exact .inr ⟨r, by simpa using e1⟩
  rcases hln with ⟨rfl, hn0⟩ | ⟨q, rfl⟩
  all_goals
    simp only [F51, hc, s0, u0, u1, u3, u4, ← hσ0, ← hσ2, b3, b31, b32, q1, q3, q4, q5, gA, hge, hlti, hw, hk, p1, allA, Int.toNat_natCast, List.length_map, evI_cl, clOk, ldKeeps, ldKeeps1, iasKeeps, rowK, nwKeeps, sameC, sameL, sameA, sameP, decide_true, frA_ptr, capsOf, fxa, fxc, fxE, fxL, fxI, nxE, evO, evR, cellsT, ldCells, mkT, lenA, binPV, Env.init, resV, resT, frT, klT, ownT, intT, O.adds, ownA, rowsA, over, wrOk, keysT, keysA, ne_eq, if_true, if_false, ite_self, Nat.reduceLT, Nat.reduceSub, Nat.reduceBEq, Nat.reduceEqDiff, Nat.reduceAdd, Nat.reduceLeDiff, reduceCtorEq, Nat.reduceMul]
    refine Go.Fx.wp_mono (pickLoop0 (q := ⟨a, (i : Int) + 2⟩) (kq := (3, c)) hS5 b35 hc5 hL5 (by omega) _ ?_ ?_ ?_ ?_ ?_) ?_
    all_goals first
      | (simp only [fxa, fxc, fxE, fxL, fxI, nxE, evO, evR, cellsT, ldCells, mkT, lenA, binPV, Env.init, resV, resT, frT, klT, ownT, intT, O.adds, ownA, rowsA, over, wrOk, keysT, keysA, ne_eq, if_true, if_false, ite_self, Nat.reduceLT, Nat.reduceSub, Nat.reduceBEq, Nat.reduceEqDiff, Nat.reduceAdd, Nat.reduceLeDiff, reduceCtorEq, Nat.reduceMul]; done)
      | (simp only [hn0, fxa, fxc, fxE, fxL, fxI, nxE, evO, evR, cellsT, ldCells, mkT, lenA, binPV, Env.init, resV, resT, frT, klT, ownT, intT, O.adds, ownA, rowsA, over, wrOk, keysT, keysA, ne_eq, if_true, if_false, ite_self, Nat.reduceLT, Nat.reduceSub, Nat.reduceBEq, Nat.reduceEqDiff, Nat.reduceAdd, Nat.reduceLeDiff, reduceCtorEq, Nat.reduceMul]; done)
      | skip
    rintro x e' σ6 ⟨rfl, ⟨y, g5, hy⟩, g0, g2, g3, g4, hS6, hF6⟩
    simp only [fxa, fxc, fxE, fxL, fxI, nxE, evO, evR, cellsT, ldCells, mkT, lenA, binPV, Env.init, resV, resT, frT, klT, ownT, intT, O.adds, ownA, rowsA, over, wrOk, keysT, keysA, ne_eq, if_true, if_false, ite_self, Nat.reduceLT, Nat.reduceSub, Nat.reduceBEq, Nat.reduceEqDiff, Nat.reduceAdd, Nat.reduceLeDiff, reduceCtorEq, Nat.reduceMul] at g0 g2 g3 g4
    rw [hl2] at hy
    simp only [blkQ_exit, if_true, seqQ_norm, hZ]
    exact rest e' σ6 y g0 g2 g3 g4 g5 hy hS6 hF6
end Go.Proofs.YtomcceambpneiaaGreat
end
section
set_option linter.unusedSimpArgs false
set_option linter.unusedVariables false
set_option maxHeartbeats 4000000
set_option maxRecDepth 10000
namespace Go.Proofs.YtomcceambpneiaaGreat
open Go.Fx
theorem SL.open1 {c0 : Nat} {ds : List Int} {lv : AV} {σ : St} (hL : SL c0 1 3 (ds.map encI) lv σ) : lv = .nil ∧ ds = [] ∨ ∃ r : Key, lv = .own r 0 ds.length ∧ σ.bs r = some (.row 1 3 (ds.map encI)) ∧ r.2 < σ.clk := by
  rcases hL with ⟨e1, e2⟩ | ⟨r, e1, e2, e3, e4⟩
  · exact .inl ⟨e1, List.map_eq_nil_iff.1 e2⟩
  · exact .inr ⟨r, by simpa using e1, e2, e4⟩
theorem drop_cons {α : Type} {l : List α} {i : Nat} {d : α} (h : l[i]? = some d) : l.drop i = d :: l.drop (i + 1) := by
  obtain ⟨h1, h2⟩ := List.getElem?_eq_some_iff.1 h
  rw [List.drop_eq_getElem_cons h1, h2]
theorem passLoop0 {ks : Key} {n m0 : Nt} {pl : Pl} {a b : Int} {B : Nat} {cs : List Int} {lv : AV} {c0 : Nat} {σ : St} (hT : Two n a b B) (hm0 : m0.Ok) (h : SG ks m0 pl a b σ)
    (hL : SL c0 1 3 (cs.map encI) lv σ) (hd : ∀ d ∈ cs, wf d) (hlen : cs.length ≤ 500) (e : Env) (e0 : e 0 = .a (.ptr ks 0 0)) (e44 : e 44 = .a lv) (e45 : e 45 = .a (.p (.i .i64 (cs.length : Nat)))) (e46 : e 46 = .a (.p (.i .i64 0))) :
    wp S false (.loop F56b0) e σ (fun x e' σ' => x = .exit 0 ∧ e' 0 = e 0 ∧ e' 4 = e 4 ∧ e' 5 = e 5 ∧ SG ks (runs m0 (dropOps (portsR a 1 (cs.length + 1)) cs)) pl a b σ' ∧ Fr ks σ σ' ∧ (runs m0 (dropOps (portsR a 1 (cs.length + 1)) cs)).Ok) := by
  have hlv := hL.open1
  obtain ⟨u4, hu4⟩ : ∃ z, e 4 = z := ⟨_, rfl⟩
  obtain ⟨u5, hu5⟩ : ∃ z, e 5 = z := ⟨_, rfl⟩
  rw [e0, hu4, hu5]
  refine loop_nat cs.length (fun i e τ => e 4 = u4 ∧ e 5 = u5 ∧ e 0 = .a (.ptr ks 0 0) ∧ e 44 = .a lv ∧ e 45 = .a (.p (.i .i64 (cs.length : Nat))) ∧ e 46 = .a (.p (.i .i64 (i : Nat))) ∧
    ∃ m, m.Ok ∧ SG ks m pl a b τ ∧ Fr ks σ τ ∧ runs m (dropOps (portsR a (i + 1) (cs.length + 1)) (cs.drop i)) = runs m0 (dropOps (portsR a 1 (cs.length + 1)) cs)) (i0 := 0) (Nat.zero_le _) ⟨hu4, hu5, e0, e44, e45, e46, m0, hm0, h, Fr.refl ks σ, by rw [List.drop_zero]⟩ ?_ ?_
  · rintro i e τ hi ⟨e4, e5, e0, e44, e45, e46, m, hm, hS, hF, hR⟩
    obtain ⟨d, hdi⟩ : ∃ d, cs[i]? = some d := ⟨_, List.getElem?_eq_getElem hi⟩
    have hd' := mapGet encI hdi
    have wd := hd d (List.mem_of_getElem? hdi)
    have hlt : ((i : Nat) : Int) < (cs.length : Int) := by omega
    have hge : (0 : Int) ≤ ((i : Nat) : Int) := by omega
    have hw : IntKind.i64.wrap ((i : Int) + 1) = (i : Int) + 1 := wrap_in _ (by omega)
    obtain ⟨r, rfl, r2, r3⟩ : ∃ r : Key, lv = .own r 0 cs.length ∧ σ.bs r = some (.row 1 3 (cs.map encI)) ∧ r.2 < σ.clk := by
      rcases hlv with ⟨_, e⟩ | h
      · rw [e] at hi; simp at hi
      · exact h
    have nr : r ≠ ks := by rintro rfl; rw [h.bs] at r2; cases r2
    have tr := (hF.bs r r3 nr).trans r2
    have t1 := hS.bs
    simp only [stg, List.map_cons, List.map_nil] at t1
    obtain ⟨τ1, c1, hS1, hF1⟩ := aMove_ok (p := ⟨a, (i : Int) + 1⟩) (q := ⟨d, 0⟩) hm (hT.pa (by omega) (by omega)) ⟨wd, wf_0⟩ hS
    have hm1 := moveR_Ok (p := ⟨a, (i : Int) + 1⟩) (q := ⟨d, 0⟩) hm (hT.pa (by omega) (by omega)) ⟨wd, wf_0⟩
    have p1 := port_ok a ((i : Int) + 1)
    have p2 := port_ok d 0
    rw [drop_cons hdi, portsR_cons (by omega)] at hR
    simp only [encI] at hd'
    simp only [F56b0, e0, e4, e5, e44, e45, e46, hlt, hge, hw, tr, t1, hd', c1, p1, p2, frA_ptr, rowK, Int.toNat_natCast, Nat.zero_add, List.length_map, fxa, fxc, fxE, fxL, fxI, nxE, evO, evR, cellsT, ldCells, mkT, lenA, binPV, Env.init, resV, resT, frT, klT, ownT, intT, O.adds, ownA, rowsA, over, wrOk, keysT, keysA, ne_eq, if_true, if_false, ite_self, Nat.reduceLT, Nat.reduceSub, Nat.reduceBEq, Nat.reduceEqDiff, Nat.reduceAdd, Nat.reduceLeDiff, reduceCtorEq, Nat.reduceMul]
    exact ⟨rfl, _, hm1, hS1, hF.trans hF1, hR⟩
  · rintro e τ ⟨e4, e5, e0, e44, e45, e46, m, hm, hS, hF, hR⟩
    have hlt : ¬ ((cs.length : Nat) : Int) < (cs.length : Int) := by omega
    rw [List.drop_length, portsR_nil (Nat.le_refl _)] at hR
    have hR : m = runs m0 (dropOps (portsR a 1 (cs.length + 1)) cs) := hR
    simp only [F56b0, e0, e4, e5, e44, e45, e46, hlt, fxa, fxc, fxE, fxL, fxI, nxE, evO, evR, cellsT, ldCells, mkT, lenA, binPV, Env.init, resV, resT, frT, klT, ownT, intT, O.adds, ownA, rowsA, over, wrOk, keysT, keysA, ne_eq, if_true, if_false, ite_self, Nat.reduceLT, Nat.reduceSub, Nat.reduceBEq, Nat.reduceEqDiff, Nat.reduceAdd, Nat.reduceLeDiff, reduceCtorEq, Nat.reduceMul]
    exact ⟨by rw [← hR]; exact hS, hF, by rw [← hR]; exact hm⟩
theorem passLoop2 {ks : Key} {n m0 : Nt} {pl : Pl} {a b : Int} {cs : List Int} {lv : AV} {c0 k : Nat} {t : Int} {σ : St} (hk : k ≤ 500) (wt : wf t) (hm0 : m0.Ok) (h : SG ks m0 pl a b σ)
    (hL : SL c0 1 3 (cs.map encI) lv σ) (hd : ∀ d ∈ cs, wf d) (hlen : cs.length ≤ 500) (e : Env) (e0 : e 0 = .a (.ptr ks 0 0)) (e8 : e 8 = .a (.p (.i .i64 (k : Nat)))) (e9 : e 9 = .a (.p (.i .i64 t))) (e81 : e 81 = .a lv) (e82 : e 82 = .a (.p (.i .i64 (cs.length : Nat)))) (e83 : e 83 = .a (.p (.i .i64 0))) :
    wp S false (.loop F56b2) e σ (fun x e' σ' => x = .exit 4 ∧ e' 0 = e 0 ∧ e' 4 = e 4 ∧ e' 63 = e 63 ∧ e' 64 = e 64 ∧ e' 65 = e 65 ∧ SG ks (runs m0 (lnOps t k 0 cs)) pl a b σ' ∧ Fr ks σ σ' ∧ (runs m0 (lnOps t k 0 cs)).Ok) := by
  have hlv := hL.open1
  obtain ⟨u4, hu4⟩ : ∃ z, e 4 = z := ⟨_, rfl⟩
  obtain ⟨u63, hu63⟩ : ∃ z, e 63 = z := ⟨_, rfl⟩
  obtain ⟨u64, hu64⟩ : ∃ z, e 64 = z := ⟨_, rfl⟩
  obtain ⟨u65, hu65⟩ : ∃ z, e 65 = z := ⟨_, rfl⟩
  rw [e0, hu4, hu63, hu64, hu65]
  refine loop_nat cs.length (fun i e τ => e 4 = u4 ∧ e 63 = u63 ∧ e 64 = u64 ∧ e 65 = u65 ∧ e 0 = .a (.ptr ks 0 0) ∧ e 8 = .a (.p (.i .i64 (k : Nat))) ∧ e 9 = .a (.p (.i .i64 t)) ∧ e 81 = .a lv ∧ e 82 = .a (.p (.i .i64 (cs.length : Nat))) ∧ e 83 = .a (.p (.i .i64 (i : Nat))) ∧
    ∃ m, m.Ok ∧ SG ks m pl a b τ ∧ Fr ks σ τ ∧ runs m (lnOps t k i (cs.drop i)) = runs m0 (lnOps t k 0 cs)) (i0 := 0) (Nat.zero_le _) ⟨hu4, hu63, hu64, hu65, e0, e8, e9, e81, e82, e83, m0, hm0, h, Fr.refl ks σ, by rw [List.drop_zero]⟩ ?_ ?_
  · rintro i e τ hi ⟨e4, e63, e64, e65, e0, e8, e9, e81, e82, e83, m, hm, hS, hF, hR⟩
    obtain ⟨d, hdi⟩ : ∃ d, cs[i]? = some d := ⟨_, List.getElem?_eq_getElem hi⟩
    have hd' := mapGet encI hdi
    have wd := hd d (List.mem_of_getElem? hdi)
    have hlt : ((i : Nat) : Int) < (cs.length : Int) := by omega
    have hge : (0 : Int) ≤ ((i : Nat) : Int) := by omega
    have hw : IntKind.i64.wrap ((i : Int) + 1) = (i : Int) + 1 := wrap_in _ (by omega)
    have hw2 : IntKind.i64.wrap ((k : Int) + 1) = (k : Int) + 1 := wrap_in _ (by omega)
    obtain ⟨r, rfl, r2, r3⟩ : ∃ r : Key, lv = .own r 0 cs.length ∧ σ.bs r = some (.row 1 3 (cs.map encI)) ∧ r.2 < σ.clk := by
      rcases hlv with ⟨_, e⟩ | h
      · rw [e] at hi; simp at hi
      · exact h
    have nr : r ≠ ks := by rintro rfl; rw [h.bs] at r2; cases r2
    have tr := (hF.bs r r3 nr).trans r2
    obtain ⟨τ1, c1, hS1, hF1⟩ := aLink_ok (p := ⟨t, (i : Int) + 1⟩) (q := ⟨d, (k : Int) + 1⟩) hm ⟨wt, wf_small (by simp only; omega) (by simp only; omega)⟩ ⟨wd, wf_small (by simp only; omega) (by simp only; omega)⟩ hS
    have hm1 := linkR_Ok (p := ⟨t, (i : Int) + 1⟩) (q := ⟨d, (k : Int) + 1⟩) hm ⟨wt, wf_small (by simp only; omega) (by simp only; omega)⟩ ⟨wd, wf_small (by simp only; omega) (by simp only; omega)⟩
    have p1 := port_ok t ((i : Int) + 1)
    have p2 := port_ok d ((k : Int) + 1)
    rw [drop_cons hdi] at hR
    simp only [encI] at hd'
    simp only [F56b2, e0, e4, e8, e9, e63, e64, e65, e81, e82, e83, hlt, hge, hw, hw2, tr, hd', c1, p1, p2, frA_ptr, rowK, Int.toNat_natCast, Nat.zero_add, List.length_map, fxa, fxc, fxE, fxL, fxI, nxE, evO, evR, cellsT, ldCells, mkT, lenA, binPV, Env.init, resV, resT, frT, klT, ownT, intT, O.adds, ownA, rowsA, over, wrOk, keysT, keysA, ne_eq, if_true, if_false, ite_self, Nat.reduceLT, Nat.reduceSub, Nat.reduceBEq, Nat.reduceEqDiff, Nat.reduceAdd, Nat.reduceLeDiff, reduceCtorEq, Nat.reduceMul]
    exact ⟨rfl, _, hm1, hS1, hF.trans hF1, hR⟩
  · rintro e τ ⟨e4, e63, e64, e65, e0, e8, e9, e81, e82, e83, m, hm, hS, hF, hR⟩
    have hlt : ¬ ((cs.length : Nat) : Int) < (cs.length : Int) := by omega
    rw [List.drop_length] at hR
    have hR : m = runs m0 (lnOps t k 0 cs) := hR
    simp only [F56b2, e0, e4, e8, e9, e63, e64, e65, e81, e82, e83, hlt, fxa, fxc, fxE, fxL, fxI, nxE, evO, evR, cellsT, ldCells, mkT, lenA, binPV, Env.init, resV, resT, frT, klT, ownT, intT, O.adds, ownA, rowsA, over, wrOk, keysT, keysA, ne_eq, if_true, if_false, ite_self, Nat.reduceLT, Nat.reduceSub, Nat.reduceBEq, Nat.reduceEqDiff, Nat.reduceAdd, Nat.reduceLeDiff, reduceCtorEq, Nat.reduceMul]
    exact ⟨by rw [← hR]; exact hS, hF, by rw [← hR]; exact hm⟩
theorem passLoop1 {ks : Key} {n m0 : Nt} {pl : Pl} {a b : Int} {B : Nat} {cs ds : List Int} {lc lv : AV} {c0 c1 : Nat} {σ : St} (hT : Two n a b B) (hm0 : m0.Ok) (h : SG ks m0 pl a b σ)
    (hC : SL c0 1 3 (cs.map encI) lc σ) (hL : SL c1 1 3 (ds.map encI) lv σ) (hc : ∀ d ∈ cs, wf d) (hd : ∀ d ∈ ds, wf d) (clen : cs.length ≤ 500) (hlen : ds.length ≤ 500) (e : Env) (e0 : e 0 = .a (.ptr ks 0 0)) (e4 : e 4 = .a lc) (e63 : e 63 = .a lv) (e64 : e 64 = .a (.p (.i .i64 (ds.length : Nat)))) (e65 : e 65 = .a (.p (.i .i64 0))) :
    wp S false (.loop F56b1) e σ (fun x e' σ' => x = .exit 2 ∧ SG ks (runs m0 (passOps b cs 0 ds)) pl a b σ' ∧ Fr ks σ σ') := by
  have hlv := hL.open1
  have llc : lenA false lc = some cs.length := by
    rcases hC.open1 with ⟨rfl, rfl⟩ | ⟨r, rfl, _, _⟩ <;> rfl
  refine loop_nat ds.length (fun i e τ => e 0 = .a (.ptr ks 0 0) ∧ e 4 = .a lc ∧ e 63 = .a lv ∧ e 64 = .a (.p (.i .i64 (ds.length : Nat))) ∧ e 65 = .a (.p (.i .i64 (i : Nat))) ∧
    ∃ m, m.Ok ∧ SG ks m pl a b τ ∧ Fr ks σ τ ∧ runs m (passOps b cs i (ds.drop i)) = runs m0 (passOps b cs 0 ds)) (i0 := 0) (Nat.zero_le _) ⟨e0, e4, e63, e64, e65, m0, hm0, h, Fr.refl ks σ, by rw [List.drop_zero]⟩ ?_ ?_
  · rintro i e τ hi ⟨e0, e4, e63, e64, e65, m, hm, hS, hF, hR⟩
    obtain ⟨d, hdi⟩ : ∃ d, ds[i]? = some d := ⟨_, List.getElem?_eq_getElem hi⟩
    have hd' := mapGet encI hdi
    have wd := hd d (List.mem_of_getElem? hdi)
    have hlt : ((i : Nat) : Int) < (ds.length : Int) := by omega
    have hge : (0 : Int) ≤ ((i : Nat) : Int) := by omega
    have hw : IntKind.i64.wrap ((i : Int) + 1) = (i : Int) + 1 := wrap_in _ (by omega)
    obtain ⟨r, rfl, r2, r3⟩ : ∃ r : Key, lv = .own r 0 ds.length ∧ σ.bs r = some (.row 1 3 (ds.map encI)) ∧ r.2 < σ.clk := by
      rcases hlv with ⟨_, e⟩ | h
      · rw [e] at hi; simp at hi
      · exact h
    have nr : r ≠ ks := by rintro rfl; rw [h.bs] at r2; cases r2
    have tr := (hF.bs r r3 nr).trans r2
    have t1 := hS.bs
    simp only [stg, List.map_cons, List.map_nil] at t1
    obtain ⟨τ1, c1, hS1, hF1⟩ := aMove_ok (p := ⟨b, (i : Int) + 1⟩) (q := ⟨d, 0⟩) hm (hT.pb (by omega) (by omega)) ⟨wd, wf_0⟩ hS
    have hm1 := moveR_Ok (p := ⟨b, (i : Int) + 1⟩) (q := ⟨d, 0⟩) hm (hT.pb (by omega) (by omega)) ⟨wd, wf_0⟩
    have hC1 := (hC.fr h hF).fr hS hF1
    have p1 := port_ok b ((i : Int) + 1)
    have p2 := port_ok d 0
    rw [drop_cons hdi] at hR
    simp only [passOps, runs_cons', runs_app] at hR
    simp only [encI] at hd'
    rcases hC1.open1 with ⟨rfl, hcs⟩ | ⟨rc, rfl, _, _⟩
    all_goals
      simp only [F56b1, e0, e4, e63, e64, e65, hlt, hge, hw, tr, t1, hd', c1, p1, p2, frA_ptr, rowK, Int.toNat_natCast, Nat.zero_add, List.length_map, fxa, fxc, fxE, fxL, fxI, nxE, evO, evR, cellsT, ldCells, mkT, lenA, binPV, Env.init, resV, resT, frT, klT, ownT, intT, O.adds, ownA, rowsA, over, wrOk, keysT, keysA, ne_eq, if_true, if_false, ite_self, Nat.reduceLT, Nat.reduceSub, Nat.reduceBEq, Nat.reduceEqDiff, Nat.reduceAdd, Nat.reduceLeDiff, reduceCtorEq, Nat.reduceMul]
      refine Go.Fx.wp_mono (passLoop2 (n := n) (k := i) (t := d) (by omega) wd hm1 hS1 hC1 hc clen _ ?_ ?_ ?_ ?_ ?_ ?_) ?_
      all_goals first
        | (simp only [e0, fxa, fxc, fxE, fxL, fxI, nxE, evO, evR, cellsT, ldCells, mkT, lenA, binPV, Env.init, resV, resT, frT, klT, ownT, intT, O.adds, ownA, rowsA, over, wrOk, keysT, keysA, ne_eq, if_true, if_false, ite_self, Nat.reduceLT, Nat.reduceSub, Nat.reduceBEq, Nat.reduceEqDiff, Nat.reduceAdd, Nat.reduceLeDiff, reduceCtorEq, Nat.reduceMul]; done)
        | (simp only [hcs, List.length_nil, fxa, fxc, fxE, fxL, fxI, nxE, evO, evR, cellsT, ldCells, mkT, lenA, binPV, Env.init, resV, resT, frT, klT, ownT, intT, O.adds, ownA, rowsA, over, wrOk, keysT, keysA, ne_eq, if_true, if_false, ite_self, Nat.reduceLT, Nat.reduceSub, Nat.reduceBEq, Nat.reduceEqDiff, Nat.reduceAdd, Nat.reduceLeDiff, reduceCtorEq, Nat.reduceMul]; done)
        | skip
      rintro x e' τ2 ⟨rfl, g0, g4, g63, g64, g65, hS2, hF2, hm2⟩
      simp only [fxa, fxc, fxE, fxL, fxI, nxE, evO, evR, cellsT, ldCells, mkT, lenA, binPV, Env.init, resV, resT, frT, klT, ownT, intT, O.adds, ownA, rowsA, over, wrOk, keysT, keysA, ne_eq, if_true, if_false, ite_self, Nat.reduceLT, Nat.reduceSub, Nat.reduceBEq, Nat.reduceEqDiff, Nat.reduceAdd, Nat.reduceLeDiff, reduceCtorEq, Nat.reduceMul] at g0 g4 g63 g64 g65
      simp only [g0, g4, g63, g64, g65, e0, e4, e63, e64, e65, hw, fxa, fxc, fxE, fxL, fxI, nxE, evO, evR, cellsT, ldCells, mkT, lenA, binPV, Env.init, resV, resT, frT, klT, ownT, intT, O.adds, ownA, rowsA, over, wrOk, keysT, keysA, ne_eq, if_true, if_false, ite_self, Nat.reduceLT, Nat.reduceSub, Nat.reduceBEq, Nat.reduceEqDiff, Nat.reduceAdd, Nat.reduceLeDiff, reduceCtorEq, Nat.reduceMul]
      exact ⟨rfl, _, hm2, hS2, (hF.trans hF1).trans hF2, hR⟩
  · rintro e τ ⟨e0, e4, e63, e64, e65, m, hm, hS, hF, hR⟩
    have hlt : ¬ ((ds.length : Nat) : Int) < (ds.length : Int) := by omega
    rw [List.drop_length] at hR
    have hR : m = runs m0 (passOps b cs 0 ds) := hR
    simp only [F56b1, e0, e4, e63, e64, e65, hlt, fxa, fxc, fxE, fxL, fxI, nxE, evO, evR, cellsT, ldCells, mkT, lenA, binPV, Env.init, resV, resT, frT, klT, ownT, intT, O.adds, ownA, rowsA, over, wrOk, keysT, keysA, ne_eq, if_true, if_false, ite_self, Nat.reduceLT, Nat.reduceSub, Nat.reduceBEq, Nat.reduceEqDiff, Nat.reduceAdd, Nat.reduceLeDiff, reduceCtorEq, Nat.reduceMul]
    exact ⟨by rw [← hR]; exact hS, hF⟩
theorem aPass_ok {ks : Key} {n : Nt} {pl : Pl} {a b : Int} {B : Nat} {σ : St} (hT : Two n a b B) (hB : B ≤ 80000) (hwl : wf pl.lv) (la : 1 ≤ (n.nd a).to.length) (lb : 1 ≤ (n.nd b).to.length) (h : SG ks n pl a b σ) :
    ∃ σ', eS S (.f 56) [.a (.ptr ks 0 0)] σ = some (.u, σ') ∧ SG ks (passD n pl.lv a b) pl a b σ' ∧ Fr ks σ σ' := by
  have hn := hT.ok
  have hbg := hT.big
  have hta := hT.ta
  have htb := hT.tb
  obtain ⟨c, hc⟩ : ∃ c, σ.clk = c := ⟨_, rfl⟩
  have hlt := h.lt
  have nk : ∀ d, ¬ ks = (d, c) := by rintro d rfl; simp at hlt; omega
  have nk1 : ∀ d, ¬ ks = (d, c + 1) := by rintro d rfl; simp at hlt; omega
  have s0 := h.bs
  obtain ⟨x, hx0⟩ : ∃ x, n.nd a = x := ⟨_, rfl⟩
  obtain ⟨y, hy0⟩ : ∃ y, n.nd b = y := ⟨_, rfl⟩
  have hx := hT.xa
  have hy := hT.xb
  rw [hx0] at hx la hta
  rw [hy0] at hy lb htb
  obtain ⟨σ0, hσ0⟩ : ∃ σ0, σ0 = (σ.add 2 (.var [.p (.i .i64 0), .p (.i .i64 0), .p (.i .i64 0), .p (.s []), .nil, .nil])).add 3 (.var [.p (.i .i64 0), .p (.i .i64 0), .p (.i .i64 0), .p (.s []), .nil, .nil]) := ⟨_, rfl⟩
  have hS0 : SG ks n pl a b σ0 := by rw [hσ0]; exact (h.add _ _).add _ _
  have hF0 : Fr ks σ σ0 := by rw [hσ0]; exact ((Fr.refl ks σ).add _ _).add _ _
  have hcl0 : σ0.clk = c + 2 := by rw [hσ0]; simp only [add_clk]; omega
  have b2 : σ0.bs (2, c) = some (.var [.p (.i .i64 0), .p (.i .i64 0), .p (.i .i64 0), .p (.s []), .nil, .nil]) := by rw [hσ0]; simp [add_bs, add_clk, hc]
  have b3 : σ0.bs (3, c + 1) = some (.var [.p (.i .i64 0), .p (.i .i64 0), .p (.i .i64 0), .p (.s []), .nil, .nil]) := by rw [hσ0]; simp [add_bs, add_clk, hc]
  obtain ⟨σ1, q1, hS1, hF1⟩ := aNode_ok hT.a0 hT.a1 hS0
  have b21 := (hF1.bs (2, c) (by simp only; omega) (fun e => nk 2 e.symm)).trans b2
  have b31 := (hF1.bs (3, c + 1) (by simp only; omega) (fun e => nk1 3 e.symm)).trans b3
  have hcl1 := hF1.clk
  obtain ⟨σ2, q2, hS2, hF2⟩ := aNode_ok hT.b0 hT.b1 hS1
  have hcl2 := hF2.clk
  have b22 := (hF2.bs (2, c) (by simp only; omega) (fun e => nk 2 e.symm)).trans b21
  have b32 := (hF2.bs (3, c + 1) (by simp only; omega) (fun e => nk1 3 e.symm)).trans b31
  rw [hx0] at q1
  rw [hy0] at q2
  obtain ⟨σ3, hσ3⟩ : ∃ σ3, σ3 = (σ2.put (2, c) (.var ((encN x).map .p))).put (3, c + 1) (.var ((encN y).map .p)) := ⟨_, rfl⟩
  have hS3 : SG ks n pl a b σ3 := by rw [hσ3]; exact (hS2.put (nk 2) _).put (nk1 3) _
  have hF3 : Fr ks σ σ3 := by rw [hσ3]; exact (((hF0.trans hF1).trans hF2).put (.inr (by simp only; omega)) _).put (.inr (by simp only; omega)) _
  have b23 : σ3.bs (2, c) = some (.var ((encN x).map .p)) := by rw [hσ3]; simp [put_bs]
  have b33 : σ3.bs (3, c + 1) = some (.var ((encN y).map .p)) := by rw [hσ3]; simp [put_bs]
  have hcl3 : σ3.clk = σ2.clk := by rw [hσ3]; rfl
  obtain ⟨y', hy'⟩ : ∃ y' : Nd, ({ y with lv := pl.lv } : Nd) = y' := ⟨_, rfl⟩
  have hyo : y'.Ok := by rw [← hy']; exact ⟨hy.k, hwl, hy.n, hy.s, hy.al, hy.to, hy.ap, hy.tp⟩
  obtain ⟨σ4, hσ4⟩ : ∃ σ4, σ4 = σ3.put (3, c + 1) (.var ((encN y').map .p)) := ⟨_, rfl⟩
  have hS4 : SG ks n pl a b σ4 := by rw [hσ4]; exact hS3.put (nk1 3) _
  have hF4 : Fr ks σ σ4 := by rw [hσ4]; exact hF3.put (.inr (by simp only; omega)) _
  have b24 : σ4.bs (2, c) = some (.var ((encN x).map .p)) := by rw [hσ4]; simp only [put_bs]; rw [if_neg (by simp)]; exact b23
  have b34 : σ4.bs (3, c + 1) = some (.var ((encN y').map .p)) := by rw [hσ4]; simp [put_bs]
  have hcl4 : σ4.clk = σ2.clk := by rw [hσ4]; exact hcl3
  obtain ⟨ma, hma⟩ : ∃ m, x.to.length - 1 = m := ⟨_, rfl⟩
  obtain ⟨mb, hmb⟩ : ∃ m, y.to.length - 1 = m := ⟨_, rfl⟩
  obtain ⟨σ5, v4, q5, hS5, hF5, hL5⟩ := aLike_ok (x := y') (m := ma) hn hyo (NC.p _) (NC.p _) (by omega) hS4
  obtain ⟨hT1, ea, eb⟩ := hT.like hyo ma (by omega)
  have wcs := likeR_wf hn hyo ma (by omega)
  have lcs := (likeR_Ok hn hyo ma (by omega)).2.2
  have hD : passD n pl.lv a b = runs (runs (likeR (likeR n y' ma).1 x mb).1 (dropOps (portsR a 1 x.to.length) (likeR n y' ma).2)) (passOps b (likeR n y' ma).2 0 (likeR (likeR n y' ma).1 x mb).2) := by
    unfold passD; simp only [hx0, hy0, hy', hma]
    rw [hmb]
  obtain ⟨⟨m1, cs⟩, hr⟩ : ∃ r, likeR n y' ma = r := ⟨_, rfl⟩
  rw [hr] at hS5 hL5 hT1 ea eb hD wcs lcs
  simp only at hS5 hL5 hT1 ea eb hD wcs lcs
  have hbg1 := hT1.big
  have b25 := (hF5.bs (2, c) (by simp only; omega) (fun e => nk 2 e.symm)).trans b24
  have b35 := (hF5.bs (3, c + 1) (by simp only; omega) (fun e => nk1 3 e.symm)).trans b34
  obtain ⟨σ6, v5, q6, hS6, hF6, hL6⟩ := aLike_ok (x := x) (m := mb) hT1.ok hx (NC.p _) (NC.p _) (by omega) hS5
  have wds := likeR_wf hT1.ok hx mb (by omega)
  obtain ⟨hOk6, _, lds⟩ := likeR_Ok hT1.ok hx mb (by omega)
  obtain ⟨⟨m2, ds⟩, hr2⟩ : ∃ r, likeR m1 x mb = r := ⟨_, rfl⟩
  rw [hr2] at hS6 hL6 hD wds lds hOk6
  simp only at hS6 hL6 hD wds lds hOk6
  have hL56 := hL5.fr hS5 hF6
  have hF06 := (hF4.trans hF5).trans hF6
  have hwa : IntKind.i64.wrap ((x.to.length : Int) - 1) = ((ma : Nat) : Int) := by rw [wrap_in _ (by omega)]; omega
  have hwb : IntKind.i64.wrap ((y'.to.length : Int) - 1) = ((mb : Nat) : Int) := by
    have : y'.to.length = y.to.length := by rw [← hy']
    rw [this, wrap_in _ (by omega)]; omega
  have u0 := hS0.bs
  have u1 := hS1.bs
  have u3 := hS3.bs
  simp only [stg, List.map_cons, List.map_nil] at s0 u0 u1 u3
  have ey : encN y' = [.i .i64 y.k, .i .i64 pl.lv, .i .i64 y.n, .s y.s, .l (y.al.map encA), .l (y.to.map encP)] := by rw [← hy']; rfl
  have ez : [AV.p (.i .i64 y'.k), .p (.i .i64 y'.lv), .p (.i .i64 y'.n), .p (.s y'.s), .p (.l (y'.al.map encA)), .p (.l (y'.to.map encP))] = (encN y').map .p := rfl
  rw [ez, ey] at q5
  rw [ey] at hσ4 b34 b35
  have hyt : y'.to.length = y.to.length := by rw [← hy']
  rw [hyt] at hwb
  simp only [encN, List.map_cons, List.map_nil] at q1 q2 q5 q6 hσ3 b23 b33 hσ4 b24 b34 b25 b35
  obtain ⟨Z, hZ⟩ : ∃ Z : C, (.seq (.reg [
  ia 63 (.mv (.t 5)), ia 64 (.len false (.t 63)), ia 65 (.mv (ci 0))]) (.block 2 (.loop F56b1))) = Z := ⟨_, rfl⟩
  have rest : ∀ (e : Env) (m3 : Nt) (σ7 : St), m3.Ok → passD n pl.lv a b = runs m3 (passOps b cs 0 ds) → e 0 = .a (.ptr ks 0 0) → e 4 = .a v4 → e 5 = .a v5 → SG ks m3 pl a b σ7 → Fr ks σ6 σ7 →
      wp S false Z e σ7 (RetS [] fun v σ' => v = .u ∧ SG ks (passD n pl.lv a b) pl a b σ' ∧ Fr ks σ σ') := by
    intro e m3 σ7 hm3 hD3 e0 e4 e5 hS7 hF7
    rw [← hZ]
    have hC7 := hL56.fr hS6 hF7
    have hL7 := hL6.fr hS6 hF7
    have hop : v5 = .nil ∧ ds.length = 0 ∨ ∃ r : Key, v5 = .own r 0 ds.length := by
      rcases hL6.open1 with ⟨e1, e2⟩ | ⟨r, e1, _, _⟩
      · exact .inl ⟨e1, by rw [e2]; rfl⟩
      · exact .inr ⟨r, e1⟩
    rcases hop with ⟨rfl, hd0⟩ | ⟨r, rfl⟩
    all_goals
      simp only [e0, e4, e5, fxa, fxc, fxE, fxL, fxI, nxE, evO, evR, cellsT, ldCells, mkT, lenA, binPV, Env.init, resV, resT, frT, klT, ownT, intT, O.adds, ownA, rowsA, over, wrOk, keysT, keysA, ne_eq, if_true, if_false, ite_self, Nat.reduceLT, Nat.reduceSub, Nat.reduceBEq, Nat.reduceEqDiff, Nat.reduceAdd, Nat.reduceLeDiff, reduceCtorEq, Nat.reduceMul]
      refine Go.Fx.wp_mono (passLoop1 (n := n) hT hm3 hS7 hC7 hL7 wcs wds (by omega) (by omega) _ ?_ ?_ ?_ ?_ ?_) ?_
      all_goals first
        | (simp only [e0, e4, fxa, fxc, fxE, fxL, fxI, nxE, evO, evR, cellsT, ldCells, mkT, lenA, binPV, Env.init, resV, resT, frT, klT, ownT, intT, O.adds, ownA, rowsA, over, wrOk, keysT, keysA, ne_eq, if_true, if_false, ite_self, Nat.reduceLT, Nat.reduceSub, Nat.reduceBEq, Nat.reduceEqDiff, Nat.reduceAdd, Nat.reduceLeDiff, reduceCtorEq, Nat.reduceMul]; done)
        | (simp only [hd0, fxa, fxc, fxE, fxL, fxI, nxE, evO, evR, cellsT, ldCells, mkT, lenA, binPV, Env.init, resV, resT, frT, klT, ownT, intT, O.adds, ownA, rowsA, over, wrOk, keysT, keysA, ne_eq, if_true, if_false, ite_self, Nat.reduceLT, Nat.reduceSub, Nat.reduceBEq, Nat.reduceEqDiff, Nat.reduceAdd, Nat.reduceLeDiff, reduceCtorEq, Nat.reduceMul]; done)
        | skip
      rintro x e' σ8 ⟨rfl, hS8, hF8⟩
      simp only [fxa, fxc, fxE, fxL, fxI, nxE, evO, evR, cellsT, ldCells, mkT, lenA, binPV, Env.init, resV, resT, frT, klT, ownT, intT, O.adds, ownA, rowsA, over, wrOk, keysT, keysA, ne_eq, if_true, if_false, ite_self, Nat.reduceLT, Nat.reduceSub, Nat.reduceBEq, Nat.reduceEqDiff, Nat.reduceAdd, Nat.reduceLeDiff, reduceCtorEq, Nat.reduceMul]
      exact ⟨by rw [hD3]; exact hS8, hF06.trans (hF7.trans hF8)⟩
  have hop : v4 = .nil ∧ cs.length = 0 ∨ ∃ r : Key, v4 = .own r 0 cs.length := by
    rcases hL5.open1 with ⟨e1, e2⟩ | ⟨r, e1, _, _⟩
    · exact .inl ⟨e1, by rw [e2]; rfl⟩
    · exact .inr ⟨r, e1⟩
  refine x_fnR (fc := F56) rfl rfl ?_
  rcases hop with ⟨rfl, hc0⟩ | ⟨q, rfl⟩
  all_goals
    simp only [F56, hc, s0, u0, u1, u3, ← hσ0, ← hσ3, ← hσ4, b2, b21, b22, b3, b31, b32, b23, b33, b24, b34, b25, b35, q1, q2, q5, q6, hwa, hwb, List.length_map, evI_cl, clOk, ldKeeps, ldKeeps1, iasKeeps, rowK, nwKeeps, sameC, sameL, sameA, sameP, decide_true, frA_ptr, capsOf, fxa, fxc, fxE, fxL, fxI, nxE, evO, evR, cellsT, ldCells, mkT, lenA, binPV, Env.init, resV, resT, frT, klT, ownT, intT, O.adds, ownA, rowsA, over, wrOk, keysT, keysA, ne_eq, if_true, if_false, ite_self, Nat.reduceLT, Nat.reduceSub, Nat.reduceBEq, Nat.reduceEqDiff, Nat.reduceAdd, Nat.reduceLeDiff, reduceCtorEq, Nat.reduceMul]
    refine Go.Fx.wp_mono (passLoop0 (n := n) hT hOk6 hS6 hL56 wcs (by omega) _ ?_ ?_ ?_ ?_) ?_
    all_goals first
      | (simp only [fxa, fxc, fxE, fxL, fxI, nxE, evO, evR, cellsT, ldCells, mkT, lenA, binPV, Env.init, resV, resT, frT, klT, ownT, intT, O.adds, ownA, rowsA, over, wrOk, keysT, keysA, ne_eq, if_true, if_false, ite_self, Nat.reduceLT, Nat.reduceSub, Nat.reduceBEq, Nat.reduceEqDiff, Nat.reduceAdd, Nat.reduceLeDiff, reduceCtorEq, Nat.reduceMul]; done)
      | (simp only [hc0, fxa, fxc, fxE, fxL, fxI, nxE, evO, evR, cellsT, ldCells, mkT, lenA, binPV, Env.init, resV, resT, frT, klT, ownT, intT, O.adds, ownA, rowsA, over, wrOk, keysT, keysA, ne_eq, if_true, if_false, ite_self, Nat.reduceLT, Nat.reduceSub, Nat.reduceBEq, Nat.reduceEqDiff, Nat.reduceAdd, Nat.reduceLeDiff, reduceCtorEq, Nat.reduceMul]; done)
      | skip
    rintro z e' σ7 ⟨rfl, g0, g4, g5, hS7, hF7, hm7⟩
    simp only [fxa, fxc, fxE, fxL, fxI, nxE, evO, evR, cellsT, ldCells, mkT, lenA, binPV, Env.init, resV, resT, frT, klT, ownT, intT, O.adds, ownA, rowsA, over, wrOk, keysT, keysA, ne_eq, if_true, if_false, ite_self, Nat.reduceLT, Nat.reduceSub, Nat.reduceBEq, Nat.reduceEqDiff, Nat.reduceAdd, Nat.reduceLeDiff, reduceCtorEq, Nat.reduceMul] at g0 g4 g5
    simp only [blkQ_exit, if_true, seqQ_norm, hZ]
    refine rest e' _ σ7 hm7 ?_ g0 g4 g5 hS7 hF7
    rw [hD, lcs, show ma + 1 = x.to.length by omega]
end Go.Proofs.YtomcceambpneiaaGreat
end
section
set_option linter.unusedSimpArgs false
set_option linter.unusedVariables false
set_option maxHeartbeats 4000000
namespace Go.Proofs.YtomcceambpneiaaGreat
open Go.Fx
structure Semi (n : Nt) (X : Pt → Prop) : Prop where
  cap1 : 1 ≤ n.cap
  cap2 : n.cap ≤ 4000
  ln1 : 1 ≤ (n.ns.length : Int)
  ln2 : (n.ns.length : Int) ≤ n.cap
  last : (n.nd (n.ns.length - 1)).k ≠ 0
  nds : ∀ (i : Nat) (x : Nd), n.ns[i]? = some x → x.may ∧ (x.to.length : Int) = x.ports ∧ ((i : Int) = 0 ↔ x.k = 1)
  xs : ∀ p, X p → n.has p = true
  ln : ∀ p, n.has p = true → ¬ X p → n.lk p ≠ p ∧ n.has (n.lk p) = true ∧ ¬ X (n.lk p) ∧ n.lk (n.lk p) = p
theorem Semi.iff {n : Nt} {X Y : Pt → Prop} (h : Semi n X) (e : ∀ p, X p ↔ Y p) : Semi n Y := by
  have : X = Y := funext fun p => propext (e p)
  exact this ▸ h
theorem Nt.Good.semi {n : Nt} (h : n.Good) : Semi n fun _ => False :=
  ⟨h.cap1, h.cap2, h.ln1, h.ln2, h.last, fun i x hx => ⟨(h.nds i x hx).1, (h.nds i x hx).2.1, (h.nds i x hx).2.2.1⟩, fun _ h => h.elim, fun p hp _ => by
    obtain ⟨h1, h2, h3⟩ := good_link h hp
    exact ⟨h1, h2, id, h3⟩⟩
theorem Semi.good {n : Nt} (h : Semi n fun _ => False) : n.Good :=
  ⟨h.cap1, h.cap2, h.ln1, h.ln2, h.last, fun i x hx => ⟨(h.nds i x hx).1, (h.nds i x hx).2.1, (h.nds i x hx).2.2, fun j q hq => by
    have hj := (List.getElem?_eq_some_iff.1 hq).1
    obtain ⟨h1, h2, _, h3⟩ := h.ln ⟨i, j⟩ (has_get hx hj) id
    rw [lk_get hx hq] at h1 h2 h3
    exact ⟨h1, h2, h3⟩⟩⟩
theorem may_to {x : Nd} {t : List Pt} (h : x.may) (ht : t.length = x.to.length) : ({ x with to := t } : Nd).may :=
  ⟨h.k0, h.k1, h.lv0, h.lv1, h.lv2, h.nm, h.nn, by simp only [ht]; exact h.to8, h.al9, h.aln, h.al8, h.alt⟩
theorem ports_to {x : Nd} {t : List Pt} (ht : t.length = x.to.length) : ({ x with to := t } : Nd).ports = x.ports := by unfold Nd.ports; simp only [ht]
theorem Shp.get {n m : Nt} (h : Shp n m) {i : Nat} {y : Nd} (hy : m.ns[i]? = some y) : ∃ x, n.ns[i]? = some x ∧ y = { x with to := y.to } ∧ y.to.length = x.to.length := by
  have hl := (List.getElem?_eq_some_iff.1 hy).1
  obtain ⟨x, hx⟩ : ∃ x, n.ns[i]? = some x := ⟨_, List.getElem?_eq_getElem (by rw [h.1]; exact hl)⟩
  have h1 := h.2.2 (i : Int) (by omega)
  rw [nd_get hx, nd_get hy] at h1
  obtain ⟨xk, xl, xn, x0, xa, x1⟩ := x
  obtain ⟨yk, yl, yn, y0, ya, y1⟩ := y
  simp only at h1
  obtain ⟨a1, a2, a3, a4, a5, a6⟩ := h1
  subst a1 a2 a3 a4 a5
  exact ⟨_, hx, rfl, a6⟩
theorem Shp.get' {n m : Nt} (h : Shp n m) {i : Nat} {x : Nd} (hx : n.ns[i]? = some x) : ∃ y, m.ns[i]? = some y ∧ y = { x with to := y.to } ∧ y.to.length = x.to.length := by
  have hl := (List.getElem?_eq_some_iff.1 hx).1
  obtain ⟨y, hy⟩ : ∃ y, m.ns[i]? = some y := ⟨_, List.getElem?_eq_getElem (by rw [← h.1]; exact hl)⟩
  obtain ⟨x', hx', h1, h2⟩ := h.get hy
  rw [hx] at hx'
  obtain rfl := Option.some.inj hx'
  exact ⟨y, hy, h1, h2⟩
theorem Shp.used {n m : Nt} (h : Shp n m) : m.used = n.used := by
  have key : ∀ (l l' : List Nd), l.length = l'.length → (∀ (i : Nat) (x y : Nd), l[i]? = some x → l'[i]? = some y → y.k = x.k) → usedL l' = usedL l := by
    intro l
    induction l with
    | nil => intro l' hl _; rw [List.eq_nil_of_length_eq_zero hl.symm]
    | cons x l ih =>
      intro l' hl hk
      cases l' with
      | nil => simp at hl
      | cons y l' =>
        rw [usedL_cons, usedL_cons, ih l' (by simpa using hl) (fun i a b ha hb => hk (i + 1) a b (by simpa using ha) (by simpa using hb)), hk 0 x y rfl rfl]
  refine key _ _ h.1 fun i x y hx hy => ?_
  obtain ⟨x', hx', h1, _⟩ := h.get hy
  rw [hx] at hx'
  obtain rfl := Option.some.inj hx'
  rw [h1]
theorem Shp.semi {n m : Nt} (h : Shp n m) {X Y : Pt → Prop} (hn : Semi n X) (hY : ∀ p, Y p → n.has p = true)
    (hl : ∀ p, n.has p = true → ¬ Y p → m.lk p ≠ p ∧ n.has (m.lk p) = true ∧ ¬ Y (m.lk p) ∧ m.lk (m.lk p) = p) : Semi m Y := by
  have hc := h.2.1
  have hlen := h.1
  have hl1 := hn.ln1
  refine ⟨hc ▸ hn.cap1, hc ▸ hn.cap2, hlen ▸ hn.ln1, by rw [← hc, ← hlen]; exact hn.ln2, ?_, fun i y hy => ?_, fun p hp => by rw [h.has]; exact hY p hp, fun p hp hy => ?_⟩
  · rw [← hlen, (h.2.2 _ (by omega)).1]; exact hn.last
  · obtain ⟨x, hx, h1, h2⟩ := h.get hy
    obtain ⟨g1, g2, g3⟩ := hn.nds i x hx
    refine ⟨by rw [h1]; exact may_to g1 h2, ?_, by rw [h1]; exact g3⟩
    rw [h2, g2, h1]
    exact (ports_to (x := x) h2).symm
  · rw [h.has] at hp
    obtain ⟨h1, h2, h3, h4⟩ := hl p hp hy
    exact ⟨h1, by rw [h.has]; exact h2, h3, h4⟩
theorem Semi.link {n : Nt} {X : Pt → Prop} (h : Semi n X) {p q : Pt} (hp : X p) (hq : X q) (hne : p ≠ q) : linkR n p q = (n.ln p q, 0) ∧ Semi (n.ln p q) fun r => X r ∧ r ≠ p ∧ r ≠ q := by
  have hp1 := h.xs p hp
  have hq1 := h.xs q hq
  refine ⟨linkR_ok hp1 hq1 hne, (ln_shp hp1 hq1).semi h (fun r hr => h.xs r hr.1) fun r hr hX => ?_⟩
  have hpl : (n.ln p q).lk p = q := by rw [ln_lk hp1 hq1 hp1, if_neg hne, if_pos rfl]
  have hql : (n.ln p q).lk q = p := by rw [ln_lk hp1 hq1 hq1, if_pos rfl]
  by_cases e1 : r = p
  · subst e1; rw [hpl, hql]; exact ⟨Ne.symm hne, hq1, fun k => k.2.2 rfl, rfl⟩
  by_cases e2 : r = q
  · subst e2; rw [hql, hpl]; exact ⟨hne, hp1, fun k => k.2.1 rfl, rfl⟩
  have hX' : ¬ X r := fun k => hX ⟨k, e1, e2⟩
  obtain ⟨h1, h2, h3, h4⟩ := h.ln r hr hX'
  have e : (n.ln p q).lk r = n.lk r := by rw [ln_lk hp1 hq1 hr, if_neg e2, if_neg e1]
  rw [e]
  refine ⟨h1, h2, fun k => h3 k.1, ?_⟩
  rw [ln_lk hp1 hq1 h2, if_neg (fun k : n.lk r = q => h3 (k ▸ hq)), if_neg (fun k : n.lk r = p => h3 (k ▸ hp)), h4]
theorem Semi.inj {n : Nt} {X : Pt → Prop} (h : Semi n X) {p q : Pt} (hp : n.has p = true) (hq : n.has q = true) (hp' : ¬ X p) (hq' : ¬ X q) (e : n.lk p = n.lk q) : p = q := by
  rw [← (h.ln p hp hp').2.2.2, ← (h.ln q hq hq').2.2.2, e]
theorem Semi.move {n : Nt} {X : Pt → Prop} (h : Semi n X) {p q : Pt} (hp1 : n.has p = true) (hp : ¬ X p) (hq : X q) : moveR n p q = (n.ln q (n.lk p), 0) ∧ Semi (n.ln q (n.lk p)) fun r => X r ∧ r ≠ q ∨ r = p := by
  have hq1 := h.xs q hq
  obtain ⟨k1, k2, k3, k4⟩ := h.ln p hp1 hp
  have hpq : p ≠ q := fun e => hp (e ▸ hq)
  have hne : n.lk p ≠ q := fun e => k3 (e ▸ hq)
  refine ⟨?_, (ln_shp hq1 k2).semi h (fun r hr => hr.elim (fun k => h.xs r k.1) (fun e => e ▸ hp1)) fun r hr hX => ?_⟩
  · unfold moveR
    rw [if_pos (by simp [hp1, hq1, hpq, k2]), if_neg hne]
    exact linkR_ok hq1 k2 (Ne.symm hne)
  have hql : (n.ln q (n.lk p)).lk q = n.lk p := by rw [ln_lk hq1 k2 hq1, if_neg (Ne.symm hne), if_pos rfl]
  have hpl : (n.ln q (n.lk p)).lk (n.lk p) = q := by rw [ln_lk hq1 k2 k2, if_pos rfl]
  by_cases e1 : r = q
  · subst e1; rw [hql, hpl]; exact ⟨hne, k2, fun k => k.elim (fun k => k3 k.1) k1, rfl⟩
  by_cases e2 : r = n.lk p
  · subst e2; rw [hpl, hql]; exact ⟨Ne.symm hne, hq1, fun k => k.elim (fun k => k.2 rfl) (Ne.symm hpq), rfl⟩
  have hX' : ¬ X r := fun k => hX (.inl ⟨k, e1⟩)
  have hrp : r ≠ p := fun k => hX (.inr k)
  obtain ⟨h1, h2, h3, h4⟩ := h.ln r hr hX'
  have e : (n.ln q (n.lk p)).lk r = n.lk r := by rw [ln_lk hq1 k2 hr, if_neg e2, if_neg e1]
  rw [e]
  refine ⟨h1, h2, fun k => k.elim (fun k => h3 k.1) (fun k => e2 (by rw [← k, h4])), ?_⟩
  rw [ln_lk hq1 k2 h2, if_neg (fun k => hrp (h.inj hr hp1 hX' hp k)), if_neg (fun k : n.lk r = q => h3 (k ▸ hq)), h4]
theorem Semi.join {n : Nt} {X : Pt → Prop} (h : Semi n X) {p q : Pt} (hp1 : n.has p = true) (hp : ¬ X p) (hq1 : n.has q = true) (hq : ¬ X q) (hpq : p ≠ q) :
    joinR n p q = (if n.lk p = q then n else n.ln (n.lk p) (n.lk q), 0) ∧ Semi (if n.lk p = q then n else n.ln (n.lk p) (n.lk q)) fun r => X r ∨ r = p ∨ r = q := by
  obtain ⟨k1, k2, k3, k4⟩ := h.ln p hp1 hp
  obtain ⟨j1, j2, j3, j4⟩ := h.ln q hq1 hq
  have hxs : ∀ r, (X r ∨ r = p ∨ r = q) → n.has r = true := fun r hr => by
    rcases hr with hr | rfl | rfl
    · exact h.xs r hr
    · exact hp1
    · exact hq1
  by_cases e : n.lk p = q
  · rw [if_pos e]
    refine ⟨?_, (Shp.refl n).semi h hxs fun r hr hX => ?_⟩
    · unfold joinR; rw [if_pos (by simp [hp1, hq1, hpq, k2, j2]), if_pos e]
    · obtain ⟨h1, h2, h3, h4⟩ := h.ln r hr fun k => hX (.inl k)
      refine ⟨h1, h2, fun k => ?_, h4⟩
      rcases k with k | k | k
      · exact h3 k
      · exact hX (.inr (.inr (by rw [← h4, k, e])))
      · exact hX (.inr (.inl (by rw [← h4, k, ← e, k4])))
  · rw [if_neg e]
    have hne : n.lk p ≠ n.lk q := fun k => hpq (h.inj hp1 hq1 hp hq k)
    refine ⟨?_, (ln_shp k2 j2).semi h hxs fun r hr hX => ?_⟩
    · unfold joinR
      rw [if_pos (by simp [hp1, hq1, hpq, k2, j2]), if_neg e]
      exact linkR_ok k2 j2 hne
    have hpl : (n.ln (n.lk p) (n.lk q)).lk (n.lk p) = n.lk q := by rw [ln_lk k2 j2 k2, if_neg hne, if_pos rfl]
    have hql : (n.ln (n.lk p) (n.lk q)).lk (n.lk q) = n.lk p := by rw [ln_lk k2 j2 j2, if_pos rfl]
    have e' : n.lk q ≠ p := fun k => e (by rw [← k, j4])
    by_cases e1 : r = n.lk p
    · subst e1; rw [hpl, hql]; exact ⟨Ne.symm hne, j2, fun k => k.elim j3 fun k => k.elim e' j1, rfl⟩
    by_cases e2 : r = n.lk q
    · subst e2; rw [hql, hpl]; exact ⟨hne, k2, fun k => k.elim k3 fun k => k.elim k1 e, rfl⟩
    have hX' : ¬ X r := fun k => hX (.inl k)
    have hrp : r ≠ p := fun k => hX (.inr (.inl k))
    have hrq : r ≠ q := fun k => hX (.inr (.inr k))
    obtain ⟨h1, h2, h3, h4⟩ := h.ln r hr hX'
    have el : (n.ln (n.lk p) (n.lk q)).lk r = n.lk r := by rw [ln_lk k2 j2 hr, if_neg e2, if_neg e1]
    rw [el]
    refine ⟨h1, h2, fun k => k.elim h3 fun k => k.elim (fun k => e1 (by rw [← k, h4])) (fun k => e2 (by rw [← k, h4])), ?_⟩
    rw [ln_lk k2 j2 h2, if_neg (fun k => hrq (h.inj hr hq1 hX' hq k)), if_neg (fun k => hrp (h.inj hr hp1 hX' hp k)), h4]
theorem semi_big {n : Nt} {X : Pt → Prop} (h : Semi n X) : n.ns.length ≤ 4000 := by
  have := h.ln2; have := h.cap2; omega
theorem semi_root {n : Nt} {X : Pt → Prop} (h : Semi n X) : ∃ y, n.ns[0]? = some y ∧ y.k = 1 := by
  have := h.ln1
  obtain ⟨y, hy⟩ : ∃ y, n.ns[0]? = some y := ⟨_, List.getElem?_eq_getElem (by omega)⟩
  exact ⟨y, hy, (h.nds 0 y hy).2.2.1 (by simp)⟩
theorem semi_zN {n : Nt} {X : Pt → Prop} (h : Semi n X) {i : Nat} {x : Nd} (hx : n.ns[i]? = some x) (hk : x.k = 0) : x = zN := free_zN (h.nds i x hx).1 (h.nds i x hx).2.1 hk
theorem semi_k {n : Nt} {X : Pt → Prop} (h : Semi n X) {p : Pt} (hp : n.has p = true) : (n.nd p.n).k ≠ 0 := by
  intro hk
  have h1 := has_iff.1 hp
  have := semi_zN h (get_nd h1.1 h1.2.1) hk
  rw [this] at h1; simp [zN] at h1; omega
structure MadeS (n : Nt) (x : Nd) (a : Nt) (t : Nat) : Prop where
  one : 1 ≤ t
  le : t ≤ n.ns.length
  was : ∀ y, n.ns[t]? = some y → y.k = 0
  now : a.ns[t]? = some x.fresh
  cap : a.cap = n.cap
  rest : ∀ i : Nat, i ≠ t → a.ns[i]? = n.ns[i]?
  len : a.ns.length = n.ns.length ∧ t < n.ns.length ∨ a.ns.length = n.ns.length + 1 ∧ t = n.ns.length ∧ n.used = n.ns.length
theorem used_all {l : List Nd} (h : ∀ x ∈ l, isFree x = false) : usedL l = l.length := by
  induction l with
  | nil => rfl
  | cons x l ih =>
    rw [usedL_cons, ih fun y hy => h y (by simp [hy])]
    have := h x (by simp)
    simp only [isFree, decide_eq_false_iff_not] at this
    rw [if_neg this]; simp only [List.length_cons]; omega
theorem madeS {n : Nt} {X : Pt → Prop} (h : Semi n X) (x : Nd) : MadeS n x (n.make x) n.at := by
  obtain ⟨r, hr, hr1⟩ := semi_root h
  have hl := h.ln1
  cases hf : n.ns.findIdx? isFree with
  | some i =>
    obtain ⟨hi, hfi, hbef⟩ := List.findIdx?_eq_some_iff_getElem.1 hf
    have e1 : n.at = i := by unfold Nt.at; rw [hf]
    have e2 : n.make x = ⟨n.ns.set i x.fresh, n.cap⟩ := by unfold Nt.make; rw [hf]
    have hy : n.ns[i]? = some n.ns[i] := List.getElem?_eq_getElem hi
    have hyk : (n.ns[i]).k = 0 := by simpa [isFree] using hfi
    rw [e1, e2]
    refine ⟨?_, by omega, fun y h => ?_, by simp [List.getElem?_set, hi], rfl, fun j hj => List.getElem?_set_ne (Ne.symm hj), .inl ⟨by simp, hi⟩⟩
    · rcases Nat.eq_zero_or_pos i with rfl | h
      · rw [hr] at hy; simp only [Option.some.injEq] at hy; rw [← hy, hr1] at hyk; omega
      · exact h
    · rw [hy] at h; rw [← Option.some.inj h]; exact hyk
  | none =>
    have hnone := List.findIdx?_eq_none_iff.1 hf
    have e1 : n.at = n.ns.length := by unfold Nt.at; rw [hf]
    have e2 : n.make x = ⟨n.ns ++ [x.fresh], n.cap⟩ := by unfold Nt.make; rw [hf]
    rw [e1, e2]
    refine ⟨by omega, Nat.le_refl _, fun y h => ?_, by simp, rfl, fun j hj => ?_, .inr ⟨by simp, rfl, used_all fun y hy => by simpa using hnone y hy⟩⟩
    · rw [List.getElem?_eq_none (Nat.le_refl _)] at h; cases h
    · by_cases hjl : j < n.ns.length
      · exact List.getElem?_append_left hjl
      · rw [List.getElem?_append_right (by omega), List.getElem?_eq_none (l := n.ns) (by omega), List.getElem?_eq_none]; simp; omega
theorem MadeS.nd {n a : Nt} {x : Nd} {t : Nat} (h : MadeS n x a t) {i : Int} (h0 : 0 ≤ i) (hi : i ≠ t) : a.nd i = n.nd i := by
  unfold Nt.nd; rw [List.getD_eq_getElem?_getD, List.getD_eq_getElem?_getD, h.rest i.toNat (by omega)]
theorem MadeS.nd_now {n a : Nt} {x : Nd} {t : Nat} (h : MadeS n x a t) : a.nd t = x.fresh := nd_get h.now
theorem MadeS.lt {n a : Nt} {x : Nd} {t : Nat} (h : MadeS n x a t) : t < a.ns.length := (List.getElem?_eq_some_iff.1 h.now).1
theorem fresh_len {x : Nd} (hx : x.Ok) : (x.fresh.to.length : Int) = x.ports := by
  have hp := ports_b hx
  simp only [Nd.fresh, List.length_replicate]; omega
theorem MadeS.has {n a : Nt} {x : Nd} {t : Nat} (h : MadeS n x a t) (hx : x.Ok) {X : Pt → Prop} (hs : Semi n X) (p : Pt) : a.has p = true ↔ n.has p = true ∨ p.n = t ∧ 0 ≤ p.s ∧ p.s < x.ports := by
  have hlt := h.lt
  have hfl := fresh_len hx
  by_cases e : p.n = t
  · constructor
    · intro k
      have k1 := has_iff.1 k
      rw [e, h.nd_now, hfl] at k1
      exact .inr ⟨e, k1.2.2.1, k1.2.2.2⟩
    · rintro (k | k)
      · exfalso
        have k1 := has_iff.1 k
        have := h.was _ (by have := get_nd (n := n) k1.1 k1.2.1; rw [e] at this; simpa using this)
        have hk := semi_k hs k
        rw [e] at hk; exact hk this
      · rw [has_iff, e, h.nd_now, hfl]; exact ⟨by omega, by omega, k.2.1, k.2.2⟩
  · rw [has_iff, has_iff]
    constructor
    · rintro ⟨k1, k2, k3, k4⟩
      rw [h.nd k1 e] at k4
      refine .inl ⟨k1, ?_, k3, k4⟩
      rcases h.len with ⟨l1, _⟩ | ⟨l1, l2, _⟩ <;> omega
    · rintro (⟨k1, k2, k3, k4⟩ | k)
      · rw [h.nd k1 e]
        refine ⟨k1, ?_, k3, k4⟩
        rcases h.len with ⟨l1, _⟩ | ⟨l1, l2, _⟩ <;> omega
      · exact absurd k.1 e
theorem MadeS.lk {n a : Nt} {x : Nd} {t : Nat} (h : MadeS n x a t) {X : Pt → Prop} (hs : Semi n X) {p : Pt} (hp : n.has p = true) : p.n ≠ t ∧ a.lk p = n.lk p := by
  have k1 := has_iff.1 hp
  have e : p.n ≠ t := fun e => by
    have := h.was _ (by have := get_nd (n := n) k1.1 k1.2.1; rw [e] at this; simpa using this)
    have hk := semi_k hs hp
    rw [e] at hk; exact hk this
  exact ⟨e, by unfold Nt.lk; rw [h.nd k1.1 e]⟩
theorem fresh_may {x : Nd} (hx : x.Ok) (h : x.may) : x.fresh.may := by
  refine ⟨h.k0, h.k1, h.lv0, h.lv1, h.lv2, h.nm, h.nn, fun h8 => ?_, h.al9, h.aln, h.al8, h.alt⟩
  have h8' : x.k = 8 := h8
  have hp : x.ports = x.to.length := by unfold Nd.ports; rw [h8']; simp
  rw [fresh_len hx, hp]; exact h.to8 h8'
theorem Semi.make {n : Nt} {X : Pt → Prop} (h : Semi n X) {x : Nd} (hx : x.Ok) (hm : x.may) (hk0 : x.k ≠ 0) (hk1 : x.k ≠ 1) (hu : n.used < n.cap) :
    makeR n x = (n.make x, (n.at : Int), 0) ∧ Semi (n.make x) fun r => X r ∨ r.n = n.at ∧ 0 ≤ r.s ∧ r.s < x.ports := by
  have hM := madeS h x
  obtain ⟨t, ht⟩ : ∃ t, n.at = t := ⟨_, rfl⟩
  obtain ⟨a, ha⟩ : ∃ a, n.make x = a := ⟨_, rfl⟩
  rw [ht, ha] at hM
  refine ⟨?_, ?_⟩
  · unfold makeR
    rw [bool_t hm, if_neg (by simp [hk0, hk1]), if_neg (by omega)]
  rw [ht, ha]
  have hl1 := h.ln1
  refine ⟨hM.cap ▸ h.cap1, hM.cap ▸ h.cap2, ?_, ?_, ?_, fun i y hy => ?_, fun p hp => (hM.has hx h p).2 (hp.imp (h.xs p) id), fun p hp hX => ?_⟩
  · rcases hM.len with ⟨l1, _⟩ | ⟨l1, _⟩ <;> omega
  · have := h.ln2
    rw [hM.cap]
    rcases hM.len with ⟨l1, _⟩ | ⟨l1, _, l3⟩ <;> omega
  · rcases hM.len with ⟨l1, l2⟩ | ⟨l1, l2, _⟩
    · rw [l1, hM.nd (by omega) ?_]
      · exact h.last
      · intro e
        have := h.last
        rw [e] at this
        obtain ⟨y, hy⟩ : ∃ y, n.ns[t]? = some y := ⟨_, List.getElem?_eq_getElem l2⟩
        rw [nd_get hy] at this
        exact this (hM.was y hy)
    · rw [l1, show ((n.ns.length + 1 : Nat) : Int) - 1 = ((t : Nat) : Int) by omega, hM.nd_now]; exact hk0
  · by_cases e : i = t
    · subst e
      rw [hM.now] at hy
      obtain rfl := Option.some.inj hy
      have h1 := hM.one
      refine ⟨fresh_may hx hm, by rw [fresh_len hx, fresh_ports hx], ?_⟩
      constructor
      · intro e; omega
      · intro e; exact absurd e hk1
    · rw [hM.rest i e] at hy; exact h.nds i y hy
  · have hp' : n.has p = true := ((hM.has hx h p).1 hp).resolve_right fun k => hX (.inr k)
    obtain ⟨e1, e2⟩ := hM.lk h hp'
    obtain ⟨h1, h2, h3, h4⟩ := h.ln p hp' fun k => hX (.inl k)
    rw [e2]
    refine ⟨h1, (hM.has hx h _).2 (.inl h2), fun k => k.elim h3 fun k => (hM.lk h h2).1 k.1, by rw [(hM.lk h h2).2, h4]⟩
theorem Semi.free {n : Nt} {X : Pt → Prop} (h : Semi n X) {i : Nat} {x : Nd} (hx : n.ns[i]? = some x) (hi : 1 ≤ i) (hk : x.k ≠ 0) (hX : ∀ p, n.has p = true → p.n = i → X p) :
    freeR n i = (n.free i, 0) ∧ Semi (n.free i) (fun r => X r ∧ r.n ≠ i) ∧ (n.free i).used = n.used - 1 ∧ (∀ p, (n.free i).has p = true ↔ n.has p = true ∧ p.n ≠ i) ∧ ∀ p, n.has p = true → p.n ≠ i → (n.free i).lk p = n.lk p := by
  have hil := (List.getElem?_eq_some_iff.1 hx).1
  obtain ⟨r, hr, hr1⟩ := semi_root h
  have hlen := free_len n (i : Int)
  have hr2 := free_get (i := i) hr (by omega) (by omega)
  have hl0 := (List.getElem?_eq_some_iff.1 hr2).1
  have hc : (n.free (i : Int)).cap = n.cap := rfl
  have hhas : ∀ p, (n.free (i : Int)).has p = true ↔ n.has p = true ∧ p.n ≠ i := by
    intro p
    constructor
    · intro k
      have k1 := has_iff.1 k
      have g := get_nd (n := n.free (i : Int)) k1.1 k1.2.1
      rcases free_get_inv g with ⟨e1, e2⟩ | ⟨e1, e2⟩
      · rw [e2] at k1; simp [zN] at k1; omega
      · refine ⟨has_iff.2 ⟨k1.1, by have := (List.getElem?_eq_some_iff.1 e2).1; omega, k1.2.2.1, ?_⟩, by omega⟩
        have := nd_get e2
        rw [show ((p.n.toNat : Nat) : Int) = p.n by omega] at this
        rw [this]; exact k1.2.2.2
    · rintro ⟨k, e⟩
      have k1 := has_iff.1 k
      have g := free_get (i := i) (get_nd (n := n) k1.1 k1.2.1) (by omega) (semi_k h k)
      have := nd_get g
      rw [show ((p.n.toNat : Nat) : Int) = p.n by omega] at this
      exact has_iff.2 ⟨k1.1, by have := (List.getElem?_eq_some_iff.1 g).1; omega, k1.2.2.1, by rw [this]; exact k1.2.2.2⟩
  have hlk : ∀ p, n.has p = true → p.n ≠ i → (n.free (i : Int)).lk p = n.lk p := by
    intro p k e
    have k1 := has_iff.1 k
    have g := free_get (i := i) (get_nd (n := n) k1.1 k1.2.1) (by omega) (semi_k h k)
    have := nd_get g
    rw [show ((p.n.toNat : Nat) : Int) = p.n by omega] at this
    unfold Nt.lk; rw [this]
  refine ⟨?_, ⟨h.cap1, h.cap2, by omega, ?_, ?_, fun m y hy => ?_, fun p hp => (hhas p).2 ⟨h.xs p hp.1, hp.2⟩, fun p hp hX' => ?_⟩, free_used hx hk, hhas, hlk⟩
  · unfold freeR
    rw [if_pos ⟨by omega, by omega, by rw [nd_get hx]; exact hk⟩]
  · have := h.ln2; rw [hc]; omega
  · have e : (n.free (i : Int)).ns.length = tl (n.ns.set (i : Int).toNat zN) (n.ns.set (i : Int).toNat zN).length := trim_len _
    have h1 := tl_last (n.ns.set (i : Int).toNat zN) (n.ns.set (i : Int).toNat zN).length (by omega)
    obtain ⟨z, hz⟩ : ∃ z, (n.free (i : Int)).ns[(n.free (i : Int)).ns.length - 1]? = some z := ⟨_, List.getElem?_eq_getElem (by omega)⟩
    have h2 : (trim (n.ns.set (i : Int).toNat zN))[(n.free (i : Int)).ns.length - 1]? = some z := hz
    rw [trim_get (by show _ < (n.free (i : Int)).ns.length; omega)] at h2
    rw [← e, getD_of h2] at h1
    have h3 : (((n.free (i : Int)).ns.length : Nat) : Int) - 1 = (((n.free (i : Int)).ns.length - 1 : Nat) : Int) := by omega
    rw [h3, nd_get hz]; exact h1
  · rcases free_get_inv hy with ⟨rfl, rfl⟩ | ⟨hmi, hy0⟩
    · refine ⟨⟨by decide, by decide, by decide, by decide, by decide, by decide, by decide, by decide, by decide, by decide, by decide, fun i a h => by simp [zN] at h⟩, by decide, ?_⟩
      constructor
      · intro e; omega
      · intro e; simp [zN] at e
    · exact h.nds m y hy0
  · obtain ⟨g1, g2⟩ := (hhas p).1 hp
    have hX1 : ¬ X p := fun k => hX' ⟨k, g2⟩
    obtain ⟨h1, h2, h3, h4⟩ := h.ln p g1 hX1
    have h5 : (n.lk p).n ≠ i := fun e => h3 (hX _ h2 e)
    rw [hlk p g1 g2]
    exact ⟨h1, (hhas _).2 ⟨h2, h5⟩, fun k => h3 k.1, by rw [hlk _ h2 h5, h4]⟩
end Go.Proofs.YtomcceambpneiaaGreat
end
section
set_option linter.unusedSimpArgs false
set_option linter.unusedVariables false
set_option maxHeartbeats 4000000
namespace Go.Proofs.YtomcceambpneiaaGreat
open Go.Fx
theorem linkR_shp (n : Nt) (p q : Pt) : Shp n (linkR n p q).1 := by
  unfold linkR
  split
  · rename_i h
    simp only [Bool.and_eq_true] at h
    exact ln_shp h.1.1 h.1.2
  · exact Shp.refl n
theorem moveR_shp (n : Nt) (p q : Pt) : Shp n (moveR n p q).1 := by
  unfold moveR
  split
  · split
    · exact Shp.refl n
    · exact linkR_shp _ _ _
  · exact Shp.refl n
theorem joinR_shp (n : Nt) (p q : Pt) : Shp n (joinR n p q).1 := by
  unfold joinR
  split
  · split
    · exact Shp.refl n
    · exact linkR_shp _ _ _
  · exact Shp.refl n
theorem Op.shp (n : Nt) (o : Op) : Shp n (o.run n) := by
  cases o with
  | mv p q => exact moveR_shp n p q
  | jn p q => exact joinR_shp n p q
  | ln p q => exact linkR_shp n p q
theorem runs_shp : ∀ (l : List Op) (n : Nt), Shp n (runs n l)
  | [], n => Shp.refl n
  | o :: l, n => (Op.shp n o).trans (runs_shp l (o.run n))
theorem has_wf {n : Nt} (hn : n.Ok) (hb : n.ns.length ≤ 4000) {p : Pt} (h : n.has p = true) : wfP p := by
  have h1 := has_iff.1 h
  have := (hn.nd _ (nd_mem h1.1 h1.2.1)).to
  unfold wfP wf; omega
structure Run (n0 : Nt) (a b : Int) (c : Int) (n : Nt) (L : List Pt) : Prop where
  good : n0.Good
  nod : L.Nodup
  semi : Semi n (· ∈ L)
  cap : n.cap = n0.cap
  used : n.used = n0.used + c
  old : ∀ (i : Nat) (x : Nd), n0.ns[i]? = some x → x.k ≠ 0 → ∃ y, n.ns[i]? = some y ∧ y = { x with to := y.to } ∧ y.to.length = x.to.length
  keep : ∀ r, n0.has r = true → r.n ≠ a → r.n ≠ b → (n0.lk r).n ≠ a → (n0.lk r).n ≠ b → r ∉ L ∧ n.lk r = n0.lk r
  ok : n.Ok
section
variable {n0 n : Nt} {a b c : Int} {L : List Pt}
theorem Run.perm {M : List Pt} (h : Run n0 a b c n L) (p : L.Perm M) : Run n0 a b c n M :=
  ⟨h.good, p.nodup_iff.1 h.nod, h.semi.iff fun r => p.mem_iff, h.cap, h.used, h.old, fun r h1 h2 h3 h4 h5 => ⟨fun k => (h.keep r h1 h2 h3 h4 h5).1 (p.mem_iff.2 k), (h.keep r h1 h2 h3 h4 h5).2⟩, h.ok⟩
theorem old_shp {m : Nt} (h : ∀ (i : Nat) (x : Nd), n0.ns[i]? = some x → x.k ≠ 0 → ∃ y, n.ns[i]? = some y ∧ y = { x with to := y.to } ∧ y.to.length = x.to.length) (hs : Shp n m) :
    ∀ (i : Nat) (x : Nd), n0.ns[i]? = some x → x.k ≠ 0 → ∃ y, m.ns[i]? = some y ∧ y = { x with to := y.to } ∧ y.to.length = x.to.length := by
  intro i x hx hk
  obtain ⟨y, h1, h2, h3⟩ := h i x hx hk
  obtain ⟨z, g1, g2, g3⟩ := hs.get' h1
  exact ⟨z, g1, by rw [g2, h2], g3.trans h3⟩
theorem Run.has0 (h : Run n0 a b c n L) {p : Pt} (hp : n0.has p = true) : n.has p = true := by
  have h1 := has_iff.1 hp
  have hk := semi_k h.good.semi hp
  obtain ⟨y, g1, g2, g3⟩ := h.old _ _ (get_nd h1.1 h1.2.1) hk
  have := nd_get g1
  rw [show ((p.n.toNat : Nat) : Int) = p.n by omega] at this
  exact has_iff.2 ⟨h1.1, by have := (List.getElem?_eq_some_iff.1 g1).1; omega, h1.2.2.1, by rw [this, g3]; exact h1.2.2.2⟩
theorem Run.link {p q : Pt} (h : Run n0 a b c n (p :: q :: L)) : Run n0 a b c (linkR n p q).1 L := by
  have hnd := h.nod
  simp only [List.nodup_cons, List.mem_cons, not_or] at hnd
  obtain ⟨⟨hpq, hpL⟩, hqL, hL⟩ := hnd
  have hp1 := h.semi.xs p (by simp)
  have hq1 := h.semi.xs q (by simp)
  obtain ⟨e, hs⟩ := h.semi.link (p := p) (q := q) (by simp) (by simp) hpq
  have hsh := linkR_shp n p q
  have hok := linkR_Ok h.ok (has_wf h.ok (semi_big h.semi) hp1) (has_wf h.ok (semi_big h.semi) hq1)
  rw [e] at hsh hok ⊢
  refine ⟨h.good, hL, hs.iff fun r => ?_, hsh.2.1.symm.trans h.cap, hsh.used.trans h.used, old_shp h.old hsh, fun r h1 h2 h3 h4 h5 => ?_, hok⟩
  · constructor
    · rintro ⟨k, k1, k2⟩
      simp only [List.mem_cons] at k
      exact (k.resolve_left k1).resolve_left k2
    · intro k
      exact ⟨by simp [k], fun e => hpL (e ▸ k), fun e => hqL (e ▸ k)⟩
  · obtain ⟨k1, k2⟩ := h.keep r h1 h2 h3 h4 h5
    simp only [List.mem_cons, not_or] at k1
    exact ⟨k1.2.2, by rw [ln_lk hp1 hq1 (h.has0 h1), if_neg k1.2.1, if_neg k1.1, k2]⟩
theorem Run.move {p q : Pt} (h : Run n0 a b c n (q :: L)) (hp1 : n.has p = true) (hp : p ∉ q :: L) (hab : p.n = a ∨ p.n = b) : Run n0 a b c (moveR n p q).1 (p :: L) := by
  have hnd := h.nod
  simp only [List.nodup_cons] at hnd
  simp only [List.mem_cons, not_or] at hp
  have hq1 := h.semi.xs q (by simp)
  obtain ⟨e, hs⟩ := h.semi.move (p := p) (q := q) hp1 (by simp [hp]) (by simp)
  obtain ⟨l1, l2, l3, l4⟩ := h.semi.ln p hp1 (by simp [hp])
  have hsh := moveR_shp n p q
  have hok := moveR_Ok h.ok (has_wf h.ok (semi_big h.semi) hp1) (has_wf h.ok (semi_big h.semi) hq1)
  rw [e] at hsh hok ⊢
  refine ⟨h.good, List.nodup_cons.2 ⟨hp.2, hnd.2⟩, hs.iff fun r => ?_, hsh.2.1.symm.trans h.cap, hsh.used.trans h.used, old_shp h.old hsh, fun r h1 h2 h3 h4 h5 => ?_, hok⟩
  · simp only [List.mem_cons]
    constructor
    · rintro (⟨k, k1⟩ | k)
      · exact .inr (k.resolve_left k1)
      · exact .inl k
    · rintro (k | k)
      · exact .inr k
      · exact .inl ⟨.inr k, fun e => hnd.1 (e ▸ k)⟩
  · obtain ⟨k1, k2⟩ := h.keep r h1 h2 h3 h4 h5
    simp only [List.mem_cons, not_or] at k1 ⊢
    have e1 : r ≠ n.lk p := fun e => by
      have : n0.lk r = p := by rw [← k2, e, l4]
      rw [this] at h4 h5
      exact hab.elim h4 h5
    exact ⟨⟨fun e => by rw [e] at h2 h3; exact hab.elim h2 h3, k1.2⟩, by rw [ln_lk hq1 l2 (h.has0 h1), if_neg e1, if_neg k1.1, k2]⟩
theorem Run.join {p q : Pt} (h : Run n0 a b c n L) (hp1 : n.has p = true) (hq1 : n.has q = true) (hp : p ∉ L) (hq : q ∉ L) (hpq : p ≠ q) (hpa : p.n = a ∨ p.n = b) (hqa : q.n = a ∨ q.n = b) : Run n0 a b c (joinR n p q).1 (p :: q :: L) := by
  obtain ⟨e, hs⟩ := h.semi.join hp1 hp hq1 hq hpq
  obtain ⟨l1, l2, l3, l4⟩ := h.semi.ln p hp1 hp
  obtain ⟨m1, m2, m3, m4⟩ := h.semi.ln q hq1 hq
  have hsh := joinR_shp n p q
  have hok := joinR_Ok h.ok (has_wf h.ok (semi_big h.semi) hp1) (has_wf h.ok (semi_big h.semi) hq1)
  rw [e] at hsh hok ⊢
  refine ⟨h.good, List.nodup_cons.2 ⟨by simp [hpq, hp], List.nodup_cons.2 ⟨hq, h.nod⟩⟩, hs.iff fun r => ?_, hsh.2.1.symm.trans h.cap, hsh.used.trans h.used, old_shp h.old hsh, fun r h1 h2 h3 h4 h5 => ?_, hok⟩
  · simp only [List.mem_cons]
    constructor
    · rintro (k | k | k)
      · exact .inr (.inr k)
      · exact .inl k
      · exact .inr (.inl k)
    · rintro (k | k | k)
      · exact .inr (.inl k)
      · exact .inr (.inr k)
      · exact .inl k
  · obtain ⟨k1, k2⟩ := h.keep r h1 h2 h3 h4 h5
    simp only [List.mem_cons, not_or]
    refine ⟨⟨fun e => by rw [e] at h2 h3; exact hpa.elim h2 h3, fun e => by rw [e] at h2 h3; exact hqa.elim h2 h3, k1⟩, ?_⟩
    have e1 : r ≠ n.lk p := fun e => by
      have : n0.lk r = p := by rw [← k2, e, l4]
      rw [this] at h4 h5
      exact hpa.elim h4 h5
    have e2 : r ≠ n.lk q := fun e => by
      have : n0.lk r = q := by rw [← k2, e, m4]
      rw [this] at h4 h5
      exact hqa.elim h4 h5
    show (if n.lk p = q then n else n.ln (n.lk p) (n.lk q)).lk r = n0.lk r
    split
    · exact k2
    · rw [ln_lk l2 m2 (h.has0 h1), if_neg e2, if_neg e1, k2]
def newP (x : Nd) (t : Int) : List Pt := portsR t 0 x.ports.toNat
structure MadeQ (n : Nt) (x : Nd) (m : Nt) (t : Int) : Prop where
  one : 1 ≤ t
  new : ∀ p, n.has p = true → p.n ≠ t
  has : ∀ p, m.has p = true ↔ n.has p = true ∨ p.n = t ∧ 0 ≤ p.s ∧ p.s < x.ports
  lk : ∀ p, n.has p = true → m.lk p = n.lk p
  nd : m.nd t = x.fresh
  oth : ∀ i : Int, 0 ≤ i → i ≠ t → m.nd i = n.nd i
  free : (n.nd t).k = 0
theorem Run.make (h : Run n0 a b c n L) {x : Nd} (hx : x.Ok) (hm : x.may) (hk0 : x.k ≠ 0) (hk1 : x.k ≠ 1) (hu : n0.used + c < n0.cap) :
    ∃ t, (makeR n x).2 = (t, 0) ∧ MadeQ n x (makeR n x).1 t ∧ Run n0 a b (c + 1) (makeR n x).1 (newP x t ++ L) := by
  have hM := madeS h.semi x
  obtain ⟨e, hs⟩ := h.semi.make hx hm hk0 hk1 (by rw [h.used, h.cap]; exact hu)
  have hok := (makeR_Ok h.ok hx (by have := semi_big h.semi; omega)).1
  have hus := make_used (n := n) hk0
  rw [e] at hok ⊢
  obtain ⟨m, hm⟩ : ∃ m, n.make x = m := ⟨_, rfl⟩
  obtain ⟨t, ht⟩ : ∃ t, n.at = t := ⟨_, rfl⟩
  simp only at hok ⊢
  rw [hm, ht] at hM hs
  rw [hm] at hok hus ⊢
  rw [ht]
  have hpb := ports_b hx
  have hnew : ∀ p, n.has p = true → p.n ≠ t := fun p hp => (hM.lk h.semi hp).1
  have hfree : (n.nd (t : Int)).k = 0 := by
    rcases Nat.lt_or_ge t n.ns.length with hl | hl
    · obtain ⟨y, hy⟩ : ∃ y, n.ns[t]? = some y := ⟨_, List.getElem?_eq_getElem hl⟩
      rw [nd_get hy]; exact hM.was y hy
    · unfold Nt.nd; rw [Int.toNat_natCast, List.getD_eq_getElem?_getD, List.getElem?_eq_none hl]; rfl
  have hmem : ∀ r : Pt, r ∈ newP x t ↔ r.n = t ∧ 0 ≤ r.s ∧ r.s < x.ports := fun r => by
    unfold newP; rw [mem_portsR]
    constructor
    · rintro ⟨h1, h2, h3⟩; exact ⟨h1, by omega, by omega⟩
    · rintro ⟨h1, h2, h3⟩; exact ⟨h1, by omega, by omega⟩
  refine ⟨t, rfl, ⟨by have := hM.one; omega, hnew, fun p => hM.has hx h.semi p, fun p hp => (hM.lk h.semi hp).2, hM.nd_now, fun i h0 hi => hM.nd h0 hi, hfree⟩, ?_⟩
  refine ⟨h.good, ?_, hs.iff fun r => ?_, hM.cap.trans h.cap, by rw [hus, h.used]; omega, fun i y hy hk => ?_, fun r h1 h2 h3 h4 h5 => ?_, hok⟩
  · rw [List.nodup_append]
    refine ⟨portsR_nodup _ _ _, h.nod, fun p hp q hq e => ?_⟩
    subst e
    exact hnew p (h.semi.xs p hq) ((hmem p).1 hp).1
  · rw [List.mem_append, hmem]
    exact ⟨fun k => k.elim .inr .inl, fun k => k.elim .inr .inl⟩
  · obtain ⟨z, g1, g2, g3⟩ := h.old i y hy hk
    have e : i ≠ t := fun e => by
      subst e
      have := hM.was z g1
      rw [g2] at this; exact hk this
    exact ⟨z, by rw [hM.rest i e]; exact g1, g2, g3⟩
  · obtain ⟨k1, k2⟩ := h.keep r h1 h2 h3 h4 h5
    have hr := h.has0 h1
    refine ⟨?_, by rw [(hM.lk h.semi hr).2, k2]⟩
    rw [List.mem_append, hmem]
    exact fun k => k.elim (fun k => hnew r hr k.1) k1
structure LikeQ (n : Nt) (x : Nd) (m : Nt) (ds : List Int) : Prop where
  nod : ds.Nodup
  one : ∀ d ∈ ds, 1 ≤ d
  new : ∀ d ∈ ds, ∀ p, n.has p = true → p.n ≠ d
  has : ∀ p, m.has p = true ↔ n.has p = true ∨ p.n ∈ ds ∧ 0 ≤ p.s ∧ p.s < x.ports
  lk : ∀ p, n.has p = true → m.lk p = n.lk p
  nd : ∀ d ∈ ds, m.nd d = x.fresh
  oth : ∀ i : Int, 0 ≤ i → i ∉ ds → m.nd i = n.nd i
  free : ∀ d ∈ ds, (n.nd d).k = 0
theorem Run.likes (h : Run n0 a b c n L) {x : Nd} (hx : x.Ok) (hm : x.may) (hk0 : x.k ≠ 0) (hk1 : x.k ≠ 1) (hp : 0 < x.ports) : ∀ k : Nat, n0.used + c + k ≤ n0.cap →
    LikeQ n x (likeR n x k).1 (likeR n x k).2 ∧ (likeR n x k).2.length = k ∧ Run n0 a b (c + k) (likeR n x k).1 ((likeR n x k).2.flatMap (newP x) ++ L)
  | 0, _ => ⟨⟨List.nodup_nil, by simp [likeR], by simp [likeR], by simp [likeR], fun _ _ => rfl, by simp [likeR], fun _ _ _ => rfl, by simp [likeR]⟩, rfl, by simpa [likeR] using h⟩
  | k + 1, hu => by
    obtain ⟨h1, h2, h3⟩ := Run.likes h hx hm hk0 hk1 hp k (by omega)
    obtain ⟨t, g1, g2, g3⟩ := h3.make hx hm hk0 hk1 (by omega)
    have hd : ∀ d ∈ (likeR n x k).2, d ≠ t := fun d hd => g2.new ⟨d, 0⟩ ((h1.has _).2 (.inr ⟨hd, by simp, hp⟩))
    have ht : (makeR (likeR n x k).1 x).2.1 = t := by rw [g1]
    simp only [likeR, ht]
    refine ⟨⟨?_, ?_, ?_, fun p => ?_, fun p hp => ?_, fun d hd' => ?_, fun i h0 hi => ?_, fun d hd' => ?_⟩, by simp [h2], ?_⟩
    · rw [List.nodup_append]
      exact ⟨h1.nod, by simp, fun u hu v hv e => by simp at hv; exact hd u hu (e.trans hv)⟩
    · intro d hd
      rcases List.mem_append.1 hd with hd | hd
      · exact h1.one d hd
      · simp at hd; rw [hd]; exact g2.one
    · intro d hd p hp
      rcases List.mem_append.1 hd with hd | hd
      · exact h1.new d hd p hp
      · simp at hd; rw [hd]; exact g2.new p ((h1.has p).2 (.inl hp))
    · rw [g2.has, h1.has]
      simp only [List.mem_append, List.mem_cons, List.not_mem_nil, or_false]
      constructor
      · rintro ((k | ⟨k1, k2⟩) | ⟨k1, k2⟩)
        · exact .inl k
        · exact .inr ⟨.inl k1, k2⟩
        · exact .inr ⟨.inr k1, k2⟩
      · rintro (k | ⟨k1 | k1, k2⟩)
        · exact .inl (.inl k)
        · exact .inl (.inr ⟨k1, k2⟩)
        · exact .inr ⟨k1, k2⟩
    · rw [g2.lk p ((h1.has p).2 (.inl hp)), h1.lk p hp]
    · rcases List.mem_append.1 hd' with hd' | hd'
      · rw [g2.oth d (by have := h1.one d hd'; omega) (hd d hd'), h1.nd d hd']
      · simp at hd'; rw [hd']; exact g2.nd
    · simp only [List.mem_append, List.mem_cons, List.not_mem_nil, or_false, not_or] at hi
      rw [g2.oth i h0 hi.2, h1.oth i h0 hi.1]
    · rcases List.mem_append.1 hd' with hd' | hd'
      · exact h1.free d hd'
      · simp at hd'; subst hd'
        have := g2.free
        rw [h1.oth d (by have := g2.one; omega) (fun k => hd d k rfl)] at this
        exact this
    · have e : (c + ((k + 1 : Nat) : Int)) = c + k + 1 := by omega
      rw [e]
      refine g3.perm ?_
      rw [List.flatMap_append, List.append_assoc]
      simp only [List.flatMap_cons, List.flatMap_nil, List.append_nil]
      rw [← List.append_assoc, ← List.append_assoc]
      exact List.Perm.append_right _ List.perm_append_comm
theorem Run.moves : ∀ (l : List Pt) (ds : List Int) {n : Nt} {L : List Pt}, Run n0 a b c n (ds.map (fun d => ⟨d, 0⟩) ++ L) → l.length = ds.length → l.Nodup →
    (∀ p ∈ l, n.has p = true ∧ p ∉ L ∧ p.n ∉ ds ∧ (p.n = a ∨ p.n = b)) → Run n0 a b c (runs n (dropOps l ds)) (l ++ L)
  | [], [], n, L, h, _, _, _ => h
  | [], _ :: _, n, L, h, hl, _, _ => by simp at hl
  | _ :: _, [], n, L, h, hl, _, _ => by simp at hl
  | p :: l, d :: ds, n, L, h, hl, hn, hp => by
    obtain ⟨p1, p2, p3, p4⟩ := hp p (by simp)
    have hn' := List.nodup_cons.1 hn
    simp only [List.mem_cons, not_or] at p3
    have h : Run n0 a b c n (⟨d, 0⟩ :: (ds.map (fun d => (⟨d, 0⟩ : Pt)) ++ L)) := h
    have h1 := Run.move (p := p) h p1 (by
      simp only [List.mem_cons, List.mem_append, List.mem_map, not_or, not_exists, not_and]
      exact ⟨fun e => p3.1 (by rw [e]), fun x hx e => p3.2 (by rw [← e]; exact hx), p2⟩) p4
    have h2 := Run.moves l ds (L := p :: L) (h1.perm (by exact List.perm_middle.symm)) (by simpa using hl) hn'.2 (fun q hq => by
      obtain ⟨q1, q2, q3, q4⟩ := hp q (by simp [hq])
      simp only [List.mem_cons, not_or] at q3 ⊢
      exact ⟨by rw [(moveR_shp n p ⟨d, 0⟩).has]; exact q1, ⟨fun e => hn'.1 (e ▸ hq), q2⟩, q3.2, q4⟩)
    exact h2.perm List.perm_middle
end
end Go.Proofs.YtomcceambpneiaaGreat
end
section
set_option linter.unusedSimpArgs false
set_option linter.unusedVariables false
set_option maxHeartbeats 4000000
namespace Go.Proofs.YtomcceambpneiaaGreat
open Go.Fx
section
variable {n0 n : Nt} {a b c : Int} {L : List Pt}
theorem Run.start (hn : n0.Ok) (hG : n0.Good) (ha : n0.has ⟨a, 0⟩ = true) (hlk : n0.lk ⟨a, 0⟩ = ⟨b, 0⟩) (hab : a ≠ b) : Run n0 a b 0 n0 [⟨a, 0⟩, ⟨b, 0⟩] := by
  obtain ⟨g1, g2, g3⟩ := good_link hG ha
  rw [hlk] at g1 g2 g3
  refine ⟨hG, by simp [hab], ⟨hG.cap1, hG.cap2, hG.ln1, hG.ln2, hG.last, hG.semi.nds, fun p hp => ?_, fun p hp hX => ?_⟩, rfl, by omega, fun i x hx hk => ⟨x, hx, rfl, rfl⟩, fun r h1 h2 h3 h4 h5 => ⟨?_, rfl⟩, hn⟩
  · simp only [List.mem_cons, List.not_mem_nil, or_false] at hp
    rcases hp with rfl | rfl
    · exact ha
    · exact g2
  · simp only [List.mem_cons, List.not_mem_nil, or_false, not_or] at hX ⊢
    obtain ⟨h1, h2, h3⟩ := good_link hG hp
    refine ⟨h1, h2, ⟨fun e => ?_, fun e => ?_⟩, h3⟩
    · rw [e, hlk] at h3; exact hX.2 h3.symm
    · rw [e, g3] at h3; exact hX.1 h3.symm
  · simp only [List.mem_cons, List.not_mem_nil, or_false, not_or]
    exact ⟨fun e => h2 (by rw [e]), fun e => h3 (by rw [e])⟩
theorem Run.joins (hab : a ≠ b) : ∀ (l : List Nat) {n : Nt} {L : List Pt}, Run n0 a b c n L → l.Nodup → (∀ s ∈ l, n.has ⟨a, s⟩ = true ∧ n.has ⟨b, s⟩ = true ∧ (⟨a, s⟩ : Pt) ∉ L ∧ (⟨b, s⟩ : Pt) ∉ L) →
    Run n0 a b c (runs n (joinOps a b l)) (l.map (fun s : Nat => (⟨a, s⟩ : Pt)) ++ (l.map (fun s : Nat => (⟨b, s⟩ : Pt)) ++ L))
  | [], n, L, h, _, _ => h
  | s :: l, n, L, h, hn, hp => by
    obtain ⟨p1, p2, p3, p4⟩ := hp s (by simp)
    have hn' := List.nodup_cons.1 hn
    have h1 := h.join p1 p2 p3 p4 (fun e => hab (by simpa using e)) (.inl rfl) (.inr rfl)
    have h2 := Run.joins hab l h1 hn'.2 (fun t ht => by
      obtain ⟨q1, q2, q3, q4⟩ := hp t (by simp [ht])
      have hts : ¬ ((t : Int) = (s : Int)) := fun e => hn'.1 (by have : t = s := by omega
                                                                 exact this ▸ ht)
      have hsh := joinR_shp n ⟨a, s⟩ ⟨b, s⟩
      refine ⟨by rw [hsh.has]; exact q1, by rw [hsh.has]; exact q2, ?_, ?_⟩
      · simp only [List.mem_cons, Pt.mk.injEq, hts, and_false, false_or]; exact q3
      · simp only [List.mem_cons, Pt.mk.injEq, hts, and_false, false_or]; exact q4)
    refine h2.perm ?_
    simp only [List.map_cons, List.cons_append]
    rw [List.perm_iff_count]
    intro r
    simp only [List.count_append, List.count_cons]
    omega
theorem newP3 {x : Nd} (h : x.ports = 3) (t : Int) : newP x t = [⟨t, 0⟩, ⟨t, 1⟩, ⟨t, 2⟩] := by unfold newP; rw [h]; rfl
theorem newP2 {x : Nd} (h : x.ports = 2) (t : Int) : newP x t = [⟨t, 0⟩, ⟨t, 1⟩] := by unfold newP; rw [h]; rfl
theorem newP1 {x : Nd} (h : x.ports = 1) (t : Int) : newP x t = [⟨t, 0⟩] := by unfold newP; rw [h]; rfl
theorem flat1 {x : Nd} (h : x.ports = 1) (ds : List Int) : ds.flatMap (newP x) = ds.map fun d => ⟨d, 0⟩ := by
  induction ds with
  | nil => rfl
  | cons d ds ih => rw [List.flatMap_cons, newP1 h, ih]; rfl
theorem Run.picks {apps : List Int} {lv : Int} : ∀ (r : List Int) (d : Int) (i : Nat) {n : Nt} {L : List Pt}, Run n0 a b c n (⟨d, 1⟩ :: ⟨d, 2⟩ :: (r.flatMap (newP (appN lv)) ++ L)) →
    (∀ s : Nat, i < s → s ≤ i + 1 + r.length → n.has ⟨b, s⟩ = true ∧ (⟨b, s⟩ : Pt) ∉ L) → n.has ⟨a, 1⟩ = true → (⟨a, 1⟩ : Pt) ∉ L → a ∉ d :: r → b ∉ d :: r → a ≠ b →
    Run n0 a b c (runs n (pickOps a b i (d :: r))) (⟨a, 1⟩ :: (portsR b (i + 1) (i + 2 + r.length) ++ L))
  | [], d, i, n, L, h, hb, ha, haL, had, hbd, hab => by
    obtain ⟨b1, b2⟩ := hb (i + 1) (by omega) (by simp)
    rw [show ((i + 1 : Nat) : Int) = (i : Int) + 1 by omega] at b1 b2
    simp only [List.mem_cons, List.not_mem_nil, or_false] at had hbd
    have h1 := Run.move (p := ⟨b, (i : Int) + 1⟩) (q := ⟨d, 2⟩) (h.perm (List.Perm.swap ..)) b1 (by simpa [hbd] using b2) (.inr rfl)
    have h2 := Run.move (p := ⟨a, 1⟩) (q := ⟨d, 1⟩) (h1.perm (List.Perm.swap ..)) (by rw [(moveR_shp _ _ _).has]; exact ha) (by simpa [had, hab] using haL) (.inl rfl)
    have e : portsR b (i + 1) (i + 2 + 0) = [⟨b, (i : Int) + 1⟩] := by
      rw [portsR_cons (by omega), portsR_nil (by omega)]; rfl
    rw [List.length_nil, e]
    exact h2
  | e :: r, d, i, n, L, h, hb, ha, haL, had, hbd, hab => by
    obtain ⟨b1, b2⟩ := hb (i + 1) (by omega) (by omega)
    rw [show ((i + 1 : Nat) : Int) = (i : Int) + 1 by omega] at b1 b2
    simp only [List.mem_cons, not_or] at had hbd
    rw [List.flatMap_cons, newP3 rfl] at h
    have hbn : ∀ s : Int, (⟨b, s⟩ : Pt) ∉ r.flatMap (newP (appN lv)) := fun s k => by
      obtain ⟨t, ht, hs⟩ := List.mem_flatMap.1 k
      have e : t = b := (mem_portsR.1 hs).1.symm
      subst e; exact hbd.2.2 ht
    have h1 := Run.move (p := ⟨b, (i : Int) + 1⟩) (q := ⟨d, 2⟩) (h.perm (List.Perm.swap ..)) b1 (by
      simp only [List.mem_cons, List.mem_append, Pt.mk.injEq, hbd, false_and, List.not_mem_nil, or_false, false_or, not_or, List.cons_append]
      exact ⟨hbn _, b2⟩) (.inr rfl)
    have h2 := Run.link (p := ⟨d, 1⟩) (q := ⟨e, 0⟩) (L := ⟨b, (i : Int) + 1⟩ :: ⟨e, 1⟩ :: ⟨e, 2⟩ :: (r.flatMap (newP (appN lv)) ++ L)) (h1.perm (by
      rw [List.perm_iff_count]; intro r; simp only [List.cons_append, List.nil_append, List.count_cons, List.count_append]; omega))
    have h3 := Run.picks (apps := apps) (lv := lv) r e (i + 1) (L := ⟨b, (i : Int) + 1⟩ :: L) (h2.perm (by
      rw [List.perm_iff_count]; intro r; simp only [List.cons_append, List.nil_append, List.count_cons, List.count_append]; omega)) (fun s h1 h2 => by
        obtain ⟨c1, c2⟩ := hb s (by omega) (by simp only [List.length_cons]; omega)
        refine ⟨by rw [(linkR_shp _ _ _).has, (moveR_shp _ _ _).has]; exact c1, ?_⟩
        have : ¬ (s : Int) = (i : Int) + 1 := by omega
        simp only [List.mem_cons, Pt.mk.injEq, this, and_false, false_or]; exact c2) (by rw [(linkR_shp _ _ _).has, (moveR_shp _ _ _).has]; exact ha) (by
        simp only [List.mem_cons, Pt.mk.injEq, hab, false_and, false_or]; exact haL) (by simp only [List.mem_cons, not_or]; exact had.2) (by simp only [List.mem_cons, not_or]; exact hbd.2) hab
    have e' : portsR b (i + 1) (i + 2 + (e :: r).length) = ⟨b, (i : Int) + 1⟩ :: portsR b (i + 1 + 1) (i + 1 + 2 + r.length) := by
      rw [List.length_cons, portsR_cons (by omega), show i + 2 + (r.length + 1) = i + 1 + 2 + r.length by omega]; rfl
    rw [e']
    refine h3.perm ?_
    rw [List.perm_iff_count]; intro r; simp only [List.cons_append, List.nil_append, List.count_cons, List.count_append]; omega
theorem flat_cons {α : Type} (f : α → Pt) (g : α → List Pt) (cs : List α) : (cs.flatMap fun c => f c :: g c).Perm (cs.map f ++ cs.flatMap g) := by
  induction cs with
  | nil => exact List.Perm.refl _
  | cons d cs ih =>
    rw [List.flatMap_cons, List.map_cons, List.flatMap_cons, List.cons_append, List.cons_append]
    refine List.Perm.cons _ ?_
    refine (List.Perm.append_left (g d) ih).trans ?_
    rw [List.perm_iff_count]; intro r; simp only [List.count_append]; omega
theorem Run.lns {m : Int} {k : Nat} : ∀ (cs : List Int) (i : Nat) {n : Nt} {L : List Pt}, Run n0 a b c n (portsR m (i + 1) (i + 1 + cs.length) ++ (cs.map (fun d => (⟨d, (k : Int) + 1⟩ : Pt)) ++ L)) → Run n0 a b c (runs n (lnOps m k i cs)) L
  | [], i, n, L, h => by rw [portsR_nil (by simp)] at h; exact h
  | d :: cs, i, n, L, h => by
    rw [List.length_cons, portsR_cons (by omega), show i + 1 + (cs.length + 1) = i + 1 + 1 + cs.length by omega] at h
    have h1 := Run.link (p := ⟨m, (i : Int) + 1⟩) (q := ⟨d, (k : Int) + 1⟩) (L := portsR m (i + 1 + 1) (i + 1 + 1 + cs.length) ++ (cs.map (fun d => (⟨d, (k : Int) + 1⟩ : Pt)) ++ L)) (h.perm (by
      rw [List.perm_iff_count]; intro r
      simp only [List.map_cons, List.cons_append, List.count_cons, List.count_append, Int.natCast_add, Int.cast_ofNat_Int]; omega))
    exact Run.lns cs (i + 1) h1
theorem runs_cons (n : Nt) (o : Op) (l : List Op) : runs n (o :: l) = runs (o.run n) l := rfl
theorem Run.passes {x : Nd} {cs : List Int} (hx : x.ports.toNat = cs.length + 1) : ∀ (r : List Int) (k : Nat) {n : Nt} {L : List Pt}, Run n0 a b c n (r.flatMap (newP x) ++ (cs.flatMap (fun d => portsR d (k + 1) (k + 1 + r.length)) ++ L)) →
    (∀ s : Nat, k < s → s < k + 1 + r.length → n.has ⟨b, s⟩ = true ∧ (⟨b, s⟩ : Pt) ∉ L) → b ∉ r → b ∉ cs →
    Run n0 a b c (runs n (passOps b cs k r)) (portsR b (k + 1) (k + 1 + r.length) ++ L)
  | [], k, n, L, h, hb, hbr, hbc => by
    rw [portsR_nil (by simp)]
    have : (cs.flatMap fun d => portsR d (k + 1) (k + 1 + ([] : List Int).length)) = [] := by
      rw [List.flatMap_eq_nil_iff]; intro d _; exact portsR_nil (by simp)
    rw [this] at h
    exact h
  | m :: r, k, n, L, h, hb, hbr, hbc => by
    obtain ⟨b1, b2⟩ := hb (k + 1) (by omega) (by simp only [List.length_cons]; omega)
    rw [show ((k + 1 : Nat) : Int) = (k : Int) + 1 by omega] at b1 b2
    simp only [List.mem_cons, not_or] at hbr
    have hcs : ∀ (j u : Nat), (⟨b, (k : Int) + 1⟩ : Pt) ∉ cs.flatMap fun d => portsR d j u := fun j u hm => by
      obtain ⟨t, ht, hs⟩ := List.mem_flatMap.1 hm
      have e : t = b := (mem_portsR.1 hs).1.symm
      subst e; exact hbc ht
    have hrn : (⟨b, (k : Int) + 1⟩ : Pt) ∉ r.flatMap (newP x) := fun hm => by
      obtain ⟨t, ht, hs⟩ := List.mem_flatMap.1 hm
      have e : t = b := (mem_portsR.1 hs).1.symm
      subst e; exact hbr.2 ht
    have e1 : newP x m = ⟨m, 0⟩ :: portsR m 1 (1 + cs.length) := by
      unfold newP; rw [hx, portsR_cons (by omega), show cs.length + 1 = 1 + cs.length by omega]; rfl
    rw [List.flatMap_cons, e1] at h
    have h1 := Run.move (p := ⟨b, (k : Int) + 1⟩) (q := ⟨m, 0⟩) (by simpa only [List.cons_append] using h) b1 (by
      have hpm : (⟨b, (k : Int) + 1⟩ : Pt) ∉ portsR m 1 (1 + cs.length) := fun hm => hbr.1 (mem_portsR.1 hm).1
      simp only [List.mem_cons, List.mem_append, Pt.mk.injEq, hbr, false_and, not_or, not_false_eq_true, true_and]
      exact ⟨⟨hpm, hrn⟩, hcs _ _, b2⟩) (.inr rfl)
    have p1 : (cs.flatMap fun d => portsR d (k + 1) (k + 1 + (m :: r).length)).Perm (cs.map (fun d => (⟨d, (k : Int) + 1⟩ : Pt)) ++ cs.flatMap fun d => portsR d (k + 1 + 1) (k + 1 + 1 + r.length)) := by
      have e : (fun d : Int => portsR d (k + 1) (k + 1 + (m :: r).length)) = fun d => (⟨d, (k : Int) + 1⟩ : Pt) :: portsR d (k + 1 + 1) (k + 1 + 1 + r.length) := by
        funext d
        rw [List.length_cons, portsR_cons (by omega), show k + 1 + (r.length + 1) = k + 1 + 1 + r.length by omega]; rfl
      rw [e]; exact flat_cons _ _ _
    have h2 := Run.lns (m := m) (k := k) cs 0 (L := r.flatMap (newP x) ++ ((cs.flatMap fun d => portsR d (k + 1 + 1) (k + 1 + 1 + r.length)) ++ ⟨b, (k : Int) + 1⟩ :: L)) (h1.perm (by
      rw [List.perm_iff_count]; intro q
      have := (List.perm_iff_count.1 p1) q
      simp only [List.cons_append, List.count_cons, List.count_append, Nat.zero_add] at this ⊢
      rw [this]; omega))
    have h3 := Run.passes hx r (k + 1) h2 (fun s h1 h2 => by
      obtain ⟨c1, c2⟩ := hb s (by omega) (by simp only [List.length_cons]; omega)
      refine ⟨by rw [(runs_shp _ _).has, (moveR_shp _ _ _).has]; exact c1, ?_⟩
      have : ¬ (s : Int) = (k : Int) + 1 := by omega
      simp only [List.mem_cons, Pt.mk.injEq, this, and_false, false_or]; exact c2) hbr.2 hbc
    have e2 : portsR b (k + 1) (k + 1 + (m :: r).length) = ⟨b, (k : Int) + 1⟩ :: portsR b (k + 1 + 1) (k + 1 + 1 + r.length) := by
      rw [List.length_cons, portsR_cons (by omega), show k + 1 + (r.length + 1) = k + 1 + 1 + r.length by omega]; rfl
    have e3 : runs n (passOps b cs k (m :: r)) = runs (runs (moveR n ⟨b, (k : Int) + 1⟩ ⟨m, 0⟩).1 (lnOps m k 0 cs)) (passOps b cs (k + 1) r) := by
      simp only [passOps, runs_cons, runs_app]; rfl
    rw [e2, e3]
    refine h3.perm ?_
    rw [List.perm_iff_count]; intro q; simp only [List.cons_append, List.count_cons, List.count_append]; omega
end
end Go.Proofs.YtomcceambpneiaaGreat
end
section
set_option linter.unusedSimpArgs false
set_option linter.unusedVariables false
set_option maxHeartbeats 4000000
namespace Go.Proofs.YtomcceambpneiaaGreat
open Go.Fx
structure Meet (n : Nt) (a b : Int) : Prop where
  ok : n.Ok
  good : n.Good
  ab : a ≠ b
  a0 : 0 ≤ a
  a1 : a < n.ns.length
  b0 : 0 ≤ b
  b1 : b < n.ns.length
  ma : (n.nd a).may
  mb : (n.nd b).may
  ka : (n.nd a).Ok
  kb : (n.nd b).Ok
  pa : ((n.nd a).to.length : Int) = (n.nd a).ports
  pb : ((n.nd b).to.length : Int) = (n.nd b).ports
  ha : n.has ⟨a, 0⟩ = true
  hb : n.has ⟨b, 0⟩ = true
  la : n.lk ⟨a, 0⟩ = ⟨b, 0⟩
  lb : n.lk ⟨b, 0⟩ = ⟨a, 0⟩
theorem Meet.of {n : Nt} {a b : Int} (hn : n.Ok) (hG : n.Good) (ha : n.has ⟨a, 0⟩ = true) (hl : n.lk ⟨a, 0⟩ = ⟨b, 0⟩) : Meet n a b := by
  obtain ⟨g1, g2, g3⟩ := good_link hG ha
  rw [hl] at g1 g2 g3
  have h1 := has_iff.1 ha
  have h2 := has_iff.1 g2
  simp only at h1 h2
  have q1 := hG.nds _ _ (get_nd h1.1 h1.2.1)
  have q2 := hG.nds _ _ (get_nd h2.1 h2.2.1)
  exact ⟨hn, hG, fun e => g1 (by rw [e]), h1.1, h1.2.1, h2.1, h2.2.1, q1.1, q2.1, hn.nd _ (nd_mem h1.1 h1.2.1), hn.nd _ (nd_mem h2.1 h2.2.1), q1.2.1, q2.2.1, ha, g2, hl, g3⟩
theorem Meet.swap {n : Nt} {a b : Int} (h : Meet n a b) : Meet n b a := Meet.of h.ok h.good h.hb h.lb
theorem Meet.start {n : Nt} {a b : Int} (h : Meet n a b) : Run n a b 0 n [⟨a, 0⟩, ⟨b, 0⟩] := Run.start h.ok h.good h.ha h.la h.ab
theorem Meet.hasA {n : Nt} {a b : Int} (h : Meet n a b) {s : Nat} (hs : s < (n.nd a).to.length) : n.has ⟨a, s⟩ = true := has_iff.2 ⟨h.a0, h.a1, by simp, by simp only; omega⟩
theorem Meet.hasB {n : Nt} {a b : Int} (h : Meet n a b) {s : Nat} (hs : s < (n.nd b).to.length) : n.has ⟨b, s⟩ = true := has_iff.2 ⟨h.b0, h.b1, by simp, by simp only; omega⟩
theorem Meet.kA {n : Nt} {a b : Int} (h : Meet n a b) : (n.nd a).k ≠ 0 := semi_k h.good.semi h.ha
theorem Meet.kB {n : Nt} {a b : Int} (h : Meet n a b) : (n.nd b).k ≠ 0 := semi_k h.good.semi h.hb
theorem Meet.lenA {n : Nt} {a b : Int} (h : Meet n a b) : 1 ≤ (n.nd a).to.length := by have := has_iff.1 h.ha; simp only at this; omega
theorem Meet.lenB {n : Nt} {a b : Int} (h : Meet n a b) : 1 ≤ (n.nd b).to.length := h.swap.lenA
theorem portsA (a : Int) {k : Nat} (h : 1 ≤ k) : portsR a 0 k = ⟨a, 0⟩ :: portsR a 1 k := by rw [portsR_cons (by omega)]; rfl
theorem portsA1 (a : Int) {k : Nat} (h : 2 ≤ k) : portsR a 1 k = ⟨a, 1⟩ :: portsR a 2 k := by rw [portsR_cons (by omega)]; rfl
theorem len_of {x : Nd} {k : Nat} (h : (x.to.length : Int) = x.ports) (e : x.ports = k) : x.to.length = k := by omega
theorem to10 {x : Nd} (hm : x.may) (h : (x.to.length : Int) = x.ports) : x.to.length ≤ 10 := by have := (to_le hm (by omega)).1; omega
theorem dropN_may {z : Int} (h0 : 0 ≤ z) (h1 : z ≤ 60) : (dropN z).may :=
  ⟨by show (0 : Int) ≤ 7; omega, by show (7 : Int) ≤ 13; omega, h0, h1, fun h => by have h : (7 : Int) < 2 := h; omega, by simp [dropN], by simp [dropN], by simp [dropN], by simp [dropN], by simp [dropN], by simp [dropN], fun i a h => by simp [dropN] at h⟩
theorem appN_may {z : Int} (h0 : 0 ≤ z) (h1 : z ≤ 60) : (appN z).may :=
  ⟨by show (0 : Int) ≤ 3; omega, by show (3 : Int) ≤ 13; omega, h0, h1, fun h => by have h : (3 : Int) < 2 := h; omega, by simp [appN], by simp [appN], by simp [appN], by simp [appN], by simp [appN], by simp [appN], fun i a h => by simp [appN] at h⟩
theorem fail1_may {z : Int} (h0 : 0 ≤ z) (h1 : z ≤ 60) : (fail1 z).may :=
  ⟨by show (0 : Int) ≤ 13; omega, by show (13 : Int) ≤ 13; omega, h0, h1, fun h => by have h : (13 : Int) < 2 := h; omega, by simp [fail1], by simp [fail1], by simp [fail1], by simp [fail1], by simp [fail1], by simp [fail1], fun i a h => by simp [fail1] at h⟩
theorem appN_Ok {z : Int} (h : wf z) : (appN z).Ok := ⟨by show wf 3; decide, h, by show wf 0; decide, by simp [appN], by simp [appN], by simp [appN], by simp [appN], by simp [appN]⟩
theorem fail1_Ok {z : Int} (h : wf z) : (fail1 z).Ok := ⟨by show wf 13; decide, h, by show wf 0; decide, by simp [fail1], by simp [fail1], by simp [fail1], by simp [fail1], by simp [fail1]⟩
theorem halfN_may {x y : Nd} (hx : x.may) (hk : x.k = 11) : (halfN x y).may :=
  ⟨by show (0 : Int) ≤ 12; omega, by show (12 : Int) ≤ 13; omega, hx.lv0, hx.lv1, fun h => by have h : (12 : Int) < 2 := h; omega, by simp only [halfN]; exact ⟨fun _ => by simp, fun _ => hx.nm.2 (by simp [hk])⟩, by simp [halfN], by simp [halfN], by simp [halfN], by simp [halfN], by simp [halfN], fun i a h => by simp [halfN] at h⟩
theorem halfN_Ok {x y : Nd} (hx : x.Ok) (hy : y.Ok) : (halfN x y).Ok := ⟨by show wf 12; decide, hx.lv, hy.n, hx.s, by simp [halfN], by simp [halfN], by simp [halfN], by simp [halfN]⟩
def endL (n : Nt) (a b : Int) : List Pt := portsR a 0 (n.nd a).to.length ++ portsR b 0 (n.nd b).to.length
section
variable {n : Nt} {a b : Int}
theorem done_join (h : Meet n a b) (he : (n.nd a).to.length = (n.nd b).to.length) : Run n a b 0 (joinD n a b) (endL n a b) := by
  have hl := h.lenA
  have h1 := Run.joins h.ab (List.range' 1 ((n.nd a).to.length - 1)) h.start (List.nodup_range' ..) (fun s hs => by
    rw [List.mem_range'_1] at hs
    have e : ¬ s = 0 := by omega
    refine ⟨h.hasA (by omega), h.hasB (by omega), ?_, ?_⟩ <;> simp [e])
  refine h1.perm ?_
  unfold endL
  rw [← he, portsA a hl, portsA b hl]
  unfold portsR
  rw [List.perm_iff_count]; intro q; simp only [List.cons_append, List.count_cons, List.count_append, List.count_nil]; omega
theorem done_half (h : Meet n a b) (hx : (n.nd a).k = 11) (hy : (n.nd b).k = 10) (hu : n.used + 1 ≤ n.cap) : Run n a b 1 (halfD n a b) (endL n a b) := by
  obtain ⟨t, g1, g2, g3⟩ := h.start.make (halfN_Ok h.ka h.kb) (halfN_may (y := n.nd b) h.ma hx) (by show ¬ (12 : Int) = 0; omega) (by show ¬ (12 : Int) = 1; omega) (by omega)
  have e3 : (n.nd a).to.length = 3 := len_of h.pa (by unfold Nd.ports; rw [hx]; rfl)
  have e1 : (n.nd b).to.length = 1 := len_of h.pb (by unfold Nd.ports; rw [hy]; rfl)
  rw [newP2 rfl] at g3
  have ht : (makeR n (halfN (n.nd a) (n.nd b))).2.1 = t := by rw [g1]
  have a1 := h.hasA (s := 1) (by omega)
  have a2 := h.hasA (s := 2) (by omega)
  have na : a ≠ t := g2.new _ a1
  have h1 := Run.move (p := ⟨a, 2⟩) (q := ⟨t, 0⟩) (L := [⟨t, 1⟩, ⟨a, 0⟩, ⟨b, 0⟩]) g3 ((g2.has _).2 (.inl a2)) (by simp [na]) (.inl rfl)
  have h2 := Run.move (p := ⟨a, 1⟩) (q := ⟨t, 1⟩) (L := [⟨a, 2⟩, ⟨a, 0⟩, ⟨b, 0⟩]) (h1.perm (List.Perm.swap ..)) (by rw [(moveR_shp _ _ _).has]; exact (g2.has _).2 (.inl a1)) (by simp [na]) (.inl rfl)
  have e : halfD n a b = (moveR (moveR (makeR n (halfN (n.nd a) (n.nd b))).1 ⟨a, 2⟩ ⟨t, 0⟩).1 ⟨a, 1⟩ ⟨t, 1⟩).1 := by unfold halfD; simp only [ht]
  rw [e]
  refine h2.perm ?_
  unfold endL
  rw [e3, e1]
  show List.Perm [(⟨a, 1⟩ : Pt), ⟨a, 2⟩, ⟨a, 0⟩, ⟨b, 0⟩] [⟨a, 0⟩, ⟨a, 1⟩, ⟨a, 2⟩, ⟨b, 0⟩]
  rw [List.perm_iff_count]; intro q; simp only [List.count_cons, List.count_nil]; omega
theorem done_out (h : Meet n a b) (hx : (n.nd a).k = 12) (hy : (n.nd b).k = 10) {x : Nd} (h1 : x.may) (h2 : x.Ok) (h3 : x.ports = 1) (h4 : x.k ≠ 0) (h5 : x.k ≠ 1) (hu : n.used + 1 ≤ n.cap) : Run n a b 1 (outD n x a) (endL n a b) := by
  obtain ⟨t, g1, g2, g3⟩ := h.start.make h2 h1 h4 h5 (by omega)
  have e3 : (n.nd a).to.length = 2 := len_of h.pa (by unfold Nd.ports; rw [hx]; rfl)
  have e1 : (n.nd b).to.length = 1 := len_of h.pb (by unfold Nd.ports; rw [hy]; rfl)
  rw [newP1 h3] at g3
  have ht : (makeR n x).2.1 = t := by rw [g1]
  have a1 := h.hasA (s := 1) (by omega)
  have na : a ≠ t := g2.new _ a1
  have h1 := Run.move (p := ⟨a, 1⟩) (q := ⟨t, 0⟩) (L := [⟨a, 0⟩, ⟨b, 0⟩]) g3 ((g2.has _).2 (.inl a1)) (by simp [na]) (.inl rfl)
  have e : outD n x a = (moveR (makeR n x).1 ⟨a, 1⟩ ⟨t, 0⟩).1 := by unfold outD; simp only [ht]
  rw [e]
  refine h1.perm ?_
  unfold endL
  rw [e3, e1]
  show List.Perm [(⟨a, 1⟩ : Pt), ⟨a, 0⟩, ⟨b, 0⟩] [⟨a, 0⟩, ⟨a, 1⟩, ⟨b, 0⟩]
  exact List.Perm.swap ..
theorem done_drop (h : Meet n a b) (hx : (n.nd a).k = 7) (hu : n.used + ((n.nd b).to.length - 1) ≤ n.cap) : Run n a b ((n.nd b).to.length - 1) (dropD n a b) (endL n a b) := by
  have hl := h.lenB
  have e1 : (n.nd a).to.length = 1 := len_of h.pa (by unfold Nd.ports; rw [hx]; rfl)
  have el : (portsR b 1 (n.nd b).to.length).length = (n.nd b).to.length - 1 := portsR_len _ _ _
  obtain ⟨g1, g2, g3⟩ := h.start.likes (dropN_Ok h.ka.lv) (dropN_may h.ma.lv0 h.ma.lv1) (by show ¬ (7 : Int) = 0; omega) (by show ¬ (7 : Int) = 1; omega) (by show (0 : Int) < 1; omega) ((portsR b 1 (n.nd b).to.length).length) (by omega)
  rw [flat1 rfl] at g3
  have h1 := Run.moves (portsR b 1 (n.nd b).to.length) (likeR n (dropN (n.nd a).lv) (portsR b 1 (n.nd b).to.length).length).2 g3 g2.symm (portsR_nodup _ _ _) (fun p hp => by
    obtain ⟨q1, q2, q3⟩ := mem_portsR.1 hp
    have hh : n.has p = true := has_iff.2 ⟨by rw [q1]; exact h.b0, by rw [q1]; exact h.b1, by omega, by rw [q1]; omega⟩
    refine ⟨(g1.has p).2 (.inl hh), ?_, fun hd => g1.new _ hd p hh rfl, .inr q1⟩
    have : ¬ p.s = 0 := by omega
    simp only [List.mem_cons, List.not_mem_nil, or_false, not_or]
    exact ⟨fun e => this (by rw [e]), fun e => this (by rw [e])⟩)
  have e : (0 : Int) + ((portsR b 1 (n.nd b).to.length).length : Nat) = (n.nd b).to.length - 1 := by omega
  rw [e] at h1
  refine Run.perm (n := dropD n a b) h1 ?_
  unfold endL
  rw [portsA b hl, e1]
  show List.Perm _ ([(⟨a, 0⟩ : Pt)] ++ _)
  rw [List.perm_iff_count]; intro q; simp only [List.cons_append, List.count_cons, List.count_append, List.count_nil]; omega
theorem done_fail (h : Meet n a b) (hx : 2 ≤ (n.nd a).to.length) (hu : n.used + (1 + ((n.nd a).to.length - 2) + ((n.nd b).to.length - 1)) ≤ n.cap) : Run n a b (1 + ((n.nd a).to.length - 2) + ((n.nd b).to.length - 1)) (failD n a b) (endL n a b) := by
  have hl := h.lenB
  obtain ⟨t, g1, g2, g3⟩ := h.start.make (fail1_Ok h.ka.lv) (fail1_may h.ma.lv0 h.ma.lv1) (by show ¬ (13 : Int) = 0; omega) (by show ¬ (13 : Int) = 1; omega) (by omega)
  rw [newP1 rfl] at g3
  have ht : (makeR n (fail1 (n.nd a).lv)).2.1 = t := by rw [g1]
  obtain ⟨m, hm⟩ : ∃ m, (makeR n (fail1 (n.nd a).lv)).1 = m := ⟨_, rfl⟩
  rw [hm] at g2 g3
  have na : a ≠ t := g2.new _ h.ha
  have nb : b ≠ t := g2.new _ h.hb
  have ea : m.nd a = n.nd a := g2.oth a h.a0 na
  have eb : m.nd b = n.nd b := g2.oth b h.b0 nb
  have ef : failD n a b = runs (moveR (likeR m (dropN (n.nd a).lv) (portsR a 2 (n.nd a).to.length ++ portsR b 1 (n.nd b).to.length).length).1 ⟨a, 1⟩ ⟨t, 0⟩).1
      (dropOps (portsR a 2 (n.nd a).to.length ++ portsR b 1 (n.nd b).to.length) (likeR m (dropN (n.nd a).lv) (portsR a 2 (n.nd a).to.length ++ portsR b 1 (n.nd b).to.length).length).2) := by
    unfold failD; simp only [hm, ht, ea, eb]
  obtain ⟨l, hl0⟩ : ∃ l, portsR a 2 (n.nd a).to.length ++ portsR b 1 (n.nd b).to.length = l := ⟨_, rfl⟩
  rw [hl0] at ef
  have el : l.length = (n.nd a).to.length - 2 + ((n.nd b).to.length - 1) := by rw [← hl0, List.length_append, portsR_len, portsR_len]
  have hmem : ∀ p ∈ l, (p.n = a ∧ 2 ≤ p.s ∧ p.s < (n.nd a).to.length) ∨ (p.n = b ∧ 1 ≤ p.s ∧ p.s < (n.nd b).to.length) := fun p hp => by
    rw [← hl0, List.mem_append, mem_portsR, mem_portsR] at hp; exact hp
  have hnod : l.Nodup := by
    rw [← hl0, List.nodup_append]
    refine ⟨portsR_nodup _ _ _, portsR_nodup _ _ _, fun p hp q hq e => ?_⟩
    subst e
    exact h.ab ((mem_portsR.1 hp).1.symm.trans (mem_portsR.1 hq).1)
  obtain ⟨k1, k2, k3⟩ := g3.likes (dropN_Ok h.ka.lv) (dropN_may h.ma.lv0 h.ma.lv1) (by show ¬ (7 : Int) = 0; omega) (by show ¬ (7 : Int) = 1; omega) (by show (0 : Int) < 1; omega) l.length (by omega)
  rw [flat1 rfl] at k3
  obtain ⟨⟨m2, ds⟩, hr⟩ : ∃ r, likeR m (dropN (n.nd a).lv) l.length = r := ⟨_, rfl⟩
  rw [hr] at k1 k2 k3 ef
  simp only at k1 k2 k3 ef
  have a1 := h.hasA (s := 1) (by omega)
  have a1m : m.has ⟨a, 1⟩ = true := (g2.has _).2 (.inl a1)
  have had : a ∉ ds := fun hd => k1.new _ hd _ a1m rfl
  have hbd : b ∉ ds := fun hd => k1.new _ hd _ ((g2.has _).2 (.inl h.hb)) rfl
  have htd : t ∉ ds := fun hd => k1.new _ hd ⟨t, 0⟩ ((g2.has _).2 (.inr ⟨rfl, by simp, by show (0 : Int) < 1; omega⟩)) rfl
  have h1 := Run.move (p := ⟨a, 1⟩) (q := ⟨t, 0⟩) (L := ds.map (fun d => (⟨d, 0⟩ : Pt)) ++ [⟨a, 0⟩, ⟨b, 0⟩]) (k3.perm (by
    rw [List.perm_iff_count]; intro q; simp only [List.cons_append, List.count_cons, List.count_append, List.count_nil, List.nil_append]; omega)) ((k1.has _).2 (.inl a1m)) (by
      simp only [List.mem_cons, List.mem_append, List.mem_map, Pt.mk.injEq, na, false_and, List.not_mem_nil, or_false, false_or, not_or, not_exists, not_and]
      refine ⟨fun x hx e => absurd (e ▸ hx) had, by simp, by simp⟩) (.inl rfl)
  have h2 := Run.moves l ds (L := [⟨a, 1⟩, ⟨a, 0⟩, ⟨b, 0⟩]) (h1.perm (by
    rw [List.perm_iff_count]; intro q; simp only [List.cons_append, List.count_cons, List.count_append, List.count_nil, List.nil_append]; omega)) k2.symm hnod (fun p hp => by
      have hp2 := hmem p hp
      have hh : n.has p = true := by
        rcases hp2 with ⟨q1, q2, q3⟩ | ⟨q1, q2, q3⟩
        · exact has_iff.2 ⟨by rw [q1]; exact h.a0, by rw [q1]; exact h.a1, by omega, by rw [q1]; omega⟩
        · exact has_iff.2 ⟨by rw [q1]; exact h.b0, by rw [q1]; exact h.b1, by omega, by rw [q1]; omega⟩
      refine ⟨by rw [(moveR_shp _ _ _).has]; exact (k1.has p).2 (.inl ((g2.has p).2 (.inl hh))), ?_, ?_, hp2.imp (·.1) (·.1)⟩
      · simp only [List.mem_cons, List.not_mem_nil, or_false, not_or]
        have hab := h.ab
        refine ⟨fun e => ?_, fun e => ?_, fun e => ?_⟩ <;> rw [e] at hp2 <;> simp only at hp2 <;> omega
      · intro hd
        exact k1.new _ hd p ((g2.has p).2 (.inl hh)) rfl)
  rw [← ef] at h2
  have e : (0 : Int) + 1 + (l.length : Nat) = 1 + ((n.nd a).to.length - 2) + ((n.nd b).to.length - 1) := by omega
  rw [e] at h2
  refine Run.perm h2 ?_
  unfold endL
  rw [portsA b hl, portsA a (by omega), portsA1 a (by omega), ← hl0]
  rw [List.perm_iff_count]; intro q; simp only [List.cons_append, List.count_cons, List.count_append, List.count_nil]; omega
end
end Go.Proofs.YtomcceambpneiaaGreat
end
section
set_option linter.unusedSimpArgs false
set_option linter.unusedVariables false
set_option maxHeartbeats 4000000
namespace Go.Proofs.YtomcceambpneiaaGreat
open Go.Fx
section
variable {n : Nt} {a b : Int}
theorem rest_perm {l : List Pt} (hn : l.Nodup) {q : Pt} (hq : q ∈ l) : l.Perm (q :: l.filter fun r => !decide (r = q)) := by
  refine (List.perm_ext_iff_of_nodup hn (List.nodup_cons.2 ⟨by simp, hn.sublist List.filter_sublist⟩)).2 fun r => ?_
  simp only [List.mem_cons, List.mem_filter, Bool.not_eq_true', decide_eq_false_iff_not]
  constructor
  · intro h
    by_cases e : r = q
    · exact .inl e
    · exact .inr ⟨h, e⟩
  · rintro (h | h)
    · rw [h]; exact hq
    · exact h.1
theorem done_pick (h : Meet n a b) (hx : (n.nd a).k = 9) (hy : (n.nd b).k = 8) {i : Nat} {A : Ar} (hA : (n.nd a).al[i]? = some A) (hN : A.n = ((n.nd b).to.length : Int) - 1) (hu : n.used + (A.n + (n.nd a).al.length - 1) ≤ n.cap) :
    Run n a b (A.n + (n.nd a).al.length - 1) (pickD n i a b) (endL n a b) := by
  have hl := h.lenB
  have hil := (List.getElem?_eq_some_iff.1 hA).1
  have e1 : (n.nd a).to.length = 2 + (n.nd a).al.length := by
    have := h.pa
    unfold Nd.ports at this; rw [hx] at this
    simp at this; omega
  have hA2 : (n.nd a).al.getD i zA = A := by rw [List.getD_eq_getElem?_getD, hA]; rfl
  obtain ⟨k, hk⟩ : ∃ k : Nat, A.n = k := ⟨A.n.toNat, by omega⟩
  have el : (n.nd b).to.length = k + 1 := by omega
  obtain ⟨g1, g2, g3⟩ := h.start.likes (appN_Ok h.ka.lv) (appN_may h.ma.lv0 h.ma.lv1) (by show ¬ (3 : Int) = 0; omega) (by show ¬ (3 : Int) = 1; omega) (by show (0 : Int) < 3; omega) k (by omega)
  obtain ⟨⟨m, apps⟩, hr⟩ : ∃ r, likeR n (appN (n.nd a).lv) k = r := ⟨_, rfl⟩
  rw [hr] at g1 g2 g3
  simp only at g1 g2 g3
  have haa : a ∉ apps := fun hd => g1.new _ hd _ h.ha rfl
  have hba : b ∉ apps := fun hd => g1.new _ hd _ h.hb rfl
  have ea : m.nd a = n.nd a := g1.oth a h.a0 haa
  obtain ⟨l, hl0⟩ : ∃ l, restR m a i = l := ⟨_, rfl⟩
  have hl1 : l = (portsR a 2 (n.nd a).to.length).filter fun r => !decide (r = ⟨a, (i : Int) + 2⟩) := by rw [← hl0]; unfold restR; rw [ea]
  have hq2 : (⟨a, (i : Int) + 2⟩ : Pt) ∈ portsR a 2 (n.nd a).to.length := mem_portsR.2 ⟨rfl, by simp only; omega, by simp only; omega⟩
  have hpl := rest_perm (portsR_nodup a 2 (n.nd a).to.length) hq2
  rw [← hl1] at hpl
  have hll : l.length = (n.nd a).al.length - 1 := by
    have := hpl.length_eq
    rw [portsR_len, List.length_cons] at this; omega
  have hnl : l.Nodup := (List.nodup_cons.1 (hpl.nodup_iff.1 (portsR_nodup _ _ _))).2
  have hql : (⟨a, (i : Int) + 2⟩ : Pt) ∉ l := (List.nodup_cons.1 (hpl.nodup_iff.1 (portsR_nodup _ _ _))).1
  have hml : ∀ p ∈ l, p.n = a ∧ 2 ≤ p.s ∧ p.s < (n.nd a).to.length ∧ p ≠ ⟨a, (i : Int) + 2⟩ := fun p hp => by
    have h1 := mem_portsR.1 (hpl.mem_iff.2 (List.mem_cons_of_mem _ hp))
    exact ⟨h1.1, h1.2.1, h1.2.2, fun e => hql (e ▸ hp)⟩
  obtain ⟨k1, k2, k3⟩ := g3.likes (dropN_Ok h.ka.lv) (dropN_may h.ma.lv0 h.ma.lv1) (by show ¬ (7 : Int) = 0; omega) (by show ¬ (7 : Int) = 1; omega) (by show (0 : Int) < 1; omega) l.length (by omega)
  rw [flat1 rfl] at k3
  obtain ⟨⟨m2, ds⟩, hr2⟩ : ∃ r, likeR m (dropN (n.nd a).lv) l.length = r := ⟨_, rfl⟩
  rw [hr2] at k1 k2 k3
  simp only at k1 k2 k3
  have hm : ∀ p, n.has p = true → m2.has p = true := fun p hp => (k1.has p).2 (.inl ((g1.has p).2 (.inl hp)))
  have had : a ∉ ds := fun hd => k1.new _ hd _ ((g1.has _).2 (.inl h.ha)) rfl
  have hbd : b ∉ ds := fun hd => k1.new _ hd _ ((g1.has _).2 (.inl h.hb)) rfl
  have hdd : ∀ d ∈ apps, d ∉ ds := fun d hd hd2 => k1.new _ hd2 ⟨d, 0⟩ ((g1.has _).2 (.inr ⟨hd, by simp, by show (0 : Int) < 3; omega⟩)) rfl
  have a1 := h.hasA (s := 1) (by omega)
  have aq : n.has ⟨a, (i : Int) + 2⟩ = true := by have := h.hasA (s := i + 2) (by omega); exact this
  have nds : ∀ (u v : Int), u = a ∨ u = b → (⟨u, v⟩ : Pt) ∉ ds.map fun d => (⟨d, 0⟩ : Pt) := fun u v hu hm => by
    simp only [List.mem_map, Pt.mk.injEq] at hm
    obtain ⟨x, hx, e, _⟩ := hm
    rcases hu with hu | hu
    · exact had (hu ▸ e ▸ hx)
    · exact hbd (hu ▸ e ▸ hx)
  have hab := h.ab
  have hba' : ¬ b = a := fun e => hab e.symm
  have i0 : ¬ (i : Int) + 2 = 0 := by omega
  have i1 : ¬ (i : Int) + 2 = 1 := by omega
  have fin : ∀ (m3 : Nt), (∀ p, n.has p = true → m3.has p = true) → Run n a b (0 + k + l.length) m3 (ds.map (fun d => (⟨d, 0⟩ : Pt)) ++ (⟨a, 1⟩ :: ⟨a, (i : Int) + 2⟩ :: (portsR b 1 (k + 1) ++ [⟨a, 0⟩, ⟨b, 0⟩]))) →
      Run n a b (A.n + (n.nd a).al.length - 1) (runs m3 (dropOps l ds)) (endL n a b) := by
    intro m3 hm3 hR
    have h2 := Run.moves l ds hR k2.symm hnl (fun p hp => by
      obtain ⟨q1, q2, q3, q4⟩ := hml p hp
      refine ⟨hm3 p (has_iff.2 ⟨by rw [q1]; exact h.a0, by rw [q1]; exact h.a1, by omega, by rw [q1]; omega⟩), ?_, by rw [q1]; exact had, .inl q1⟩
      simp only [List.mem_cons, List.mem_append, mem_portsR, List.not_mem_nil, or_false, not_or]
      refine ⟨fun e => ?_, q4, fun e => ?_, fun e => ?_, fun e => ?_⟩
      · rw [e] at q2; simp only at q2; omega
      · rw [q1] at e; exact hab e.1
      · rw [e] at q2; simp only at q2; omega
      · rw [e] at q1; exact hba' q1)
    have e : (0 : Int) + k + (l.length : Nat) = A.n + (n.nd a).al.length - 1 := by omega
    rw [e] at h2
    refine Run.perm h2 ?_
    unfold endL
    rw [portsA b hl, portsA a (by omega), portsA1 a (by omega), el]
    rw [List.perm_iff_count]; intro q
    have hc := List.perm_iff_count.1 hpl q
    simp only [List.cons_append, List.count_cons, List.count_append, List.count_nil] at hc ⊢
    rw [hc]; omega
  cases apps with
  | nil =>
    have hk0 : k = 0 := by rw [← g2]; rfl
    subst hk0
    have e : pickD n i a b = runs (joinR m2 ⟨a, (i : Int) + 2⟩ ⟨a, 1⟩).1 (dropOps l ds) := by
      unfold pickD
      simp only [Int.toNat_natCast, hA2, hk, hr, hl0, ea, hr2]
      rfl
    rw [e]
    have h1 := k3.join (p := ⟨a, (i : Int) + 2⟩) (q := ⟨a, 1⟩) (hm _ aq) (hm _ a1) (by
      simp only [List.flatMap_nil, List.nil_append, List.mem_append, List.mem_cons, Pt.mk.injEq, i0, hab, and_false, false_and, List.not_mem_nil, or_false]; exact nds _ _ (.inl rfl)) (by
      simp only [List.flatMap_nil, List.nil_append, List.mem_append, List.mem_cons, Pt.mk.injEq, hab, and_false, false_and, List.not_mem_nil, or_false, not_or]; exact ⟨nds _ _ (.inl rfl), by omega⟩) (by
      intro e; simp only [Pt.mk.injEq] at e; exact i1 e.2) (.inl rfl) (.inl rfl)
    refine fin _ (fun p hp => by rw [(joinR_shp _ _ _).has]; exact hm p hp) (h1.perm ?_)
    rw [portsR_nil (by omega)]
    rw [List.perm_iff_count]; intro q; simp only [List.flatMap_nil, List.nil_append, List.cons_append, List.count_cons, List.count_append, List.count_nil]; omega
  | cons d r =>
    have e : pickD n i a b = runs (runs (moveR m2 ⟨a, (i : Int) + 2⟩ ⟨d, 0⟩).1 (pickOps a b 0 (d :: r))) (dropOps l ds) := by
      unfold pickD
      simp only [Int.toNat_natCast, hA2, hk, hr, hl0, ea, hr2]
    rw [e]
    rw [List.flatMap_cons, newP3 rfl] at k3
    have nrr : ∀ (u v : Int), u = a ∨ u = b → (⟨u, v⟩ : Pt) ∉ r.flatMap (newP (appN (n.nd a).lv)) := fun u v hu hm => by
      obtain ⟨t, ht, hs⟩ := List.mem_flatMap.1 hm
      have this : u = t := (mem_portsR.1 hs).1
      rcases hu with hu | hu
      · exact haa (List.mem_cons_of_mem _ (by rw [← hu, this]; exact ht))
      · exact hba (List.mem_cons_of_mem _ (by rw [← hu, this]; exact ht))
    have had' : ¬ a = d := fun e => haa (by simp [e])
    have hbd' : ¬ b = d := fun e => hba (by simp [e])
    have h1 := Run.move (p := ⟨a, (i : Int) + 2⟩) (q := ⟨d, 0⟩) (L := ⟨d, 1⟩ :: ⟨d, 2⟩ :: (r.flatMap (newP (appN (n.nd a).lv)) ++ (ds.map (fun d => (⟨d, 0⟩ : Pt)) ++ [⟨a, 0⟩, ⟨b, 0⟩]))) (k3.perm (by
      rw [List.perm_iff_count]; intro q; simp only [List.nil_append, List.cons_append, List.count_cons, List.count_append, List.count_nil]; omega)) (hm _ aq) (by
        simp only [List.mem_append, List.mem_cons, Pt.mk.injEq, i0, hab, had', and_false, false_and, List.not_mem_nil, or_false, false_or, not_or]; exact ⟨nrr _ _ (.inl rfl), nds _ _ (.inl rfl)⟩) (.inl rfl)
    have h2 := Run.picks (apps := []) (lv := (n.nd a).lv) r d 0 (L := ⟨a, (i : Int) + 2⟩ :: (ds.map (fun d => (⟨d, 0⟩ : Pt)) ++ [⟨a, 0⟩, ⟨b, 0⟩])) (h1.perm (by
      rw [List.perm_iff_count]; intro q; simp only [List.nil_append, List.cons_append, List.count_cons, List.count_append, List.count_nil]; omega)) (fun s s1 s2 => by
        have hlen : r.length + 1 = k := by rw [← g2]; rfl
        refine ⟨by rw [(moveR_shp _ _ _).has]; exact hm _ (h.hasB (by omega)), ?_⟩
        have s0 : ¬ (s : Int) = 0 := by omega
        simp only [List.mem_append, List.mem_cons, Pt.mk.injEq, s0, hba', and_false, false_and, List.not_mem_nil, or_false, false_or]; exact nds _ _ (.inr rfl)) (by rw [(moveR_shp _ _ _).has]; exact hm _ a1) (by
        simp only [List.mem_append, List.mem_cons, Pt.mk.injEq, hab, false_and, List.not_mem_nil, or_false, true_and, not_or]
        exact ⟨by omega, nds _ _ (.inl rfl), by omega⟩) haa hba hab
    have hlen : r.length + 1 = k := by rw [← g2]; rfl
    refine fin _ (fun p hp => by rw [(runs_shp _ _).has, (moveR_shp _ _ _).has]; exact hm p hp) (h2.perm ?_)
    rw [show 0 + 2 + r.length = k + 1 by omega]
    rw [List.perm_iff_count]; intro q; simp only [Nat.zero_add, List.nil_append, List.cons_append, List.count_cons, List.count_append, List.count_nil]; omega
theorem lv_may {y : Nd} (hy : y.may) {lv : Int} (h0 : 0 ≤ lv) (h1 : lv ≤ 60) (hk : ¬ y.k < 2) : ({ y with lv := lv } : Nd).may :=
  ⟨hy.k0, hy.k1, h0, h1, fun h => absurd h hk, hy.nm, hy.nn, hy.to8, hy.al9, hy.aln, hy.al8, hy.alt⟩
theorem cls_ne {k : Int} (h : cls k ≠ 0) : k ≠ 0 ∧ k ≠ 1 ∧ ¬ k < 2 := by
  have h1 := cls_1 k
  have h2 := cls_2 k
  have h3 := cls_3 k
  have h4 := cls_4 k
  have h5 := cls_le k
  omega
theorem done_pass (h : Meet n a b) {lv : Int} (hx : cls (n.nd a).k = 3) (hy : cls (n.nd b).k ≠ 0) (h0 : 0 ≤ lv) (h1 : lv ≤ 60) (hu : n.used + (((n.nd a).to.length - 1 : Int) + ((n.nd b).to.length - 1)) ≤ n.cap) :
    Run n a b (((n.nd a).to.length - 1 : Int) + ((n.nd b).to.length - 1)) (passD n lv a b) (endL n a b) := by
  have la := h.lenA
  have lb := h.lenB
  obtain ⟨c0, c1, c2⟩ := cls_ne hy
  obtain ⟨x0, x1, x2⟩ := cls_ne (k := (n.nd a).k) (by omega)
  have hab := h.ab
  have hba' : ¬ b = a := fun e => hab e.symm
  obtain ⟨y, hy0⟩ : ∃ y : Nd, ({ n.nd b with lv := lv } : Nd) = y := ⟨_, rfl⟩
  have yk : y.k = (n.nd b).k := by rw [← hy0]
  have yt : y.to = (n.nd b).to := by rw [← hy0]
  have yp : y.ports = (n.nd b).ports := by rw [← hy0]; rfl
  have ym : y.may := by rw [← hy0]; exact lv_may h.mb h0 h1 c2
  have yo : y.Ok := by rw [← hy0]; exact lv_Ok h.kb (by unfold wf; omega)
  have pa := h.pa
  have pb := h.pb
  obtain ⟨g1, g2, g3⟩ := h.start.likes yo ym (by rw [yk]; exact c0) (by rw [yk]; exact c1) (by rw [yp]; omega) ((n.nd a).to.length - 1) (by omega)
  obtain ⟨⟨m, cs⟩, hr⟩ : ∃ r, likeR n y ((n.nd a).to.length - 1) = r := ⟨_, rfl⟩
  rw [hr] at g1 g2 g3
  simp only at g1 g2 g3
  obtain ⟨k1, k2, k3⟩ := g3.likes h.ka h.ma x0 x1 (by omega) ((n.nd b).to.length - 1) (by omega)
  obtain ⟨⟨m2, ds⟩, hr2⟩ : ∃ r, likeR m (n.nd a) ((n.nd b).to.length - 1) = r := ⟨_, rfl⟩
  rw [hr2] at k1 k2 k3
  simp only at k1 k2 k3
  have hm : ∀ p, n.has p = true → m2.has p = true := fun p hp => (k1.has p).2 (.inl ((g1.has p).2 (.inl hp)))
  have hac : a ∉ cs := fun hd => g1.new _ hd _ h.ha rfl
  have hbc : b ∉ cs := fun hd => g1.new _ hd _ h.hb rfl
  have had : a ∉ ds := fun hd => k1.new _ hd _ ((g1.has _).2 (.inl h.ha)) rfl
  have hbd : b ∉ ds := fun hd => k1.new _ hd _ ((g1.has _).2 (.inl h.hb)) rfl
  have e : passD n lv a b = runs (runs m2 (dropOps (portsR a 1 (n.nd a).to.length) cs)) (passOps b cs 0 ds) := by
    unfold passD; simp only [hy0, hr, yt, hr2]
  rw [e]
  have ey : (newP y) = fun d => (⟨d, 0⟩ : Pt) :: portsR d 1 (n.nd b).to.length := by
    funext d
    unfold newP
    rw [yp, show (n.nd b).ports.toNat = (n.nd b).to.length by omega, portsA d lb]
  have p1 := flat_cons (fun d : Int => (⟨d, 0⟩ : Pt)) (fun d => portsR d 1 (n.nd b).to.length) cs
  rw [ey] at k3
  have nin : ∀ (u v : Int) (f : Int → List Pt) (l : List Int), (∀ d p, p ∈ f d → p.n = d) → u ∉ l → (⟨u, v⟩ : Pt) ∉ l.flatMap f := fun u v f l hf hu hm => by
    obtain ⟨t, ht, hs⟩ := List.mem_flatMap.1 hm
    have := hf t _ hs
    simp only at this
    exact hu (this ▸ ht)
  have h1 := Run.moves (portsR a 1 (n.nd a).to.length) cs (L := ds.flatMap (newP (n.nd a)) ++ ((cs.flatMap fun d => portsR d 1 (n.nd b).to.length) ++ [⟨a, 0⟩, ⟨b, 0⟩])) (k3.perm (by
    rw [List.perm_iff_count]; intro q
    have := List.perm_iff_count.1 p1 q
    simp only [List.nil_append, List.cons_append, List.count_cons, List.count_append, List.count_nil] at this ⊢; omega)) (by rw [portsR_len]; exact g2.symm) (portsR_nodup _ _ _) (fun p hp => by
      obtain ⟨q1, q2, q3⟩ := mem_portsR.1 hp
      obtain ⟨u, v⟩ := p
      simp only at q1 q2 q3
      subst q1
      refine ⟨hm _ (has_iff.2 ⟨h.a0, h.a1, by simp only; omega, by simp only; omega⟩), ?_, hac, .inl rfl⟩
      have v0 : ¬ v = 0 := by omega
      simp only [List.mem_append, List.mem_cons, Pt.mk.injEq, v0, and_false, List.not_mem_nil, or_false, not_or]
      exact ⟨nin _ _ _ _ (fun d p hp => (mem_portsR.1 hp).1) had, nin _ _ _ _ (fun d p hp => (mem_portsR.1 hp).1) hac⟩)
  have h2 := Run.passes (x := n.nd a) (cs := cs) (by omega) ds 0 (L := portsR a 1 (n.nd a).to.length ++ [⟨a, 0⟩, ⟨b, 0⟩]) (h1.perm (by
    rw [show 0 + 1 + ds.length = (n.nd b).to.length by omega]
    rw [List.perm_iff_count]; intro q
    simp only [List.nil_append, List.cons_append, List.count_cons, List.count_append, List.count_nil, Nat.zero_add]; omega)) (fun s s1 s2 => by
      refine ⟨by rw [(runs_shp _ _).has]; exact hm _ (h.hasB (by omega)), ?_⟩
      have s0 : ¬ (s : Int) = 0 := by omega
      simp only [List.mem_append, List.mem_cons, mem_portsR, Pt.mk.injEq, s0, hba', false_and, and_false, List.not_mem_nil, or_false, not_false_eq_true]) hbd hbc
  have ec : (0 : Int) + (((n.nd a).to.length - 1 : Nat) : Int) + (((n.nd b).to.length - 1 : Nat) : Int) = ((n.nd a).to.length - 1 : Int) + ((n.nd b).to.length - 1) := by omega
  rw [ec] at h2
  refine Run.perm h2 ?_
  unfold endL
  rw [portsA b lb, portsA a la, show 0 + 1 + ds.length = (n.nd b).to.length by omega]
  rw [List.perm_iff_count]; intro q; simp only [List.nil_append, List.cons_append, List.count_cons, List.count_append, List.count_nil, Nat.zero_add]; omega
theorem done_run (h : Meet n a b) {p : Pl} (hp : PlanX (n.nd a) (n.nd b) p) (hu : n.used + needX p (n.nd a) (n.nd b) ≤ n.cap) : Run n a b (needX p (n.nd a) (n.nd b)) (doneR n p a b) (endL n a b) := by
  have la := h.lenA
  have lb := h.lenB
  have ta := to10 h.ma h.pa
  have tb := to10 h.mb h.pb
  have oa : oth (n.nd a) = (n.nd a).to.length - 1 := by rw [oth_in (by omega)]; omega
  have ob : oth (n.nd b) = (n.nd b).to.length - 1 := by rw [oth_in (by omega)]; omega
  have pa := h.pa
  have pb := h.pb
  cases hp with
  | beta h1 hx hy =>
    have e : needX p (n.nd a) (n.nd b) = 0 := by unfold needX; rw [h1]; simp
    have e2 : doneR n p a b = joinD n a b := by unfold doneR; rw [h1]; simp
    rw [e, e2]
    refine done_join h ?_
    unfold Nd.ports at pa pb; rw [hx] at pa; rw [hy] at pb
    simp at pa pb; omega
  | join h1 hx hy =>
    have e : needX p (n.nd a) (n.nd b) = 0 := by unfold needX; rw [h1]; simp
    have e2 : doneR n p a b = joinD n a b := by unfold doneR; rw [h1]; simp
    rw [e, e2]
    refine done_join h ?_
    have hx2 := (cls_3 _).1 hx
    have e3 : (n.nd a).ports = (n.nd b).ports := by
      unfold Nd.ports; rw [← hy]
      rcases hx2 with h | h | h <;> rw [h] <;> simp
    omega
  | pick i A h1 hx hy h2 h3 h4 =>
    have hil := (List.getElem?_eq_some_iff.1 h3).1
    have hal := h.ma.al8
    have hA2 : (n.nd a).al.getD i zA = A := by rw [List.getD_eq_getElem?_getD, h3]; rfl
    have e : needX p (n.nd a) (n.nd b) = A.n + (n.nd a).al.length - 1 := by
      unfold needX; rw [if_pos h1, if_neg (by omega), h2, Int.toNat_natCast, hA2, wr_in (z := A.n + (n.nd a).al.length) (by omega), wr_in (by omega)]
    have e2 : doneR n p a b = pickD n i a b := by unfold doneR; rw [h1, h2]; simp
    rw [e] at hu ⊢
    rw [e2]
    exact done_pick h hx hy h3 h4 hu
  | half h1 hx hy =>
    have e : needX p (n.nd a) (n.nd b) = 1 := by unfold needX; rw [h1]; simp
    have e2 : doneR n p a b = halfD n a b := by unfold doneR; rw [h1]; simp
    rw [e] at hu ⊢
    rw [e2]
    exact done_half h hx hy hu
  | out h1 hx hy g1 g2 g3 g4 g5 =>
    have e : needX p (n.nd a) (n.nd b) = 1 := by unfold needX; rw [h1]; simp
    have e2 : doneR n p a b = outD n p.nd a := by unfold doneR; rw [h1]; simp
    rw [e] at hu ⊢
    rw [e2]
    exact done_out h hx hy g1 g2 g3 g4 g5 hu
  | fail h1 hx hy =>
    have hx2 := (cls_1 _).1 hx
    have hal := h.ma.al8
    have l2 : 2 ≤ (n.nd a).to.length := by
      unfold Nd.ports at pa
      rcases hx2 with h | h | h | h <;> rw [h] at pa <;> simp at pa <;> omega
    have e : needX p (n.nd a) (n.nd b) = 1 + ((n.nd a).to.length - 2) + ((n.nd b).to.length - 1) := by
      unfold needX; rw [h1]
      simp only [Int.reduceEq, if_false, or_self, if_true]
      rw [oa, ob, wr_in (z := (n.nd a).to.length - 1 - 1) (by omega), wr_in (z := 1 + max ((n.nd a).to.length - 1 - 1 : Int) 0) (by omega), wr_in (by omega)]
      omega
    have e2 : doneR n p a b = failD n a b := by unfold doneR; rw [h1]; simp
    rw [e] at hu ⊢
    rw [e2]
    exact done_fail h l2 hu
  | pass h1 hx hy g1 g2 =>
    have hx2 := (cls_3 _).1 hx
    have e : needX p (n.nd a) (n.nd b) = ((n.nd a).to.length - 1 : Int) + ((n.nd b).to.length - 1) := by
      unfold needX; rw [h1]
      simp only [Int.reduceEq, if_false, or_self, if_true]
      rw [ob]
      unfold Nd.ports at pa
      by_cases h4 : (n.nd a).k = 4
      · rw [if_pos h4, wr_in (by omega)]
        rw [h4] at pa; simp at pa; omega
      · rw [if_neg h4, wr_in (by omega)]
        rcases hx2 with h | h | h
        · exact absurd h h4
        · rw [h] at pa; simp at pa; omega
        · rw [h] at pa; simp at pa; omega
    have e2 : doneR n p a b = passD n p.lv a b := by unfold doneR; rw [h1]; simp
    rw [e] at hu ⊢
    rw [e2]
    exact done_pass h hx hy g1 g2 hu
  | drop h1 hx hy =>
    have e : needX p (n.nd a) (n.nd b) = (n.nd b).to.length - 1 := by unfold needX; rw [h1]; simp [ob]
    have e2 : doneR n p a b = dropD n a b := by unfold doneR; rw [h1]; simp
    rw [e] at hu ⊢
    rw [e2]
    exact done_drop h hx hu
end
end Go.Proofs.YtomcceambpneiaaGreat
end
section
set_option linter.unusedSimpArgs false
set_option linter.unusedVariables false
set_option maxHeartbeats 4000000
set_option maxRecDepth 10000
namespace Go.Proofs.YtomcceambpneiaaGreat
open Go.Fx
theorem Meet.two {n : Nt} {a b : Int} (h : Meet n a b) : Two n a b 4000 :=
  ⟨h.ok, good_big h.good, h.a0, h.a1, h.b0, h.b1, by have := to10 h.ma h.pa; omega, by have := to10 h.mb h.pb; omega, h.kA, h.kB⟩
theorem freeR_Ok {n : Nt} (hn : n.Ok) (i : Int) : (freeR n i).1.Ok ∧ (freeR n i).1.ns.length ≤ n.ns.length := by
  unfold freeR
  split
  · exact ⟨free_Ok hn i, free_len n i⟩
  · exact ⟨hn, Nat.le_refl _⟩
theorem aDo_ok {ks : Key} {n : Nt} {pl : Pl} {a b : Int} {σ : St} (hM : Meet n a b) (hp : PlanX (n.nd a) (n.nd b) pl) (hu : n.used + needX pl (n.nd a) (n.nd b) ≤ n.cap) (h : SG ks n pl a b σ) :
    ∃ σ', eS S (.f 27) [.a (.ptr ks 0 0)] σ = some (.u, σ') ∧ SG ks (stepR n pl a b) pl a b σ' ∧ Fr ks σ σ' := by
  have hT := hM.two
  have hR := done_run hM hp hu
  have hbig := semi_big hR.semi
  have s0 := h.bs
  simp only [stg, List.map_cons, List.map_nil] at s0
  have hmx : (if b > a then b else a) = max a b := by omega
  have hmn : (if b < a then b else a) = min a b := by omega
  obtain ⟨Z, hZ⟩ : ∃ Z : C, (.seq (.reg [
ir 58 (.mv (.t 0)), ir 59 (.nck (.t 58)), ir 60 (.fad 12 (.t 59)), ir 61 (.ld 1 false (.t 60)), ir 62 (.mv (.t 0)), ir 63 (.nck (.t 62)), ir 64 (.fad 13 (.t 63)), ir 65 (.ld 1 false (.t 64)), ir 66 (.mx (.t 61) (.t 65)),
ir 67 (.mv (.t 0)), ir 68 (.nck (.t 67)), ir 69 (.fad 12 (.t 68)), ir 70 (.ld 1 false (.t 69)), ir 71 (.mv (.t 0)), ir 72 (.nck (.t 71)), ir 73 (.fad 13 (.t 72)), ir 74 (.ld 1 false (.t 73)), ir 75 (.mn (.t 70) (.t 74)),
⟨some 76, none, .bsl 1 3 [(.p (.i .i64 0))] 2 [(0, .t 66), (1, .t 75)], .ad⟩, ir 77 (.len false (.t 76)), ir 78 (.mv (ci 0))]) (.block 1 (.loop F27b0))) = Z := ⟨_, rfl⟩
  have rest : ∀ (e : Env) (σ1 : St), e 0 = .a (.ptr ks 0 0) → SG ks (doneR n pl a b) pl a b σ1 → Fr ks σ σ1 → wp S false Z e σ1 (RetS [] fun v σ' => v = .u ∧ SG ks (stepR n pl a b) pl a b σ' ∧ Fr ks σ σ') := by
    intro e σ1 e0 hS hF
    rw [← hZ]
    have c1 := sFree_ok (n := doneR n pl a b) hR.ok (by omega) (max a b)
    obtain ⟨o1, o2⟩ := freeR_Ok hR.ok (max a b)
    have c2 := sFree_ok (n := (freeR (doneR n pl a b) (max a b)).1) o1 (by omega) (min a b)
    have hst : stepR n pl a b = (freeR (freeR (doneR n pl a b) (max a b)).1 (min a b)).1 := rfl
    rw [hst]
    obtain ⟨m, hm⟩ : ∃ m, doneR n pl a b = m := ⟨_, rfl⟩
    rw [hm] at hS c1 c2 ⊢
    obtain ⟨⟨m1, e1⟩, hm1⟩ : ∃ r, freeR m (max a b) = r := ⟨_, rfl⟩
    rw [hm1] at c1 c2 ⊢
    simp only at c1 c2 ⊢
    obtain ⟨⟨m2, e2⟩, hm2⟩ : ∃ r, freeR m1 (min a b) = r := ⟨_, rfl⟩
    rw [hm2] at c2 ⊢
    have t1 := hS.bs
    have hlt := hS.lt
    have ne0 : ∀ d, ¬ ks = (d, σ1.clk) := by rintro d rfl; simp at hlt
    have ne1 : ∀ d, ¬ (d, σ1.clk) = ks := fun d e => ne0 d e.symm
    simp only [stg, List.map_cons, List.map_nil] at t1
    simp only [encT, encTE] at c1 c2
    simp only [F27b0, x_loop, e0, t1, hmx, hmn, c1, c2, ne0, ne1, frA_ptr, rowK, Int.toNat_natCast, Nat.zero_add, Int.cast_ofNat_Int, Int.reduceLE, Int.reduceLT, Int.reduceToNat, Int.reduceAdd, Int.reduceSub, Int.reduceNeg, Int.le_refl, wrap_in 1 (by decide), wrap_in 2 (by decide), evI_cl, clOk, ldKeeps, ldKeeps1, iasKeeps, rowK, nwKeeps, sameC, sameL, sameA, sameP, decide_true, frA_ptr, capsOf, fxa, fxc, fxE, fxL, fxI, nxE, evO, evR, cellsT, ldCells, mkT, lenA, binPV, Env.init, resV, resT, frT, klT, ownT, intT, O.adds, ownA, rowsA, over, wrOk, keysT, keysA, ne_eq, if_true, if_false, ite_self, Nat.reduceLT, Nat.reduceSub, Nat.reduceBEq, Nat.reduceEqDiff, Nat.reduceAdd, Nat.reduceLeDiff, reduceCtorEq, Nat.reduceMul]
    exact ⟨SG.set (n := m2) (p := pl) (a := a) (b := b) (by simp only [put_clk, add_clk]; omega), ((hF.add _ _).put (.inl rfl) _).put (.inl rfl) _⟩
  refine x_fnR (fc := F27) rfl rfl ?_
  have fin : ∀ (e : Env) (σ1 : St), e 0 = .a (.ptr ks 0 0) → SG ks (doneR n pl a b) pl a b σ1 → Fr ks σ σ1 → blkQ 0 (seqQ S false Z (RetS [] fun v σ' => v = .u ∧ SG ks (stepR n pl a b) pl a b σ' ∧ Fr ks σ σ')) .norm e σ1 := by
    intro e σ1 h1 h2 h3
    simp only [blkQ_norm, seqQ_norm]
    exact rest e σ1 h1 h2 h3
  have hta := hT.ta
  have htb := hT.tb
  cases hp with
  | beta h1 hx hy =>
    obtain ⟨σ1, q1, hS1, hF1⟩ := aJoinAll_ok hT (by omega) h
    have e2 : doneR n pl a b = joinD n a b := by unfold doneR; rw [h1]; simp
    rw [← e2] at hS1
    rw [h1] at s0
    simp only [F27, hZ, s0, q1, Int.reduceEq, evI_cl, clOk, ldKeeps, ldKeeps1, iasKeeps, rowK, nwKeeps, sameC, sameL, sameA, sameP, decide_true, frA_ptr, capsOf, fxa, fxc, fxE, fxL, fxI, nxE, evO, evR, cellsT, ldCells, mkT, lenA, binPV, Env.init, resV, resT, frT, klT, ownT, intT, O.adds, ownA, rowsA, over, wrOk, keysT, keysA, ne_eq, if_true, if_false, ite_self, Nat.reduceLT, Nat.reduceSub, Nat.reduceBEq, Nat.reduceEqDiff, Nat.reduceAdd, Nat.reduceLeDiff, reduceCtorEq, Nat.reduceMul]
    exact rest _ _ (by simp only [fxa, fxc, fxE, fxL, fxI, nxE, evO, evR, cellsT, ldCells, mkT, lenA, binPV, Env.init, resV, resT, frT, klT, ownT, intT, O.adds, ownA, rowsA, over, wrOk, keysT, keysA, ne_eq, if_true, if_false, ite_self, Nat.reduceLT, Nat.reduceSub, Nat.reduceBEq, Nat.reduceEqDiff, Nat.reduceAdd, Nat.reduceLeDiff, reduceCtorEq, Nat.reduceMul]) hS1 hF1
  | join h1 hx hy =>
    obtain ⟨σ1, q1, hS1, hF1⟩ := aJoinAll_ok hT (by omega) h
    have e2 : doneR n pl a b = joinD n a b := by unfold doneR; rw [h1]; simp
    rw [← e2] at hS1
    rw [h1] at s0
    simp only [F27, hZ, s0, q1, Int.reduceEq, evI_cl, clOk, ldKeeps, ldKeeps1, iasKeeps, rowK, nwKeeps, sameC, sameL, sameA, sameP, decide_true, frA_ptr, capsOf, fxa, fxc, fxE, fxL, fxI, nxE, evO, evR, cellsT, ldCells, mkT, lenA, binPV, Env.init, resV, resT, frT, klT, ownT, intT, O.adds, ownA, rowsA, over, wrOk, keysT, keysA, ne_eq, if_true, if_false, ite_self, Nat.reduceLT, Nat.reduceSub, Nat.reduceBEq, Nat.reduceEqDiff, Nat.reduceAdd, Nat.reduceLeDiff, reduceCtorEq, Nat.reduceMul]
    exact rest _ _ (by simp only [fxa, fxc, fxE, fxL, fxI, nxE, evO, evR, cellsT, ldCells, mkT, lenA, binPV, Env.init, resV, resT, frT, klT, ownT, intT, O.adds, ownA, rowsA, over, wrOk, keysT, keysA, ne_eq, if_true, if_false, ite_self, Nat.reduceLT, Nat.reduceSub, Nat.reduceBEq, Nat.reduceEqDiff, Nat.reduceAdd, Nat.reduceLeDiff, reduceCtorEq, Nat.reduceMul]) hS1 hF1
  | pick i A h1 hx hy h2 h3 h4 =>
    have hal := hM.ma.al8
    have ha8 := hM.ma.alt i A h3
    obtain ⟨σ1, q1, hS1, hF1⟩ := aPick_ok hT (by omega) h2 h3 ha8.2.1 (by omega) (by omega) h
    have e2 : doneR n pl a b = pickD n pl.alt a b := by unfold doneR; rw [h1]; simp
    rw [← e2] at hS1
    rw [h1] at s0
    simp only [F27, hZ, s0, q1, Int.reduceEq, evI_cl, clOk, ldKeeps, ldKeeps1, iasKeeps, rowK, nwKeeps, sameC, sameL, sameA, sameP, decide_true, frA_ptr, capsOf, fxa, fxc, fxE, fxL, fxI, nxE, evO, evR, cellsT, ldCells, mkT, lenA, binPV, Env.init, resV, resT, frT, klT, ownT, intT, O.adds, ownA, rowsA, over, wrOk, keysT, keysA, ne_eq, if_true, if_false, ite_self, Nat.reduceLT, Nat.reduceSub, Nat.reduceBEq, Nat.reduceEqDiff, Nat.reduceAdd, Nat.reduceLeDiff, reduceCtorEq, Nat.reduceMul]
    exact rest _ _ (by simp only [fxa, fxc, fxE, fxL, fxI, nxE, evO, evR, cellsT, ldCells, mkT, lenA, binPV, Env.init, resV, resT, frT, klT, ownT, intT, O.adds, ownA, rowsA, over, wrOk, keysT, keysA, ne_eq, if_true, if_false, ite_self, Nat.reduceLT, Nat.reduceSub, Nat.reduceBEq, Nat.reduceEqDiff, Nat.reduceAdd, Nat.reduceLeDiff, reduceCtorEq, Nat.reduceMul]) hS1 hF1
  | half h1 hx hy =>
    obtain ⟨σ1, q1, hS1, hF1⟩ := aHalf_ok hT (by omega) h
    have e2 : doneR n pl a b = halfD n a b := by unfold doneR; rw [h1]; simp
    rw [← e2] at hS1
    rw [h1] at s0
    simp only [F27, hZ, s0, q1, Int.reduceEq, evI_cl, clOk, ldKeeps, ldKeeps1, iasKeeps, rowK, nwKeeps, sameC, sameL, sameA, sameP, decide_true, frA_ptr, capsOf, fxa, fxc, fxE, fxL, fxI, nxE, evO, evR, cellsT, ldCells, mkT, lenA, binPV, Env.init, resV, resT, frT, klT, ownT, intT, O.adds, ownA, rowsA, over, wrOk, keysT, keysA, ne_eq, if_true, if_false, ite_self, Nat.reduceLT, Nat.reduceSub, Nat.reduceBEq, Nat.reduceEqDiff, Nat.reduceAdd, Nat.reduceLeDiff, reduceCtorEq, Nat.reduceMul]
    exact rest _ _ (by simp only [fxa, fxc, fxE, fxL, fxI, nxE, evO, evR, cellsT, ldCells, mkT, lenA, binPV, Env.init, resV, resT, frT, klT, ownT, intT, O.adds, ownA, rowsA, over, wrOk, keysT, keysA, ne_eq, if_true, if_false, ite_self, Nat.reduceLT, Nat.reduceSub, Nat.reduceBEq, Nat.reduceEqDiff, Nat.reduceAdd, Nat.reduceLeDiff, reduceCtorEq, Nat.reduceMul]) hS1 hF1
  | out h1 hx hy g1 g2 g3 g4 g5 =>
    have hbg := hT.big
    obtain ⟨σ1, q1, hS1, hF1⟩ := aMade_ok (x := pl.nd) hT.ok (by omega) g2 (NC.p _) (NC.p _) h
    have hti := makeR_wf (n := n) (x := pl.nd) (by omega)
    have hOk := (makeR_Ok (x := pl.nd) hT.ok g2 (by omega)).1
    have e2 : doneR n pl a b = (moveR (makeR n pl.nd).1 ⟨a, 1⟩ ⟨(makeR n pl.nd).2.1, 0⟩).1 := by unfold doneR outD; rw [h1]; simp
    obtain ⟨⟨m, t, ee⟩, hmk⟩ : ∃ r, makeR n pl.nd = r := ⟨_, rfl⟩
    rw [hmk] at q1 hS1 hti hOk e2
    simp only at q1 hS1 hti hOk e2
    obtain ⟨σ2, q2, hS2, hF2⟩ := aMove_ok (p := ⟨a, 1⟩) (q := ⟨t, 0⟩) hOk (hT.pa (by omega) (by omega)) ⟨hti, wf_0⟩ hS1
    have p1 := port_ok a 1
    have p2 := port_ok t 0
    have u1 := hS1.bs
    rw [← e2] at hS2
    simp only [stg, List.map_cons, List.map_nil] at u1
    rw [h1] at s0 u1
    simp only [F27, hZ, s0, u1, q1, q2, p1, p2, Int.reduceEq, evI_cl, clOk, ldKeeps, ldKeeps1, iasKeeps, rowK, nwKeeps, sameC, sameL, sameA, sameP, decide_true, frA_ptr, capsOf, fxa, fxc, fxE, fxL, fxI, nxE, evO, evR, cellsT, ldCells, mkT, lenA, binPV, Env.init, resV, resT, frT, klT, ownT, intT, O.adds, ownA, rowsA, over, wrOk, keysT, keysA, ne_eq, if_true, if_false, ite_self, Nat.reduceLT, Nat.reduceSub, Nat.reduceBEq, Nat.reduceEqDiff, Nat.reduceAdd, Nat.reduceLeDiff, reduceCtorEq, Nat.reduceMul]
    exact rest _ _ (by simp only [fxa, fxc, fxE, fxL, fxI, nxE, evO, evR, cellsT, ldCells, mkT, lenA, binPV, Env.init, resV, resT, frT, klT, ownT, intT, O.adds, ownA, rowsA, over, wrOk, keysT, keysA, ne_eq, if_true, if_false, ite_self, Nat.reduceLT, Nat.reduceSub, Nat.reduceBEq, Nat.reduceEqDiff, Nat.reduceAdd, Nat.reduceLeDiff, reduceCtorEq, Nat.reduceMul]) hS2 (hF1.trans hF2)
  | fail h1 hx hy =>
    obtain ⟨σ1, q1, hS1, hF1⟩ := aFail_ok hT (by omega) h
    have e2 : doneR n pl a b = failD n a b := by unfold doneR; rw [h1]; simp
    rw [← e2] at hS1
    rw [h1] at s0
    simp only [F27, hZ, s0, q1, Int.reduceEq, evI_cl, clOk, ldKeeps, ldKeeps1, iasKeeps, rowK, nwKeeps, sameC, sameL, sameA, sameP, decide_true, frA_ptr, capsOf, fxa, fxc, fxE, fxL, fxI, nxE, evO, evR, cellsT, ldCells, mkT, lenA, binPV, Env.init, resV, resT, frT, klT, ownT, intT, O.adds, ownA, rowsA, over, wrOk, keysT, keysA, ne_eq, if_true, if_false, ite_self, Nat.reduceLT, Nat.reduceSub, Nat.reduceBEq, Nat.reduceEqDiff, Nat.reduceAdd, Nat.reduceLeDiff, reduceCtorEq, Nat.reduceMul]
    exact rest _ _ (by simp only [fxa, fxc, fxE, fxL, fxI, nxE, evO, evR, cellsT, ldCells, mkT, lenA, binPV, Env.init, resV, resT, frT, klT, ownT, intT, O.adds, ownA, rowsA, over, wrOk, keysT, keysA, ne_eq, if_true, if_false, ite_self, Nat.reduceLT, Nat.reduceSub, Nat.reduceBEq, Nat.reduceEqDiff, Nat.reduceAdd, Nat.reduceLeDiff, reduceCtorEq, Nat.reduceMul]) hS1 hF1
  | pass h1 hx hy g1 g2 =>
    obtain ⟨σ1, q1, hS1, hF1⟩ := aPass_ok hT (by omega) (wf_small g1 (by omega)) hM.lenA hM.lenB h
    have e2 : doneR n pl a b = passD n pl.lv a b := by unfold doneR; rw [h1]; simp
    rw [← e2] at hS1
    rw [h1] at s0
    simp only [F27, hZ, s0, q1, Int.reduceEq, evI_cl, clOk, ldKeeps, ldKeeps1, iasKeeps, rowK, nwKeeps, sameC, sameL, sameA, sameP, decide_true, frA_ptr, capsOf, fxa, fxc, fxE, fxL, fxI, nxE, evO, evR, cellsT, ldCells, mkT, lenA, binPV, Env.init, resV, resT, frT, klT, ownT, intT, O.adds, ownA, rowsA, over, wrOk, keysT, keysA, ne_eq, if_true, if_false, ite_self, Nat.reduceLT, Nat.reduceSub, Nat.reduceBEq, Nat.reduceEqDiff, Nat.reduceAdd, Nat.reduceLeDiff, reduceCtorEq, Nat.reduceMul]
    exact rest _ _ (by simp only [fxa, fxc, fxE, fxL, fxI, nxE, evO, evR, cellsT, ldCells, mkT, lenA, binPV, Env.init, resV, resT, frT, klT, ownT, intT, O.adds, ownA, rowsA, over, wrOk, keysT, keysA, ne_eq, if_true, if_false, ite_self, Nat.reduceLT, Nat.reduceSub, Nat.reduceBEq, Nat.reduceEqDiff, Nat.reduceAdd, Nat.reduceLeDiff, reduceCtorEq, Nat.reduceMul]) hS1 hF1
  | drop h1 hx hy =>
    have hbg := hT.big
    obtain ⟨σ1, v, q1, hS1, hF1, hL1⟩ := aOthers_ok (j := 1) (jz := 1) rfl (by omega) hT.b0 hT.b1 hT.xb.to h
    obtain ⟨l, hl⟩ : ∃ l, portsR b 1 (n.nd b).to.length = l := ⟨_, rfl⟩
    have nl : l.length ≤ 100 := by rw [← hl, portsR_len]; omega
    have wl : ∀ p ∈ l, wfP p := by intro p hp; rw [← hl] at hp; exact (portsR_wf hT (by omega)).2 p hp
    rw [hl] at hL1
    have e2 : doneR n pl a b = runs (likeR n (dropN (n.nd a).lv) l.length).1 (dropOps l (likeR n (dropN (n.nd a).lv) l.length).2) := by unfold doneR dropD; rw [h1]; simp [hl]
    obtain ⟨σ2, f, q2, hS2, hF2, hDC⟩ := aDrop_ok (l := l) hT.ok (by omega) hT.a0 hT.a1 hS1 hL1
    have hdx := dropN_Ok hT.xa.lv
    obtain ⟨o1, o2, o3⟩ := likeR_Ok hT.ok hdx l.length (by omega)
    obtain ⟨k0, k1, k2, σ3, rfl, q3, hS3, hF3⟩ := aCall_ok o1 wl (likeR_wf hT.ok hdx _ (by omega)) (by omega) (by omega) hS2 hDC
    rw [← e2] at hS3
    rw [h1] at s0
    simp only [F27, hZ, s0, q1, q2, q3, Int.reduceEq, evI_cl, clOk, ldKeeps, ldKeeps1, iasKeeps, rowK, nwKeeps, sameC, sameL, sameA, sameP, decide_true, frA_ptr, capsOf, fxa, fxc, fxE, fxL, fxI, nxE, evO, evR, cellsT, ldCells, mkT, lenA, binPV, Env.init, resV, resT, frT, klT, ownT, intT, O.adds, ownA, rowsA, over, wrOk, keysT, keysA, ne_eq, if_true, if_false, ite_self, Nat.reduceLT, Nat.reduceSub, Nat.reduceBEq, Nat.reduceEqDiff, Nat.reduceAdd, Nat.reduceLeDiff, reduceCtorEq, Nat.reduceMul]
    exact rest _ _ (by simp only [fxa, fxc, fxE, fxL, fxI, nxE, evO, evR, cellsT, ldCells, mkT, lenA, binPV, Env.init, resV, resT, frT, klT, ownT, intT, O.adds, ownA, rowsA, over, wrOk, keysT, keysA, ne_eq, if_true, if_false, ite_self, Nat.reduceLT, Nat.reduceSub, Nat.reduceBEq, Nat.reduceEqDiff, Nat.reduceAdd, Nat.reduceLeDiff, reduceCtorEq, Nat.reduceMul]) hS3 ((hF1.trans hF2).trans hF3)
end Go.Proofs.YtomcceambpneiaaGreat
end
section
set_option linter.unusedSimpArgs false
set_option linter.unusedVariables false
set_option maxHeartbeats 4000000
set_option maxRecDepth 10000
namespace Go.Proofs.YtomcceambpneiaaGreat
open Go.Fx
theorem meets_ok (n : Nt) (i : Int) : eP S 23 [.g (encT n), .a (.i .i64 i)] = some (.a (.i .i64 (meetR n i))) := by
  refine x_fn (orcS (by decide)) (fc := F23) rfl rfl ?_
  have c1 := Peer_ok n ⟨i, 0⟩
  have p1 := port_ok i 0
  unfold meetR
  obtain ⟨q, hq⟩ : ∃ q, n.lk ⟨i, 0⟩ = q := ⟨_, rfl⟩
  rw [hq] at c1 ⊢
  simp only [encT, encP] at c1
  by_cases h1 : n.has ⟨i, 0⟩ = true
  · by_cases h2 : q.s = 0
    · simp only [h1, if_true, encP] at c1
      simp only [F23, encT, c1, p1, h1, h2, fxa, fxc, fxE, fxL, fxI, nxE, evO, evR, cellsT, ldCells, mkT, lenA, binPV, Env.init, resV, resT, frT, klT, ownT, intT, O.adds, ownA, rowsA, over, wrOk, keysT, keysA, ne_eq, if_true, if_false, ite_self, Nat.reduceLT, Nat.reduceSub, Nat.reduceBEq, Nat.reduceEqDiff, Nat.reduceAdd, Nat.reduceLeDiff, reduceCtorEq, Nat.reduceMul]
    · simp only [h1, if_true, encP] at c1
      simp only [F23, encT, c1, p1, h1, h2, fxa, fxc, fxE, fxL, fxI, nxE, evO, evR, cellsT, ldCells, mkT, lenA, binPV, Env.init, resV, resT, frT, klT, ownT, intT, O.adds, ownA, rowsA, over, wrOk, keysT, keysA, ne_eq, if_true, if_false, ite_self, Nat.reduceLT, Nat.reduceSub, Nat.reduceBEq, Nat.reduceEqDiff, Nat.reduceAdd, Nat.reduceLeDiff, reduceCtorEq, Nat.reduceMul]
  · simp only [h1, Bool.false_eq_true, if_false, zP, encP] at c1
    simp only [F23, encT, c1, p1, h1, Int.reduceEq, fxa, fxc, fxE, fxL, fxI, nxE, evO, evR, cellsT, ldCells, mkT, lenA, binPV, Env.init, resV, resT, frT, klT, ownT, intT, O.adds, ownA, rowsA, over, wrOk, keysT, keysA, ne_eq, if_true, if_false, ite_self, Nat.reduceLT, Nat.reduceSub, Nat.reduceBEq, Nat.reduceEqDiff, Nat.reduceAdd, Nat.reduceLeDiff, reduceCtorEq, Nat.reduceMul]
def encD (x : Nt × Pl × Int) : PT := .t [(true, encT x.1), (true, encL x.2.1), (false, [.i .i64 x.2.2])]
theorem meetR_meet {n : Nt} {i : Int} (hn : n.Ok) (hG : n.Good) (h : ¬ meetR n i < 0) : Meet n i (meetR n i) := by
  unfold meetR at h ⊢
  by_cases hc : n.has ⟨i, 0⟩ = true ∧ (n.lk ⟨i, 0⟩).s = 0
  · rw [if_pos hc]
    refine Meet.of hn hG hc.1 ?_
    obtain ⟨q, hq⟩ : ∃ q, n.lk ⟨i, 0⟩ = q := ⟨_, rfl⟩
    rw [hq] at hc ⊢
    obtain ⟨u, v⟩ := q
    simp only at hc
    rw [hc.2]
  · rw [if_neg hc] at h; omega
theorem need_room {n : Nt} {a b : Int} {p : Pl} (hM : Meet n a b) (hp : PlanX (n.nd a) (n.nd b) p) : 0 ≤ needX p (n.nd a) (n.nd b) ∧ needX p (n.nd a) (n.nd b) ≤ 30 := by
  have ta := to10 hM.ma hM.pa
  have tb := to10 hM.mb hM.pb
  have la := hM.lenA
  have lb := hM.lenB
  have oa : oth (n.nd a) = (n.nd a).to.length - 1 := by rw [oth_in (by omega)]; omega
  have ob : oth (n.nd b) = (n.nd b).to.length - 1 := by rw [oth_in (by omega)]; omega
  have hal := hM.ma.al8
  have w1 : ∀ z : Int, -1000 ≤ z → z ≤ 1000 → wr z = z := fun z h1 h2 => wr_in (by omega)
  unfold needX
  rw [oa, ob]
  split
  · split
    · omega
    · rename_i h2 h3
      cases hp with
      | pick i A h1 hx hy g2 g3 g4 =>
        have hil := (List.getElem?_eq_some_iff.1 g3).1
        have hA2 : (n.nd a).al.getD p.alt.toNat zA = A := by rw [g2, Int.toNat_natCast, List.getD_eq_getElem?_getD, g3]; rfl
        have := hM.ma.alt i A g3
        rw [hA2, w1 (A.n + (n.nd a).al.length) (by omega) (by omega), w1 _ (by omega) (by omega)]; omega
      | _ => omega
  split
  · omega
  split
  · rw [w1 ((n.nd a).to.length - 1 - 1) (by omega) (by omega), w1 (1 + max _ _) (by omega) (by omega), w1 _ (by omega) (by omega)]; omega
  split
  · split
    · rw [w1 _ (by omega) (by omega)]; omega
    · rw [w1 _ (by omega) (by omega)]; omega
  split
  · omega
  · omega
theorem Do_ok {n : Nt} {i : Int} (hn : n.Ok) : eP S 10 [.g (encT n), .a (.i .i64 i)] = some (encD (doR n i)) := by
  refine x_fn (orcS (by decide)) (fc := F10) rfl rfl ?_
  have c1 := sCheck_ok hn
  have c2 := meets_ok n i
  by_cases hG : n.Good
  case neg =>
    have hd : doR n i = (n, p0, 120) := by unfold doR; rw [bool_f hG]; rfl
    rw [hd]
    rw [bool_f hG] at c1
    simp only [Bool.false_eq_true, if_false, encT] at c1
    simp only [F10, c1, encD, encT, encL, p0, zN, Int.reduceEq, List.map_nil, fxa, fxc, fxE, fxL, fxI, nxE, evO, evR, cellsT, ldCells, mkT, lenA, binPV, Env.init, resV, resT, frT, klT, ownT, intT, O.adds, ownA, rowsA, over, wrOk, keysT, keysA, ne_eq, if_true, if_false, ite_self, Nat.reduceLT, Nat.reduceSub, Nat.reduceBEq, Nat.reduceEqDiff, Nat.reduceAdd, Nat.reduceLeDiff, reduceCtorEq, Nat.reduceMul]
  rw [bool_t hG] at c1
  simp only [if_true, encT] at c1
  simp only [encT] at c2
  by_cases hm : meetR n i < 0
  · have hd : doR n i = (n, p0, 122) := by unfold doR; rw [bool_t hG]; simp [hm]
    rw [hd]
    simp only [F10, c1, c2, hm, encD, encT, encL, p0, zN, Int.reduceEq, List.map_nil, fxa, fxc, fxE, fxL, fxI, nxE, evO, evR, cellsT, ldCells, mkT, lenA, binPV, Env.init, resV, resT, frT, klT, ownT, intT, O.adds, ownA, rowsA, over, wrOk, keysT, keysA, ne_eq, if_true, if_false, ite_self, Nat.reduceLT, Nat.reduceSub, Nat.reduceBEq, Nat.reduceEqDiff, Nat.reduceAdd, Nat.reduceLeDiff, reduceCtorEq, Nat.reduceMul]
  have hM := meetR_meet hn hG hm
  obtain ⟨k, hk⟩ : ∃ k, meetR n i = k := ⟨_, rfl⟩
  obtain ⟨⟨p, e⟩, hr⟩ : ∃ r, ofR (n.nd i) (n.nd k) = r := ⟨_, rfl⟩
  have hd : doR n i = if e ≠ 0 then (n, p0, e) else if wr (n.used + needR p (n.nd i) (n.nd k)) > n.cap then (n, p0, 121)
      else (stepR n p (if p.sw = true then k else i) (if p.sw = true then i else k), p, 0) := by
    unfold doR
    rw [bool_t hG]
    simp only [hk, hr]
    rw [if_neg (by simp), if_neg (by rw [← hk]; exact hm)]
  rw [hk] at hM hm c2
  have c3 := Of_ok hM.ka hM.kb
  have ga := getN (l := n.ns) hM.a0 hM.a1
  have gb := getN (l := n.ns) hM.b0 hM.b1
  have a0 := hM.a0
  have a1 := hM.a1
  have b0 := hM.b0
  have b1 := hM.b1
  have hX := of_plan hM.ma hM.mb hM.ka hM.kb hM.pa hM.pb
  have c4 := sUsed_ok hn
  have c5 := need_ok (p := p) (a := n.nd i) (b := n.nd k)
  have hna : n.ns.getD i.toNat zN = n.nd i := rfl
  have hnb : n.ns.getD k.toNat zN = n.nd k := rfl
  rw [hna] at ga
  rw [hnb] at gb
  rw [hr] at c3 hX
  have hpe : p.nd.Ok := by have := of_nd hM.ka hM.kb; rw [hr] at this; exact this
  simp only [encLE, encL, encN] at c3
  simp only [encT] at c4
  simp only [encL, encN] at c5
  simp only [encN] at ga gb
  by_cases he : e = 0
  case neg =>
    rw [if_pos he] at hd
    rw [hd]
    simp only [F10, c1, c2, c3, hm, he, ga, gb, a0, a1, b0, b1, allN, encD, encT, encL, p0, zN, Int.reduceEq, List.map_nil, List.length_map, fxa, fxc, fxE, fxL, fxI, nxE, evO, evR, cellsT, ldCells, mkT, lenA, binPV, Env.init, resV, resT, frT, klT, ownT, intT, O.adds, ownA, rowsA, over, wrOk, keysT, keysA, ne_eq, if_true, if_false, ite_self, Nat.reduceLT, Nat.reduceSub, Nat.reduceBEq, Nat.reduceEqDiff, Nat.reduceAdd, Nat.reduceLeDiff, reduceCtorEq, Nat.reduceMul]
  subst he
  rw [if_neg (by simp)] at hd
  have hX := hX rfl
  by_cases hu : wr (n.used + needR p (n.nd i) (n.nd k)) > n.cap
  · rw [if_pos hu] at hd
    rw [hd]
    unfold wr at hu
    simp only [F10, c1, c2, c3, c4, c5, hm, hu, ga, gb, a0, a1, b0, b1, allN, encD, encT, encL, p0, zN, Int.reduceEq, List.map_nil, List.length_map, fxa, fxc, fxE, fxL, fxI, nxE, evO, evR, cellsT, ldCells, mkT, lenA, binPV, Env.init, resV, resT, frT, klT, ownT, intT, O.adds, ownA, rowsA, over, wrOk, keysT, keysA, ne_eq, if_true, if_false, ite_self, Nat.reduceLT, Nat.reduceSub, Nat.reduceBEq, Nat.reduceEqDiff, Nat.reduceAdd, Nat.reduceLeDiff, reduceCtorEq, Nat.reduceMul]
  rw [if_neg hu] at hd
  rw [hd]
  have hub := good_used hG
  have hgb := hG.cap2
  have hu0 : 0 ≤ n.used := (usedL_le n.ns).1
  have hu' := hu
  unfold wr at hu'
  obtain ⟨τ, hτ⟩ : ∃ τ, τ = ((((St.empty.add 2 (Blk.var [AV.p (PV.l (n.ns.map encN)), AV.p (PV.i .i64 n.cap)])).add 4 (Blk.var [AV.nil, AV.p (PV.i .i64 0)])).add 5
    (Blk.var [AV.p (PV.i .i64 0), AV.p (PV.b false), AV.p (PV.i .i64 0), AV.p (PV.i .i64 0), AV.p (PV.i .i64 0), AV.p (PV.i .i64 0), AV.p (PV.i .i64 0), AV.p (PV.s []), AV.nil, AV.nil])).add 9
    (Blk.var [AV.p (PV.i .i64 0), AV.p (PV.b false), AV.p (PV.i .i64 0), AV.p (PV.i .i64 0), AV.p (PV.i .i64 0), AV.p (PV.i .i64 0), AV.p (PV.i .i64 0), AV.p (PV.s []), AV.nil, AV.nil])).put (9, 3)
    (Blk.var [AV.p (PV.i .i64 p.k), AV.p (PV.b p.sw), AV.p (PV.i .i64 p.lv), AV.p (PV.i .i64 p.alt), AV.p (PV.i .i64 p.nd.k), AV.p (PV.i .i64 p.nd.lv), AV.p (PV.i .i64 p.nd.n), AV.p (PV.s p.nd.s), AV.p (PV.l (p.nd.al.map encA)), AV.p (PV.l (p.nd.to.map encP))]) := ⟨_, rfl⟩
  have tc : τ.clk = 4 := by rw [hτ]; rfl
  have t2 : τ.bs (2, 0) = some (Blk.var [AV.p (PV.l (n.ns.map encN)), AV.p (PV.i .i64 n.cap)]) := by rw [hτ]; rfl
  have t4 : τ.bs (4, 1) = some (Blk.var [AV.nil, AV.p (PV.i .i64 0)]) := by rw [hτ]; rfl
  have t5 : τ.bs (5, 2) = some (Blk.var [AV.p (PV.i .i64 0), AV.p (PV.b false), AV.p (PV.i .i64 0), AV.p (PV.i .i64 0), AV.p (PV.i .i64 0), AV.p (PV.i .i64 0), AV.p (PV.i .i64 0), AV.p (PV.s []), AV.nil, AV.nil]) := by rw [hτ]; rfl
  have t9 : τ.bs (9, 3) = some (Blk.var [AV.p (PV.i .i64 p.k), AV.p (PV.b p.sw), AV.p (PV.i .i64 p.lv), AV.p (PV.i .i64 p.alt), AV.p (PV.i .i64 p.nd.k), AV.p (PV.i .i64 p.nd.lv), AV.p (PV.i .i64 p.nd.n), AV.p (PV.s p.nd.s), AV.p (PV.l (p.nd.al.map encA)), AV.p (PV.l (p.nd.to.map encP))]) := by rw [hτ]; rfl
  cases hsw : p.sw with
  | false =>
    have hnr : needR p (n.nd i) (n.nd k) = needX p (n.nd i) (n.nd k) := by unfold needR; rw [hsw]; rfl
    rw [hnr] at hu
    rw [hsw] at hX
    simp only [Bool.false_eq_true, if_false] at hX ⊢
    obtain ⟨n0, n1⟩ := need_room hM hX
    rw [wr_in (by omega)] at hu
    obtain ⟨σ1, hσ1⟩ : ∃ σ1, σ1 = τ.add 72 (.var ((stg n p i k).map .p)) := ⟨_, rfl⟩
    have hS1 : SG (72, 4) n p i k σ1 := ⟨by rw [hσ1]; simp [add_bs, tc], by rw [hσ1]; simp [add_clk, tc]⟩
    obtain ⟨σ2, q2, hS2, hF2⟩ := aDo_ok hM hX (by omega) hS1
    have hc1 : σ1.clk = 5 := by rw [hσ1]; simp [add_clk, tc]
    have gk : ∀ q : Key, q.2 < 4 → σ2.bs q = τ.bs q := fun q hq => by
      have h1 : ¬ q = (72, 4) := by rintro rfl; simp at hq
      refine (hF2.bs q (by omega) h1).trans ?_
      rw [hσ1]; simp only [add_bs, tc, h1, if_false]
    have v4 := (gk (4, 1) (by decide)).trans t4
    have v5 := (gk (5, 2) (by decide)).trans t5
    have v9 := (gk (9, 3) (by decide)).trans t9
    have w9 : σ1.bs (9, 3) = τ.bs (9, 3) := by rw [hσ1]; simp [add_bs, tc]
    rw [t9] at w9
    have vk := hS2.bs
    simp only [stg, List.map_cons, List.map_nil] at vk hσ1
    rw [hsw] at c3 c5 hτ v9 vk hσ1 t9 w9
    simp only [F10, c1, c2, c3, c4, c5, hm, hu', hsw, ga, gb, a0, a1, b0, b1, ← hτ, tc, t2, t4, t5, t9, ← hσ1, w9, q2, v4, v5, v9, vk, allN, encD, encT, encL, p0, zN, Int.reduceEq, List.map_nil, List.length_map, frA_ptr, fxa, fxc, fxE, fxL, fxI, nxE, evO, evR, cellsT, ldCells, mkT, lenA, binPV, Env.init, resV, resT, frT, klT, ownT, intT, O.adds, ownA, rowsA, over, wrOk, keysT, keysA, ne_eq, if_true, if_false, ite_self, Nat.reduceLT, Nat.reduceSub, Nat.reduceBEq, Nat.reduceEqDiff, Nat.reduceAdd, Nat.reduceLeDiff, reduceCtorEq, Nat.reduceMul]
  | true =>
    have hnr : needR p (n.nd i) (n.nd k) = needX p (n.nd k) (n.nd i) := by unfold needR; rw [hsw]; rfl
    rw [hnr] at hu
    rw [hsw] at hX
    simp only [if_true] at hX ⊢
    have hM' := hM.swap
    obtain ⟨n0, n1⟩ := need_room hM' hX
    rw [wr_in (by omega)] at hu
    obtain ⟨σ0, hσ0⟩ : ∃ σ0, σ0 = τ.add 72 (.var ((stg n p i k).map .p)) := ⟨_, rfl⟩
    have hk0 : σ0.bs (72, 4) = some (.var ((stg n p i k).map .p)) := by rw [hσ0]; simp [add_bs, tc]
    obtain ⟨σ1, hσ1⟩ : ∃ σ1, σ1 = (σ0.put (72, 4) (.var ((stg n p k k).map .p))).put (72, 4) (.var ((stg n p k i).map .p)) := ⟨_, rfl⟩
    have hS1 : SG (72, 4) n p k i σ1 := ⟨by rw [hσ1]; simp [put_bs], by rw [hσ1, hσ0]; simp [put_clk, add_clk, tc]⟩
    obtain ⟨σ2, q2, hS2, hF2⟩ := aDo_ok hM' hX (by omega) hS1
    have hc1 : σ1.clk = 5 := by rw [hσ1, hσ0]; simp [put_clk, add_clk, tc]
    have gk1 : ∀ q : Key, q.2 < 4 → σ1.bs q = τ.bs q ∧ σ0.bs q = τ.bs q := fun q hq => by
      have h1 : ¬ q = (72, 4) := by rintro rfl; simp at hq
      rw [hσ1, hσ0]
      simp only [put_bs, add_bs, tc, h1, if_false, and_self]
    have gk : ∀ q : Key, q.2 < 4 → σ2.bs q = τ.bs q := fun q hq => by
      have h1 : ¬ q = (72, 4) := by rintro rfl; simp at hq
      exact (hF2.bs q (by omega) h1).trans (gk1 q hq).1
    have v4 := (gk (4, 1) (by decide)).trans t4
    have v5 := (gk (5, 2) (by decide)).trans t5
    have v9 := (gk (9, 3) (by decide)).trans t9
    have w9 := (gk1 (9, 3) (by decide)).2.trans t9
    have vk := hS2.bs
    simp only [stg, List.map_cons, List.map_nil] at vk hσ1 hσ0 hk0
    rw [hsw] at c3 c5 hτ v9 vk hσ1 hσ0 hk0 t9 w9
    simp only [F10, c1, c2, c3, c4, c5, hm, hu', hsw, ga, gb, a0, a1, b0, b1, ← hτ, tc, t2, t4, t5, t9, ← hσ0, hk0, ← hσ1, w9, q2, v4, v5, v9, vk, allN, encD, encT, encL, p0, zN, Int.reduceEq, List.map_nil, List.length_map, frA_ptr, fxa, fxc, fxE, fxL, fxI, nxE, evO, evR, cellsT, ldCells, mkT, lenA, binPV, Env.init, resV, resT, frT, klT, ownT, intT, O.adds, ownA, rowsA, over, wrOk, keysT, keysA, ne_eq, if_true, if_false, ite_self, Nat.reduceLT, Nat.reduceSub, Nat.reduceBEq, Nat.reduceEqDiff, Nat.reduceAdd, Nat.reduceLeDiff, reduceCtorEq, Nat.reduceMul]
end Go.Proofs.YtomcceambpneiaaGreat
end
section
set_option linter.unusedSimpArgs false
set_option linter.unusedVariables false
set_option maxHeartbeats 4000000
namespace Go.Proofs.YtomcceambpneiaaGreat
open Go.Fx
structure Stepped (n : Nt) (a b : Int) (c : Int) (m : Nt) : Prop where
  ok : m.Ok
  good : m.Good
  cap : m.cap = n.cap
  used : m.used = n.used - 2 + c
  old : ∀ (j : Nat) (x : Nd), n.ns[j]? = some x → x.k ≠ 0 → (j : Int) ≠ a → (j : Int) ≠ b → ∃ y, m.ns[j]? = some y ∧ y = { x with to := y.to } ∧ y.to.length = x.to.length
  keep : ∀ r, n.has r = true → r.n ≠ a → r.n ≠ b → (n.lk r).n ≠ a → (n.lk r).n ≠ b → m.has r = true ∧ m.lk r = n.lk r
theorem Stepped.swap {n m : Nt} {a b c : Int} (h : Stepped n a b c m) : Stepped n b a c m :=
  ⟨h.ok, h.good, h.cap, h.used, fun j x h1 h2 h3 h4 => h.old j x h1 h2 h4 h3, fun r h1 h2 h3 h4 h5 => h.keep r h1 h3 h2 h5 h4⟩
theorem mem_endL {n : Nt} {a b : Int} {r : Pt} : r ∈ endL n a b ↔ (r.n = a ∧ 0 ≤ r.s ∧ r.s < (n.nd a).to.length) ∨ (r.n = b ∧ 0 ≤ r.s ∧ r.s < (n.nd b).to.length) := by
  unfold endL
  rw [List.mem_append, mem_portsR, mem_portsR]
  exact Iff.rfl
theorem planX_k {x y : Nd} {p : Pl} (h : PlanX x y p) : x.k ≠ 1 ∧ y.k ≠ 1 := by
  have c1 := cls_1 x.k
  have c2 := cls_2 y.k
  have c3 := cls_3 x.k
  cases h with
  | pass h hx hy h1 h2 => have := cls_ne hy; omega
  | drop h hx hy => have := cls_ne hy; omega
  | _ => omega
theorem free_two {n0 n : Nt} {a b c : Int} (hM : Meet n0 a b) (ka : (n0.nd a).k ≠ 1) (kb : (n0.nd b).k ≠ 1) (h : Run n0 a b c n (endL n0 a b)) {i j : Nat} (hij : (i : Int) = a ∧ (j : Int) = b ∨ (i : Int) = b ∧ (j : Int) = a) :
    Stepped n0 a b c (freeR (freeR n i).1 j).1 := by
  have hab := hM.ab
  have node : ∀ t : Int, 0 ≤ t → t < n0.ns.length → (n0.nd t).k ≠ 0 → (n0.nd t).k ≠ 1 → ∃ x, n.ns[t.toNat]? = some x ∧ x.k ≠ 0 ∧ x.to.length = (n0.nd t).to.length ∧ 1 ≤ t := by
    intro t h0 h1 hk hk1
    obtain ⟨y, g1, g2, g3⟩ := h.old _ _ (get_nd h0 h1) hk
    refine ⟨y, g1, by rw [g2]; exact hk, g3, ?_⟩
    have g := (hM.good.nds _ _ (get_nd h0 h1)).2.2.1
    by_cases e : t = 0
    · exact absurd (g.1 (by omega)) hk1
    · omega
  have both : ∀ t : Nat, (t : Int) = a ∨ (t : Int) = b → ∃ x, n.ns[t]? = some x ∧ x.k ≠ 0 ∧ 1 ≤ t ∧ ∀ p, n.has p = true → p.n = t → p ∈ endL n0 a b := by
    intro t ht
    rcases ht with ht | ht
    · obtain ⟨x, g1, g2, g3, g4⟩ := node a hM.a0 hM.a1 hM.kA ka
      rw [show a.toNat = t by omega] at g1
      refine ⟨x, g1, g2, by omega, fun p hp e => mem_endL.2 (.inl ?_)⟩
      have h1 := has_iff.1 hp
      rw [e, nd_get g1, g3] at h1
      exact ⟨by omega, h1.2.2.1, h1.2.2.2⟩
    · obtain ⟨x, g1, g2, g3, g4⟩ := node b hM.b0 hM.b1 hM.kB kb
      rw [show b.toNat = t by omega] at g1
      refine ⟨x, g1, g2, by omega, fun p hp e => mem_endL.2 (.inr ?_)⟩
      have h1 := has_iff.1 hp
      rw [e, nd_get g1, g3] at h1
      exact ⟨by omega, h1.2.2.1, h1.2.2.2⟩
  obtain ⟨x, x1, x2, x3, x4⟩ := both i (by omega)
  obtain ⟨y, y1, y2, y3, y4⟩ := both j (by omega)
  obtain ⟨e1, s1, u1, h1, l1⟩ := h.semi.free x1 x3 x2 x4
  have y1' := free_get (i := i) y1 (by omega) y2
  obtain ⟨e2, s2, u2, h2, l2⟩ := s1.free y1' y3 y2 (fun p hp e => ⟨y4 p ((h1 p).1 hp).1 e, by omega⟩)
  rw [e1]
  simp only
  rw [e2]
  simp only
  have hG : ((n.free i).free j).Good := (s2.iff (Y := fun _ => False) fun r => ⟨fun ⟨⟨k1, k2⟩, k3⟩ => by
    rcases mem_endL.1 k1 with ⟨k, _⟩ | ⟨k, _⟩ <;> omega, False.elim⟩).good
  refine ⟨free_Ok (free_Ok h.ok _) _, hG, h.cap, by rw [u2, u1, h.used]; omega, fun t z hz hk ha hb => ?_, fun r h3 h4 h5 h6 h7 => ?_⟩
  · obtain ⟨w, g1, g2, g3⟩ := h.old t z hz hk
    have wk : w.k ≠ 0 := by rw [g2]; exact hk
    exact ⟨w, free_get (free_get g1 (by omega) wk) (by omega) wk, g2, g3⟩
  · have hr := h.has0 h3
    obtain ⟨q1, q2⟩ := h.keep r h3 h4 h5 h6 h7
    have hr1 := (h1 r).2 ⟨hr, by omega⟩
    exact ⟨(h2 r).2 ⟨hr1, by omega⟩, by rw [l2 r hr1 (by omega), l1 r hr (by omega), q2]⟩
theorem step_ok {n : Nt} {a b : Int} {p : Pl} (hM : Meet n a b) (hp : PlanX (n.nd a) (n.nd b) p) (hu : n.used + needX p (n.nd a) (n.nd b) ≤ n.cap) : Stepped n a b (needX p (n.nd a) (n.nd b)) (stepR n p a b) := by
  obtain ⟨ka, kb⟩ := planX_k hp
  have hR := done_run hM hp hu
  have a0 := hM.a0
  have b0 := hM.b0
  have h := free_two hM ka kb hR (i := (max a b).toNat) (j := (min a b).toNat) (by omega)
  rw [show (((max a b).toNat : Nat) : Int) = max a b by omega, show (((min a b).toNat : Nat) : Int) = min a b by omega] at h
  exact h
structure DoneOk (n : Nt) (i : Int) (p : Pl) (m : Nt) : Prop where
  meet : Meet n i (meetR n i)
  pl : ofR (n.nd i) (n.nd (meetR n i)) = (p, 0)
  px : PlanX (n.nd (if p.sw = true then meetR n i else i)) (n.nd (if p.sw = true then i else meetR n i)) p
  room : n.used + needR p (n.nd i) (n.nd (meetR n i)) ≤ n.cap
  net : m = stepR n p (if p.sw = true then meetR n i else i) (if p.sw = true then i else meetR n i)
  st : Stepped n i (meetR n i) (needR p (n.nd i) (n.nd (meetR n i))) m
inductive DoCase (n : Nt) (i : Int) : Nt × Pl × Int → Prop
  | bad (h : ¬ n.Good) : DoCase n i (n, p0, 120)
  | none (h : n.Good) (hm : meetR n i < 0) : DoCase n i (n, p0, 122)
  | pair (h : n.Good) (e : Int) (hm : Meet n i (meetR n i)) (he : e = (ofR (n.nd i) (n.nd (meetR n i))).2) (h0 : e ≠ 0) : DoCase n i (n, p0, e)
  | full (h : n.Good) (p : Pl) (hm : Meet n i (meetR n i)) (hp : ofR (n.nd i) (n.nd (meetR n i)) = (p, 0)) (hu : ¬ n.used + needR p (n.nd i) (n.nd (meetR n i)) ≤ n.cap) : DoCase n i (n, p0, 121)
  | done (h : n.Good) (p : Pl) (m : Nt) (hd : DoneOk n i p m) : DoCase n i (m, p, 0)
theorem do_case {n : Nt} (hn : n.Ok) (i : Int) : DoCase n i (doR n i) := by
  unfold doR
  by_cases hG : n.Good
  case neg => rw [bool_f hG]; exact .bad hG
  rw [bool_t hG, if_neg (by simp)]
  by_cases hm : meetR n i < 0
  · rw [if_pos hm]; exact .none hG hm
  rw [if_neg hm]
  have hM := meetR_meet hn hG hm
  have hX := of_plan hM.ma hM.mb hM.ka hM.kb hM.pa hM.pb
  obtain ⟨⟨p, e⟩, hr⟩ : ∃ r, ofR (n.nd i) (n.nd (meetR n i)) = r := ⟨_, rfl⟩
  simp only [hr]
  rw [hr] at hX
  by_cases he : e = 0
  case neg => rw [if_pos (by simpa using he)]; exact .pair hG e hM (by rw [hr]) he
  subst he
  rw [if_neg (by simp)]
  have hX := hX rfl
  simp only at hX
  have hub := good_used hG
  have hgb := hG.cap2
  have hu0 : 0 ≤ n.used := (usedL_le n.ns).1
  have hw : wr (n.used + needR p (n.nd i) (n.nd (meetR n i))) = n.used + needR p (n.nd i) (n.nd (meetR n i)) := by
    cases hsw : p.sw with
    | false =>
      rw [hsw] at hX
      have := need_room hM hX
      have hnr : needR p (n.nd i) (n.nd (meetR n i)) = needX p (n.nd i) (n.nd (meetR n i)) := by unfold needR; rw [hsw]; rfl
      rw [hnr]; exact wr_in (by omega)
    | true =>
      rw [hsw] at hX
      have := need_room hM.swap hX
      have hnr : needR p (n.nd i) (n.nd (meetR n i)) = needX p (n.nd (meetR n i)) (n.nd i) := by unfold needR; rw [hsw]; rfl
      rw [hnr]; exact wr_in (by omega)
  rw [hw]
  by_cases hu : n.used + needR p (n.nd i) (n.nd (meetR n i)) ≤ n.cap
  case neg => rw [if_pos (by omega)]; exact .full hG p hM hr hu
  rw [if_neg (by omega)]
  refine .done hG p _ ⟨hM, hr, ?_, hu, rfl, ?_⟩
  · cases hsw : p.sw <;> rw [hsw] at hX <;> exact hX
  · cases hsw : p.sw with
    | false =>
      rw [hsw] at hX
      have hnr : needR p (n.nd i) (n.nd (meetR n i)) = needX p (n.nd i) (n.nd (meetR n i)) := by unfold needR; rw [hsw]; rfl
      rw [hnr] at hu ⊢
      exact step_ok hM hX hu
    | true =>
      rw [hsw] at hX
      have hnr : needR p (n.nd i) (n.nd (meetR n i)) = needX p (n.nd (meetR n i)) (n.nd i) := by unfold needR; rw [hsw]; rfl
      rw [hnr] at hu ⊢
      exact (step_ok hM.swap hX hu).swap
end Go.Proofs.YtomcceambpneiaaGreat
end
section
set_option linter.unusedSimpArgs false
set_option linter.unusedVariables false
set_option maxHeartbeats 4000000
namespace Go.Proofs.YtomcceambpneiaaGreat
open Go.Fx
def upN (c : Int) (n : Nt) : Nt := { n with cap := n.cap + c }
section
variable (c : Int)
theorem up_nd (n : Nt) (i : Int) : (upN c n).nd i = n.nd i := id rfl
theorem up_lk (n : Nt) (p : Pt) : (upN c n).lk p = n.lk p := id rfl
theorem up_has (n : Nt) (p : Pt) : (upN c n).has p = n.has p := id rfl
theorem up_used (n : Nt) : (upN c n).used = n.used := id rfl
theorem up_set (n : Nt) (p q : Pt) : (upN c n).set p q = upN c (n.set p q) := id rfl
theorem up_linkR (n : Nt) (p q : Pt) : linkR (upN c n) p q = (upN c (linkR n p q).1, (linkR n p q).2) := by
  unfold linkR
  simp only [up_has, up_set]
  by_cases h : (n.has p && n.has q && !decide (p = q)) = true
  · simp only [if_pos h]
  · simp only [if_neg h]
theorem up_moveR (n : Nt) (p q : Pt) : moveR (upN c n) p q = (upN c (moveR n p q).1, (moveR n p q).2) := by
  unfold moveR
  simp only [up_has, up_lk, up_linkR]
  split
  · split <;> rfl
  · rfl
theorem up_joinR (n : Nt) (p q : Pt) : joinR (upN c n) p q = (upN c (joinR n p q).1, (joinR n p q).2) := by
  unfold joinR
  simp only [up_has, up_lk, up_linkR]
  split
  · split <;> rfl
  · rfl
theorem up_run (n : Nt) (o : Op) : o.run (upN c n) = upN c (o.run n) := by
  cases o with
  | mv p q => simp only [Op.run, up_moveR]
  | jn p q => simp only [Op.run, up_joinR]
  | ln p q => simp only [Op.run, up_linkR]
theorem up_runs : ∀ (l : List Op) (n : Nt), runs (upN c n) l = upN c (runs n l)
  | [], n => rfl
  | o :: l, n => by rw [runs_cons', runs_cons', up_run]; exact up_runs l _
theorem up_freeR (n : Nt) (i : Int) : freeR (upN c n) i = (upN c (freeR n i).1, (freeR n i).2) := by
  unfold freeR
  simp only [up_nd]
  show (if 0 ≤ i ∧ i ≤ (n.ns.length : Int) - 1 ∧ (n.nd i).k ≠ 0 then _ else _) = _
  split <;> rfl
theorem runs_used (n : Nt) (l : List Op) : (runs n l).used = n.used := (runs_shp l n).used
theorem moveR_used (n : Nt) (p q : Pt) : (moveR n p q).1.used = n.used := (moveR_shp n p q).used
theorem joinR_used (n : Nt) (p q : Pt) : (joinR n p q).1.used = n.used := (joinR_shp n p q).used
theorem makeR_mono (n : Nt) (x : Nd) : n.used ≤ (makeR n x).1.used := by
  unfold makeR
  split
  · exact Int.le_refl _
  · rename_i h
    split
    · exact Int.le_refl _
    · show n.used ≤ (n.make x).used
      rw [make_used (by intro e; exact h (.inl (.inl e)))]; omega
theorem likeR_mono (n : Nt) (x : Nd) : ∀ k : Nat, n.used ≤ (likeR n x k).1.used
  | 0 => Int.le_refl _
  | k + 1 => Int.le_trans (likeR_mono n x k) (makeR_mono _ _)
theorem makeR_cap (n : Nt) (x : Nd) : (makeR n x).1.cap = n.cap := by
  unfold makeR
  split
  · rfl
  · split <;> rfl
theorem likeR_cap (n : Nt) (x : Nd) : ∀ k : Nat, (likeR n x k).1.cap = n.cap
  | 0 => rfl
  | k + 1 => (makeR_cap _ _).trans (likeR_cap n x k)
variable {c}
theorem up_makeR (hc : 0 ≤ c) (n : Nt) (x : Nd) : makeR (upN c n) x = (upN c (makeR n x).1, (makeR n x).2) ∨ (makeR (upN c n) x).1.used > n.cap := by
  unfold makeR
  by_cases h : (x.k = 0 ∨ x.k = 1) ∨ bool x.may = false
  · rw [if_pos h, if_pos h]; exact .inl rfl
  rw [if_neg h, if_neg h]
  have hcap : (upN c n).cap = n.cap + c := rfl
  rw [up_used, hcap]
  by_cases h2 : n.used ≥ n.cap
  · rw [if_pos h2]
    by_cases h3 : n.used ≥ n.cap + c
    · rw [if_pos h3]; exact .inl rfl
    · rw [if_neg h3]
      refine .inr ?_
      show (n.make x).used > n.cap
      rw [make_used (by intro e; exact h (.inl (.inl e)))]; omega
  · rw [if_neg h2, if_neg (by omega)]; exact .inl rfl
theorem up_likeR (hc : 0 ≤ c) (n : Nt) (x : Nd) : ∀ k : Nat, likeR (upN c n) x k = (upN c (likeR n x k).1, (likeR n x k).2) ∨ (likeR (upN c n) x k).1.used > n.cap
  | 0 => .inl rfl
  | k + 1 => by
    rcases up_likeR hc n x k with h | h
    · have e := up_makeR hc (likeR n x k).1 x
      rw [likeR_cap] at e
      simp only [likeR]
      rw [h]
      simp only
      rcases e with e | e
      · rw [e]; exact .inl rfl
      · exact .inr e
    · refine .inr ?_
      simp only [likeR]
      have := makeR_mono (likeR (upN c n) x k).1 x
      omega
def Upto (c : Int) (cap : Int) (f : Nt → Nt) (n : Nt) : Prop := f (upN c n) = upN c (f n) ∨ (f (upN c n)).used > cap
theorem up_joinD (hc : 0 ≤ c) (n : Nt) (a b : Int) : joinD (upN c n) a b = upN c (joinD n a b) := by
  unfold joinD; rw [up_runs]; rfl
theorem up_pickD (hc : 0 ≤ c) (n : Nt) (alt a b : Int) : Upto c n.cap (fun n => pickD n alt a b) n := by
  unfold Upto pickD
  simp only [up_nd]
  rcases up_likeR hc n (appN (n.nd a).lv) ((n.nd a).al.getD alt.toNat zA).n.toNat with h | h
  · rw [h]
    have hcap := likeR_cap n (appN (n.nd a).lv) ((n.nd a).al.getD alt.toNat zA).n.toNat
    obtain ⟨⟨m, ks⟩, hr⟩ : ∃ r, likeR n (appN (n.nd a).lv) ((n.nd a).al.getD alt.toNat zA).n.toNat = r := ⟨_, rfl⟩
    rw [hr] at hcap ⊢
    simp only at hcap ⊢
    have er : restR (upN c m) a alt = restR m a alt := rfl
    rw [er, up_nd]
    rcases up_likeR hc m (dropN (m.nd a).lv) (restR m a alt).length with h | h
    · rw [h]
      simp only
      left
      cases ks with
      | nil => simp only [up_joinR, up_runs]
      | cons d r => simp only [up_moveR, up_runs]
    · right
      simp only [runs_used]
      cases ks with
      | nil => simp only [joinR_used]; omega
      | cons d r => simp only [moveR_used]; omega
  · right
    simp only [runs_used]
    obtain ⟨⟨m, ks⟩, hr⟩ : ∃ r, likeR (upN c n) (appN (n.nd a).lv) ((n.nd a).al.getD alt.toNat zA).n.toNat = r := ⟨_, rfl⟩
    rw [hr] at h ⊢
    simp only at h ⊢
    have := likeR_mono m (dropN (m.nd a).lv) (restR m a alt).length
    cases ks with
    | nil => simp only [joinR_used]; omega
    | cons d r => simp only [moveR_used]; omega
theorem up_halfD (hc : 0 ≤ c) (n : Nt) (a b : Int) : Upto c n.cap (fun n => halfD n a b) n := by
  unfold Upto halfD
  simp only [up_nd]
  rcases up_makeR hc n (halfN (n.nd a) (n.nd b)) with h | h
  · rw [h]; simp only [up_moveR]; exact .inl trivial
  · right; simp only [moveR_used]; omega
theorem up_outD (hc : 0 ≤ c) (n : Nt) (x : Nd) (a : Int) : Upto c n.cap (fun n => outD n x a) n := by
  unfold Upto outD
  simp only [up_nd]
  rcases up_makeR hc n x with h | h
  · rw [h]; simp only [up_moveR]; exact .inl trivial
  · right; simp only [moveR_used]; omega
theorem up_failD (hc : 0 ≤ c) (n : Nt) (a b : Int) : Upto c n.cap (fun n => failD n a b) n := by
  unfold Upto failD
  simp only [up_nd]
  rcases up_makeR hc n (fail1 (n.nd a).lv) with h | h
  · rw [h]
    have hcap := makeR_cap n (fail1 (n.nd a).lv)
    obtain ⟨⟨m, t⟩, hr⟩ : ∃ r, makeR n (fail1 (n.nd a).lv) = r := ⟨_, rfl⟩
    rw [hr] at hcap ⊢
    simp only [up_nd] at hcap ⊢
    rcases up_likeR hc m (dropN (m.nd a).lv) (portsR a 2 (m.nd a).to.length ++ portsR b 1 (m.nd b).to.length).length with h | h
    · rw [h]; left; simp only [up_moveR, up_runs]
    · right; simp only [runs_used, moveR_used]; omega
  · right
    simp only [runs_used, moveR_used]
    obtain ⟨⟨m, t⟩, hr⟩ : ∃ r, makeR (upN c n) (fail1 (n.nd a).lv) = r := ⟨_, rfl⟩
    rw [hr] at h ⊢
    simp only at h ⊢
    have := likeR_mono m (dropN (m.nd a).lv) (portsR a 2 (m.nd a).to.length ++ portsR b 1 (m.nd b).to.length).length
    omega
theorem up_passD (hc : 0 ≤ c) (n : Nt) (lv a b : Int) : Upto c n.cap (fun n => passD n lv a b) n := by
  unfold Upto passD
  simp only [up_nd]
  rcases up_likeR hc n { n.nd b with lv := lv } ((n.nd a).to.length - 1) with h | h
  · rw [h]
    have hcap := likeR_cap n { n.nd b with lv := lv } ((n.nd a).to.length - 1)
    obtain ⟨⟨m, ks⟩, hr⟩ : ∃ r, likeR n { n.nd b with lv := lv } ((n.nd a).to.length - 1) = r := ⟨_, rfl⟩
    rw [hr] at hcap ⊢
    simp only at hcap ⊢
    rcases up_likeR hc m (n.nd a) ((n.nd b).to.length - 1) with h | h
    · rw [h]; left; simp only [up_runs]
    · right; simp only [runs_used]; omega
  · right
    simp only [runs_used]
    obtain ⟨⟨m, ks⟩, hr⟩ : ∃ r, likeR (upN c n) { n.nd b with lv := lv } ((n.nd a).to.length - 1) = r := ⟨_, rfl⟩
    rw [hr] at h ⊢
    simp only at h ⊢
    have := likeR_mono m (n.nd a) ((n.nd b).to.length - 1)
    omega
theorem up_dropD (hc : 0 ≤ c) (n : Nt) (a b : Int) : Upto c n.cap (fun n => dropD n a b) n := by
  unfold Upto dropD
  simp only [up_nd]
  rcases up_likeR hc n (dropN (n.nd a).lv) (portsR b 1 (n.nd b).to.length).length with h | h
  · rw [h]; left; simp only [up_runs]
  · right; simp only [runs_used]; omega
theorem up_doneR (hc : 0 ≤ c) (n : Nt) (p : Pl) (a b : Int) : Upto c n.cap (fun n => doneR n p a b) n := by
  unfold Upto doneR
  simp only
  split
  · exact .inl (up_joinD hc n a b)
  split
  · exact up_pickD hc n p.alt a b
  split
  · exact up_halfD hc n a b
  split
  · exact up_outD hc n p.nd a
  split
  · exact up_failD hc n a b
  split
  · exact up_passD hc n p.lv a b
  split
  · exact up_dropD hc n a b
  · exact .inl rfl
theorem up_stepR (hc : 0 ≤ c) {n : Nt} {p : Pl} {a b : Int} (h : (doneR (upN c n) p a b).used ≤ n.cap) : stepR (upN c n) p a b = upN c (stepR n p a b) := by
  rcases up_doneR hc n p a b with e | e
  · simp only at e
    unfold stepR
    rw [e, up_freeR]
    simp only [up_freeR]
  · simp only at e; omega
theorem up_good (hc : 0 ≤ c) {n : Nt} (h : n.Good) (hb : n.cap + c ≤ 4000) : (upN c n).Good :=
  ⟨by have := h.cap1; show 1 ≤ n.cap + c; omega, hb, h.ln1, by have := h.ln2; show (n.ns.length : Int) ≤ n.cap + c; omega, h.last, h.nds⟩
theorem up_Ok (hc : 0 ≤ c) {n : Nt} (h : n.Ok) (g : n.Good) (hb : n.cap + c ≤ 4000) : (upN c n).Ok := by
  have := g.cap1
  exact ⟨h.ns, by show wf (n.cap + c); unfold wf; omega, h.nd⟩
theorem up_meet (hc : 0 ≤ c) {n : Nt} {a b : Int} (h : Meet n a b) (hn : n.Ok) (hb : n.cap + c ≤ 4000) : Meet (upN c n) a b := by
  have e : meetR n a = b := by unfold meetR; rw [if_pos ⟨h.ha, by rw [h.la]⟩, h.la]
  have e2 : meetR (upN c n) a = b := e
  have := meetR_meet (n := upN c n) (i := a) (up_Ok hc hn h.good hb) (up_good hc h.good hb) (by rw [e2]; have := h.b0; omega)
  rw [e2] at this
  exact this
theorem up_doR (hc : 0 ≤ c) {n : Nt} {i : Int} {p : Pl} {m : Nt} (hn : n.Ok) (hb : n.cap + c ≤ 4000) (hd : DoneOk n i p m) : doR (upN c n) i = (upN c m, p, 0) := by
  have hM := hd.meet
  have hU := up_meet hc hM hn hb
  have hG := up_good hc hM.good hb
  have hr := hd.room
  have hp := hd.px
  have hpl := hd.pl
  have hnet := hd.net
  have D := do_case (up_Ok hc hn hM.good hb) i
  have e2 : meetR (upN c n) i = meetR n i := rfl
  obtain ⟨r, hr0⟩ : ∃ r, doR (upN c n) i = r := ⟨_, rfl⟩
  rw [hr0] at D ⊢
  cases D with
  | bad h => exact absurd hG h
  | none h hm => rw [e2] at hm; have := hM.b0; omega
  | pair h e hm he h0 => rw [e2, up_nd, up_nd, hpl] at he; exact absurd he h0
  | full h q hm hq hu =>
    rw [e2, up_nd, up_nd, hpl] at hq
    rw [e2, up_nd, up_nd, up_used] at hu
    have : p = q := congrArg Prod.fst hq
    subst this
    exact absurd (by show n.used + _ ≤ n.cap + c; omega) hu
  | done h q m' hd' =>
    have hq := hd'.pl
    rw [e2, up_nd, up_nd, hpl] at hq
    have : p = q := congrArg Prod.fst hq
    subst this
    have hnet' := hd'.net
    rw [e2] at hnet'
    rw [hnet', hnet]
    have key : (doneR (upN c n) p (if p.sw = true then meetR n i else i) (if p.sw = true then i else meetR n i)).used ≤ n.cap := by
      cases hsw : p.sw with
      | false =>
        rw [hsw] at hp
        have hnr : needR p (n.nd i) (n.nd (meetR n i)) = needX p (n.nd i) (n.nd (meetR n i)) := by unfold needR; rw [hsw]; rfl
        rw [hnr] at hr
        have R := done_run hU hp (by show n.used + needX p (n.nd i) (n.nd (meetR n i)) ≤ n.cap + c; omega)
        have := R.used
        rw [up_used, up_nd, up_nd] at this
        simp only [Bool.false_eq_true, if_false]
        omega
      | true =>
        rw [hsw] at hp
        have hnr : needR p (n.nd i) (n.nd (meetR n i)) = needX p (n.nd (meetR n i)) (n.nd i) := by unfold needR; rw [hsw]; rfl
        rw [hnr] at hr
        have R := done_run hU.swap hp (by show n.used + needX p (n.nd (meetR n i)) (n.nd i) ≤ n.cap + c; omega)
        have := R.used
        rw [up_used, up_nd, up_nd] at this
        simp only [if_true]
        omega
    rw [up_stepR hc key]
end
end Go.Proofs.YtomcceambpneiaaGreat
end
section
set_option linter.unusedSimpArgs false
set_option linter.unusedVariables false
set_option maxHeartbeats 4000000
set_option maxRecDepth 10000
namespace Go.Proofs.YtomcceambpneiaaGreat
open Go.Fx
theorem Rto_ok {n : Nt} {p : Pt} (h : n.has p = true) : eP S 29 [.g (encT n), .g (encP p)] = some (.g (encP (n.lk p))) := by
  have hp := has_iff.1 h
  have g := getN (l := n.ns) hp.1 hp.2.1
  have g2 := getP (l := (n.nd p.n).to) hp.2.2.1 hp.2.2.2
  have h4 := hp.2.2.2
  simp only [Nt.nd] at h4 g2
  refine x_fn (orcS (by decide)) (fc := F29) rfl rfl ?_
  simp only [F29, Nt.lk, Nt.nd, Nd.tt, hp.1, hp.2.1, hp.2.2.1, h4, g, g2, fxa, fxc, fxE, fxL, fxI, nxE, evO, evR, cellsT, ldCells, mkT, lenA, binPV, Env.init, resV, resT, frT, klT, ownT, intT, O.adds, ownA, rowsA, over, wrOk, keysT, keysA, ne_eq, if_true, if_false, ite_self, Nat.reduceLT, Nat.reduceSub, Nat.reduceBEq, Nat.reduceEqDiff, Nat.reduceAdd, Nat.reduceLeDiff, reduceCtorEq, Nat.reduceMul]
theorem RPeer_ok (n : Nt) (p : Pt) : eP S 18 [.g (encT n), .g (encP p)] = some (.t [(true, encP (if n.has p then n.lk p else zP)), (false, [.i .i64 (if n.has p then 0 else 130)])]) := by
  have a1 := Has_ok n p
  refine x_fn (orcS (by decide)) (fc := F18) rfl rfl ?_
  simp only [encT, encP] at a1
  cases h1 : n.has p with
  | false =>
    rw [h1] at a1
    simp only [F18, a1, zP, Bool.false_eq_true, fxa, fxc, fxE, fxL, fxI, nxE, evO, evR, cellsT, ldCells, mkT, lenA, binPV, Env.init, resV, resT, frT, klT, ownT, intT, O.adds, ownA, rowsA, over, wrOk, keysT, keysA, ne_eq, if_true, if_false, ite_self, Nat.reduceLT, Nat.reduceSub, Nat.reduceBEq, Nat.reduceEqDiff, Nat.reduceAdd, Nat.reduceLeDiff, reduceCtorEq, Nat.reduceMul]
  | true =>
    have a2 := Rto_ok h1
    rw [h1] at a1
    simp only [encT, encP] at a2
    simp only [F18, a1, a2, fxa, fxc, fxE, fxL, fxI, nxE, evO, evR, cellsT, ldCells, mkT, lenA, binPV, Env.init, resV, resT, frT, klT, ownT, intT, O.adds, ownA, rowsA, over, wrOk, keysT, keysA, ne_eq, if_true, if_false, ite_self, Nat.reduceLT, Nat.reduceSub, Nat.reduceBEq, Nat.reduceEqDiff, Nat.reduceAdd, Nat.reduceLeDiff, reduceCtorEq, Nat.reduceMul]
end Go.Proofs.YtomcceambpneiaaGreat
end
section
set_option linter.unusedSimpArgs false
set_option linter.unusedVariables false
set_option maxHeartbeats 4000000
set_option maxRecDepth 10000
namespace Go.Proofs.YtomcceambpneiaaGreat
open Go.Fx
theorem rat_ok (i j : Int) : eP S 19 [.a (.i .i64 i), .a (.i .i64 j)] = some (.g [.i .i64 i, .i .i64 j]) := by
  refine x_fn (orcS (by decide)) (fc := F19) rfl rfl ?_
  simp only [F19, fxa, fxc, fxE, fxL, fxI, nxE, evO, evR, cellsT, ldCells, mkT, lenA, binPV, Env.init, resV, resT, frT, klT, ownT, intT, O.adds, ownA, rowsA, over, wrOk, keysT, keysA, ne_eq, if_true, if_false, ite_self, Nat.reduceLT, Nat.reduceSub, Nat.reduceBEq, Nat.reduceEqDiff, Nat.reduceAdd, Nat.reduceLeDiff, reduceCtorEq, Nat.reduceMul]
theorem RMeets_ok (n : Nt) (i : Int) : eP S 7 [.g (encT n), .a (.i .i64 i)] = some (.a (.i .i64 (meetR n i))) := by
  refine x_fn (orcS (by decide)) (fc := F7) rfl rfl ?_
  have c1 := RPeer_ok n ⟨i, 0⟩
  have p1 := rat_ok i 0
  unfold meetR
  obtain ⟨q, hq⟩ : ∃ q, n.lk ⟨i, 0⟩ = q := ⟨_, rfl⟩
  rw [hq] at c1 ⊢
  simp only [encT, encP] at c1
  by_cases h1 : n.has ⟨i, 0⟩ = true
  · by_cases h2 : q.s = 0
    · simp only [h1, if_true, encP] at c1
      simp only [F7, encT, c1, p1, h1, h2, fxa, fxc, fxE, fxL, fxI, nxE, evO, evR, cellsT, ldCells, mkT, lenA, binPV, Env.init, resV, resT, frT, klT, ownT, intT, O.adds, ownA, rowsA, over, wrOk, keysT, keysA, ne_eq, if_true, if_false, ite_self, Nat.reduceLT, Nat.reduceSub, Nat.reduceBEq, Nat.reduceEqDiff, Nat.reduceAdd, Nat.reduceLeDiff, reduceCtorEq, Nat.reduceMul]
    · simp only [h1, if_true, encP] at c1
      simp only [F7, encT, c1, p1, h1, h2, fxa, fxc, fxE, fxL, fxI, nxE, evO, evR, cellsT, ldCells, mkT, lenA, binPV, Env.init, resV, resT, frT, klT, ownT, intT, O.adds, ownA, rowsA, over, wrOk, keysT, keysA, ne_eq, if_true, if_false, ite_self, Nat.reduceLT, Nat.reduceSub, Nat.reduceBEq, Nat.reduceEqDiff, Nat.reduceAdd, Nat.reduceLeDiff, reduceCtorEq, Nat.reduceMul]
  · simp only [h1, Bool.false_eq_true, if_false, zP, encP] at c1
    simp only [F7, encT, c1, p1, h1, Int.reduceEq, fxa, fxc, fxE, fxL, fxI, nxE, evO, evR, cellsT, ldCells, mkT, lenA, binPV, Env.init, resV, resT, frT, klT, ownT, intT, O.adds, ownA, rowsA, over, wrOk, keysT, keysA, ne_eq, if_true, if_false, ite_self, Nat.reduceLT, Nat.reduceSub, Nat.reduceBEq, Nat.reduceEqDiff, Nat.reduceAdd, Nat.reduceLeDiff, reduceCtorEq, Nat.reduceMul]
end Go.Proofs.YtomcceambpneiaaGreat
end
section
set_option linter.unusedSimpArgs false
set_option linter.unusedVariables false
set_option maxHeartbeats 4000000
set_option maxRecDepth 10000
namespace Go.Proofs.YtomcceambpneiaaGreat
open Go.Fx
theorem max_as (z : Int) : (if (0 : Int) > z then 0 else z) = max z 0 := by omega
theorem need5 {x : Nd} (hx : x.Ok) : max (wr ((x.to.length : Int) - 2)) 0 = max (wr (oth x - 1)) 0 := by
  have := hx.to
  unfold oth wr
  rw [wrap_in ((x.to.length : Int) - 1) (by omega), wrap_in ((x.to.length : Int) - 2) (by omega), wrap_in _ (by omega)]
  omega
theorem RNeed_ok {p : Pl} {a b : Nd} (ka : a.Ok) (kb : b.Ok) : eP S 9 [.g (encL p), .g (encN a), .g (encN b)] = some (.a (.i .i64 (needR p a b))) := by
  refine x_fn (orcS (by decide)) (fc := F9) rfl rfl ?_
  have ma := max_as (wr ((a.to.length : Int) - 1))
  have mb := max_as (wr ((b.to.length : Int) - 1))
  have mc := max_as (wr ((a.to.length : Int) - 2))
  have md := max_as (wr ((b.to.length : Int) - 2))
  rw [need5 ka] at mc
  rw [need5 kb] at md
  have oa : max (wr ((a.to.length : Int) - 1)) 0 = oth a := rfl
  have ob : max (wr ((b.to.length : Int) - 1)) 0 = oth b := rfl
  rw [oa] at ma
  rw [ob] at mb
  unfold wr at ma mb mc md
  unfold needR
  cases hsw : p.sw with
  | true =>
    rw [if_pos rfl]
    unfold needX
    by_cases k2 : p.k = 2
    · by_cases h1 : p.alt < 0
      · simp only [F9, encL, encN, hsw, mb, ma, k2, h1, true_or, or_true, if_true, fxa, fxc, fxE, fxL, fxI, nxE, evO, evR, cellsT, ldCells, mkT, lenA, binPV, Env.init, resV, resT, frT, klT, ownT, intT, O.adds, ownA, rowsA, over, wrOk, keysT, keysA, ne_eq, if_true, if_false, ite_self, Nat.reduceLT, Nat.reduceSub, Nat.reduceBEq, Nat.reduceEqDiff, Nat.reduceAdd, Nat.reduceLeDiff, reduceCtorEq, Nat.reduceMul]
      by_cases h2 : p.alt ≥ (b.al.length : Int)
      · simp only [F9, encL, encN, hsw, mb, ma, k2, h1, h2, true_or, or_true, if_true, fxa, fxc, fxE, fxL, fxI, nxE, evO, evR, cellsT, ldCells, mkT, lenA, binPV, Env.init, resV, resT, frT, klT, ownT, intT, O.adds, ownA, rowsA, over, wrOk, keysT, keysA, ne_eq, if_true, if_false, ite_self, Nat.reduceLT, Nat.reduceSub, Nat.reduceBEq, Nat.reduceEqDiff, Nat.reduceAdd, Nat.reduceLeDiff, reduceCtorEq, Nat.reduceMul]
      have g := getA (l := b.al) (i := p.alt) (by omega) (by omega)
      have hge : 0 ≤ p.alt := by omega
      have hlt : p.alt < (b.al.length : Int) := by omega
      simp only [F9, encL, encN, encA, hsw, mb, ma, k2, h1, h2, g, hge, hlt, allA, or_self, wr, List.length_map, fxa, fxc, fxE, fxL, fxI, nxE, evO, evR, cellsT, ldCells, mkT, lenA, binPV, Env.init, resV, resT, frT, klT, ownT, intT, O.adds, ownA, rowsA, over, wrOk, keysT, keysA, ne_eq, if_true, if_false, ite_self, Nat.reduceLT, Nat.reduceSub, Nat.reduceBEq, Nat.reduceEqDiff, Nat.reduceAdd, Nat.reduceLeDiff, reduceCtorEq, Nat.reduceMul]
    by_cases k3 : p.k = 3
    · simp only [F9, encL, encN, hsw, mb, ma, k3, Int.reduceEq, true_or, or_true, fxa, fxc, fxE, fxL, fxI, nxE, evO, evR, cellsT, ldCells, mkT, lenA, binPV, Env.init, resV, resT, frT, klT, ownT, intT, O.adds, ownA, rowsA, over, wrOk, keysT, keysA, ne_eq, if_true, if_false, ite_self, Nat.reduceLT, Nat.reduceSub, Nat.reduceBEq, Nat.reduceEqDiff, Nat.reduceAdd, Nat.reduceLeDiff, reduceCtorEq, Nat.reduceMul]
    by_cases k4 : p.k = 4
    · simp only [F9, encL, encN, hsw, mb, ma, k4, Int.reduceEq, true_or, or_true, fxa, fxc, fxE, fxL, fxI, nxE, evO, evR, cellsT, ldCells, mkT, lenA, binPV, Env.init, resV, resT, frT, klT, ownT, intT, O.adds, ownA, rowsA, over, wrOk, keysT, keysA, ne_eq, if_true, if_false, ite_self, Nat.reduceLT, Nat.reduceSub, Nat.reduceBEq, Nat.reduceEqDiff, Nat.reduceAdd, Nat.reduceLeDiff, reduceCtorEq, Nat.reduceMul]
    by_cases k5 : p.k = 5
    · simp only [F9, encL, encN, hsw, mb, ma, mc, md, k5, wr, Int.reduceEq, or_self, List.length_map, fxa, fxc, fxE, fxL, fxI, nxE, evO, evR, cellsT, ldCells, mkT, lenA, binPV, Env.init, resV, resT, frT, klT, ownT, intT, O.adds, ownA, rowsA, over, wrOk, keysT, keysA, ne_eq, if_true, if_false, ite_self, Nat.reduceLT, Nat.reduceSub, Nat.reduceBEq, Nat.reduceEqDiff, Nat.reduceAdd, Nat.reduceLeDiff, reduceCtorEq, Nat.reduceMul]
    by_cases k7 : p.k = 7
    · by_cases h4 : b.k = 4
      · simp only [F9, encL, encN, hsw, mb, ma, k7, h4, wr, Int.reduceEq, or_self, List.length_map, fxa, fxc, fxE, fxL, fxI, nxE, evO, evR, cellsT, ldCells, mkT, lenA, binPV, Env.init, resV, resT, frT, klT, ownT, intT, O.adds, ownA, rowsA, over, wrOk, keysT, keysA, ne_eq, if_true, if_false, ite_self, Nat.reduceLT, Nat.reduceSub, Nat.reduceBEq, Nat.reduceEqDiff, Nat.reduceAdd, Nat.reduceLeDiff, reduceCtorEq, Nat.reduceMul]
      · simp only [F9, encL, encN, hsw, mb, ma, k7, h4, wr, Int.reduceEq, or_self, List.length_map, fxa, fxc, fxE, fxL, fxI, nxE, evO, evR, cellsT, ldCells, mkT, lenA, binPV, Env.init, resV, resT, frT, klT, ownT, intT, O.adds, ownA, rowsA, over, wrOk, keysT, keysA, ne_eq, if_true, if_false, ite_self, Nat.reduceLT, Nat.reduceSub, Nat.reduceBEq, Nat.reduceEqDiff, Nat.reduceAdd, Nat.reduceLeDiff, reduceCtorEq, Nat.reduceMul]
    by_cases k8 : p.k = 8
    · simp only [F9, encL, encN, hsw, mb, ma, k8, wr, Int.reduceEq, or_self, List.length_map, fxa, fxc, fxE, fxL, fxI, nxE, evO, evR, cellsT, ldCells, mkT, lenA, binPV, Env.init, resV, resT, frT, klT, ownT, intT, O.adds, ownA, rowsA, over, wrOk, keysT, keysA, ne_eq, if_true, if_false, ite_self, Nat.reduceLT, Nat.reduceSub, Nat.reduceBEq, Nat.reduceEqDiff, Nat.reduceAdd, Nat.reduceLeDiff, reduceCtorEq, Nat.reduceMul]
    · simp only [F9, encL, encN, hsw, mb, ma, k2, k3, k4, k5, k7, k8, or_self, List.length_map, fxa, fxc, fxE, fxL, fxI, nxE, evO, evR, cellsT, ldCells, mkT, lenA, binPV, Env.init, resV, resT, frT, klT, ownT, intT, O.adds, ownA, rowsA, over, wrOk, keysT, keysA, ne_eq, if_true, if_false, ite_self, Nat.reduceLT, Nat.reduceSub, Nat.reduceBEq, Nat.reduceEqDiff, Nat.reduceAdd, Nat.reduceLeDiff, reduceCtorEq, Nat.reduceMul]
  | false =>
    rw [if_neg (by simp)]
    unfold needX
    by_cases k2 : p.k = 2
    · by_cases h1 : p.alt < 0
      · simp only [F9, encL, encN, hsw, mb, ma, k2, h1, true_or, or_true, if_true, fxa, fxc, fxE, fxL, fxI, nxE, evO, evR, cellsT, ldCells, mkT, lenA, binPV, Env.init, resV, resT, frT, klT, ownT, intT, O.adds, ownA, rowsA, over, wrOk, keysT, keysA, ne_eq, if_true, if_false, ite_self, Nat.reduceLT, Nat.reduceSub, Nat.reduceBEq, Nat.reduceEqDiff, Nat.reduceAdd, Nat.reduceLeDiff, reduceCtorEq, Nat.reduceMul]
      by_cases h2 : p.alt ≥ (a.al.length : Int)
      · simp only [F9, encL, encN, hsw, mb, ma, k2, h1, h2, true_or, or_true, if_true, fxa, fxc, fxE, fxL, fxI, nxE, evO, evR, cellsT, ldCells, mkT, lenA, binPV, Env.init, resV, resT, frT, klT, ownT, intT, O.adds, ownA, rowsA, over, wrOk, keysT, keysA, ne_eq, if_true, if_false, ite_self, Nat.reduceLT, Nat.reduceSub, Nat.reduceBEq, Nat.reduceEqDiff, Nat.reduceAdd, Nat.reduceLeDiff, reduceCtorEq, Nat.reduceMul]
      have g := getA (l := a.al) (i := p.alt) (by omega) (by omega)
      have hge : 0 ≤ p.alt := by omega
      have hlt : p.alt < (a.al.length : Int) := by omega
      simp only [F9, encL, encN, encA, hsw, mb, ma, k2, h1, h2, g, hge, hlt, allA, or_self, wr, List.length_map, fxa, fxc, fxE, fxL, fxI, nxE, evO, evR, cellsT, ldCells, mkT, lenA, binPV, Env.init, resV, resT, frT, klT, ownT, intT, O.adds, ownA, rowsA, over, wrOk, keysT, keysA, ne_eq, if_true, if_false, ite_self, Nat.reduceLT, Nat.reduceSub, Nat.reduceBEq, Nat.reduceEqDiff, Nat.reduceAdd, Nat.reduceLeDiff, reduceCtorEq, Nat.reduceMul]
    by_cases k3 : p.k = 3
    · simp only [F9, encL, encN, hsw, mb, ma, k3, Int.reduceEq, true_or, or_true, fxa, fxc, fxE, fxL, fxI, nxE, evO, evR, cellsT, ldCells, mkT, lenA, binPV, Env.init, resV, resT, frT, klT, ownT, intT, O.adds, ownA, rowsA, over, wrOk, keysT, keysA, ne_eq, if_true, if_false, ite_self, Nat.reduceLT, Nat.reduceSub, Nat.reduceBEq, Nat.reduceEqDiff, Nat.reduceAdd, Nat.reduceLeDiff, reduceCtorEq, Nat.reduceMul]
    by_cases k4 : p.k = 4
    · simp only [F9, encL, encN, hsw, mb, ma, k4, Int.reduceEq, true_or, or_true, fxa, fxc, fxE, fxL, fxI, nxE, evO, evR, cellsT, ldCells, mkT, lenA, binPV, Env.init, resV, resT, frT, klT, ownT, intT, O.adds, ownA, rowsA, over, wrOk, keysT, keysA, ne_eq, if_true, if_false, ite_self, Nat.reduceLT, Nat.reduceSub, Nat.reduceBEq, Nat.reduceEqDiff, Nat.reduceAdd, Nat.reduceLeDiff, reduceCtorEq, Nat.reduceMul]
    by_cases k5 : p.k = 5
    · simp only [F9, encL, encN, hsw, mb, ma, mc, md, k5, wr, Int.reduceEq, or_self, List.length_map, fxa, fxc, fxE, fxL, fxI, nxE, evO, evR, cellsT, ldCells, mkT, lenA, binPV, Env.init, resV, resT, frT, klT, ownT, intT, O.adds, ownA, rowsA, over, wrOk, keysT, keysA, ne_eq, if_true, if_false, ite_self, Nat.reduceLT, Nat.reduceSub, Nat.reduceBEq, Nat.reduceEqDiff, Nat.reduceAdd, Nat.reduceLeDiff, reduceCtorEq, Nat.reduceMul]
    by_cases k7 : p.k = 7
    · by_cases h4 : a.k = 4
      · simp only [F9, encL, encN, hsw, mb, ma, k7, h4, wr, Int.reduceEq, or_self, List.length_map, fxa, fxc, fxE, fxL, fxI, nxE, evO, evR, cellsT, ldCells, mkT, lenA, binPV, Env.init, resV, resT, frT, klT, ownT, intT, O.adds, ownA, rowsA, over, wrOk, keysT, keysA, ne_eq, if_true, if_false, ite_self, Nat.reduceLT, Nat.reduceSub, Nat.reduceBEq, Nat.reduceEqDiff, Nat.reduceAdd, Nat.reduceLeDiff, reduceCtorEq, Nat.reduceMul]
      · simp only [F9, encL, encN, hsw, mb, ma, k7, h4, wr, Int.reduceEq, or_self, List.length_map, fxa, fxc, fxE, fxL, fxI, nxE, evO, evR, cellsT, ldCells, mkT, lenA, binPV, Env.init, resV, resT, frT, klT, ownT, intT, O.adds, ownA, rowsA, over, wrOk, keysT, keysA, ne_eq, if_true, if_false, ite_self, Nat.reduceLT, Nat.reduceSub, Nat.reduceBEq, Nat.reduceEqDiff, Nat.reduceAdd, Nat.reduceLeDiff, reduceCtorEq, Nat.reduceMul]
    by_cases k8 : p.k = 8
    · simp only [F9, encL, encN, hsw, mb, ma, k8, wr, Int.reduceEq, or_self, List.length_map, fxa, fxc, fxE, fxL, fxI, nxE, evO, evR, cellsT, ldCells, mkT, lenA, binPV, Env.init, resV, resT, frT, klT, ownT, intT, O.adds, ownA, rowsA, over, wrOk, keysT, keysA, ne_eq, if_true, if_false, ite_self, Nat.reduceLT, Nat.reduceSub, Nat.reduceBEq, Nat.reduceEqDiff, Nat.reduceAdd, Nat.reduceLeDiff, reduceCtorEq, Nat.reduceMul]
    · simp only [F9, encL, encN, hsw, mb, ma, k2, k3, k4, k5, k7, k8, or_self, List.length_map, fxa, fxc, fxE, fxL, fxI, nxE, evO, evR, cellsT, ldCells, mkT, lenA, binPV, Env.init, resV, resT, frT, klT, ownT, intT, O.adds, ownA, rowsA, over, wrOk, keysT, keysA, ne_eq, if_true, if_false, ite_self, Nat.reduceLT, Nat.reduceSub, Nat.reduceBEq, Nat.reduceEqDiff, Nat.reduceAdd, Nat.reduceLeDiff, reduceCtorEq, Nat.reduceMul]
end Go.Proofs.YtomcceambpneiaaGreat
end
section
set_option linter.unusedSimpArgs false
set_option linter.unusedVariables false
set_option maxHeartbeats 8000000
set_option maxRecDepth 10000
namespace Go.Proofs.YtomcceambpneiaaGreat
open Go.Fx
def tI (a : Int) : List PV := [.i .i64 7, .i .i64 a, .s [], .l []]
def tOp (s : List UInt8) (a b : Int) : List PV := [.i .i64 8, .i .i64 0, .s s, .l [tI a, tI b]]
def isOp (s : List UInt8) : Prop := s = [43] ∨ s = [45] ∨ s = [42] ∨ s = [47] ∨ s = [60] ∨ s = [61, 61]
def opR (s : List UInt8) (a b : Int) : List PV × Int :=
  if s = [43] then (tI (wr (a + b)), 3) else if s = [45] then (tI (wr (a - b)), 3) else if s = [42] then (tI (wr (a * b)), 3)
  else if s = [47] then (if b = 0 then ([.i .i64 9, .i .i64 0, .s [], .l []], 4) else (tI (wr (a.tdiv b)), 3))
  else if (s = [60] ∧ a < b) ∨ (s = [61, 61] ∧ a = b) then ([.i .i64 4, .i .i64 0, .s [84, 114, 117, 101], .l []], 3) else ([.i .i64 4, .i .i64 0, .s [70, 97, 108, 115, 101], .l []], 3)
def encO (x : List PV × Int) : PT := .t [(true, x.1), (false, [.i .i64 x.2])]
theorem number_ok (a : Int) : eP S 105 [.a (.i .i64 a)] = some (.t [(true, tI a), (false, [.i .i64 3])]) := by
  refine x_fn (orcS (by decide)) (fc := F105) rfl rfl ?_
  simp only [F105, tI, fxa, fxc, fxE, fxL, fxI, nxE, evO, evR, cellsT, ldCells, mkT, lenA, binPV, Env.init, resV, resT, frT, klT, ownT, intT, O.adds, ownA, rowsA, over, wrOk, keysT, keysA, ne_eq, if_true, if_false, ite_self, Nat.reduceLT, Nat.reduceSub, Nat.reduceBEq, Nat.reduceEqDiff, Nat.reduceAdd, Nat.reduceLeDiff, reduceCtorEq, Nat.reduceMul]
theorem fail9_ok : eP S 98 [] = some (.t [(true, [.i .i64 9, .i .i64 0, .s [], .l []]), (false, [.i .i64 4])]) := (eP_some S).2 ⟨3, by kernel_rfl⟩
theorem value_ok (a : Int) : eP S 94 [.g (tI a)] = some (.a (.b true)) := by
  refine x_fn (orcS (by decide)) (fc := F94) rfl rfl ?_
  simp only [F94, tI, Int.reduceEq, fxa, fxc, fxE, fxL, fxI, nxE, evO, evR, cellsT, ldCells, mkT, lenA, binPV, Env.init, resV, resT, frT, klT, ownT, intT, O.adds, ownA, rowsA, over, wrOk, keysT, keysA, ne_eq, if_true, if_false, ite_self, Nat.reduceLT, Nat.reduceSub, Nat.reduceBEq, Nat.reduceEqDiff, Nat.reduceAdd, Nat.reduceLeDiff, reduceCtorEq, Nat.reduceMul]
theorem op_ok {s : List UInt8} {a b : Int} (ha : wf a) (hs : isOp s) : eP S 99 [.a (.s s), .a (.i .i64 a), .a (.i .i64 b)] = some (encO (opR s a b)) := by
  refine x_fn (orcS (by decide)) (fc := F99) rfl rfl ?_
  have n1 := number_ok (wr (a + b))
  have n2 := number_ok (wr (a - b))
  have n3 := number_ok (wr (a * b))
  have n4 := number_ok (wr (a.tdiv b))
  have n5 := fail9_ok
  unfold opR encO
  simp only [tI, wr] at n1 n2 n3 n4
  rcases hs with rfl | rfl | rfl | rfl | rfl | rfl
  · simp only [F99, n1, tI, wr, nmU, List.cons.injEq, and_true, fxa, fxc, fxE, fxL, fxI, nxE, evO, evR, cellsT, ldCells, mkT, lenA, binPV, Env.init, resV, resT, frT, klT, ownT, intT, O.adds, ownA, rowsA, over, wrOk, keysT, keysA, ne_eq, if_true, if_false, ite_self, Nat.reduceLT, Nat.reduceSub, Nat.reduceBEq, Nat.reduceEqDiff, Nat.reduceAdd, Nat.reduceLeDiff, reduceCtorEq, Nat.reduceMul]
  · simp only [F99, n2, tI, wr, nmU, List.cons.injEq, and_true, fxa, fxc, fxE, fxL, fxI, nxE, evO, evR, cellsT, ldCells, mkT, lenA, binPV, Env.init, resV, resT, frT, klT, ownT, intT, O.adds, ownA, rowsA, over, wrOk, keysT, keysA, ne_eq, if_true, if_false, ite_self, Nat.reduceLT, Nat.reduceSub, Nat.reduceBEq, Nat.reduceEqDiff, Nat.reduceAdd, Nat.reduceLeDiff, reduceCtorEq, Nat.reduceMul]
  · simp only [F99, n3, tI, wr, nmU, List.cons.injEq, and_true, fxa, fxc, fxE, fxL, fxI, nxE, evO, evR, cellsT, ldCells, mkT, lenA, binPV, Env.init, resV, resT, frT, klT, ownT, intT, O.adds, ownA, rowsA, over, wrOk, keysT, keysA, ne_eq, if_true, if_false, ite_self, Nat.reduceLT, Nat.reduceSub, Nat.reduceBEq, Nat.reduceEqDiff, Nat.reduceAdd, Nat.reduceLeDiff, reduceCtorEq, Nat.reduceMul]
  · by_cases h0 : b = 0
    · simp only [F99, n5, h0, tI, wr, nmU, List.cons.injEq, and_true, fxa, fxc, fxE, fxL, fxI, nxE, evO, evR, cellsT, ldCells, mkT, lenA, binPV, Env.init, resV, resT, frT, klT, ownT, intT, O.adds, ownA, rowsA, over, wrOk, keysT, keysA, ne_eq, if_true, if_false, ite_self, Nat.reduceLT, Nat.reduceSub, Nat.reduceBEq, Nat.reduceEqDiff, Nat.reduceAdd, Nat.reduceLeDiff, reduceCtorEq, Nat.reduceMul]
    · by_cases h1 : b = -1
      · subst h1
        have e : IntKind.i64.wrap (0 - a) = IntKind.i64.wrap (a.tdiv (-1)) := by rw [Int.tdiv_neg, Int.tdiv_one, Int.zero_sub]
        simp only [F99, n4, e, h0, tI, wr, nmU, Int.reduceNeg, List.cons.injEq, and_true, fxa, fxc, fxE, fxL, fxI, nxE, evO, evR, cellsT, ldCells, mkT, lenA, binPV, Env.init, resV, resT, frT, klT, ownT, intT, O.adds, ownA, rowsA, over, wrOk, keysT, keysA, ne_eq, if_true, if_false, ite_self, Nat.reduceLT, Nat.reduceSub, Nat.reduceBEq, Nat.reduceEqDiff, Nat.reduceAdd, Nat.reduceLeDiff, reduceCtorEq, Nat.reduceMul]
      · simp only [F99, n4, h0, h1, tI, wr, nmU, List.cons.injEq, and_true, fxa, fxc, fxE, fxL, fxI, nxE, evO, evR, cellsT, ldCells, mkT, lenA, binPV, Env.init, resV, resT, frT, klT, ownT, intT, O.adds, ownA, rowsA, over, wrOk, keysT, keysA, ne_eq, if_true, if_false, ite_self, Nat.reduceLT, Nat.reduceSub, Nat.reduceBEq, Nat.reduceEqDiff, Nat.reduceAdd, Nat.reduceLeDiff, reduceCtorEq, Nat.reduceMul]
  · by_cases h : a < b
    · simp only [F99, h, tI, wr, nmU, List.cons.injEq, and_true, or_false, false_or, true_or, or_true, or_self, fxa, fxc, fxE, fxL, fxI, nxE, evO, evR, cellsT, ldCells, mkT, lenA, binPV, Env.init, resV, resT, frT, klT, ownT, intT, O.adds, ownA, rowsA, over, wrOk, keysT, keysA, ne_eq, if_true, if_false, ite_self, Nat.reduceLT, Nat.reduceSub, Nat.reduceBEq, Nat.reduceEqDiff, Nat.reduceAdd, Nat.reduceLeDiff, reduceCtorEq, Nat.reduceMul]
    · simp only [F99, h, tI, wr, nmU, List.cons.injEq, and_true, or_false, false_or, true_or, or_true, or_self, fxa, fxc, fxE, fxL, fxI, nxE, evO, evR, cellsT, ldCells, mkT, lenA, binPV, Env.init, resV, resT, frT, klT, ownT, intT, O.adds, ownA, rowsA, over, wrOk, keysT, keysA, ne_eq, if_true, if_false, ite_self, Nat.reduceLT, Nat.reduceSub, Nat.reduceBEq, Nat.reduceEqDiff, Nat.reduceAdd, Nat.reduceLeDiff, reduceCtorEq, Nat.reduceMul]
  · by_cases h : a = b
    · simp only [F99, h, tI, wr, nmU, List.cons.injEq, and_true, or_false, false_or, true_or, or_true, or_self, fxa, fxc, fxE, fxL, fxI, nxE, evO, evR, cellsT, ldCells, mkT, lenA, binPV, Env.init, resV, resT, frT, klT, ownT, intT, O.adds, ownA, rowsA, over, wrOk, keysT, keysA, ne_eq, if_true, if_false, ite_self, Nat.reduceLT, Nat.reduceSub, Nat.reduceBEq, Nat.reduceEqDiff, Nat.reduceAdd, Nat.reduceLeDiff, reduceCtorEq, Nat.reduceMul]
    · simp only [F99, h, tI, wr, nmU, List.cons.injEq, and_true, or_false, false_or, true_or, or_true, or_self, fxa, fxc, fxE, fxL, fxI, nxE, evO, evR, cellsT, ldCells, mkT, lenA, binPV, Env.init, resV, resT, frT, klT, ownT, intT, O.adds, ownA, rowsA, over, wrOk, keysT, keysA, ne_eq, if_true, if_false, ite_self, Nat.reduceLT, Nat.reduceSub, Nat.reduceBEq, Nat.reduceEqDiff, Nat.reduceAdd, Nat.reduceLeDiff, reduceCtorEq, Nat.reduceMul]
theorem headI_ok (a f : Int) : eP S 102 [.g (tI a), .a (.i .i64 f), .a (.b false)] = some (.a (.b true)) := by
  refine x_fn (orcS (by decide)) (fc := F102) rfl rfl ?_
  simp only [F102, tI, Int.reduceEq, Int.natCast_eq_zero, List.nil_eq, Int.cast_ofNat_Int, Int.reduceLE, Int.reduceLT, Int.reduceToNat, Int.reduceAdd, Int.reduceSub, Int.reduceNeg, fxa, fxc, fxE, fxL, fxI, nxE, evO, evR, cellsT, ldCells, mkT, lenA, binPV, Env.init, resV, resT, frT, klT, ownT, intT, O.adds, ownA, rowsA, over, wrOk, keysT, keysA, ne_eq, if_true, if_false, ite_self, Nat.reduceLT, Nat.reduceSub, Nat.reduceBEq, Nat.reduceEqDiff, Nat.reduceAdd, Nat.reduceLeDiff, reduceCtorEq, Nat.reduceMul]
theorem headO_ok {s : List UInt8} (hs : isOp s) (a b f : Int) : eP S 102 [.g (tOp s a b), .a (.i .i64 f), .a (.b false)] = some (.a (.b true)) := by
  refine x_fn (orcS (by decide)) (fc := F102) rfl rfl ?_
  rcases hs with rfl | rfl | rfl | rfl | rfl | rfl <;> simp only [F102, tOp, Int.reduceEq, nmU, List.cons.injEq, Int.cast_ofNat_Int, Int.reduceLE, Int.reduceLT, Int.reduceToNat, Int.reduceAdd, Int.reduceSub, Int.reduceNeg, fxa, fxc, fxE, fxL, fxI, nxE, evO, evR, cellsT, ldCells, mkT, lenA, binPV, Env.init, resV, resT, frT, klT, ownT, intT, O.adds, ownA, rowsA, over, wrOk, keysT, keysA, ne_eq, if_true, if_false, ite_self, Nat.reduceLT, Nat.reduceSub, Nat.reduceBEq, Nat.reduceEqDiff, Nat.reduceAdd, Nat.reduceLeDiff, reduceCtorEq, Nat.reduceMul]
theorem mayI_ok (a : Int) {f : Int} (hf : 0 ≤ f) : eP S 93 [.g (tI a), .a (.i .i64 f), .a (.b false)] = some (.a (.b true)) := by
  refine x_fn (orcS (by decide)) (fc := F93) rfl rfl ?_
  have h1 := headI_ok a f
  have hf' : ¬ f < 0 := by omega
  simp only [tI] at h1
  simp only [F93, F93b0, x_loop, tI, h1, hf', Int.reduceEq, Int.lt_irrefl, Int.cast_ofNat_Int, Int.reduceLE, Int.reduceLT, Int.reduceToNat, Int.reduceAdd, Int.reduceSub, Int.reduceNeg, fxa, fxc, fxE, fxL, fxI, nxE, evO, evR, cellsT, ldCells, mkT, lenA, binPV, Env.init, resV, resT, frT, klT, ownT, intT, O.adds, ownA, rowsA, over, wrOk, keysT, keysA, ne_eq, if_true, if_false, ite_self, Nat.reduceLT, Nat.reduceSub, Nat.reduceBEq, Nat.reduceEqDiff, Nat.reduceAdd, Nat.reduceLeDiff, reduceCtorEq, Nat.reduceMul]
theorem mayO_ok {s : List UInt8} (hs : isOp s) (a b : Int) {f : Int} (hf : 0 ≤ f) : eP S 93 [.g (tOp s a b), .a (.i .i64 f), .a (.b false)] = some (.a (.b true)) := by
  refine x_fn (orcS (by decide)) (fc := F93) rfl rfl ?_
  have h1 := headO_ok hs a b f
  have h2 := mayI_ok a hf
  have h3 := mayI_ok b hf
  have hf' : ¬ f < 0 := by omega
  simp only [tI, tOp] at h1 h2 h3
  simp only [F93, F93b0, F93b1, x_loop, tI, tOp, h1, h2, h3, hf', wrap_in 1 (by decide), wrap_in 2 (by decide), Int.reduceEq, Int.lt_irrefl, Int.le_refl, Int.cast_ofNat_Int, Int.reduceLE, Int.reduceLT, Int.reduceToNat, Int.reduceAdd, Int.reduceSub, Int.reduceNeg, fxa, fxc, fxE, fxL, fxI, nxE, evO, evR, cellsT, ldCells, mkT, lenA, binPV, Env.init, resV, resT, frT, klT, ownT, intT, O.adds, ownA, rowsA, over, wrOk, keysT, keysA, ne_eq, if_true, if_false, ite_self, Nat.reduceLT, Nat.reduceSub, Nat.reduceBEq, Nat.reduceEqDiff, Nat.reduceAdd, Nat.reduceLeDiff, reduceCtorEq, Nat.reduceMul]
theorem May_ok {s : List UInt8} (hs : isOp s) (a b : Int) {f : Int} (hf : 0 ≤ f) : eP S 89 [.g (tOp s a b), .a (.i .i64 f)] = some (.a (.b true)) := by
  refine x_fn (orcS (by decide)) (fc := F89) rfl rfl ?_
  have h1 := mayO_ok hs a b hf
  simp only [tI, tOp] at h1
  simp only [F89, tI, tOp, h1, fxa, fxc, fxE, fxL, fxI, nxE, evO, evR, cellsT, ldCells, mkT, lenA, binPV, Env.init, resV, resT, frT, klT, ownT, intT, O.adds, ownA, rowsA, over, wrOk, keysT, keysA, ne_eq, if_true, if_false, ite_self, Nat.reduceLT, Nat.reduceSub, Nat.reduceBEq, Nat.reduceEqDiff, Nat.reduceAdd, Nat.reduceLeDiff, reduceCtorEq, Nat.reduceMul]
theorem step9_ok {s : List UInt8} {a b : Int} (ha : wf a) (hs : isOp s) : eP S 90 [.g (tOp s a b)] = some (encO (opR s a b)) := by
  refine x_fn (orcS (by decide)) (fc := F90) rfl rfl ?_
  have h1 := op_ok (b := b) ha hs
  have h2 := value_ok a
  have h3 := value_ok b
  obtain ⟨⟨r, w⟩, hr⟩ : ∃ r, opR s a b = r := ⟨_, rfl⟩
  have hl : ∃ c1 c2 c3 c4, r = [c1, c2, c3, c4] := by
    have : r = (opR s a b).1 := by rw [hr]
    rw [this]; unfold opR tI
    repeat' split
    all_goals exact ⟨_, _, _, _, rfl⟩
  obtain ⟨c1, c2, c3, c4, rfl⟩ := hl
  rw [hr] at h1 ⊢
  simp only [encO] at h1 ⊢
  simp only [tI] at h2 h3
  simp only [F90, tI, tOp, h1, h2, h3, Int.reduceEq, Int.le_refl, Int.cast_ofNat_Int, Int.reduceLE, Int.reduceLT, Int.reduceToNat, Int.reduceAdd, Int.reduceSub, Int.reduceNeg, fxa, fxc, fxE, fxL, fxI, nxE, evO, evR, cellsT, ldCells, mkT, lenA, binPV, Env.init, resV, resT, frT, klT, ownT, intT, O.adds, ownA, rowsA, over, wrOk, keysT, keysA, ne_eq, if_true, if_false, ite_self, Nat.reduceLT, Nat.reduceSub, Nat.reduceBEq, Nat.reduceEqDiff, Nat.reduceAdd, Nat.reduceLeDiff, reduceCtorEq, Nat.reduceMul]
theorem RStep_ok {s : List UInt8} {a b : Int} (ha : wf a) (hs : isOp s) : eP S 76 [.g (tOp s a b)] = some (encO (opR s a b)) := by
  refine x_fn (orcS (by decide)) (fc := F76) rfl rfl ?_
  have h1 := step9_ok (b := b) ha hs
  have h2 := May_ok hs a b (f := 4611686018427387904) (by decide)
  obtain ⟨⟨r, w⟩, hr⟩ : ∃ r, opR s a b = r := ⟨_, rfl⟩
  have hl : ∃ c1 c2 c3 c4, r = [c1, c2, c3, c4] := by
    have : r = (opR s a b).1 := by rw [hr]
    rw [this]; unfold opR tI
    repeat' split
    all_goals exact ⟨_, _, _, _, rfl⟩
  obtain ⟨c1, c2, c3, c4, rfl⟩ := hl
  rw [hr] at h1 ⊢
  simp only [encO, tOp, tI] at h1 h2 ⊢
  simp only [F76, tI, tOp, h1, h2, fxa, fxc, fxE, fxL, fxI, nxE, evO, evR, cellsT, ldCells, mkT, lenA, binPV, Env.init, resV, resT, frT, klT, ownT, intT, O.adds, ownA, rowsA, over, wrOk, keysT, keysA, ne_eq, if_true, if_false, ite_self, Nat.reduceLT, Nat.reduceSub, Nat.reduceBEq, Nat.reduceEqDiff, Nat.reduceAdd, Nat.reduceLeDiff, reduceCtorEq, Nat.reduceMul]
end Go.Proofs.YtomcceambpneiaaGreat
end
section
set_option linter.unusedSimpArgs false
set_option linter.unusedVariables false
set_option maxHeartbeats 8000000
set_option maxRecDepth 10000
namespace Go.Proofs.YtomcceambpneiaaGreat
open Go.Fx
theorem RAsks_ok (k : Int) : eP S 30 [.a (.i .i64 k)] = some (.a (.b (decide (cls k = 1)))) := by
  refine x_fn (orcS (by decide)) (fc := F30) rfl rfl ?_
  unfold cls
  by_cases h1 : k = 3
  · simp only [F30, h1, Int.reduceEq, or_true, true_or, fxa, fxc, fxE, fxL, fxI, nxE, evO, evR, cellsT, ldCells, mkT, lenA, binPV, Env.init, resV, resT, frT, klT, ownT, intT, O.adds, ownA, rowsA, over, wrOk, keysT, keysA, ne_eq, if_true, if_false, ite_self, Nat.reduceLT, Nat.reduceSub, Nat.reduceBEq, Nat.reduceEqDiff, Nat.reduceAdd, Nat.reduceLeDiff, reduceCtorEq, Nat.reduceMul]
  by_cases h2 : k = 9
  · simp only [F30, h2, Int.reduceEq, or_true, true_or, false_or, fxa, fxc, fxE, fxL, fxI, nxE, evO, evR, cellsT, ldCells, mkT, lenA, binPV, Env.init, resV, resT, frT, klT, ownT, intT, O.adds, ownA, rowsA, over, wrOk, keysT, keysA, ne_eq, if_true, if_false, ite_self, Nat.reduceLT, Nat.reduceSub, Nat.reduceBEq, Nat.reduceEqDiff, Nat.reduceAdd, Nat.reduceLeDiff, reduceCtorEq, Nat.reduceMul]
  by_cases h3 : k = 11
  · simp only [F30, h3, Int.reduceEq, or_true, true_or, false_or, fxa, fxc, fxE, fxL, fxI, nxE, evO, evR, cellsT, ldCells, mkT, lenA, binPV, Env.init, resV, resT, frT, klT, ownT, intT, O.adds, ownA, rowsA, over, wrOk, keysT, keysA, ne_eq, if_true, if_false, ite_self, Nat.reduceLT, Nat.reduceSub, Nat.reduceBEq, Nat.reduceEqDiff, Nat.reduceAdd, Nat.reduceLeDiff, reduceCtorEq, Nat.reduceMul]
  by_cases h4 : k = 12
  · simp only [F30, h4, Int.reduceEq, or_true, true_or, false_or, fxa, fxc, fxE, fxL, fxI, nxE, evO, evR, cellsT, ldCells, mkT, lenA, binPV, Env.init, resV, resT, frT, klT, ownT, intT, O.adds, ownA, rowsA, over, wrOk, keysT, keysA, ne_eq, if_true, if_false, ite_self, Nat.reduceLT, Nat.reduceSub, Nat.reduceBEq, Nat.reduceEqDiff, Nat.reduceAdd, Nat.reduceLeDiff, reduceCtorEq, Nat.reduceMul]
  have : (if k = 2 ∨ k = 8 ∨ k = 10 ∨ k = 13 then (2 : Int) else if k = 4 ∨ k = 5 ∨ k = 6 then 3 else if k = 7 then 4 else 0) ≠ 1 := by
    repeat' split
    all_goals omega
  simp only [F30, h1, h2, h3, h4, this, or_self, fxa, fxc, fxE, fxL, fxI, nxE, evO, evR, cellsT, ldCells, mkT, lenA, binPV, Env.init, resV, resT, frT, klT, ownT, intT, O.adds, ownA, rowsA, over, wrOk, keysT, keysA, ne_eq, if_true, if_false, ite_self, Nat.reduceLT, Nat.reduceSub, Nat.reduceBEq, Nat.reduceEqDiff, Nat.reduceAdd, Nat.reduceLeDiff, reduceCtorEq, Nat.reduceMul]
theorem RTold_ok (k : Int) : eP S 31 [.a (.i .i64 k)] = some (.a (.b (decide (cls k = 2)))) := by
  refine x_fn (orcS (by decide)) (fc := F31) rfl rfl ?_
  have e : (cls k = 2) = (k = 2 ∨ k = 8 ∨ k = 10 ∨ k = 13) := by
    unfold cls; refine propext ?_
    repeat' split
    all_goals omega
  rw [show decide (cls k = 2) = decide (k = 2 ∨ k = 8 ∨ k = 10 ∨ k = 13) from decide_eq_decide.2 (by rw [e])]
  by_cases h1 : k = 2
  · simp only [F31, h1, Int.reduceEq, or_true, true_or, fxa, fxc, fxE, fxL, fxI, nxE, evO, evR, cellsT, ldCells, mkT, lenA, binPV, Env.init, resV, resT, frT, klT, ownT, intT, O.adds, ownA, rowsA, over, wrOk, keysT, keysA, ne_eq, if_true, if_false, ite_self, Nat.reduceLT, Nat.reduceSub, Nat.reduceBEq, Nat.reduceEqDiff, Nat.reduceAdd, Nat.reduceLeDiff, reduceCtorEq, Nat.reduceMul]
  by_cases h2 : k = 8
  · simp only [F31, h2, Int.reduceEq, or_true, true_or, false_or, fxa, fxc, fxE, fxL, fxI, nxE, evO, evR, cellsT, ldCells, mkT, lenA, binPV, Env.init, resV, resT, frT, klT, ownT, intT, O.adds, ownA, rowsA, over, wrOk, keysT, keysA, ne_eq, if_true, if_false, ite_self, Nat.reduceLT, Nat.reduceSub, Nat.reduceBEq, Nat.reduceEqDiff, Nat.reduceAdd, Nat.reduceLeDiff, reduceCtorEq, Nat.reduceMul]
  by_cases h3 : k = 10
  · simp only [F31, h3, Int.reduceEq, or_true, true_or, false_or, fxa, fxc, fxE, fxL, fxI, nxE, evO, evR, cellsT, ldCells, mkT, lenA, binPV, Env.init, resV, resT, frT, klT, ownT, intT, O.adds, ownA, rowsA, over, wrOk, keysT, keysA, ne_eq, if_true, if_false, ite_self, Nat.reduceLT, Nat.reduceSub, Nat.reduceBEq, Nat.reduceEqDiff, Nat.reduceAdd, Nat.reduceLeDiff, reduceCtorEq, Nat.reduceMul]
  by_cases h4 : k = 13
  · simp only [F31, h4, Int.reduceEq, or_true, true_or, false_or, fxa, fxc, fxE, fxL, fxI, nxE, evO, evR, cellsT, ldCells, mkT, lenA, binPV, Env.init, resV, resT, frT, klT, ownT, intT, O.adds, ownA, rowsA, over, wrOk, keysT, keysA, ne_eq, if_true, if_false, ite_self, Nat.reduceLT, Nat.reduceSub, Nat.reduceBEq, Nat.reduceEqDiff, Nat.reduceAdd, Nat.reduceLeDiff, reduceCtorEq, Nat.reduceMul]
  simp only [F31, h1, h2, h3, h4, or_self, fxa, fxc, fxE, fxL, fxI, nxE, evO, evR, cellsT, ldCells, mkT, lenA, binPV, Env.init, resV, resT, frT, klT, ownT, intT, O.adds, ownA, rowsA, over, wrOk, keysT, keysA, ne_eq, if_true, if_false, ite_self, Nat.reduceLT, Nat.reduceSub, Nat.reduceBEq, Nat.reduceEqDiff, Nat.reduceAdd, Nat.reduceLeDiff, reduceCtorEq, Nat.reduceMul]
theorem RControl_ok (k : Int) : eP S 32 [.a (.i .i64 k)] = some (.a (.b (decide (cls k = 3)))) := by
  refine x_fn (orcS (by decide)) (fc := F32) rfl rfl ?_
  have e : (cls k = 3) = (k = 4 ∨ k = 5 ∨ k = 6) := by
    unfold cls; refine propext ?_
    repeat' split
    all_goals omega
  rw [show decide (cls k = 3) = decide (k = 4 ∨ k = 5 ∨ k = 6) from decide_eq_decide.2 (by rw [e])]
  by_cases h1 : k = 4
  · simp only [F32, h1, Int.reduceEq, or_true, true_or, fxa, fxc, fxE, fxL, fxI, nxE, evO, evR, cellsT, ldCells, mkT, lenA, binPV, Env.init, resV, resT, frT, klT, ownT, intT, O.adds, ownA, rowsA, over, wrOk, keysT, keysA, ne_eq, if_true, if_false, ite_self, Nat.reduceLT, Nat.reduceSub, Nat.reduceBEq, Nat.reduceEqDiff, Nat.reduceAdd, Nat.reduceLeDiff, reduceCtorEq, Nat.reduceMul]
  by_cases h2 : k = 5
  · simp only [F32, h2, Int.reduceEq, or_true, true_or, false_or, fxa, fxc, fxE, fxL, fxI, nxE, evO, evR, cellsT, ldCells, mkT, lenA, binPV, Env.init, resV, resT, frT, klT, ownT, intT, O.adds, ownA, rowsA, over, wrOk, keysT, keysA, ne_eq, if_true, if_false, ite_self, Nat.reduceLT, Nat.reduceSub, Nat.reduceBEq, Nat.reduceEqDiff, Nat.reduceAdd, Nat.reduceLeDiff, reduceCtorEq, Nat.reduceMul]
  by_cases h3 : k = 6
  · simp only [F32, h3, Int.reduceEq, or_true, true_or, false_or, fxa, fxc, fxE, fxL, fxI, nxE, evO, evR, cellsT, ldCells, mkT, lenA, binPV, Env.init, resV, resT, frT, klT, ownT, intT, O.adds, ownA, rowsA, over, wrOk, keysT, keysA, ne_eq, if_true, if_false, ite_self, Nat.reduceLT, Nat.reduceSub, Nat.reduceBEq, Nat.reduceEqDiff, Nat.reduceAdd, Nat.reduceLeDiff, reduceCtorEq, Nat.reduceMul]
  simp only [F32, h1, h2, h3, or_self, fxa, fxc, fxE, fxL, fxI, nxE, evO, evR, cellsT, ldCells, mkT, lenA, binPV, Env.init, resV, resT, frT, klT, ownT, intT, O.adds, ownA, rowsA, over, wrOk, keysT, keysA, ne_eq, if_true, if_false, ite_self, Nat.reduceLT, Nat.reduceSub, Nat.reduceBEq, Nat.reduceEqDiff, Nat.reduceAdd, Nat.reduceLeDiff, reduceCtorEq, Nat.reduceMul]
theorem cls4_ (k : Int) : cls k = 4 ↔ k = 7 := by
  unfold cls
  repeat' split
  all_goals omega
theorem cls_r (k : Int) : 0 ≤ cls k ∧ cls k ≤ 4 := by
  unfold cls
  repeat' split
  all_goals omega
theorem Rknown_ok (k : Int) : eP S 20 [.a (.i .i64 k)] = some (.a (.b (decide (cls k ≠ 0)))) := by
  refine x_fn (orcS (by decide)) (fc := F20) rfl rfl ?_
  have a1 := RAsks_ok k
  have a2 := RTold_ok k
  have a3 := RControl_ok k
  have c4 := cls4_ k
  have cr := cls_r k
  by_cases h1 : cls k = 1
  · simp only [F20, a1, a2, a3, h1, Int.reduceEq, ne_eq, not_false_eq_true, fxa, fxc, fxE, fxL, fxI, nxE, evO, evR, cellsT, ldCells, mkT, lenA, binPV, Env.init, resV, resT, frT, klT, ownT, intT, O.adds, ownA, rowsA, over, wrOk, keysT, keysA, ne_eq, if_true, if_false, ite_self, Nat.reduceLT, Nat.reduceSub, Nat.reduceBEq, Nat.reduceEqDiff, Nat.reduceAdd, Nat.reduceLeDiff, reduceCtorEq, Nat.reduceMul]
  by_cases h2 : cls k = 2
  · simp only [F20, a1, a2, a3, h2, Int.reduceEq, ne_eq, not_false_eq_true, fxa, fxc, fxE, fxL, fxI, nxE, evO, evR, cellsT, ldCells, mkT, lenA, binPV, Env.init, resV, resT, frT, klT, ownT, intT, O.adds, ownA, rowsA, over, wrOk, keysT, keysA, ne_eq, if_true, if_false, ite_self, Nat.reduceLT, Nat.reduceSub, Nat.reduceBEq, Nat.reduceEqDiff, Nat.reduceAdd, Nat.reduceLeDiff, reduceCtorEq, Nat.reduceMul]
  by_cases h3 : cls k = 3
  · simp only [F20, a1, a2, a3, h3, Int.reduceEq, ne_eq, not_false_eq_true, fxa, fxc, fxE, fxL, fxI, nxE, evO, evR, cellsT, ldCells, mkT, lenA, binPV, Env.init, resV, resT, frT, klT, ownT, intT, O.adds, ownA, rowsA, over, wrOk, keysT, keysA, ne_eq, if_true, if_false, ite_self, Nat.reduceLT, Nat.reduceSub, Nat.reduceBEq, Nat.reduceEqDiff, Nat.reduceAdd, Nat.reduceLeDiff, reduceCtorEq, Nat.reduceMul]
  by_cases h4 : k = 7
  · have h4' := c4.2 h4
    simp only [F20, a1, a2, a3, h1, h2, h3, h4', h4, Int.reduceEq, ne_eq, not_false_eq_true, fxa, fxc, fxE, fxL, fxI, nxE, evO, evR, cellsT, ldCells, mkT, lenA, binPV, Env.init, resV, resT, frT, klT, ownT, intT, O.adds, ownA, rowsA, over, wrOk, keysT, keysA, ne_eq, if_true, if_false, ite_self, Nat.reduceLT, Nat.reduceSub, Nat.reduceBEq, Nat.reduceEqDiff, Nat.reduceAdd, Nat.reduceLeDiff, reduceCtorEq, Nat.reduceMul]
    all_goals simp only [h4] at h4' a1 a2 a3
    all_goals simp only [a1, a2, a3, h4', Int.reduceEq, not_false_eq_true, fxa, fxc, fxE, fxL, fxI, nxE, evO, evR, cellsT, ldCells, mkT, lenA, binPV, Env.init, resV, resT, frT, klT, ownT, intT, O.adds, ownA, rowsA, over, wrOk, keysT, keysA, ne_eq, if_true, if_false, ite_self, Nat.reduceLT, Nat.reduceSub, Nat.reduceBEq, Nat.reduceEqDiff, Nat.reduceAdd, Nat.reduceLeDiff, reduceCtorEq, Nat.reduceMul]
  · have h0 : cls k = 0 := by
      have : cls k ≠ 4 := fun e => h4 (c4.1 e)
      omega
    simp only [F20, a1, a2, a3, h0, h4, Int.reduceEq, ne_eq, not_true_eq_false, fxa, fxc, fxE, fxL, fxI, nxE, evO, evR, cellsT, ldCells, mkT, lenA, binPV, Env.init, resV, resT, frT, klT, ownT, intT, O.adds, ownA, rowsA, over, wrOk, keysT, keysA, ne_eq, if_true, if_false, ite_self, Nat.reduceLT, Nat.reduceSub, Nat.reduceBEq, Nat.reduceEqDiff, Nat.reduceAdd, Nat.reduceLeDiff, reduceCtorEq, Nat.reduceMul]
theorem Rpassed_ok (x y : Nd) : eP S 33 [.g (encN x), .g (encN y)] = some (encLE (passR x y)) := by
  refine x_fn (orcS (by decide)) (fc := F33) rfl rfl ?_
  unfold passR passLv wr
  by_cases h1 : x.lv ≥ y.lv
  · simp only [F33, encLE, encL, noR, p0, zN, h1, fxa, fxc, fxE, fxL, fxI, nxE, evO, evR, cellsT, ldCells, mkT, lenA, binPV, Env.init, resV, resT, frT, klT, ownT, intT, O.adds, ownA, rowsA, over, wrOk, keysT, keysA, ne_eq, if_true, if_false, ite_self, Nat.reduceLT, Nat.reduceSub, Nat.reduceBEq, Nat.reduceEqDiff, Nat.reduceAdd, Nat.reduceLeDiff, reduceCtorEq, Nat.reduceMul]
  by_cases h5 : x.k = 5
  · by_cases h2 : IntKind.i64.wrap (y.lv - 1) > 60
    · simp only [F33, encLE, encL, noR, p0, zN, h5, h1, h2, Int.reduceEq, fxa, fxc, fxE, fxL, fxI, nxE, evO, evR, cellsT, ldCells, mkT, lenA, binPV, Env.init, resV, resT, frT, klT, ownT, intT, O.adds, ownA, rowsA, over, wrOk, keysT, keysA, ne_eq, if_true, if_false, ite_self, Nat.reduceLT, Nat.reduceSub, Nat.reduceBEq, Nat.reduceEqDiff, Nat.reduceAdd, Nat.reduceLeDiff, reduceCtorEq, Nat.reduceMul]
    · simp only [F33, encLE, encL, noR, p0, zN, h5, h1, h2, Int.reduceEq, fxa, fxc, fxE, fxL, fxI, nxE, evO, evR, cellsT, ldCells, mkT, lenA, binPV, Env.init, resV, resT, frT, klT, ownT, intT, O.adds, ownA, rowsA, over, wrOk, keysT, keysA, ne_eq, if_true, if_false, ite_self, Nat.reduceLT, Nat.reduceSub, Nat.reduceBEq, Nat.reduceEqDiff, Nat.reduceAdd, Nat.reduceLeDiff, reduceCtorEq, Nat.reduceMul]
  by_cases h6 : x.k = 6
  · by_cases h2 : IntKind.i64.wrap (y.lv + 1) > 60
    · simp only [F33, encLE, encL, noR, p0, zN, h6, h1, h2, Int.reduceEq, fxa, fxc, fxE, fxL, fxI, nxE, evO, evR, cellsT, ldCells, mkT, lenA, binPV, Env.init, resV, resT, frT, klT, ownT, intT, O.adds, ownA, rowsA, over, wrOk, keysT, keysA, ne_eq, if_true, if_false, ite_self, Nat.reduceLT, Nat.reduceSub, Nat.reduceBEq, Nat.reduceEqDiff, Nat.reduceAdd, Nat.reduceLeDiff, reduceCtorEq, Nat.reduceMul]
    · simp only [F33, encLE, encL, noR, p0, zN, h6, h1, h2, Int.reduceEq, fxa, fxc, fxE, fxL, fxI, nxE, evO, evR, cellsT, ldCells, mkT, lenA, binPV, Env.init, resV, resT, frT, klT, ownT, intT, O.adds, ownA, rowsA, over, wrOk, keysT, keysA, ne_eq, if_true, if_false, ite_self, Nat.reduceLT, Nat.reduceSub, Nat.reduceBEq, Nat.reduceEqDiff, Nat.reduceAdd, Nat.reduceLeDiff, reduceCtorEq, Nat.reduceMul]
  · by_cases h2 : y.lv > 60
    · simp only [F33, encLE, encL, noR, p0, zN, h5, h6, h1, h2, Int.reduceEq, fxa, fxc, fxE, fxL, fxI, nxE, evO, evR, cellsT, ldCells, mkT, lenA, binPV, Env.init, resV, resT, frT, klT, ownT, intT, O.adds, ownA, rowsA, over, wrOk, keysT, keysA, ne_eq, if_true, if_false, ite_self, Nat.reduceLT, Nat.reduceSub, Nat.reduceBEq, Nat.reduceEqDiff, Nat.reduceAdd, Nat.reduceLeDiff, reduceCtorEq, Nat.reduceMul]
    · simp only [F33, encLE, encL, noR, p0, zN, h5, h6, h1, h2, Int.reduceEq, fxa, fxc, fxE, fxL, fxI, nxE, evO, evR, cellsT, ldCells, mkT, lenA, binPV, Env.init, resV, resT, frT, klT, ownT, intT, O.adds, ownA, rowsA, over, wrOk, keysT, keysA, ne_eq, if_true, if_false, ite_self, Nat.reduceLT, Nat.reduceSub, Nat.reduceBEq, Nat.reduceEqDiff, Nat.reduceAdd, Nat.reduceLeDiff, reduceCtorEq, Nat.reduceMul]
end Go.Proofs.YtomcceambpneiaaGreat
end
