/- What a plan does to a net: as functions. Plain. -/
import Derived.Test.YtomcceambpneiaaActO
import Derived.Test.YtomcceambpneiaaRuleX
set_option linter.unusedSimpArgs false
set_option linter.unusedVariables false
set_option maxHeartbeats 4000000
namespace Go.Proofs.Ytomcceambpneiaa
open Go.Fx

def appN (z : Int) : Nd := ⟨3, z, 0, [], [], []⟩
def fail1 (z : Int) : Nd := ⟨13, z, 0, [], [], []⟩
def halfN (x y : Nd) : Nd := ⟨12, x.lv, y.n, x.s, [], []⟩

def joinOps (a b : Int) (l : List Nat) : List Op := l.map fun (s : Nat) => .jn ⟨a, (s : Int)⟩ ⟨b, (s : Int)⟩
def joinD (n : Nt) (a b : Int) : Nt := runs n (joinOps a b (List.range' 1 ((n.nd a).to.length - 1)))

def pickOps (a b : Int) : Nat → List Int → List Op
  | _, [] => []
  | i, [d] => [.mv ⟨b, (i : Int) + 1⟩ ⟨d, 2⟩, .mv ⟨a, 1⟩ ⟨d, 1⟩]
  | i, d :: e :: r => .mv ⟨b, (i : Int) + 1⟩ ⟨d, 2⟩ :: .ln ⟨d, 1⟩ ⟨e, 0⟩ :: pickOps a b (i + 1) (e :: r)
/-- a node's ports from the third one on, but one -/
def restR (n : Nt) (a alt : Int) : List Pt := (portsR a 2 (n.nd a).to.length).filter fun r => !decide (r = ⟨a, alt + 2⟩)
noncomputable def pickD (n : Nt) (alt : Int) (a b : Int) : Nt :=
  let k := ((n.nd a).al.getD alt.toNat zA).n.toNat
  let r1 := likeR n (appN (n.nd a).lv) k
  let l := restR r1.1 a alt
  let r2 := likeR r1.1 (dropN (r1.1.nd a).lv) l.length
  let m := match r1.2 with
    | [] => (joinR r2.1 ⟨a, alt + 2⟩ ⟨a, 1⟩).1
    | d :: _ => (moveR r2.1 ⟨a, alt + 2⟩ ⟨d, 0⟩).1
  runs (runs m (pickOps a b 0 r1.2)) (dropOps l r2.2)
noncomputable def halfD (n : Nt) (a b : Int) : Nt :=
  let r := makeR n (halfN (n.nd a) (n.nd b))
  (moveR (moveR r.1 ⟨a, 2⟩ ⟨r.2.1, 0⟩).1 ⟨a, 1⟩ ⟨r.2.1, 1⟩).1
noncomputable def outD (n : Nt) (x : Nd) (a : Int) : Nt :=
  let r := makeR n x
  (moveR r.1 ⟨a, 1⟩ ⟨r.2.1, 0⟩).1
noncomputable def failD (n : Nt) (a b : Int) : Nt :=
  let r := makeR n (fail1 (n.nd a).lv)
  let l := portsR a 2 (r.1.nd a).to.length ++ portsR b 1 (r.1.nd b).to.length
  let r2 := likeR r.1 (dropN (r.1.nd a).lv) l.length
  runs (moveR r2.1 ⟨a, 1⟩ ⟨r.2.1, 0⟩).1 (dropOps l r2.2)
def lnOps (m : Int) (k : Nat) : Nat → List Int → List Op
  | _, [] => []
  | i, c :: r => .ln ⟨m, (i : Int) + 1⟩ ⟨c, (k : Int) + 1⟩ :: lnOps m k (i + 1) r
def passOps (b : Int) (cs : List Int) : Nat → List Int → List Op
  | _, [] => []
  | k, m :: r => .mv ⟨b, (k : Int) + 1⟩ ⟨m, 0⟩ :: (lnOps m k 0 cs ++ passOps b cs (k + 1) r)
noncomputable def passD (n : Nt) (lv : Int) (a b : Int) : Nt :=
  let x := n.nd a
  let y : Nd := { n.nd b with lv := lv }
  let r1 := likeR n y (x.to.length - 1)
  let r2 := likeR r1.1 x (y.to.length - 1)
  runs (runs r2.1 (dropOps (portsR a 1 x.to.length) r1.2)) (passOps b r1.2 0 r2.2)
noncomputable def dropD (n : Nt) (a b : Int) : Nt :=
  let l := portsR b 1 (n.nd b).to.length
  let r := likeR n (dropN (n.nd a).lv) l.length
  runs r.1 (dropOps l r.2)
noncomputable def doneR (n : Nt) (p : Pl) (a b : Int) : Nt :=
  if p.k = 1 ∨ p.k = 6 then joinD n a b else if p.k = 2 then pickD n p.alt a b else if p.k = 3 then halfD n a b else if p.k = 4 then outD n p.nd a
  else if p.k = 5 then failD n a b else if p.k = 7 then passD n p.lv a b else if p.k = 8 then dropD n a b else n
noncomputable def stepR (n : Nt) (p : Pl) (a b : Int) : Nt := (freeR (freeR (doneR n p a b) (max a b)).1 (min a b)).1
/-- the node that one meets -/
def meetR (n : Nt) (i : Int) : Int := if n.has ⟨i, 0⟩ = true ∧ (n.lk ⟨i, 0⟩).s = 0 then (n.lk ⟨i, 0⟩).n else -1
noncomputable def doR (n : Nt) (i : Int) : Nt × Pl × Int :=
  if bool n.Good = false then (n, p0, 120) else if meetR n i < 0 then (n, p0, 122)
  else
    let r := ofR (n.nd i) (n.nd (meetR n i))
    if r.2 ≠ 0 then (n, p0, r.2) else if wr (n.used + needR r.1 (n.nd i) (n.nd (meetR n i))) > n.cap then (n, p0, 121)
    else (stepR n r.1 (if r.1.sw = true then meetR n i else i) (if r.1.sw = true then i else meetR n i), r.1, 0)

/-- what is known of a plan of x, the first one, and y -/
inductive PlanX (x y : Nd) (p : Pl) : Prop
  | beta (h : p.k = 1) (hx : x.k = 3) (hy : y.k = 2)
  | pick (i : Nat) (A : Ar) (h : p.k = 2) (hx : x.k = 9) (hy : y.k = 8) (h1 : p.alt = i) (h2 : x.al[i]? = some A) (h3 : A.n = (y.to.length : Int) - 1)
  | half (h : p.k = 3) (hx : x.k = 11) (hy : y.k = 10)
  | out (h : p.k = 4) (hx : x.k = 12) (hy : y.k = 10) (h1 : p.nd.may) (h2 : p.nd.Ok) (h3 : p.nd.ports = 1) (h4 : p.nd.k ≠ 0) (h5 : p.nd.k ≠ 1)
  | fail (h : p.k = 5) (hx : cls x.k = 1) (hy : cls y.k = 2)
  | join (h : p.k = 6) (hx : cls x.k = 3) (hy : x.k = y.k)
  | pass (h : p.k = 7) (hx : cls x.k = 3) (hy : cls y.k ≠ 0) (h1 : 0 ≤ p.lv) (h2 : p.lv ≤ 60)
  | drop (h : p.k = 8) (hx : x.k = 7) (hy : cls y.k ≠ 0)

theorem out_more {x y : Nd} (hx : x.Ok) : ({ outN x y with lv := x.lv } : Nd).Ok ∧ ({ outN x y with lv := x.lv } : Nd).ports = 1 ∧ (outN x y).k ≠ 0 ∧ (outN x y).k ≠ 1 := by
  refine ⟨lv_Ok (out_Ok x y) hx.lv, ?_⟩
  unfold outN
  repeat' split
  all_goals first
    | exact ⟨rfl, by show ¬ (10 : Int) = 0; omega, by show ¬ (10 : Int) = 1; omega⟩
    | exact ⟨rfl, by show ¬ (8 : Int) = 0; omega, by show ¬ (8 : Int) = 1; omega⟩
theorem src_plan {x y : Nd} (hx : x.may) (hy : y.may) (kx : x.Ok) (ty : (y.to.length : Int) = y.ports) (cy : cls y.k ≠ 0) {r : Pl × Int} (h : Src x y r) (h0 : r.2 = 0) (p : Pl) (hk : p.k = r.1.k) (hl : p.lv = r.1.lv) (ha : p.alt = r.1.alt) (hn : p.nd = r.1.nd) : PlanX x y p := by
  have y0 := hy.lv0
  have y1 := hy.lv1
  have x0 := hx.lv0
  cases h with
  | no => have h0 : (140 : Int) = 0 := h0; omega
  | drop h => exact .drop hk h cy
  | join h1 h2 h3 => exact .join hk h1 h2
  | pass h1 =>
    unfold passR at h0 hk hl ha hn
    split at h0
    · have h0 : (140 : Int) = 0 := h0; omega
    rename_i g1
    rw [if_neg g1] at hk hl ha hn
    split at h0
    · have h0 : (141 : Int) = 0 := h0; omega
    rename_i g2
    rw [if_neg g2] at hk hl ha hn
    rw [passLv_in ⟨y0, y1⟩] at g2 hl
    have hl : p.lv = if x.k = 5 then y.lv - 1 else if x.k = 6 then y.lv + 1 else y.lv := hl
    refine .pass hk h1 cy ?_ ?_
    · rw [hl]; split
      · omega
      · split <;> omega
    · rw [hl]; omega
  | ask h1 h2 =>
    unfold askR at h0 hk hl ha hn
    by_cases c1 : x.k = 3 ∧ y.k = 2
    · rw [if_pos c1] at h0 hk hl ha hn
      by_cases c2 : x.lv ≠ y.lv
      · rw [if_pos c2] at h0; have h0 : (140 : Int) = 0 := h0; omega
      · rw [if_neg c2] at hk; exact .beta hk c1.1 c1.2
    rw [if_neg c1] at h0 hk hl ha hn
    by_cases c3 : x.k = 9 ∧ y.k = 8
    · rw [if_pos c3] at h0 hk hl ha hn
      unfold pickR at h0 hk hl ha hn
      by_cases c2 : x.lv ≠ y.lv
      · rw [if_pos c2] at h0; have h0 : (140 : Int) = 0 := h0; omega
      rw [if_neg c2] at h0 hk hl ha hn
      by_cases c4 : pickIx x y < 0
      · rw [if_pos c4] at hk; exact .fail hk h1 h2
      rw [if_neg c4] at h0 hk hl ha hn
      have h8 := hy.to8 c3.2
      have hw : wr ((y.to.length : Int) - 1) = y.to.length - 1 := wr_in (by omega)
      obtain ⟨i, A, e1, e2⟩ := idx_lt c4
      have e1 : pickIx x y = (i : Int) := e1
      refine .pick i A hk c3.1 c3.2 (by rw [ha]; exact e1) e2 ?_
      have e3 := e1
      unfold pickIx idx at e3
      split at e3
      · rename_i j hj
        have : j = i := by omega
        subst this
        rw [List.findIdx?_eq_some_iff_getElem] at hj
        obtain ⟨q1, q2, _⟩ := hj
        obtain ⟨_, q3⟩ := List.getElem?_eq_some_iff.1 e2
        rw [q3] at q2
        simp only [Bool.and_eq_true, decide_eq_true_eq] at q2
        rw [q2.2, hw]
      · omega
    rw [if_neg c3] at h0 hk hl ha hn
    by_cases c5 : x.k = 11 ∧ y.k = 10
    · rw [if_pos c5] at hk; exact .half hk c5.1 c5.2
    rw [if_neg c5] at h0 hk hl ha hn
    by_cases c6 : x.k = 12 ∧ y.k = 10
    · rw [if_pos c6] at h0 hk hl ha hn
      unfold outR at h0 hk hl ha hn
      by_cases c7 : x.s = [47] ∧ y.n = 0
      · rw [if_pos c7] at hk; exact .fail hk h1 h2
      · rw [if_neg c7] at h0 hk hl ha hn
        have e : p.nd = { outN x y with lv := x.lv } := hn
        obtain ⟨m1, m2, m3, m4⟩ := out_more (y := y) kx
        exact .out hk c6.1 c6.2 (by rw [e]; exact (out_may (y := y) hx).1) (by rw [e]; exact m1) (by rw [e]; exact m2) (by rw [e]; exact m3) (by rw [e]; exact m4)
    rw [if_neg c6] at hk
    exact .fail hk h1 h2
theorem of_plan {a b : Nd} (ha : a.may) (hb : b.may) (ka : a.Ok) (kb : b.Ok) (ta : (a.to.length : Int) = a.ports) (tb : (b.to.length : Int) = b.ports) (h : (ofR a b).2 = 0) :
    PlanX (if (ofR a b).1.sw = true then b else a) (if (ofR a b).1.sw = true then a else b) (ofR a b).1 := by
  have hc : ¬ (cls a.k = 0 ∨ cls b.k = 0) := by
    intro hc
    unfold ofR at h
    rw [if_pos hc] at h
    have h : (140 : Int) = 0 := h
    omega
  rcases of_src a b with h1 | ⟨r, h1, h2⟩
  · have := (src_kind ha hb h1).2.2
    rw [if_neg (by simp [this]), if_neg (by simp [this])]
    exact src_plan ha hb ka tb (fun e => hc (.inr e)) h1 h _ rfl rfl rfl rfl
  · have h3 := (src_kind hb ha h1).2.2
    have hr : r.2 = 0 := by
      rw [h2] at h; unfold swapR at h
      split at h
      · assumption
      · exact h
    have e : swapR r = (⟨r.1.k, true, r.1.lv, r.1.alt, r.1.nd⟩, 0) := by unfold swapR; rw [if_pos hr]
    rw [h2, e]
    simp only [if_true]
    exact src_plan hb ha kb ta (fun e => hc (.inl e)) h1 hr _ rfl rfl rfl rfl
end Go.Proofs.Ytomcceambpneiaa
