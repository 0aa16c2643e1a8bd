/- What is done to two nodes that meet, as operations on nets: plain. -/
import Derived.Test.YtomcceambpneiaaStoreP
import Derived.Test.YtomcceambpneiaaWireO
import Derived.Test.YtomcceambpneiaaRule2
set_option linter.unusedSimpArgs false
set_option linter.unusedVariables false
set_option maxHeartbeats 4000000
namespace Go.Proofs.Ytomcceambpneiaa
open Go.Fx

/-- a node's ports from one on -/
def portsR (i : Int) (j k : Nat) : List Pt := (List.range' j (k - j)).map fun (s : Nat) => ⟨i, (s : Int)⟩
theorem portsR_succ {i : Int} {j k : Nat} (h : j ≤ k) : portsR i j (k + 1) = portsR i j k ++ [⟨i, k⟩] := by
  unfold portsR
  rw [show k + 1 - j = (k - j) + 1 by omega, List.range'_concat, List.map_append]
  simp only [List.map_cons, List.map_nil, Nat.one_mul]
  rw [show j + (k - j) = k by omega]
theorem portsR_nil {i : Int} {j k : Nat} (h : k ≤ j) : portsR i j k = [] := by
  unfold portsR; rw [show k - j = 0 by omega]; rfl
theorem portsR_len (i : Int) (j k : Nat) : (portsR i j k).length = k - j := by simp [portsR]

theorem mem_portsR {i : Int} {j k : Nat} {p : Pt} : p ∈ portsR i j k ↔ p.n = i ∧ (j : Int) ≤ p.s ∧ p.s < k := by
  unfold portsR
  simp only [List.mem_map, List.mem_range'_1]
  constructor
  · rintro ⟨s, h, rfl⟩; exact ⟨rfl, by simp only; omega, by simp only; omega⟩
  · rintro ⟨h1, h2, h3⟩
    refine ⟨p.s.toNat, by omega, ?_⟩
    obtain ⟨u, v⟩ := p
    simp only at h1 h2 h3 ⊢
    subst h1
    simp only [Pt.mk.injEq, true_and]; omega
theorem portsR_nodup (i : Int) (j k : Nat) : (portsR i j k).Nodup := by
  unfold portsR List.Nodup
  rw [List.pairwise_map]
  exact (show (List.range' j (k - j)).Nodup from List.nodup_range' ..).imp fun hne e => hne (by simp only [Pt.mk.injEq, true_and] at e; omega)
theorem portsR_cons {i : Int} {j k : Nat} (h : j < k) : portsR i j k = ⟨i, j⟩ :: portsR i (j + 1) k := by
  unfold portsR
  rw [show k - j = (k - (j + 1)) + 1 by omega, List.range'_succ, List.map_cons]

/-- so many nodes like another one -/
noncomputable def likeR (n : Nt) (x : Nd) : Nat → Nt × List Int
  | 0 => (n, [])
  | k + 1 => ((makeR (likeR n x k).1 x).1, (likeR n x k).2 ++ [(makeR (likeR n x k).1 x).2.1])
theorem makeR_Ok {n : Nt} {x : Nd} (hn : n.Ok) (hx : x.Ok) (hb : n.ns.length * 88 + 88 ≤ 140737488355328) : (makeR n x).1.Ok ∧ (makeR n x).1.ns.length ≤ n.ns.length + 1 := by
  unfold makeR
  split
  · exact ⟨hn, by simp only; omega⟩
  · split
    · exact ⟨hn, by simp only; omega⟩
    · refine ⟨make_Ok hn hx hb, ?_⟩
      unfold Nt.make
      simp only
      split
      · rw [List.length_set]; omega
      · rw [List.length_append]; simp
theorem likeR_Ok {n : Nt} {x : Nd} (hn : n.Ok) (hx : x.Ok) : ∀ k : Nat, (n.ns.length + k) * 88 + 88 ≤ 140737488355328 → (likeR n x k).1.Ok ∧ (likeR n x k).1.ns.length ≤ n.ns.length + k ∧ (likeR n x k).2.length = k
  | 0, _ => ⟨hn, by simp only [likeR]; omega, rfl⟩
  | k + 1, hb => by
    obtain ⟨h1, h2, h3⟩ := likeR_Ok hn hx k (by omega)
    obtain ⟨g1, g2⟩ := makeR_Ok (x := x) h1 hx (by omega)
    exact ⟨g1, by simp only [likeR]; omega, by simp only [likeR, List.length_append, List.length_cons, List.length_nil]; omega⟩

inductive Op where
  | mv (p q : Pt)
  | jn (p q : Pt)
  | ln (p q : Pt)
def Op.run (n : Nt) : Op → Nt
  | .mv p q => (moveR n p q).1
  | .jn p q => (joinR n p q).1
  | .ln p q => (linkR n p q).1
def runs (n : Nt) (l : List Op) : Nt := l.foldl Op.run n
def wfP (p : Pt) : Prop := wf p.n ∧ wf p.s
def Op.wf : Op → Prop
  | .mv p q => wfP p ∧ wfP q
  | .jn p q => wfP p ∧ wfP q
  | .ln p q => wfP p ∧ wfP q
theorem Op.run_Ok {n : Nt} {o : Op} (hn : n.Ok) (h : o.wf) : (o.run n).Ok := by
  cases o with
  | mv p q => exact moveR_Ok hn h.1 h.2
  | jn p q => exact joinR_Ok hn h.1 h.2
  | ln p q => exact linkR_Ok hn h.1 h.2
theorem linkR_len (n : Nt) (p q : Pt) : (linkR n p q).1.ns.length = n.ns.length := by
  unfold linkR; split
  · simp [Nt.set]
  · rfl
theorem Op.run_len (n : Nt) (o : Op) : (o.run n).ns.length = n.ns.length := by
  cases o with
  | mv p q => simp only [Op.run, moveR]; split; split; rfl; exact linkR_len _ _ _; rfl
  | jn p q => simp only [Op.run, joinR]; split; split; rfl; exact linkR_len _ _ _; rfl
  | ln p q => exact linkR_len _ _ _
theorem runs_Ok : ∀ {l : List Op} {n : Nt}, n.Ok → (∀ o ∈ l, o.wf) → (runs n l).Ok
  | [], n, hn, _ => hn
  | o :: l, n, hn, h => runs_Ok (l := l) (Op.run_Ok hn (h o (by simp))) (fun o' ho => h o' (by simp [ho]))
theorem runs_len : ∀ (l : List Op) (n : Nt), (runs n l).ns.length = n.ns.length
  | [], n => rfl
  | o :: l, n => (runs_len l (o.run n)).trans (Op.run_len n o)
theorem runs_app (n : Nt) (l m : List Op) : runs n (l ++ m) = runs (runs n l) m := by unfold runs; rw [List.foldl_append]
theorem runs_cons' (n : Nt) (o : Op) (l : List Op) : runs n (o :: l) = runs (o.run n) l := rfl
theorem runs_one (n : Nt) (l : List Op) (o : Op) : runs n (l ++ [o]) = o.run (runs n l) := by rw [runs_app]; rfl

/-- moves to what drops -/
def dropOps (l : List Pt) (ds : List Int) : List Op := List.zipWith (fun p d => .mv p ⟨d, 0⟩) l ds

def dropN (z : Int) : Nd := ⟨7, z, 0, [], [], []⟩
theorem dropN_Ok {z : Int} (h : wf z) : (dropN z).Ok := ⟨by show wf 7; decide, h, by show wf 0; decide, by simp [dropN], by simp [dropN], by simp [dropN], by simp [dropN], by simp [dropN]⟩

end Go.Proofs.Ytomcceambpneiaa
