/- What the arguments of the laws about nets are. -/
import Derived.Test.YtomcceambpneiaaNetS
import Derived.Test.YtomcceambpneiaaChecked
set_option linter.unusedSimpArgs false
set_option linter.unusedVariables false
namespace Go.Proofs.Ytomcceambpneiaa
open Go.Fx

theorem cellsI : Try.prog.cellsOf 3 = 1 := by kernel_rfl
theorem cellsSt : Try.prog.cellsOf 9 = 1 := by kernel_rfl
theorem cellsPt : Try.prog.cellsOf 58 = 2 := by kernel_rfl
theorem cellsAr : Try.prog.cellsOf 61 = 2 := by kernel_rfl
theorem cellsNd : Try.prog.cellsOf 25 = 6 := by kernel_rfl
theorem cellsNt : Try.prog.cellsOf 49 = 2 := by kernel_rfl
theorem cellsLN : Try.prog.cellsOf 47 = 1 := by kernel_rfl
theorem cellsLA : Try.prog.cellsOf 22 = 1 := by kernel_rfl
theorem cellsLP : Try.prog.cellsOf 23 = 1 := by kernel_rfl
theorem bytesPt : Try.prog.bytesOf 58 = 16 := by kernel_rfl
theorem bytesAr : Try.prog.bytesOf 61 = 24 := by kernel_rfl
theorem bytesNd : Try.prog.bytesOf 25 = 88 := by kernel_rfl

theorem len2 {α : Type} {l : List α} (h : l.length = 2) : ∃ a b, l = [a, b] := by
  match l, h with
  | [a, b], _ => exact ⟨a, b, rfl⟩
theorem len4 {α : Type} {l : List α} (h : l.length = 4) : ∃ a b c d, l = [a, b, c, d] := by
  match l, h with
  | [a, b, c, d], _ => exact ⟨a, b, c, d, rfl⟩
theorem len6 {α : Type} {l : List α} (h : l.length = 6) : ∃ a b c d e f, l = [a, b, c, d, e, f] := by
  match l, h with
  | [a, b, c, d, e, f], _ => exact ⟨a, b, c, d, e, f, rfl⟩

theorem wf_int {i : Int} (h : (Lit.int .i64 i).wf = true) : wf i := by
  simp only [Lit.wf, IntKind.min, IntKind.max, IntKind.bits, IntKind.signed, Bool.and_eq_true, decide_eq_true_eq] at h
  rw [if_pos trivial, if_pos trivial] at h
  unfold wf; omega
theorem ct_int {n : Nat} {qs : List PV} (h : CT Try.prog n 3 qs) : ∃ i, qs = [.i .i64 i] ∧ wf i := by
  cases n with
  | zero => exact h.elim
  | succ n => simp only [CT, Try.underlying3] at h; obtain ⟨i, h1, h2⟩ := h; exact ⟨i, h1, wf_int h2⟩
theorem ct_str {n : Nat} {qs : List PV} (h : CT Try.prog n 9 qs) : ∃ s, qs = [.s s] ∧ s.length ≤ 140737488355328 := by
  cases n with
  | zero => exact h.elim
  | succ n => simp only [CT, Try.underlying9] at h; obtain ⟨s, h1, h2⟩ := h; exact ⟨s, h1, by simp only [reachBytes] at h2; omega⟩

theorem ct_port {n : Nat} {qs : List PV} (h : CT Try.prog n 58 qs) : ∃ p : Pt, (wf p.n ∧ wf p.s) ∧ qs = encP p := by
  cases n with
  | zero => exact h.elim
  | succ n =>
    simp only [CT, Try.underlying58, cellsPt] at h
    obtain ⟨hl, hf⟩ := h
    obtain ⟨q0, q1, rfl⟩ := len2 hl
    have f0 : CT Try.prog n 3 (List.take (Try.prog.cellsOf 3) [q0, q1]) := hf _ (Array.mem_of_getElem? (i := 0) rfl)
    have f1 : CT Try.prog n 3 (List.take (Try.prog.cellsOf 3) [q1]) := hf _ (Array.mem_of_getElem? (i := 1) rfl)
    rw [cellsI] at f0 f1
    have f0 : CT Try.prog n 3 [q0] := f0
    have f1 : CT Try.prog n 3 [q1] := f1
    obtain ⟨i, e0, h0⟩ := ct_int f0
    obtain ⟨j, e1, h1⟩ := ct_int f1
    simp only [List.cons.injEq, and_true] at e0 e1
    subst e0 e1
    exact ⟨⟨i, j⟩, ⟨h0, h1⟩, rfl⟩
theorem ct_arity {n : Nat} {qs : List PV} (h : CT Try.prog n 61 qs) : ∃ a : Ar, wf a.n ∧ qs = encA a := by
  cases n with
  | zero => exact h.elim
  | succ n =>
    simp only [CT, Try.underlying61, cellsAr] at h
    obtain ⟨hl, hf⟩ := h
    obtain ⟨q0, q1, rfl⟩ := len2 hl
    have f0 : CT Try.prog n 9 (List.take (Try.prog.cellsOf 9) [q0, q1]) := hf _ (Array.mem_of_getElem? (i := 0) rfl)
    have f1 : CT Try.prog n 3 (List.take (Try.prog.cellsOf 3) [q1]) := hf _ (Array.mem_of_getElem? (i := 1) rfl)
    rw [cellsSt] at f0
    rw [cellsI] at f1
    have f0 : CT Try.prog n 9 [q0] := f0
    have f1 : CT Try.prog n 3 [q1] := f1
    obtain ⟨s, e0, h0⟩ := ct_str f0
    obtain ⟨j, e1, h1⟩ := ct_int f1
    simp only [List.cons.injEq, and_true] at e0 e1
    subst e0 e1
    exact ⟨⟨s, j⟩, h1, rfl⟩

theorem ct_rows {α : Type} {t k : Nat} {n : Nat} {f : α → List PV} {R : α → Prop} (h : ∀ qs, CT Try.prog n t qs → ∃ x, R x ∧ qs = f x) : ∀ (rows : List (List PV)), (∀ r, r ∈ rows → r.length = k ∧ CT Try.prog n t r) → ∃ l : List α, rows = l.map f ∧ ∀ x, x ∈ l → R x := by
  intro rows
  induction rows with
  | nil => intro _; exact ⟨[], rfl, fun t ht => by simp at ht⟩
  | cons r rows ihr =>
    intro h2
    obtain ⟨x, hx, rfl⟩ := h r (h2 r (by simp)).2
    obtain ⟨l, rfl, hl⟩ := ihr fun r hr => h2 r (by simp [hr])
    exact ⟨x :: l, rfl, fun u hu => by rcases List.mem_cons.1 hu with rfl | hu; exact hx; exact hl u hu⟩

theorem ct_ports {n : Nat} {qs : List PV} (h : CT Try.prog n 23 qs) : ∃ l : List Pt, (l.length * 16 ≤ 140737488355328 ∧ ∀ p, p ∈ l → wf p.n ∧ wf p.s) ∧ qs = [.l (l.map encP)] := by
  cases n with
  | zero => exact h.elim
  | succ n =>
    simp only [CT, Try.underlying23, bytesPt] at h
    obtain ⟨rows, e, hr, hrow⟩ := h
    obtain ⟨l, rfl, hl⟩ := ct_rows (fun qs => ct_port) rows hrow
    exact ⟨l, ⟨by simp only [reachBytes, List.length_map] at hr; omega, hl⟩, e⟩
theorem ct_arities {n : Nat} {qs : List PV} (h : CT Try.prog n 22 qs) : ∃ l : List Ar, (l.length * 24 ≤ 140737488355328 ∧ ∀ a, a ∈ l → wf a.n) ∧ qs = [.l (l.map encA)] := by
  cases n with
  | zero => exact h.elim
  | succ n =>
    simp only [CT, Try.underlying22, bytesAr] at h
    obtain ⟨rows, e, hr, hrow⟩ := h
    obtain ⟨l, rfl, hl⟩ := ct_rows (fun qs => ct_arity) rows hrow
    exact ⟨l, ⟨by simp only [reachBytes, List.length_map] at hr; omega, hl⟩, e⟩

theorem ct_node {n : Nat} {qs : List PV} (h : CT Try.prog n 25 qs) : ∃ x : Nd, x.Ok ∧ qs = encN x := by
  cases n with
  | zero => exact h.elim
  | succ n =>
    simp only [CT, Try.underlying25, cellsNd] at h
    obtain ⟨hl, hf⟩ := h
    obtain ⟨q0, q1, q2, q3, q4, q5, rfl⟩ := len6 hl
    have f0 : CT Try.prog n 3 (List.take (Try.prog.cellsOf 3) [q0, q1, q2, q3, q4, q5]) := hf _ (Array.mem_of_getElem? (i := 0) rfl)
    have f1 : CT Try.prog n 3 (List.take (Try.prog.cellsOf 3) [q1, q2, q3, q4, q5]) := hf _ (Array.mem_of_getElem? (i := 1) rfl)
    have f2 : CT Try.prog n 3 (List.take (Try.prog.cellsOf 3) [q2, q3, q4, q5]) := hf _ (Array.mem_of_getElem? (i := 2) rfl)
    have f3 : CT Try.prog n 9 (List.take (Try.prog.cellsOf 9) [q3, q4, q5]) := hf _ (Array.mem_of_getElem? (i := 3) rfl)
    have f4 : CT Try.prog n 22 (List.take (Try.prog.cellsOf 22) [q4, q5]) := hf _ (Array.mem_of_getElem? (i := 4) rfl)
    have f5 : CT Try.prog n 23 (List.take (Try.prog.cellsOf 23) [q5]) := hf _ (Array.mem_of_getElem? (i := 5) rfl)
    rw [cellsI] at f0 f1 f2
    rw [cellsSt] at f3
    rw [cellsLA] at f4
    rw [cellsLP] at f5
    have f0 : CT Try.prog n 3 [q0] := f0
    have f1 : CT Try.prog n 3 [q1] := f1
    have f2 : CT Try.prog n 3 [q2] := f2
    have f3 : CT Try.prog n 9 [q3] := f3
    have f4 : CT Try.prog n 22 [q4] := f4
    have f5 : CT Try.prog n 23 [q5] := f5
    obtain ⟨k, e0, h0⟩ := ct_int f0
    obtain ⟨lv, e1, h1⟩ := ct_int f1
    obtain ⟨m, e2, h2⟩ := ct_int f2
    obtain ⟨s, e3, h3⟩ := ct_str f3
    obtain ⟨al, h4, e4⟩ := ct_arities f4
    obtain ⟨to, h5, e5⟩ := ct_ports f5
    simp only [List.cons.injEq, and_true] at e0 e1 e2 e3 e4 e5
    subst e0 e1 e2 e3 e4 e5
    exact ⟨⟨k, lv, m, s, al, to⟩, ⟨h0, h1, h2, h3, h4.1, h5.1, h4.2, h5.2⟩, rfl⟩

theorem ct_net {n : Nat} {qs : List PV} (h : CT Try.prog n 49 qs) : ∃ x : Nt, x.Ok ∧ qs = encT x := by
  cases n with
  | zero => exact h.elim
  | succ n =>
    simp only [CT, Try.underlying49, cellsNt] at h
    obtain ⟨hl, hf⟩ := h
    obtain ⟨q0, q1, rfl⟩ := len2 hl
    have f0 : CT Try.prog n 47 (List.take (Try.prog.cellsOf 47) [q0, q1]) := hf _ (Array.mem_of_getElem? (i := 0) rfl)
    have f1 : CT Try.prog n 3 (List.take (Try.prog.cellsOf 3) [q1]) := hf _ (Array.mem_of_getElem? (i := 1) rfl)
    rw [cellsLN] at f0
    rw [cellsI] at f1
    have f0 : CT Try.prog n 47 [q0] := f0
    have f1 : CT Try.prog n 3 [q1] := f1
    obtain ⟨j, e1, h1⟩ := ct_int f1
    cases n with
    | zero => exact f0.elim
    | succ n =>
      simp only [CT, Try.underlying47, bytesNd] at f0
      obtain ⟨rows, e, hr, hrow⟩ := f0
      obtain ⟨l, rfl, hl2⟩ := ct_rows (fun qs => ct_node) rows hrow
      simp only [List.cons.injEq, and_true] at e e1
      subst e e1
      exact ⟨⟨l, j⟩, ⟨by simp only [reachBytes, List.length_map] at hr; simp only; omega, h1, hl2⟩, rfl⟩

theorem aggI : aggT Try.prog 3 = false := by simp only [aggT, Try.underlying3, aggD]
theorem aggPt : aggT Try.prog 58 = true := by simp only [aggT, Try.underlying58, aggD]
theorem aggNd : aggT Try.prog 25 = true := by simp only [aggT, Try.underlying25, aggD]
theorem aggNt : aggT Try.prog 49 = true := by simp only [aggT, Try.underlying49, aggD]

theorem at_int {p : PT} (h : AT Try.prog 3 p ∧ p.isG = aggT Try.prog 3) : ∃ i, wf i ∧ p = .a (.i .i64 i) := by
  obtain ⟨h1, h2⟩ := h
  rw [aggI] at h2
  cases p with
  | a q => obtain ⟨n, hn⟩ := h1; obtain ⟨i, e, hi⟩ := ct_int hn; simp only [List.cons.injEq, and_true] at e; subst e; exact ⟨i, hi, rfl⟩
  | g qs => simp [PT.isG] at h2
  | _ => exact h1.elim
theorem at_port {p : PT} (h : AT Try.prog 58 p ∧ p.isG = aggT Try.prog 58) : ∃ x : Pt, (wf x.n ∧ wf x.s) ∧ p = .g (encP x) := by
  obtain ⟨h1, h2⟩ := h
  rw [aggPt] at h2
  cases p with
  | g qs => obtain ⟨n, hn⟩ := h1; obtain ⟨x, hx, rfl⟩ := ct_port hn; exact ⟨x, hx, rfl⟩
  | _ => simp [PT.isG] at h2
theorem at_node {p : PT} (h : AT Try.prog 25 p ∧ p.isG = aggT Try.prog 25) : ∃ x : Nd, x.Ok ∧ p = .g (encN x) := by
  obtain ⟨h1, h2⟩ := h
  rw [aggNd] at h2
  cases p with
  | g qs => obtain ⟨n, hn⟩ := h1; obtain ⟨x, hx, rfl⟩ := ct_node hn; exact ⟨x, hx, rfl⟩
  | _ => simp [PT.isG] at h2
theorem at_net {p : PT} (h : AT Try.prog 49 p ∧ p.isG = aggT Try.prog 49) : ∃ x : Nt, x.Ok ∧ p = .g (encT x) := by
  obtain ⟨h1, h2⟩ := h
  rw [aggNt] at h2
  cases p with
  | g qs => obtain ⟨n, hn⟩ := h1; obtain ⟨x, hx, rfl⟩ := ct_net hn; exact ⟨x, hx, rfl⟩
  | _ => simp [PT.isG] at h2

theorem own : ownKnob Try.prog.godebug = none := by kernel_rfl
theorem laidOut : laidOutB Try.prog = true := by kernel_rfl
/-- the types that the laws' arguments are made of -/
def lawTs : List TypeId := [3, 9, 58, 61, 23, 22, 25, 47, 49]
theorem lawTsOk : closedTs Try.prog lawTs = true := by kernel_rfl
end Go.Proofs.Ytomcceambpneiaa
