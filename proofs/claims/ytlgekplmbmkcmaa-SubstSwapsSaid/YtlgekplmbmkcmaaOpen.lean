/- What the arguments of a law are: terms, numbers, rows of them. -/
import Derived.Test.YtlgekplmbmkcmaaSeatS
import Derived.Test.YtlgekplmbmkcmaaChecked
set_option linter.unusedSimpArgs false
set_option linter.unusedVariables false
namespace Go.Proofs.Ytlgekplmbmkcmaa
open Go.Fx

theorem cells24 : Try.prog.cellsOf 24 = 4 := by kernel_rfl
theorem bytes24 : Try.prog.bytesOf 24 = 56 := by kernel_rfl
theorem cells3 : Try.prog.cellsOf 3 = 1 := by kernel_rfl
theorem cells9 : Try.prog.cellsOf 9 = 1 := by kernel_rfl
theorem cells22 : Try.prog.cellsOf 22 = 1 := by kernel_rfl
theorem cells25 : Try.prog.cellsOf 25 = 2 := by kernel_rfl

theorem len4 {α : Type} {l : List α} (h : l.length = 4) : ∃ a b c d, l = [a, b, c, d] := by
  match l, h with
  | [a, b, c, d], _ => exact ⟨a, b, c, d, rfl⟩
theorem len2 {α : Type} {l : List α} (h : l.length = 2) : ∃ a b, l = [a, b] := by
  match l, h with
  | [a, b], _ => exact ⟨a, b, rfl⟩

theorem ct_int {n : Nat} {qs : List PV} (h : CT Try.prog n 3 qs) : ∃ i, qs = [.i .i64 i] ∧ (Lit.int .i64 i).wf = true := by
  cases n with
  | zero => exact h.elim
  | succ n => simp only [CT, Try.underlying3] at h; exact h

theorem ct_term : ∀ {n : Nat} {qs : List PV}, CT Try.prog n 24 qs → ∃ t, T.Ok t ∧ qs = enc t := by
  intro n
  induction n using Nat.strongRecOn with
  | _ n ih =>
    intro qs h
    cases n with
    | zero => exact h.elim
    | succ n =>
      simp only [CT, Try.underlying24, cells24] at h
      obtain ⟨hl, hf⟩ := h
      obtain ⟨q0, q1, q2, q3, rfl⟩ := len4 hl
      · have f0 : CT Try.prog n 3 (List.take (Try.prog.cellsOf 3) [q0, q1, q2, q3]) := hf _ (Array.mem_of_getElem? (i := 0) rfl)
        have f1 : CT Try.prog n 3 (List.take (Try.prog.cellsOf 3) [q1, q2, q3]) := hf _ (Array.mem_of_getElem? (i := 1) rfl)
        have f2 : CT Try.prog n 9 (List.take (Try.prog.cellsOf 9) [q2, q3]) := hf _ (Array.mem_of_getElem? (i := 2) rfl)
        have f3 : CT Try.prog n 22 (List.take (Try.prog.cellsOf 22) [q3]) := hf _ (Array.mem_of_getElem? (i := 3) rfl)
        rw [cells3] at f0 f1
        rw [cells9] at f2
        rw [cells22] at f3
        have f0 : CT Try.prog n 3 [q0] := f0
        have f1 : CT Try.prog n 3 [q1] := f1
        have f2 : CT Try.prog n 9 [q2] := f2
        have f3 : CT Try.prog n 22 [q3] := f3
        obtain ⟨k, e0, hk⟩ := ct_int f0
        obtain ⟨m, e1, hm⟩ := ct_int f1
        cases n with
        | zero => exact f0.elim
        | succ n =>
          simp only [CT, Try.underlying9] at f2
          simp only [CT, Try.underlying22, bytes24] at f3
          obtain ⟨s, e2, hs⟩ := f2
          obtain ⟨rows, e3, hr, hrow⟩ := f3
          simp only [List.cons.injEq, and_true] at e0 e1 e2 e3
          subst e0 e1 e2 e3
          have : ∀ (rows : List (List PV)), (∀ r, r ∈ rows → r.length = Try.prog.cellsOf 24 ∧ CT Try.prog n 24 r) → ∃ l : List T, rows = l.map enc ∧ ∀ t, t ∈ l → T.Ok t := by
            intro rows
            induction rows with
            | nil => intro _; exact ⟨[], rfl, fun t ht => by simp at ht⟩
            | cons r rows ihr =>
              intro h
              obtain ⟨t, ht, rfl⟩ := ih n (by omega) (h r (by simp)).2
              obtain ⟨l, rfl, hl⟩ := ihr fun r hr => h r (by simp [hr])
              exact ⟨t :: l, rfl, fun u hu => by rcases List.mem_cons.1 hu with rfl | hu; exact ht; exact hl u hu⟩
          obtain ⟨l, rfl, hall⟩ := this rows hrow
          exact ⟨.mk k m s l, .mk k m s l hk hm hs (by simpa using hr) hall, by simp [enc, encL_map]⟩

theorem wf_int {i : Int} (h : (Lit.int .i64 i).wf = true) : -9223372036854775808 ≤ i ∧ i ≤ 9223372036854775807 := by
  simp only [Lit.wf, IntKind.min, IntKind.max, IntKind.bits, IntKind.signed, Bool.and_eq_true, decide_eq_true_eq] at h
  rw [if_pos trivial, if_pos trivial] at h
  omega

theorem agg24 : aggT Try.prog 24 = true := by simp only [aggT, Try.underlying24, aggD]
theorem agg25 : aggT Try.prog 25 = true := by simp only [aggT, Try.underlying25, aggD]
theorem agg3 : aggT Try.prog 3 = false := by simp only [aggT, Try.underlying3, aggD]

theorem at_term {p : PT} (h : AT Try.prog 24 p ∧ p.isG = aggT Try.prog 24) : ∃ t, T.Ok t ∧ p = .g (enc t) := by
  obtain ⟨h1, h2⟩ := h
  rw [agg24] at h2
  cases p with
  | g qs => obtain ⟨n, hn⟩ := h1; obtain ⟨t, ht, rfl⟩ := ct_term hn; exact ⟨t, ht, rfl⟩
  | _ => simp [PT.isG] at h2
theorem at_int {p : PT} (h : AT Try.prog 3 p ∧ p.isG = aggT Try.prog 3) : ∃ i, (-9223372036854775808 ≤ i ∧ i ≤ 9223372036854775807) ∧ p = .a (.i .i64 i) := by
  obtain ⟨h1, h2⟩ := h
  rw [agg3] at h2
  cases p with
  | a q => obtain ⟨n, hn⟩ := h1; obtain ⟨i, e, hi⟩ := ct_int hn; simp only [List.cons.injEq, and_true] at e; subst e; exact ⟨i, wf_int hi, rfl⟩
  | g qs => simp [PT.isG] at h2
  | _ => exact h1.elim
theorem at_two {p : PT} (h : AT Try.prog 25 p ∧ p.isG = aggT Try.prog 25) : ∃ i j, (-9223372036854775808 ≤ i ∧ i ≤ 9223372036854775807) ∧ (-9223372036854775808 ≤ j ∧ j ≤ 9223372036854775807) ∧ p = .g [.i .i64 i, .i .i64 j] := by
  obtain ⟨h1, h2⟩ := h
  rw [agg25] at h2
  cases p with
  | g qs =>
    obtain ⟨n, hn⟩ := h1
    cases n with
    | zero => exact hn.elim
    | succ n =>
      simp only [CT, Try.underlying25, cells25, cells3] at hn
      obtain ⟨hl, hf⟩ := hn
      obtain ⟨q0, q1, rfl⟩ := len2 hl
      · have f0 := hf 0 (by omega)
        have f1 := hf 1 (by omega)
        simp only [Nat.zero_mul, Nat.one_mul, List.drop_zero, List.drop_succ_cons, List.take_succ_cons, List.take_zero] at f0 f1
        obtain ⟨i, e0, hi⟩ := ct_int f0
        obtain ⟨j, e1, hj⟩ := ct_int f1
        simp only [List.cons.injEq, and_true] at e0 e1
        subst e0 e1
        exact ⟨i, j, wf_int hi, wf_int hj, rfl⟩
  | _ => simp [PT.isG] at h2

/-- the types that the laws' arguments are made of -/
def lawTs : List TypeId := [3, 9, 22, 24, 25]
theorem lawTsOk : closedTs Try.prog lawTs = true := by kernel_rfl
theorem own : ownKnob Try.prog.godebug = none := by kernel_rfl
theorem laidOut : laidOutB Try.prog = true := by kernel_rfl
end Go.Proofs.Ytlgekplmbmkcmaa
