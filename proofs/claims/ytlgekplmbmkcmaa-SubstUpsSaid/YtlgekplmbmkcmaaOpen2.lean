/- What the arguments of the other laws are: three numbers, rows of terms. -/
import Derived.Test.YtlgekplmbmkcmaaOpen
set_option linter.unusedSimpArgs false
set_option linter.unusedVariables false
namespace Go.Proofs.Ytlgekplmbmkcmaa
open Go.Fx

theorem cells40 : Try.prog.cellsOf 40 = 3 := by kernel_rfl
theorem agg40 : aggT Try.prog 40 = true := by simp only [aggT, Try.underlying40, aggD]
theorem agg22 : aggT Try.prog 22 = false := by simp only [aggT, Try.underlying22, aggD]
theorem len3 {α : Type} {l : List α} (h : l.length = 3) : ∃ a b c, l = [a, b, c] := by
  match l, h with
  | [a, b, c], _ => exact ⟨a, b, c, rfl⟩
theorem at_three {p : PT} (h : AT Try.prog 40 p ∧ p.isG = aggT Try.prog 40) : ∃ i j k, (-9223372036854775808 ≤ i ∧ i ≤ 9223372036854775807) ∧ (-9223372036854775808 ≤ j ∧ j ≤ 9223372036854775807) ∧ (-9223372036854775808 ≤ k ∧ k ≤ 9223372036854775807) ∧ p = .g [.i .i64 i, .i .i64 j, .i .i64 k] := by
  obtain ⟨h1, h2⟩ := h
  rw [agg40] at h2
  cases p with
  | g qs =>
    obtain ⟨n, hn⟩ := h1
    cases n with
    | zero => exact hn.elim
    | succ n =>
      simp only [CT, Try.underlying40, cells40, cells3] at hn
      obtain ⟨hl, hf⟩ := hn
      obtain ⟨q0, q1, q2, rfl⟩ := len3 hl
      · have f0 := hf 0 (by omega)
        have f1 := hf 1 (by omega)
        have f2 := hf 2 (by omega)
        simp only [Nat.zero_mul, Nat.one_mul, List.drop_zero, List.drop_succ_cons, List.take_succ_cons, List.take_zero, Nat.reduceMul] at f0 f1 f2
        obtain ⟨i, e0, hi⟩ := ct_int f0
        obtain ⟨j, e1, hj⟩ := ct_int f1
        obtain ⟨k, e2, hk⟩ := ct_int f2
        simp only [List.cons.injEq, and_true] at e0 e1 e2
        subst e0 e1 e2
        exact ⟨i, j, k, wf_int hi, wf_int hj, wf_int hk, rfl⟩
  | _ => simp [PT.isG] at h2

theorem at_terms {p : PT} (h : AT Try.prog 22 p ∧ p.isG = aggT Try.prog 22) : ∃ l : List T, (∀ t, t ∈ l → T.Ok t) ∧ l.length * 56 ≤ reachBytes ∧ p = .a (.l (l.map enc)) := by
  obtain ⟨h1, h2⟩ := h
  rw [agg22] at h2
  cases p with
  | a q =>
    obtain ⟨n, hn⟩ := h1
    cases n with
    | zero => exact hn.elim
    | succ n =>
      simp only [CT, Try.underlying22, bytes24] at hn
      obtain ⟨rows, e, hr, hrow⟩ := hn
      have : ∀ (rows : List (List PV)), (∀ r, r ∈ rows → r.length = Try.prog.cellsOf 24 ∧ CT Try.prog n 24 r) → ∃ l : List T, rows = l.map enc ∧ ∀ t, t ∈ l → T.Ok t := by
        intro rows
        induction rows with
        | nil => intro _; exact ⟨[], rfl, fun t ht => by simp at ht⟩
        | cons r rows ihr =>
          intro h
          obtain ⟨t, ht, rfl⟩ := ct_term (h r (by simp)).2
          obtain ⟨l, rfl, hl⟩ := ihr fun r hr => h r (by simp [hr])
          exact ⟨t :: l, rfl, fun u hu => by rcases List.mem_cons.1 hu with rfl | hu; exact ht; exact hl u hu⟩
      obtain ⟨l, rfl, hl⟩ := this rows hrow
      simp only [List.cons.injEq, and_true] at e
      subst e
      exact ⟨l, hl, by simpa using hr, rfl⟩
  | g qs => simp [PT.isG] at h2
  | _ => exact h1.elim

/-- the types that the laws' arguments are made of -/
def lawTs2 : List TypeId := [3, 9, 22, 24, 25, 40]
theorem lawTs2Ok : closedTs Try.prog lawTs2 = true := by kernel_rfl
end Go.Proofs.Ytlgekplmbmkcmaa
