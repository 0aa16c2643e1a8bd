/- What the arguments of the laws about links are: two ports, too. -/
import Derived.Test.YtgdaanehmdgmeaaOpenN
set_option linter.unusedSimpArgs false
set_option linter.unusedVariables false
namespace Go.Proofs.Ytgdaanehmdgmeaa
open Go.Fx

theorem cellsTw : Try.prog.cellsOf 28 = 4 := by kernel_rfl
theorem aggTw : aggT Try.prog 28 = true := by simp only [aggT, Try.underlying28, aggD]
theorem at_pair {p : PT} (h : AT Try.prog 28 p ∧ p.isG = aggT Try.prog 28) : ∃ x y : Pt, (wf x.n ∧ wf x.s) ∧ (wf y.n ∧ wf y.s) ∧ p = .g (encP x ++ encP y) := by
  obtain ⟨h1, h2⟩ := h
  rw [aggTw] at h2
  cases p with
  | g qs =>
    obtain ⟨n, hn⟩ := h1
    cases n with
    | zero => exact hn.elim
    | succ n =>
      simp only [CT, Try.underlying28, cellsTw] at hn
      obtain ⟨hl, hf⟩ := hn
      obtain ⟨q0, q1, q2, q3, rfl⟩ := len4 hl
      have f0 : CT Try.prog n 26 (List.take (Try.prog.cellsOf 26) [q0, q1, q2, q3]) := hf _ (Array.mem_of_getElem? (i := 0) rfl)
      have f1 : CT Try.prog n 26 (List.take (Try.prog.cellsOf 26) [q2, q3]) := hf _ (Array.mem_of_getElem? (i := 1) rfl)
      rw [cellsPt] at f0 f1
      have f0 : CT Try.prog n 26 [q0, q1] := f0
      have f1 : CT Try.prog n 26 [q2, q3] := f1
      obtain ⟨x, hx, e0⟩ := ct_port f0
      obtain ⟨y, hy, e1⟩ := ct_port f1
      simp only [encP, List.cons.injEq, and_true] at e0 e1
      obtain ⟨rfl, rfl⟩ := e0
      obtain ⟨rfl, rfl⟩ := e1
      exact ⟨x, y, hx, hy, rfl⟩
  | _ => simp [PT.isG] at h2
def lawTw : List TypeId := 28 :: lawTs
theorem lawTwOk : closedTs Try.prog lawTw = true := by kernel_rfl
end Go.Proofs.Ytgdaanehmdgmeaa
