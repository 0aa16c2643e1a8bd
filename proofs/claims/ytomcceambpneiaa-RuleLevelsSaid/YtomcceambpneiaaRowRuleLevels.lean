/- The row of the law RuleLevels: whatever the input, it returns true, and the input reads as it did. No condition. -/
import Derived.Test.YtomcceambpneiaaRows
import Derived.Test.YtomcceambpneiaaRuleK
import Derived.Test.YtomcceambpneiaaOpenN
namespace Go.Proofs.Ytomcceambpneiaa.ruleLevels
open Go.Fx Go.ChangeShapes Go.WideShapes Go.ChangeAt Go.RowKit

theorem law (ps : List PT) (h : F2 (fun t p => AT Try.checked.prog t p ∧ p.isG = aggT Try.checked.prog t) Try.f5.params.toList ps) : eP S 5 ps = some (.a (.b true)) := by
  have h' : F2 (fun t p => AT Try.prog t p ∧ p.isG = aggT Try.prog t) [3, 25, 3] ps := by rw [Try.params5] at h; exact h
  obtain _ | ⟨h1, r1⟩ := h'
  obtain _ | ⟨h2, r2⟩ := r1
  obtain _ | ⟨h3, r3⟩ := r2
  obtain _ | _ := r3
  obtain ⟨a1, k1, rfl⟩ := at_int h1
  obtain ⟨a2, k2, rfl⟩ := at_node h2
  obtain ⟨a3, k3, rfl⟩ := at_int h3
  exact ruleLevels_law k1 k3 k2

set_option maxRecDepth 100000 in
theorem lifted (os : Os) (started : os.Started) (H : Type) (enc : TypeId × Value → H) :
    ReturnsInHanded {} Try.checked os 5 .any (Rows.ruleLevelsSpec.pre6 enc Try.prog Try.f5 Rows.ruleLevelsRow.domain false) (Rows.ruleLevelsSpec.post enc Try.prog Try.f5 false true false false) := by
  refine row_ok (C := Try.checked) (eqs := [(58, [0, 0]), (61, [1, 0]), (75, [0, 0]), (58, [9])]) (S := S) (ts := lawTs) (tb := 4) own started (by kernel_rfl) Try.func5 laidOut
    (ChangeSpec.witness6 (enc := enc) (C := Try.checked) false ⟨#[], #[.int .i64 0, .agg #[.int .i64 0, .int .i64 0, .int .i64 0, .string ByteArray.empty, .slice none 0 0, .slice none 0 0], .int .i64 0], []⟩ 8 (by kernel_rfl) (by kernel_rfl) (by kernel_rfl) (by kernel_rfl))
    lawTsOk (by kernel_rfl) rfl Try.underlying4 rfl ?_ seatOk law
  intro ds hd
  match ds, hd with
  | [d1, d2, d3], _ => rfl

theorem over : Rows.ruleLevelsRow.holds Try.pinned (OpenSpec.ofChange Rows.ruleLevelsSpec) :=
  OpenClaim.holds_of_wide 5 Try.f5 rfl rfl rfl rfl rfl rfl rfl ⟨rfl, rfl, rfl, rfl, rfl⟩ rfl rfl rfl rfl rfl (by kernel_rfl) Try.func5 (by kernel_rfl)
    (of_decide_eq_true (by kernel_rfl)) (by unfold Func.isWrapper; first | (rw [if_pos (by decide +kernel)]; kernel_rfl) | (rw [if_neg (by decide +kernel)]; exact ⟨rfl, rfl⟩))
    (fun os started H enc _ => lifted os started H enc)
theorem proved : Rows.RuleLevelsSaid := over
#print axioms proved
end Go.Proofs.Ytomcceambpneiaa.ruleLevels
