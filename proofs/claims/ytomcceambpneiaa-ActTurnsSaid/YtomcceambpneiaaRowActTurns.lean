/- The row of the law ActTurns: whatever the input, it returns true, and the input reads as it did. No condition. -/
import Derived.Test.YtomcceambpneiaaRows
import Derived.Test.YtomcceambpneiaaLawK
import Derived.Test.YtomcceambpneiaaOpenN
namespace Go.Proofs.Ytomcceambpneiaa.actTurns
open Go.Fx Go.ChangeShapes Go.WideShapes Go.ChangeAt Go.RowKit

theorem law (ps : List PT) (h : F2 (fun t p => AT Try.checked.prog t p ∧ p.isG = aggT Try.checked.prog t) Try.f9.params.toList ps) : eP S 9 ps = some (.a (.b true)) := by
  have h' : F2 (fun t p => AT Try.prog t p ∧ p.isG = aggT Try.prog t) [49, 3] ps := by rw [Try.params9] at h; exact h
  obtain _ | ⟨h1, r1⟩ := h'
  obtain _ | ⟨h2, r2⟩ := r1
  obtain _ | _ := r2
  obtain ⟨a1, k1, rfl⟩ := at_net h1
  obtain ⟨a2, k2, rfl⟩ := at_int h2
  exact actTurns_law k1

set_option maxRecDepth 100000 in
theorem lifted (os : Os) (started : os.Started) (H : Type) (enc : TypeId × Value → H) :
    ReturnsInHanded {} Try.checked os 9 .any (Rows.actTurnsSpec.pre6 enc Try.prog Try.f9 Rows.actTurnsRow.domain false) (Rows.actTurnsSpec.post enc Try.prog Try.f9 false true false false) := by
  refine row_ok (C := Try.checked) (eqs := [(58, [0, 0]), (61, [1, 0]), (75, [0, 0]), (58, [9]), (91, [8]), (93, [8]), (72, [8]), (92, [8]), (76, [8])]) (S := S) (ts := lawTs) (tb := 4) own started (by kernel_rfl) Try.func9 laidOut
    (ChangeSpec.witness6 (enc := enc) (C := Try.checked) false ⟨#[], #[.agg #[.slice none 0 0, .int .i64 0], .int .i64 0], []⟩ 8 (by kernel_rfl) (by kernel_rfl) (by kernel_rfl) (by kernel_rfl))
    lawTsOk (by kernel_rfl) rfl Try.underlying4 rfl ?_ seatOk law
  intro ds hd
  match ds, hd with
  | [d1, d2], _ => rfl

theorem over : Rows.actTurnsRow.holds Try.pinned (OpenSpec.ofChange Rows.actTurnsSpec) :=
  OpenClaim.holds_of_wide 9 Try.f9 rfl rfl rfl rfl rfl rfl rfl ⟨rfl, rfl, rfl, rfl, rfl⟩ rfl rfl rfl rfl rfl (by kernel_rfl) Try.func9 (by kernel_rfl)
    (of_decide_eq_true (by kernel_rfl)) (by unfold Func.isWrapper; first | (rw [if_pos (by decide +kernel)]; kernel_rfl) | (rw [if_neg (by decide +kernel)]; exact ⟨rfl, rfl⟩))
    (fun os started H enc _ => lifted os started H enc)
theorem proved : Rows.ActTurnsSaid := over
#print axioms proved
end Go.Proofs.Ytomcceambpneiaa.actTurns
