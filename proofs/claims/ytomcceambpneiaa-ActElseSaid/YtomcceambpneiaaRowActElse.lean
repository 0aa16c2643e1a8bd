/- The row of the law ActElse: whatever the input, it returns true, and the input reads as it did. No condition. -/
import Derived.Test.YtomcceambpneiaaRows
import Derived.Test.YtomcceambpneiaaLawE
import Derived.Test.YtomcceambpneiaaOpenN
namespace Go.Proofs.Ytomcceambpneiaa.actElse
open Go.Fx Go.ChangeShapes Go.WideShapes Go.ChangeAt Go.RowKit

theorem law (ps : List PT) (h : F2 (fun t p => AT Try.checked.prog t p ∧ p.isG = aggT Try.checked.prog t) Try.f10.params.toList ps) : eP S 10 ps = some (.a (.b true)) := by
  have h' : F2 (fun t p => AT Try.prog t p ∧ p.isG = aggT Try.prog t) [49, 3] ps := by rw [Try.params10] at h; exact h
  obtain _ | ⟨h1, r1⟩ := h'
  obtain _ | ⟨h2, r2⟩ := r1
  obtain _ | _ := r2
  obtain ⟨a1, k1, rfl⟩ := at_net h1
  obtain ⟨a2, k2, rfl⟩ := at_int h2
  exact actElse_law k1

set_option maxRecDepth 100000 in
theorem lifted (os : Os) (started : os.Started) (H : Type) (enc : TypeId × Value → H) :
    ReturnsInHanded {} Try.checked os 10 .any (Rows.actElseSpec.pre6 enc Try.prog Try.f10 Rows.actElseRow.domain false) (Rows.actElseSpec.post enc Try.prog Try.f10 false true false false) := by
  refine row_ok (C := Try.checked) (eqs := [(58, [0, 0]), (61, [1, 0]), (75, [0, 0]), (58, [9]), (91, [8]), (93, [8]), (72, [8]), (92, [8]), (76, [8])]) (S := S) (ts := lawTs) (tb := 4) own started (by kernel_rfl) Try.func10 laidOut
    (ChangeSpec.witness6 (enc := enc) (C := Try.checked) false ⟨#[], #[.agg #[.slice none 0 0, .int .i64 0], .int .i64 0], []⟩ 8 (by kernel_rfl) (by kernel_rfl) (by kernel_rfl) (by kernel_rfl))
    lawTsOk (by kernel_rfl) rfl Try.underlying4 rfl ?_ seatOk law
  intro ds hd
  match ds, hd with
  | [d1, d2], _ => rfl

theorem over : Rows.actElseRow.holds Try.pinned (OpenSpec.ofChange Rows.actElseSpec) :=
  OpenClaim.holds_of_wide 10 Try.f10 rfl rfl rfl rfl rfl rfl rfl ⟨rfl, rfl, rfl, rfl, rfl⟩ rfl rfl rfl rfl rfl (by kernel_rfl) Try.func10 (by kernel_rfl)
    (of_decide_eq_true (by kernel_rfl)) (by unfold Func.isWrapper; first | (rw [if_pos (by decide +kernel)]; kernel_rfl) | (rw [if_neg (by decide +kernel)]; exact ⟨rfl, rfl⟩))
    (fun os started H enc _ => lifted os started H enc)
theorem proved : Rows.ActElseSaid := over
#print axioms proved
end Go.Proofs.Ytomcceambpneiaa.actElse
