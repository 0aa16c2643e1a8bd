/- The row of the law SweepAdds: whatever the input, it returns true, and the input reads as it did. No condition. -/
import Derived.Test.YtkpfjolcmkikeaaRows
import Derived.Test.YtkpfjolcmkikeaaLawA
import Derived.Test.YtkpfjolcmkikeaaOpenN
namespace Go.Proofs.Ytkpfjolcmkikeaa.sweepAdds
open Go.Fx Go.ChangeShapes Go.WideShapes Go.ChangeAt Go.RowKit

theorem law (ps : List PT) (h : F2 (fun t p => AT Try.checked.prog t p ∧ p.isG = aggT Try.checked.prog t) Try.f6.params.toList ps) : eP S 6 ps = some (.a (.b true)) := by
  have h' : F2 (fun t p => AT Try.prog t p ∧ p.isG = aggT Try.prog t) [24, 3] ps := by rw [Try.params6] at h; exact h
  obtain _ | ⟨h1, r1⟩ := h'
  obtain _ | ⟨h2, r2⟩ := r1
  obtain _ | _ := r2
  obtain ⟨a1, k1, rfl⟩ := at_net h1
  obtain ⟨a2, k2, rfl⟩ := at_int h2
  exact sweepAdds_law k1 k2

set_option maxRecDepth 100000 in
theorem lifted (os : Os) (started : os.Started) (H : Type) (enc : TypeId × Value → H) :
    ReturnsInHanded {} Try.checked os 6 .any (Rows.sweepAddsSpec.pre6 enc Try.prog Try.f6 Rows.sweepAddsRow.domain false) (Rows.sweepAddsSpec.post enc Try.prog Try.f6 false true false false) := by
  refine row_ok (C := Try.checked) (eqs := [(43, [0, 0]), (79, [1, 0]), (60, [0, 0]), (140, [0, 0]), (43, [9])]) (S := S) (ts := lawTs) (tb := 4) own started (by kernel_rfl) Try.func6 laidOut
    (ChangeSpec.witness6 (enc := enc) (C := Try.checked) false ⟨#[], #[.agg #[.slice none 0 0, .int .i64 0], .int .i64 0], []⟩ 8 (by kernel_rfl) (by kernel_rfl) (by kernel_rfl) (by kernel_rfl))
    lawTsOk (by kernel_rfl) rfl Try.underlying4 rfl ?_ seatOk law
  intro ds hd
  match ds, hd with
  | [d1, d2], _ => rfl

theorem over : Rows.sweepAddsRow.holds Try.pinned (OpenSpec.ofChange Rows.sweepAddsSpec) :=
  OpenClaim.holds_of_wide 6 Try.f6 rfl rfl rfl rfl rfl rfl rfl ⟨rfl, rfl, rfl, rfl, rfl⟩ rfl rfl rfl rfl rfl (by kernel_rfl) Try.func6 (by kernel_rfl)
    (of_decide_eq_true (by kernel_rfl)) (by unfold Func.isWrapper; first | (rw [if_pos (by decide +kernel)]; kernel_rfl) | (rw [if_neg (by decide +kernel)]; exact ⟨rfl, rfl⟩))
    (fun os started H enc _ => lifted os started H enc)
theorem proved : Rows.SweepAddsSaid := over
#print axioms proved
end Go.Proofs.Ytkpfjolcmkikeaa.sweepAdds
