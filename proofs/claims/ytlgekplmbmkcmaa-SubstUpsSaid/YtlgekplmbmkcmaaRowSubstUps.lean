/- The row of the law SubstUps: whatever the input, it returns true, and the input reads as it did. No condition. -/
import Derived.Test.YtlgekplmbmkcmaaRows
import Derived.Test.YtlgekplmbmkcmaaLawS2
import Derived.Test.YtlgekplmbmkcmaaOpen2
namespace Go.Proofs.Ytlgekplmbmkcmaa.substUps
open Go.Fx Go.ChangeShapes Go.WideShapes Go.ChangeAt Go.RowKit

theorem law (ps : List PT) (h : F2 (fun t p => AT Try.checked.prog t p ∧ p.isG = aggT Try.checked.prog t) Try.f7.params.toList ps) : eP S 7 ps = some (.a (.b true)) := by
  have h' : F2 (fun t p => AT Try.prog t p ∧ p.isG = aggT Try.prog t) [24, 40] ps := by rw [Try.params7] at h; exact h
  obtain _ | ⟨h1, r1⟩ := h'
  obtain _ | ⟨h2, r2⟩ := r1
  obtain _ | _ := r2
  obtain ⟨a1, k1, rfl⟩ := at_term h1
  obtain ⟨a2, b2, c2, k2, m2, o2, rfl⟩ := at_three h2
  exact substUps_law k1 a2 b2 c2 k2 m2 o2

set_option maxRecDepth 100000 in
theorem lifted (os : Os) (started : os.Started) (H : Type) (enc : TypeId × Value → H) :
    ReturnsInHanded {} Try.checked os 7 .any (Rows.substUpsSpec.pre6 enc Try.prog Try.f7 Rows.substUpsRow.domain false) (Rows.substUpsSpec.post enc Try.prog Try.f7 false true false false) := by
  refine row_ok (C := Try.checked) (eqs := []) (S := S) (ts := lawTs2) (tb := 4) own started (by kernel_rfl) Try.func7 laidOut
    (ChangeSpec.witness6 (enc := enc) (C := Try.checked) false ⟨#[], #[.agg #[.int .i64 0, .int .i64 0, .string ByteArray.empty, .slice none 0 0], .agg #[.int .i64 0, .int .i64 0, .int .i64 0]], []⟩ 8 (by kernel_rfl) (by kernel_rfl) (by kernel_rfl) (by kernel_rfl))
    lawTs2Ok (by kernel_rfl) rfl Try.underlying4 rfl ?_ seatOk law
  intro ds hd
  match ds, hd with
  | [d1, d2], _ => rfl

theorem over : Rows.substUpsRow.holds Try.pinned (OpenSpec.ofChange Rows.substUpsSpec) :=
  OpenClaim.holds_of_wide 7 Try.f7 rfl rfl rfl rfl rfl rfl rfl ⟨rfl, rfl, rfl, rfl, rfl⟩ rfl rfl rfl rfl rfl (by kernel_rfl) Try.func7 (by kernel_rfl)
    (of_decide_eq_true (by kernel_rfl)) (by unfold Func.isWrapper; first | (rw [if_pos (by decide +kernel)]; kernel_rfl) | (rw [if_neg (by decide +kernel)]; exact ⟨rfl, rfl⟩))
    (fun os started H enc _ => lifted os started H enc)
theorem proved : Rows.SubstUpsSaid := over
#print axioms proved
end Go.Proofs.Ytlgekplmbmkcmaa.substUps
