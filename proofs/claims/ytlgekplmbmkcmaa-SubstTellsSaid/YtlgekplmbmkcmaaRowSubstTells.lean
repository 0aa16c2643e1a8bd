/- The row of the law SubstTells: whatever the input, it returns true, and the input reads as it did. No condition. -/
import Derived.Test.YtlgekplmbmkcmaaRows
import Derived.Test.YtlgekplmbmkcmaaLaw3
import Derived.Test.YtlgekplmbmkcmaaOpen
namespace Go.Proofs.Ytlgekplmbmkcmaa.substTells
open Go.Fx Go.ChangeShapes Go.WideShapes Go.ChangeAt Go.RowKit

theorem law (ps : List PT) (h : F2 (fun t p => AT Try.checked.prog t p ∧ p.isG = aggT Try.checked.prog t) Try.f3.params.toList ps) : eP S 3 ps = some (.a (.b true)) := by
  have h' : F2 (fun t p => AT Try.prog t p ∧ p.isG = aggT Try.prog t) [24, 24, 25] ps := by rw [Try.params3] at h; exact h
  cases h' with
  | cons h1 r =>
    cases r with
    | cons h2 r =>
      cases r with
      | cons h3 r =>
        cases r
        obtain ⟨t, ht, rfl⟩ := at_term h1
        obtain ⟨u, hu, rfl⟩ := at_term h2
        obtain ⟨i, j, hi, hj, rfl⟩ := at_two h3
        exact substTells_law ht hu i j hi hj

set_option maxRecDepth 100000 in
theorem lifted (os : Os) (started : os.Started) (H : Type) (enc : TypeId × Value → H) :
    ReturnsInHanded {} Try.checked os 3 .any (Rows.substTellsSpec.pre6 enc Try.prog Try.f3 Rows.substTellsRow.domain false) (Rows.substTellsSpec.post enc Try.prog Try.f3 false true false false) := by
  refine row_ok (C := Try.checked) (eqs := []) (S := S) (ts := lawTs) (tb := 4) own started (by kernel_rfl) Try.func3 laidOut
    (ChangeSpec.witness6 (enc := enc) (C := Try.checked) false ⟨#[], #[.agg #[.int .i64 0, .int .i64 0, .string ByteArray.empty, .slice none 0 0], .agg #[.int .i64 0, .int .i64 0, .string ByteArray.empty, .slice none 0 0], .agg #[.int .i64 0, .int .i64 0]], []⟩ 8 (by kernel_rfl) (by kernel_rfl) (by kernel_rfl) (by kernel_rfl))
    lawTsOk (by kernel_rfl) rfl Try.underlying4 rfl ?_ seatOk law
  intro ds hd
  match ds, hd with
  | [d1, d2, d3], _ => rfl

theorem over : Rows.substTellsRow.holds Try.pinned (OpenSpec.ofChange Rows.substTellsSpec) :=
  OpenClaim.holds_of_wide 3 Try.f3 rfl rfl rfl rfl rfl rfl rfl ⟨rfl, rfl, rfl, rfl, rfl⟩ rfl rfl rfl rfl rfl (by kernel_rfl) Try.func3 (by kernel_rfl)
    (of_decide_eq_true (by kernel_rfl)) (by unfold Func.isWrapper; first | (rw [if_pos (by decide +kernel)]; kernel_rfl) | (rw [if_neg (by decide +kernel)]; exact ⟨rfl, rfl⟩))
    (fun os started H enc _ => lifted os started H enc)
theorem proved : Rows.SubstTellsSaid := over
#print axioms proved
end Go.Proofs.Ytlgekplmbmkcmaa.substTells
