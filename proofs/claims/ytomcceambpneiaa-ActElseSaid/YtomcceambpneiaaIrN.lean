/- The functions of the seat, turned into instructions: each is what the compiler text makes of the given program, by the kernel. -/
import Derived.Test.YtomcceambpneiaaIrNa
import Derived.Test.YtomcceambpneiaaIrNb
namespace Go.Proofs.Ytomcceambpneiaa
open Go.Fx


def tbl : List (FuncId × FnC) := tblA ++ tblB

theorem tblOk : ∀ x, x ∈ tbl → ∃ fn, Try.prog.funcs[x.1]? = some fn ∧ ccF Try.prog [(58, [0, 0]), (61, [1, 0]), (75, [0, 0]), (58, [9]), (91, [8]), (93, [8]), (72, [8]), (92, [8]), (76, [8])] fn = some (stripF x.2) := by
  intro x hx
  simp only [tbl, List.mem_append, or_assoc] at hx
  rcases hx with hx | hx
  · exact tblOkA x hx
  · exact tblOkB x hx

end Go.Proofs.Ytomcceambpneiaa
