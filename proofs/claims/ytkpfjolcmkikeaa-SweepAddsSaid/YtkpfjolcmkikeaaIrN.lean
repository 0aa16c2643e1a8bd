/- The functions of the seat, turned into instructions: each is what the compiler text makes of the given program, by the kernel. -/
import Derived.Test.YtkpfjolcmkikeaaIrNa
import Derived.Test.YtkpfjolcmkikeaaIrNb
import Derived.Test.YtkpfjolcmkikeaaIrNc
namespace Go.Proofs.Ytkpfjolcmkikeaa
open Go.Fx


def tbl : List (FuncId × FnC) := tblA ++ tblB ++ tblC

theorem tblOk : ∀ x, x ∈ tbl → ∃ fn, Try.prog.funcs[x.1]? = some fn ∧ ccF Try.prog [(43, [0, 0]), (79, [1, 0]), (60, [0, 0]), (140, [0, 0]), (43, [9])] fn = some (stripF x.2) := by
  intro x hx
  simp only [tbl, List.mem_append, or_assoc] at hx
  rcases hx with hx | hx | hx
  · exact tblOkA x hx
  · exact tblOkB x hx
  · exact tblOkC x hx

end Go.Proofs.Ytkpfjolcmkikeaa
