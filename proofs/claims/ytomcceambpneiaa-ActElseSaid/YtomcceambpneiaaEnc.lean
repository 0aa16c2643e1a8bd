/- Rows of one number, and of one boolean. -/
import Derived.Test.YtomcceambpneiaaNetS
namespace Go.Proofs.Ytomcceambpneiaa
open Go.Fx
def encI (i : Int) : List PV := [.i .i64 i]
def encB (b : Bool) : List PV := [.b b]
end Go.Proofs.Ytomcceambpneiaa
