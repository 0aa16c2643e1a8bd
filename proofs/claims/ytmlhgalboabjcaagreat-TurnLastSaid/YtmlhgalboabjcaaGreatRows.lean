/-
  NARROWER THAN 'FOR EVERY INPUT', by the rows' own cells (each row's printed sentence says how): TurnLast: loops.
  DERIVED. THE GIVEN ROWS OF THIS SEAT. 4 by the template 'for every input the law returns true; each argument reads behind the call as it read before'; 0 by the template 'total and deterministic' (their statements: YtmlhgalboabjcaaGreatTotals.lean).
  GIVEN WITH THE SEED: the statements are not yours to turn. If you find one false, say at which input.
  Laid BY PROGRAM, IN A SANDBOX (cutbox-rows.mjs): the forced cells as the released guide's own fill.sh prints them over the translation 27d5d1ad26c300e3… (all of the seat's roots in one cut). By AI agents, Wed Nov 11 2026. No macro, syntax, notation, axiom, sorry.
-/
import Derived.Test.YtmlhgalboabjcaaGreatChecked
import GoSem.Claim
import GoSem.ClaimJoined
import GoSem.ClaimMapViews
import Derived.JoinedTies
import Derived.KernelRfl
namespace Go.Proofs.YtmlhgalboabjcaaGreat
/- THE CELL 'sum', in the pinned program and in every row, IS THE sha256 OF THE DUMP (.gsa) THAT YtmlhgalboabjcaaGreatProg.lean LOADS. Nothing in Lean hashes anything: it is a label: what it is worth is what the hold of that sum in a sandbox is worth. -/
noncomputable def Tryz.pinned : Pinned := { name := "ytmlhgalboabjcaagreat", sum := "27d5d1ad26c300e35cab6954efd8f2f61312e2a16dbca340504786af9b9a0c8e", checked := Tryz.checked }
namespace Rows
def none {H : Type} : Left H := { results := [], args := [] }

/-- 'gossamerlaw20.TurnLast': WHATEVER THE INPUT: true; the input reads as it did. -/
def turnLastSpec : ChangeSpec := { name := "turnLast", fn := fun _ => fun
  | [d1, d2, d3] => { results := [.lit (.bool true)], args := [d1, d2, d3] }
  | _ => none }
def turnLastRow : OpenClaim := { program := "ytmlhgalboabjcaagreat", sum := "27d5d1ad26c300e35cab6954efd8f2f61312e2a16dbca340504786af9b9a0c8e", func := "gossamer/gossamerlaw20.TurnLast", spec := "turnLast", unfollowed := true, recurses := true, loops := true, apart := false }
def TurnLastSaid : Prop := turnLastRow.holds Tryz.pinned (OpenSpec.ofChange turnLastSpec)

/-- ITS FALSE NEIGHBOUR: 'it returns false'. Refute it at one input. -/
def turnLastWrong : ChangeSpec := { name := "turnLast", fn := fun _ => fun
  | [d1, d2, d3] => { results := [.lit (.bool false)], args := [d1, d2, d3] }
  | _ => none }
def TurnLastWrongFalsely : Prop := turnLastRow.holds Tryz.pinned (OpenSpec.ofChange turnLastWrong)

/-- 'gossamerlaw20.TurnSweeps': WHATEVER THE INPUT: true; the input reads as it did. -/
def turnSweepsSpec : ChangeSpec := { name := "turnSweeps", fn := fun _ => fun
  | [d1, d2] => { results := [.lit (.bool true)], args := [d1, d2] }
  | _ => none }
def turnSweepsRow : OpenClaim := { program := "ytmlhgalboabjcaagreat", sum := "27d5d1ad26c300e35cab6954efd8f2f61312e2a16dbca340504786af9b9a0c8e", func := "gossamer/gossamerlaw20.TurnSweeps", spec := "turnSweeps", unfollowed := true, recurses := true, apart := false }
def TurnSweepsSaid : Prop := turnSweepsRow.holds Tryz.pinned (OpenSpec.ofChange turnSweepsSpec)

/-- ITS FALSE NEIGHBOUR: 'it returns false'. Refute it at one input. -/
def turnSweepsWrong : ChangeSpec := { name := "turnSweeps", fn := fun _ => fun
  | [d1, d2] => { results := [.lit (.bool false)], args := [d1, d2] }
  | _ => none }
def TurnSweepsWrongFalsely : Prop := turnSweepsRow.holds Tryz.pinned (OpenSpec.ofChange turnSweepsWrong)

/-- 'gossamerlaw20.TurnParts': WHATEVER THE INPUT: true; the input reads as it did. -/
def turnPartsSpec : ChangeSpec := { name := "turnParts", fn := fun _ => fun
  | [d1, d2, d3] => { results := [.lit (.bool true)], args := [d1, d2, d3] }
  | _ => none }
def turnPartsRow : OpenClaim := { program := "ytmlhgalboabjcaagreat", sum := "27d5d1ad26c300e35cab6954efd8f2f61312e2a16dbca340504786af9b9a0c8e", func := "gossamer/gossamerlaw20.TurnParts", spec := "turnParts", unfollowed := true, recurses := true, apart := false }
def TurnPartsSaid : Prop := turnPartsRow.holds Tryz.pinned (OpenSpec.ofChange turnPartsSpec)

/-- ITS FALSE NEIGHBOUR: 'it returns false'. Refute it at one input. -/
def turnPartsWrong : ChangeSpec := { name := "turnParts", fn := fun _ => fun
  | [d1, d2, d3] => { results := [.lit (.bool false)], args := [d1, d2, d3] }
  | _ => none }
def TurnPartsWrongFalsely : Prop := turnPartsRow.holds Tryz.pinned (OpenSpec.ofChange turnPartsWrong)

/-- 'gossamerlaw20.TurnPicks': WHATEVER THE INPUT: true; the input reads as it did. -/
def turnPicksSpec : ChangeSpec := { name := "turnPicks", fn := fun _ => fun
  | [d1, d2, d3] => { results := [.lit (.bool true)], args := [d1, d2, d3] }
  | _ => none }
def turnPicksRow : OpenClaim := { program := "ytmlhgalboabjcaagreat", sum := "27d5d1ad26c300e35cab6954efd8f2f61312e2a16dbca340504786af9b9a0c8e", func := "gossamer/gossamerlaw20.TurnPicks", spec := "turnPicks", unfollowed := true, recurses := true, apart := false }
def TurnPicksSaid : Prop := turnPicksRow.holds Tryz.pinned (OpenSpec.ofChange turnPicksSpec)

/-- ITS FALSE NEIGHBOUR: 'it returns false'. Refute it at one input. -/
def turnPicksWrong : ChangeSpec := { name := "turnPicks", fn := fun _ => fun
  | [d1, d2, d3] => { results := [.lit (.bool false)], args := [d1, d2, d3] }
  | _ => none }
def TurnPicksWrongFalsely : Prop := turnPicksRow.holds Tryz.pinned (OpenSpec.ofChange turnPicksWrong)

/- THE SECOND FORM. 'bulk': how many values and letters a reading holds, each counted each time it is reached (what is shared counts as often as it is met; a slice's spare places count too). A statement '..UptoSaid' is the law's where the arguments, and the package variables that the reading takes, are together of bulk at most 1048576: NARROWER than '..Said'. Prove '..Said' where nothing that the law and all that it calls make is longer than what came in: it says more and counts as full. Else prove '..UptoSaid'. A law counts once. -/
mutual
def uptoBulk {H : Type} : DataW H → Nat
  | .lit (.string bytes) => bytes.length + 1
  | .lit _ => 1
  | .nil => 1
  | .ptr d => uptoBulk d + 1
  | .slice elems spare => uptoBulkAll elems + uptoBulkAll spare + 1
  | .agg parts => uptoBulkAll parts + 1
  | .iface _ d => uptoBulk d + 1
  | .map entries => uptoBulkEntries entries + 1
  | .held _ => 1
def uptoBulkAll {H : Type} : List (DataW H) → Nat
  | [] => 0
  | d :: r => uptoBulk d + uptoBulkAll r
def uptoBulkEntries {H : Type} : List (Lit × DataW H) → Nat
  | [] => 0
  | x :: r => uptoBulkEntry x + uptoBulkEntries r
def uptoBulkEntry {H : Type} : Lit × DataW H → Nat
  | (.string bytes, d) => bytes.length + uptoBulk d + 1
  | (_, d) => uptoBulk d + 1
 end
def uptoSmall : (H : Type) → List (DataW H) → Bool := fun _ ds => decide (uptoBulkAll ds ≤ 1048576)
def OpenSpec.upto (s : _root_.Go.ChangeSpec) : _root_.Go.OpenSpec := { _root_.Go.OpenSpec.ofChange s with cond := some uptoSmall }

/-- 'gossamerlaw20.TurnLast', WHERE WHAT IT READS IS OF BULK AT MOST 1048576: true; the input reads as it did. -/
def turnLastUptoRow : OpenClaim := { program := "ytmlhgalboabjcaagreat", sum := "27d5d1ad26c300e35cab6954efd8f2f61312e2a16dbca340504786af9b9a0c8e", func := "gossamer/gossamerlaw20.TurnLast", spec := "turnLast", unfollowed := true, recurses := true, loops := true, apart := false, narrowed := true }
def TurnLastUptoSaid : Prop := turnLastUptoRow.holds Tryz.pinned (OpenSpec.upto turnLastSpec)

/-- 'gossamerlaw20.TurnSweeps', WHERE WHAT IT READS IS OF BULK AT MOST 1048576: true; the input reads as it did. -/
def turnSweepsUptoRow : OpenClaim := { program := "ytmlhgalboabjcaagreat", sum := "27d5d1ad26c300e35cab6954efd8f2f61312e2a16dbca340504786af9b9a0c8e", func := "gossamer/gossamerlaw20.TurnSweeps", spec := "turnSweeps", unfollowed := true, recurses := true, apart := false, narrowed := true }
def TurnSweepsUptoSaid : Prop := turnSweepsUptoRow.holds Tryz.pinned (OpenSpec.upto turnSweepsSpec)

/-- 'gossamerlaw20.TurnParts', WHERE WHAT IT READS IS OF BULK AT MOST 1048576: true; the input reads as it did. -/
def turnPartsUptoRow : OpenClaim := { program := "ytmlhgalboabjcaagreat", sum := "27d5d1ad26c300e35cab6954efd8f2f61312e2a16dbca340504786af9b9a0c8e", func := "gossamer/gossamerlaw20.TurnParts", spec := "turnParts", unfollowed := true, recurses := true, apart := false, narrowed := true }
def TurnPartsUptoSaid : Prop := turnPartsUptoRow.holds Tryz.pinned (OpenSpec.upto turnPartsSpec)

/-- 'gossamerlaw20.TurnPicks', WHERE WHAT IT READS IS OF BULK AT MOST 1048576: true; the input reads as it did. -/
def turnPicksUptoRow : OpenClaim := { program := "ytmlhgalboabjcaagreat", sum := "27d5d1ad26c300e35cab6954efd8f2f61312e2a16dbca340504786af9b9a0c8e", func := "gossamer/gossamerlaw20.TurnPicks", spec := "turnPicks", unfollowed := true, recurses := true, apart := false, narrowed := true }
def TurnPicksUptoSaid : Prop := turnPicksUptoRow.holds Tryz.pinned (OpenSpec.upto turnPicksSpec)

end Rows
end Go.Proofs.YtmlhgalboabjcaaGreat
