/-
  No cell of these rows narrows 'for every input' (looked for: loops, veiled, ifaces, maps, wideKeys, modest, calm, conditions, laid).
  DERIVED. THE GIVEN ROWS OF THIS SEAT. 8 by the template 'for every input the law returns true; each argument reads behind the call as it read before'; 0 by the template 'total and deterministic' (their statements: YtomcceambpneiaaTotals.lean).
  GIVEN WITH THE SEED: the statements are not yours to turn. If you find one false, say at which input.
  Laid BY PROGRAM, IN A SANDBOX (cutbox-rows.mjs): the forced cells as the released guide's own fill.sh prints them over the translation 9bde0ea4e1f67fba… (all of the seat's roots in one cut). By AI agents, Wed Nov 11 2026. No macro, syntax, notation, axiom, sorry.
-/
import Derived.Test.YtomcceambpneiaaChecked
import GoSem.Claim
import GoSem.ClaimJoined
import GoSem.ClaimMapViews
import Derived.JoinedTies
import Derived.KernelRfl
namespace Go.Proofs.Ytomcceambpneiaa
/- THE CELL 'sum', in the pinned program and in every row, IS THE sha256 OF THE DUMP (.gsa) THAT YtomcceambpneiaaProg.lean LOADS. Nothing in Lean hashes anything: it is a label: what it is worth is what the hold of that sum in a sandbox is worth. -/
noncomputable def Try.pinned : Pinned := { name := "ytomcceambpneiaa", sum := "9bde0ea4e1f67fba8b8cd3271b3f25d0a4331d61dbc01573d018c6a2270d0cdc", checked := Try.checked }
namespace Rows
def none {H : Type} : Left H := { results := [], args := [] }

/-- 'gossamerlaw14.RuleTurns': WHATEVER THE INPUT: true; the input reads as it did. -/
def ruleTurnsSpec : ChangeSpec := { name := "ruleTurns", fn := fun _ => fun
  | [d1, d2] => { results := [.lit (.bool true)], args := [d1, d2] }
  | _ => none }
def ruleTurnsRow : OpenClaim := { program := "ytomcceambpneiaa", sum := "9bde0ea4e1f67fba8b8cd3271b3f25d0a4331d61dbc01573d018c6a2270d0cdc", func := "gossamer/gossamerlaw14.RuleTurns", spec := "ruleTurns", unfollowed := true, recurses := true, apart := false }
def RuleTurnsSaid : Prop := ruleTurnsRow.holds Try.pinned (OpenSpec.ofChange ruleTurnsSpec)

/-- ITS FALSE NEIGHBOUR: 'it returns false'. Refute it at one input. -/
def ruleTurnsWrong : ChangeSpec := { name := "ruleTurns", fn := fun _ => fun
  | [d1, d2] => { results := [.lit (.bool false)], args := [d1, d2] }
  | _ => none }
def RuleTurnsWrongFalsely : Prop := ruleTurnsRow.holds Try.pinned (OpenSpec.ofChange ruleTurnsWrong)

/-- 'gossamerlaw14.RuleKinds': WHATEVER THE INPUT: true; the input reads as it did. -/
def ruleKindsSpec : ChangeSpec := { name := "ruleKinds", fn := fun _ => fun
  | [d1, d2] => { results := [.lit (.bool true)], args := [d1, d2] }
  | _ => none }
def ruleKindsRow : OpenClaim := { program := "ytomcceambpneiaa", sum := "9bde0ea4e1f67fba8b8cd3271b3f25d0a4331d61dbc01573d018c6a2270d0cdc", func := "gossamer/gossamerlaw14.RuleKinds", spec := "ruleKinds", unfollowed := true, recurses := true, apart := false }
def RuleKindsSaid : Prop := ruleKindsRow.holds Try.pinned (OpenSpec.ofChange ruleKindsSpec)

/-- ITS FALSE NEIGHBOUR: 'it returns false'. Refute it at one input. -/
def ruleKindsWrong : ChangeSpec := { name := "ruleKinds", fn := fun _ => fun
  | [d1, d2] => { results := [.lit (.bool false)], args := [d1, d2] }
  | _ => none }
def RuleKindsWrongFalsely : Prop := ruleKindsRow.holds Try.pinned (OpenSpec.ofChange ruleKindsWrong)

/-- 'gossamerlaw14.RuleLevels': WHATEVER THE INPUT: true; the input reads as it did. -/
def ruleLevelsSpec : ChangeSpec := { name := "ruleLevels", fn := fun _ => fun
  | [d1, d2, d3] => { results := [.lit (.bool true)], args := [d1, d2, d3] }
  | _ => none }
def ruleLevelsRow : OpenClaim := { program := "ytomcceambpneiaa", sum := "9bde0ea4e1f67fba8b8cd3271b3f25d0a4331d61dbc01573d018c6a2270d0cdc", func := "gossamer/gossamerlaw14.RuleLevels", spec := "ruleLevels", unfollowed := true, recurses := true, apart := false }
def RuleLevelsSaid : Prop := ruleLevelsRow.holds Try.pinned (OpenSpec.ofChange ruleLevelsSpec)

/-- ITS FALSE NEIGHBOUR: 'it returns false'. Refute it at one input. -/
def ruleLevelsWrong : ChangeSpec := { name := "ruleLevels", fn := fun _ => fun
  | [d1, d2, d3] => { results := [.lit (.bool false)], args := [d1, d2, d3] }
  | _ => none }
def RuleLevelsWrongFalsely : Prop := ruleLevelsRow.holds Try.pinned (OpenSpec.ofChange ruleLevelsWrong)

/-- 'gossamerlaw14.RuleAsks': WHATEVER THE INPUT: true; the input reads as it did. -/
def ruleAsksSpec : ChangeSpec := { name := "ruleAsks", fn := fun _ => fun
  | [d1, d2] => { results := [.lit (.bool true)], args := [d1, d2] }
  | _ => none }
def ruleAsksRow : OpenClaim := { program := "ytomcceambpneiaa", sum := "9bde0ea4e1f67fba8b8cd3271b3f25d0a4331d61dbc01573d018c6a2270d0cdc", func := "gossamer/gossamerlaw14.RuleAsks", spec := "ruleAsks", unfollowed := true, recurses := true, apart := false }
def RuleAsksSaid : Prop := ruleAsksRow.holds Try.pinned (OpenSpec.ofChange ruleAsksSpec)

/-- ITS FALSE NEIGHBOUR: 'it returns false'. Refute it at one input. -/
def ruleAsksWrong : ChangeSpec := { name := "ruleAsks", fn := fun _ => fun
  | [d1, d2] => { results := [.lit (.bool false)], args := [d1, d2] }
  | _ => none }
def RuleAsksWrongFalsely : Prop := ruleAsksRow.holds Try.pinned (OpenSpec.ofChange ruleAsksWrong)

/-- 'gossamerlaw14.RuleNumbers': WHATEVER THE INPUT: true; the input reads as it did. -/
def ruleNumbersSpec : ChangeSpec := { name := "ruleNumbers", fn := fun _ => fun
  | [d1, d2, d3] => { results := [.lit (.bool true)], args := [d1, d2, d3] }
  | _ => none }
def ruleNumbersRow : OpenClaim := { program := "ytomcceambpneiaa", sum := "9bde0ea4e1f67fba8b8cd3271b3f25d0a4331d61dbc01573d018c6a2270d0cdc", func := "gossamer/gossamerlaw14.RuleNumbers", spec := "ruleNumbers", unfollowed := true, recurses := true, apart := false }
def RuleNumbersSaid : Prop := ruleNumbersRow.holds Try.pinned (OpenSpec.ofChange ruleNumbersSpec)

/-- ITS FALSE NEIGHBOUR: 'it returns false'. Refute it at one input. -/
def ruleNumbersWrong : ChangeSpec := { name := "ruleNumbers", fn := fun _ => fun
  | [d1, d2, d3] => { results := [.lit (.bool false)], args := [d1, d2, d3] }
  | _ => none }
def RuleNumbersWrongFalsely : Prop := ruleNumbersRow.holds Try.pinned (OpenSpec.ofChange ruleNumbersWrong)

/-- 'gossamerlaw15.ActKeeps': WHATEVER THE INPUT: true; the input reads as it did. -/
def actKeepsSpec : ChangeSpec := { name := "actKeeps", fn := fun _ => fun
  | [d1, d2] => { results := [.lit (.bool true)], args := [d1, d2] }
  | _ => none }
def actKeepsRow : OpenClaim := { program := "ytomcceambpneiaa", sum := "9bde0ea4e1f67fba8b8cd3271b3f25d0a4331d61dbc01573d018c6a2270d0cdc", func := "gossamer/gossamerlaw15.ActKeeps", spec := "actKeeps", unfollowed := true, recurses := true, apart := false }
def ActKeepsSaid : Prop := actKeepsRow.holds Try.pinned (OpenSpec.ofChange actKeepsSpec)

/-- ITS FALSE NEIGHBOUR: 'it returns false'. Refute it at one input. -/
def actKeepsWrong : ChangeSpec := { name := "actKeeps", fn := fun _ => fun
  | [d1, d2] => { results := [.lit (.bool false)], args := [d1, d2] }
  | _ => none }
def ActKeepsWrongFalsely : Prop := actKeepsRow.holds Try.pinned (OpenSpec.ofChange actKeepsWrong)

/-- 'gossamerlaw15.ActTurns': WHATEVER THE INPUT: true; the input reads as it did. -/
def actTurnsSpec : ChangeSpec := { name := "actTurns", fn := fun _ => fun
  | [d1, d2] => { results := [.lit (.bool true)], args := [d1, d2] }
  | _ => none }
def actTurnsRow : OpenClaim := { program := "ytomcceambpneiaa", sum := "9bde0ea4e1f67fba8b8cd3271b3f25d0a4331d61dbc01573d018c6a2270d0cdc", func := "gossamer/gossamerlaw15.ActTurns", spec := "actTurns", unfollowed := true, recurses := true, apart := false }
def ActTurnsSaid : Prop := actTurnsRow.holds Try.pinned (OpenSpec.ofChange actTurnsSpec)

/-- ITS FALSE NEIGHBOUR: 'it returns false'. Refute it at one input. -/
def actTurnsWrong : ChangeSpec := { name := "actTurns", fn := fun _ => fun
  | [d1, d2] => { results := [.lit (.bool false)], args := [d1, d2] }
  | _ => none }
def ActTurnsWrongFalsely : Prop := actTurnsRow.holds Try.pinned (OpenSpec.ofChange actTurnsWrong)

/-- 'gossamerlaw15.ActElse': WHATEVER THE INPUT: true; the input reads as it did. -/
def actElseSpec : ChangeSpec := { name := "actElse", fn := fun _ => fun
  | [d1, d2] => { results := [.lit (.bool true)], args := [d1, d2] }
  | _ => none }
def actElseRow : OpenClaim := { program := "ytomcceambpneiaa", sum := "9bde0ea4e1f67fba8b8cd3271b3f25d0a4331d61dbc01573d018c6a2270d0cdc", func := "gossamer/gossamerlaw15.ActElse", spec := "actElse", unfollowed := true, recurses := true, apart := false }
def ActElseSaid : Prop := actElseRow.holds Try.pinned (OpenSpec.ofChange actElseSpec)

/-- ITS FALSE NEIGHBOUR: 'it returns false'. Refute it at one input. -/
def actElseWrong : ChangeSpec := { name := "actElse", fn := fun _ => fun
  | [d1, d2] => { results := [.lit (.bool false)], args := [d1, d2] }
  | _ => none }
def ActElseWrongFalsely : Prop := actElseRow.holds Try.pinned (OpenSpec.ofChange actElseWrong)

/- THE SECOND FORM. 'bulk': how many values and letters a reading holds, each counted each time it is reached (what is shared counts as often as it is met; a slice's spare places count too). A statement '..UptoSaid' is the law's where the arguments, and the package variables that the reading takes, are together of bulk at most 1048576: NARROWER than '..Said'. Prove '..Said' where nothing that the law and all that it calls make is longer than what came in: it says more and counts as full. Else prove '..UptoSaid'. A law counts once. -/
mutual
def uptoBulk {H : Type} : DataW H → Nat
  | .lit (.string bytes) => bytes.length + 1
  | .lit _ => 1
  | .nil => 1
  | .ptr d => uptoBulk d + 1
  | .slice elems spare => uptoBulkAll elems + uptoBulkAll spare + 1
  | .agg parts => uptoBulkAll parts + 1
  | .iface _ d => uptoBulk d + 1
  | .map entries => uptoBulkEntries entries + 1
  | .held _ => 1
def uptoBulkAll {H : Type} : List (DataW H) → Nat
  | [] => 0
  | d :: r => uptoBulk d + uptoBulkAll r
def uptoBulkEntries {H : Type} : List (Lit × DataW H) → Nat
  | [] => 0
  | x :: r => uptoBulkEntry x + uptoBulkEntries r
def uptoBulkEntry {H : Type} : Lit × DataW H → Nat
  | (.string bytes, d) => bytes.length + uptoBulk d + 1
  | (_, d) => uptoBulk d + 1
 end
def uptoSmall : (H : Type) → List (DataW H) → Bool := fun _ ds => decide (uptoBulkAll ds ≤ 1048576)
def OpenSpec.upto (s : _root_.Go.ChangeSpec) : _root_.Go.OpenSpec := { _root_.Go.OpenSpec.ofChange s with cond := some uptoSmall }

/-- 'gossamerlaw14.RuleTurns', WHERE WHAT IT READS IS OF BULK AT MOST 1048576: true; the input reads as it did. -/
def ruleTurnsUptoRow : OpenClaim := { program := "ytomcceambpneiaa", sum := "9bde0ea4e1f67fba8b8cd3271b3f25d0a4331d61dbc01573d018c6a2270d0cdc", func := "gossamer/gossamerlaw14.RuleTurns", spec := "ruleTurns", unfollowed := true, recurses := true, apart := false, narrowed := true }
def RuleTurnsUptoSaid : Prop := ruleTurnsUptoRow.holds Try.pinned (OpenSpec.upto ruleTurnsSpec)

/-- 'gossamerlaw14.RuleKinds', WHERE WHAT IT READS IS OF BULK AT MOST 1048576: true; the input reads as it did. -/
def ruleKindsUptoRow : OpenClaim := { program := "ytomcceambpneiaa", sum := "9bde0ea4e1f67fba8b8cd3271b3f25d0a4331d61dbc01573d018c6a2270d0cdc", func := "gossamer/gossamerlaw14.RuleKinds", spec := "ruleKinds", unfollowed := true, recurses := true, apart := false, narrowed := true }
def RuleKindsUptoSaid : Prop := ruleKindsUptoRow.holds Try.pinned (OpenSpec.upto ruleKindsSpec)

/-- 'gossamerlaw14.RuleLevels', WHERE WHAT IT READS IS OF BULK AT MOST 1048576: true; the input reads as it did. -/
def ruleLevelsUptoRow : OpenClaim := { program := "ytomcceambpneiaa", sum := "9bde0ea4e1f67fba8b8cd3271b3f25d0a4331d61dbc01573d018c6a2270d0cdc", func := "gossamer/gossamerlaw14.RuleLevels", spec := "ruleLevels", unfollowed := true, recurses := true, apart := false, narrowed := true }
def RuleLevelsUptoSaid : Prop := ruleLevelsUptoRow.holds Try.pinned (OpenSpec.upto ruleLevelsSpec)

/-- 'gossamerlaw14.RuleAsks', WHERE WHAT IT READS IS OF BULK AT MOST 1048576: true; the input reads as it did. -/
def ruleAsksUptoRow : OpenClaim := { program := "ytomcceambpneiaa", sum := "9bde0ea4e1f67fba8b8cd3271b3f25d0a4331d61dbc01573d018c6a2270d0cdc", func := "gossamer/gossamerlaw14.RuleAsks", spec := "ruleAsks", unfollowed := true, recurses := true, apart := false, narrowed := true }
def RuleAsksUptoSaid : Prop := ruleAsksUptoRow.holds Try.pinned (OpenSpec.upto ruleAsksSpec)

/-- 'gossamerlaw14.RuleNumbers', WHERE WHAT IT READS IS OF BULK AT MOST 1048576: true; the input reads as it did. -/
def ruleNumbersUptoRow : OpenClaim := { program := "ytomcceambpneiaa", sum := "9bde0ea4e1f67fba8b8cd3271b3f25d0a4331d61dbc01573d018c6a2270d0cdc", func := "gossamer/gossamerlaw14.RuleNumbers", spec := "ruleNumbers", unfollowed := true, recurses := true, apart := false, narrowed := true }
def RuleNumbersUptoSaid : Prop := ruleNumbersUptoRow.holds Try.pinned (OpenSpec.upto ruleNumbersSpec)

/-- 'gossamerlaw15.ActKeeps', WHERE WHAT IT READS IS OF BULK AT MOST 1048576: true; the input reads as it did. -/
def actKeepsUptoRow : OpenClaim := { program := "ytomcceambpneiaa", sum := "9bde0ea4e1f67fba8b8cd3271b3f25d0a4331d61dbc01573d018c6a2270d0cdc", func := "gossamer/gossamerlaw15.ActKeeps", spec := "actKeeps", unfollowed := true, recurses := true, apart := false, narrowed := true }
def ActKeepsUptoSaid : Prop := actKeepsUptoRow.holds Try.pinned (OpenSpec.upto actKeepsSpec)

/-- 'gossamerlaw15.ActTurns', WHERE WHAT IT READS IS OF BULK AT MOST 1048576: true; the input reads as it did. -/
def actTurnsUptoRow : OpenClaim := { program := "ytomcceambpneiaa", sum := "9bde0ea4e1f67fba8b8cd3271b3f25d0a4331d61dbc01573d018c6a2270d0cdc", func := "gossamer/gossamerlaw15.ActTurns", spec := "actTurns", unfollowed := true, recurses := true, apart := false, narrowed := true }
def ActTurnsUptoSaid : Prop := actTurnsUptoRow.holds Try.pinned (OpenSpec.upto actTurnsSpec)

/-- 'gossamerlaw15.ActElse', WHERE WHAT IT READS IS OF BULK AT MOST 1048576: true; the input reads as it did. -/
def actElseUptoRow : OpenClaim := { program := "ytomcceambpneiaa", sum := "9bde0ea4e1f67fba8b8cd3271b3f25d0a4331d61dbc01573d018c6a2270d0cdc", func := "gossamer/gossamerlaw15.ActElse", spec := "actElse", unfollowed := true, recurses := true, apart := false, narrowed := true }
def ActElseUptoSaid : Prop := actElseUptoRow.holds Try.pinned (OpenSpec.upto actElseSpec)

end Rows
end Go.Proofs.Ytomcceambpneiaa
