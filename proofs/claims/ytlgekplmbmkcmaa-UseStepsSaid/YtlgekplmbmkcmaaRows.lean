/-
  NARROWER THAN 'FOR EVERY INPUT', by the rows' own cells (each row's printed sentence says how): SubstTells: loops · SubstInst: loops · SubstSwaps: loops · SubstUses: loops · SubstUps: loops · SubstBinds: loops · UseTells: loops · UseCounts: loops · UseLams: loops · UsePuts: loops · UseAffine: loops · UseSteps: loops.
  DERIVED. THE GIVEN ROWS OF THIS SEAT. 12 by the template 'for every input the law returns true; each argument reads behind the call as it read before'; 0 by the template 'total and deterministic' (their statements: YtlgekplmbmkcmaaTotals.lean).
  GIVEN WITH THE SEED: the statements are not yours to turn. If you find one false, say at which input.
  Laid BY PROGRAM, IN A SANDBOX (cutbox-rows.mjs): the forced cells as the released guide's own fill.sh prints them over the translation dc6bf6c203840aff… (all of the seat's roots in one cut). By AI agents, Wed Nov 11 2026. No macro, syntax, notation, axiom, sorry.
-/
import Derived.Test.YtlgekplmbmkcmaaChecked
import GoSem.Claim
import GoSem.ClaimJoined
import GoSem.ClaimMapViews
import Derived.JoinedTies
import Derived.KernelRfl
namespace Go.Proofs.Ytlgekplmbmkcmaa
/- THE CELL 'sum', in the pinned program and in every row, IS THE sha256 OF THE DUMP (.gsa) THAT YtlgekplmbmkcmaaProg.lean LOADS. Nothing in Lean hashes anything: it is a label: what it is worth is what the hold of that sum in a sandbox is worth. -/
noncomputable def Try.pinned : Pinned := { name := "ytlgekplmbmkcmaa", sum := "dc6bf6c203840aff97f16d1d3e2b754ea86cd7c65e64ff1aa3693d2727d61ff4", checked := Try.checked }
namespace Rows
def none {H : Type} : Left H := { results := [], args := [] }

/-- 'gossamerlaw08.SubstTells': WHATEVER THE INPUT: true; the input reads as it did. -/
def substTellsSpec : ChangeSpec := { name := "substTells", fn := fun _ => fun
  | [d1, d2, d3] => { results := [.lit (.bool true)], args := [d1, d2, d3] }
  | _ => none }
def substTellsRow : OpenClaim := { program := "ytlgekplmbmkcmaa", sum := "dc6bf6c203840aff97f16d1d3e2b754ea86cd7c65e64ff1aa3693d2727d61ff4", func := "gossamer/gossamerlaw08.SubstTells", spec := "substTells", unfollowed := true, recurses := true, loops := true, apart := false }
def SubstTellsSaid : Prop := substTellsRow.holds Try.pinned (OpenSpec.ofChange substTellsSpec)

/-- ITS FALSE NEIGHBOUR: 'it returns false'. Refute it at one input. -/
def substTellsWrong : ChangeSpec := { name := "substTells", fn := fun _ => fun
  | [d1, d2, d3] => { results := [.lit (.bool false)], args := [d1, d2, d3] }
  | _ => none }
def SubstTellsWrongFalsely : Prop := substTellsRow.holds Try.pinned (OpenSpec.ofChange substTellsWrong)

/-- 'gossamerlaw08.SubstInst': WHATEVER THE INPUT: true; the input reads as it did. -/
def substInstSpec : ChangeSpec := { name := "substInst", fn := fun _ => fun
  | [d1, d2] => { results := [.lit (.bool true)], args := [d1, d2] }
  | _ => none }
def substInstRow : OpenClaim := { program := "ytlgekplmbmkcmaa", sum := "dc6bf6c203840aff97f16d1d3e2b754ea86cd7c65e64ff1aa3693d2727d61ff4", func := "gossamer/gossamerlaw08.SubstInst", spec := "substInst", unfollowed := true, recurses := true, loops := true, apart := false }
def SubstInstSaid : Prop := substInstRow.holds Try.pinned (OpenSpec.ofChange substInstSpec)

/-- ITS FALSE NEIGHBOUR: 'it returns false'. Refute it at one input. -/
def substInstWrong : ChangeSpec := { name := "substInst", fn := fun _ => fun
  | [d1, d2] => { results := [.lit (.bool false)], args := [d1, d2] }
  | _ => none }
def SubstInstWrongFalsely : Prop := substInstRow.holds Try.pinned (OpenSpec.ofChange substInstWrong)

/-- 'gossamerlaw08.SubstSwaps': WHATEVER THE INPUT: true; the input reads as it did. -/
def substSwapsSpec : ChangeSpec := { name := "substSwaps", fn := fun _ => fun
  | [d1, d2, d3] => { results := [.lit (.bool true)], args := [d1, d2, d3] }
  | _ => none }
def substSwapsRow : OpenClaim := { program := "ytlgekplmbmkcmaa", sum := "dc6bf6c203840aff97f16d1d3e2b754ea86cd7c65e64ff1aa3693d2727d61ff4", func := "gossamer/gossamerlaw08.SubstSwaps", spec := "substSwaps", unfollowed := true, recurses := true, loops := true, apart := false }
def SubstSwapsSaid : Prop := substSwapsRow.holds Try.pinned (OpenSpec.ofChange substSwapsSpec)

/-- ITS FALSE NEIGHBOUR: 'it returns false'. Refute it at one input. -/
def substSwapsWrong : ChangeSpec := { name := "substSwaps", fn := fun _ => fun
  | [d1, d2, d3] => { results := [.lit (.bool false)], args := [d1, d2, d3] }
  | _ => none }
def SubstSwapsWrongFalsely : Prop := substSwapsRow.holds Try.pinned (OpenSpec.ofChange substSwapsWrong)

/-- 'gossamerlaw08.SubstUses': WHATEVER THE INPUT: true; the input reads as it did. -/
def substUsesSpec : ChangeSpec := { name := "substUses", fn := fun _ => fun
  | [d1, d2, d3] => { results := [.lit (.bool true)], args := [d1, d2, d3] }
  | _ => none }
def substUsesRow : OpenClaim := { program := "ytlgekplmbmkcmaa", sum := "dc6bf6c203840aff97f16d1d3e2b754ea86cd7c65e64ff1aa3693d2727d61ff4", func := "gossamer/gossamerlaw08.SubstUses", spec := "substUses", unfollowed := true, recurses := true, loops := true, apart := false }
def SubstUsesSaid : Prop := substUsesRow.holds Try.pinned (OpenSpec.ofChange substUsesSpec)

/-- ITS FALSE NEIGHBOUR: 'it returns false'. Refute it at one input. -/
def substUsesWrong : ChangeSpec := { name := "substUses", fn := fun _ => fun
  | [d1, d2, d3] => { results := [.lit (.bool false)], args := [d1, d2, d3] }
  | _ => none }
def SubstUsesWrongFalsely : Prop := substUsesRow.holds Try.pinned (OpenSpec.ofChange substUsesWrong)

/-- 'gossamerlaw08.SubstUps': WHATEVER THE INPUT: true; the input reads as it did. -/
def substUpsSpec : ChangeSpec := { name := "substUps", fn := fun _ => fun
  | [d1, d2] => { results := [.lit (.bool true)], args := [d1, d2] }
  | _ => none }
def substUpsRow : OpenClaim := { program := "ytlgekplmbmkcmaa", sum := "dc6bf6c203840aff97f16d1d3e2b754ea86cd7c65e64ff1aa3693d2727d61ff4", func := "gossamer/gossamerlaw08.SubstUps", spec := "substUps", unfollowed := true, recurses := true, loops := true, apart := false }
def SubstUpsSaid : Prop := substUpsRow.holds Try.pinned (OpenSpec.ofChange substUpsSpec)

/-- ITS FALSE NEIGHBOUR: 'it returns false'. Refute it at one input. -/
def substUpsWrong : ChangeSpec := { name := "substUps", fn := fun _ => fun
  | [d1, d2] => { results := [.lit (.bool false)], args := [d1, d2] }
  | _ => none }
def SubstUpsWrongFalsely : Prop := substUpsRow.holds Try.pinned (OpenSpec.ofChange substUpsWrong)

/-- 'gossamerlaw08.SubstBinds': WHATEVER THE INPUT: true; the input reads as it did. -/
def substBindsSpec : ChangeSpec := { name := "substBinds", fn := fun _ => fun
  | [d1, d2, d3] => { results := [.lit (.bool true)], args := [d1, d2, d3] }
  | _ => none }
def substBindsRow : OpenClaim := { program := "ytlgekplmbmkcmaa", sum := "dc6bf6c203840aff97f16d1d3e2b754ea86cd7c65e64ff1aa3693d2727d61ff4", func := "gossamer/gossamerlaw08.SubstBinds", spec := "substBinds", unfollowed := true, recurses := true, loops := true, apart := false }
def SubstBindsSaid : Prop := substBindsRow.holds Try.pinned (OpenSpec.ofChange substBindsSpec)

/-- ITS FALSE NEIGHBOUR: 'it returns false'. Refute it at one input. -/
def substBindsWrong : ChangeSpec := { name := "substBinds", fn := fun _ => fun
  | [d1, d2, d3] => { results := [.lit (.bool false)], args := [d1, d2, d3] }
  | _ => none }
def SubstBindsWrongFalsely : Prop := substBindsRow.holds Try.pinned (OpenSpec.ofChange substBindsWrong)

/-- 'gossamerlaw11.UseTells': WHATEVER THE INPUT: true; the input reads as it did. -/
def useTellsSpec : ChangeSpec := { name := "useTells", fn := fun _ => fun
  | [d] => { results := [.lit (.bool true)], args := [d] }
  | _ => none }
def useTellsRow : OpenClaim := { program := "ytlgekplmbmkcmaa", sum := "dc6bf6c203840aff97f16d1d3e2b754ea86cd7c65e64ff1aa3693d2727d61ff4", func := "gossamer/gossamerlaw11.UseTells", spec := "useTells", unfollowed := true, recurses := true, loops := true, apart := false }
def UseTellsSaid : Prop := useTellsRow.holds Try.pinned (OpenSpec.ofChange useTellsSpec)

/-- ITS FALSE NEIGHBOUR: 'it returns false'. Refute it at one input. -/
def useTellsWrong : ChangeSpec := { name := "useTells", fn := fun _ => fun
  | [d] => { results := [.lit (.bool false)], args := [d] }
  | _ => none }
def UseTellsWrongFalsely : Prop := useTellsRow.holds Try.pinned (OpenSpec.ofChange useTellsWrong)

/-- 'gossamerlaw11.UseCounts': WHATEVER THE INPUT: true; the input reads as it did. -/
def useCountsSpec : ChangeSpec := { name := "useCounts", fn := fun _ => fun
  | [d] => { results := [.lit (.bool true)], args := [d] }
  | _ => none }
def useCountsRow : OpenClaim := { program := "ytlgekplmbmkcmaa", sum := "dc6bf6c203840aff97f16d1d3e2b754ea86cd7c65e64ff1aa3693d2727d61ff4", func := "gossamer/gossamerlaw11.UseCounts", spec := "useCounts", unfollowed := true, recurses := true, loops := true, apart := false }
def UseCountsSaid : Prop := useCountsRow.holds Try.pinned (OpenSpec.ofChange useCountsSpec)

/-- ITS FALSE NEIGHBOUR: 'it returns false'. Refute it at one input. -/
def useCountsWrong : ChangeSpec := { name := "useCounts", fn := fun _ => fun
  | [d] => { results := [.lit (.bool false)], args := [d] }
  | _ => none }
def UseCountsWrongFalsely : Prop := useCountsRow.holds Try.pinned (OpenSpec.ofChange useCountsWrong)

/-- 'gossamerlaw11.UseLams': WHATEVER THE INPUT: true; the input reads as it did. -/
def useLamsSpec : ChangeSpec := { name := "useLams", fn := fun _ => fun
  | [d1, d2] => { results := [.lit (.bool true)], args := [d1, d2] }
  | _ => none }
def useLamsRow : OpenClaim := { program := "ytlgekplmbmkcmaa", sum := "dc6bf6c203840aff97f16d1d3e2b754ea86cd7c65e64ff1aa3693d2727d61ff4", func := "gossamer/gossamerlaw11.UseLams", spec := "useLams", unfollowed := true, recurses := true, loops := true, apart := false }
def UseLamsSaid : Prop := useLamsRow.holds Try.pinned (OpenSpec.ofChange useLamsSpec)

/-- ITS FALSE NEIGHBOUR: 'it returns false'. Refute it at one input. -/
def useLamsWrong : ChangeSpec := { name := "useLams", fn := fun _ => fun
  | [d1, d2] => { results := [.lit (.bool false)], args := [d1, d2] }
  | _ => none }
def UseLamsWrongFalsely : Prop := useLamsRow.holds Try.pinned (OpenSpec.ofChange useLamsWrong)

/-- 'gossamerlaw11.UsePuts': WHATEVER THE INPUT: true; the input reads as it did. -/
def usePutsSpec : ChangeSpec := { name := "usePuts", fn := fun _ => fun
  | [d1, d2] => { results := [.lit (.bool true)], args := [d1, d2] }
  | _ => none }
def usePutsRow : OpenClaim := { program := "ytlgekplmbmkcmaa", sum := "dc6bf6c203840aff97f16d1d3e2b754ea86cd7c65e64ff1aa3693d2727d61ff4", func := "gossamer/gossamerlaw11.UsePuts", spec := "usePuts", unfollowed := true, recurses := true, loops := true, apart := false }
def UsePutsSaid : Prop := usePutsRow.holds Try.pinned (OpenSpec.ofChange usePutsSpec)

/-- ITS FALSE NEIGHBOUR: 'it returns false'. Refute it at one input. -/
def usePutsWrong : ChangeSpec := { name := "usePuts", fn := fun _ => fun
  | [d1, d2] => { results := [.lit (.bool false)], args := [d1, d2] }
  | _ => none }
def UsePutsWrongFalsely : Prop := usePutsRow.holds Try.pinned (OpenSpec.ofChange usePutsWrong)

/-- 'gossamerlaw11.UseAffine': WHATEVER THE INPUT: true; the input reads as it did. -/
def useAffineSpec : ChangeSpec := { name := "useAffine", fn := fun _ => fun
  | [d1, d2] => { results := [.lit (.bool true)], args := [d1, d2] }
  | _ => none }
def useAffineRow : OpenClaim := { program := "ytlgekplmbmkcmaa", sum := "dc6bf6c203840aff97f16d1d3e2b754ea86cd7c65e64ff1aa3693d2727d61ff4", func := "gossamer/gossamerlaw11.UseAffine", spec := "useAffine", unfollowed := true, recurses := true, loops := true, apart := false }
def UseAffineSaid : Prop := useAffineRow.holds Try.pinned (OpenSpec.ofChange useAffineSpec)

/-- ITS FALSE NEIGHBOUR: 'it returns false'. Refute it at one input. -/
def useAffineWrong : ChangeSpec := { name := "useAffine", fn := fun _ => fun
  | [d1, d2] => { results := [.lit (.bool false)], args := [d1, d2] }
  | _ => none }
def UseAffineWrongFalsely : Prop := useAffineRow.holds Try.pinned (OpenSpec.ofChange useAffineWrong)

/-- 'gossamerlaw11.UseSteps': WHATEVER THE INPUT: true; the input reads as it did. -/
def useStepsSpec : ChangeSpec := { name := "useSteps", fn := fun _ => fun
  | [d] => { results := [.lit (.bool true)], args := [d] }
  | _ => none }
def useStepsRow : OpenClaim := { program := "ytlgekplmbmkcmaa", sum := "dc6bf6c203840aff97f16d1d3e2b754ea86cd7c65e64ff1aa3693d2727d61ff4", func := "gossamer/gossamerlaw11.UseSteps", spec := "useSteps", unfollowed := true, recurses := true, loops := true, apart := false }
def UseStepsSaid : Prop := useStepsRow.holds Try.pinned (OpenSpec.ofChange useStepsSpec)

/-- ITS FALSE NEIGHBOUR: 'it returns false'. Refute it at one input. -/
def useStepsWrong : ChangeSpec := { name := "useSteps", fn := fun _ => fun
  | [d] => { results := [.lit (.bool false)], args := [d] }
  | _ => none }
def UseStepsWrongFalsely : Prop := useStepsRow.holds Try.pinned (OpenSpec.ofChange useStepsWrong)

/- THE SECOND FORM. 'bulk': how many values and letters a reading holds, each counted each time it is reached (what is shared counts as often as it is met; a slice's spare places count too). A statement '..UptoSaid' is the law's where the arguments, and the package variables that the reading takes, are together of bulk at most 1048576: NARROWER than '..Said'. Prove '..Said' where nothing that the law and all that it calls make is longer than what came in: it says more and counts as full. Else prove '..UptoSaid'. A law counts once. -/
mutual
def uptoBulk {H : Type} : DataW H → Nat
  | .lit (.string bytes) => bytes.length + 1
  | .lit _ => 1
  | .nil => 1
  | .ptr d => uptoBulk d + 1
  | .slice elems spare => uptoBulkAll elems + uptoBulkAll spare + 1
  | .agg parts => uptoBulkAll parts + 1
  | .iface _ d => uptoBulk d + 1
  | .map entries => uptoBulkEntries entries + 1
  | .held _ => 1
def uptoBulkAll {H : Type} : List (DataW H) → Nat
  | [] => 0
  | d :: r => uptoBulk d + uptoBulkAll r
def uptoBulkEntries {H : Type} : List (Lit × DataW H) → Nat
  | [] => 0
  | x :: r => uptoBulkEntry x + uptoBulkEntries r
def uptoBulkEntry {H : Type} : Lit × DataW H → Nat
  | (.string bytes, d) => bytes.length + uptoBulk d + 1
  | (_, d) => uptoBulk d + 1
 end
def uptoSmall : (H : Type) → List (DataW H) → Bool := fun _ ds => decide (uptoBulkAll ds ≤ 1048576)
def OpenSpec.upto (s : _root_.Go.ChangeSpec) : _root_.Go.OpenSpec := { _root_.Go.OpenSpec.ofChange s with cond := some uptoSmall }

/-- 'gossamerlaw08.SubstTells', WHERE WHAT IT READS IS OF BULK AT MOST 1048576: true; the input reads as it did. -/
def substTellsUptoRow : OpenClaim := { program := "ytlgekplmbmkcmaa", sum := "dc6bf6c203840aff97f16d1d3e2b754ea86cd7c65e64ff1aa3693d2727d61ff4", func := "gossamer/gossamerlaw08.SubstTells", spec := "substTells", unfollowed := true, recurses := true, loops := true, apart := false, narrowed := true }
def SubstTellsUptoSaid : Prop := substTellsUptoRow.holds Try.pinned (OpenSpec.upto substTellsSpec)

/-- 'gossamerlaw08.SubstInst', WHERE WHAT IT READS IS OF BULK AT MOST 1048576: true; the input reads as it did. -/
def substInstUptoRow : OpenClaim := { program := "ytlgekplmbmkcmaa", sum := "dc6bf6c203840aff97f16d1d3e2b754ea86cd7c65e64ff1aa3693d2727d61ff4", func := "gossamer/gossamerlaw08.SubstInst", spec := "substInst", unfollowed := true, recurses := true, loops := true, apart := false, narrowed := true }
def SubstInstUptoSaid : Prop := substInstUptoRow.holds Try.pinned (OpenSpec.upto substInstSpec)

/-- 'gossamerlaw08.SubstSwaps', WHERE WHAT IT READS IS OF BULK AT MOST 1048576: true; the input reads as it did. -/
def substSwapsUptoRow : OpenClaim := { program := "ytlgekplmbmkcmaa", sum := "dc6bf6c203840aff97f16d1d3e2b754ea86cd7c65e64ff1aa3693d2727d61ff4", func := "gossamer/gossamerlaw08.SubstSwaps", spec := "substSwaps", unfollowed := true, recurses := true, loops := true, apart := false, narrowed := true }
def SubstSwapsUptoSaid : Prop := substSwapsUptoRow.holds Try.pinned (OpenSpec.upto substSwapsSpec)

/-- 'gossamerlaw08.SubstUses', WHERE WHAT IT READS IS OF BULK AT MOST 1048576: true; the input reads as it did. -/
def substUsesUptoRow : OpenClaim := { program := "ytlgekplmbmkcmaa", sum := "dc6bf6c203840aff97f16d1d3e2b754ea86cd7c65e64ff1aa3693d2727d61ff4", func := "gossamer/gossamerlaw08.SubstUses", spec := "substUses", unfollowed := true, recurses := true, loops := true, apart := false, narrowed := true }
def SubstUsesUptoSaid : Prop := substUsesUptoRow.holds Try.pinned (OpenSpec.upto substUsesSpec)

/-- 'gossamerlaw08.SubstUps', WHERE WHAT IT READS IS OF BULK AT MOST 1048576: true; the input reads as it did. -/
def substUpsUptoRow : OpenClaim := { program := "ytlgekplmbmkcmaa", sum := "dc6bf6c203840aff97f16d1d3e2b754ea86cd7c65e64ff1aa3693d2727d61ff4", func := "gossamer/gossamerlaw08.SubstUps", spec := "substUps", unfollowed := true, recurses := true, loops := true, apart := false, narrowed := true }
def SubstUpsUptoSaid : Prop := substUpsUptoRow.holds Try.pinned (OpenSpec.upto substUpsSpec)

/-- 'gossamerlaw08.SubstBinds', WHERE WHAT IT READS IS OF BULK AT MOST 1048576: true; the input reads as it did. -/
def substBindsUptoRow : OpenClaim := { program := "ytlgekplmbmkcmaa", sum := "dc6bf6c203840aff97f16d1d3e2b754ea86cd7c65e64ff1aa3693d2727d61ff4", func := "gossamer/gossamerlaw08.SubstBinds", spec := "substBinds", unfollowed := true, recurses := true, loops := true, apart := false, narrowed := true }
def SubstBindsUptoSaid : Prop := substBindsUptoRow.holds Try.pinned (OpenSpec.upto substBindsSpec)

/-- 'gossamerlaw11.UseTells', WHERE WHAT IT READS IS OF BULK AT MOST 1048576: true; the input reads as it did. -/
def useTellsUptoRow : OpenClaim := { program := "ytlgekplmbmkcmaa", sum := "dc6bf6c203840aff97f16d1d3e2b754ea86cd7c65e64ff1aa3693d2727d61ff4", func := "gossamer/gossamerlaw11.UseTells", spec := "useTells", unfollowed := true, recurses := true, loops := true, apart := false, narrowed := true }
def UseTellsUptoSaid : Prop := useTellsUptoRow.holds Try.pinned (OpenSpec.upto useTellsSpec)

/-- 'gossamerlaw11.UseCounts', WHERE WHAT IT READS IS OF BULK AT MOST 1048576: true; the input reads as it did. -/
def useCountsUptoRow : OpenClaim := { program := "ytlgekplmbmkcmaa", sum := "dc6bf6c203840aff97f16d1d3e2b754ea86cd7c65e64ff1aa3693d2727d61ff4", func := "gossamer/gossamerlaw11.UseCounts", spec := "useCounts", unfollowed := true, recurses := true, loops := true, apart := false, narrowed := true }
def UseCountsUptoSaid : Prop := useCountsUptoRow.holds Try.pinned (OpenSpec.upto useCountsSpec)

/-- 'gossamerlaw11.UseLams', WHERE WHAT IT READS IS OF BULK AT MOST 1048576: true; the input reads as it did. -/
def useLamsUptoRow : OpenClaim := { program := "ytlgekplmbmkcmaa", sum := "dc6bf6c203840aff97f16d1d3e2b754ea86cd7c65e64ff1aa3693d2727d61ff4", func := "gossamer/gossamerlaw11.UseLams", spec := "useLams", unfollowed := true, recurses := true, loops := true, apart := false, narrowed := true }
def UseLamsUptoSaid : Prop := useLamsUptoRow.holds Try.pinned (OpenSpec.upto useLamsSpec)

/-- 'gossamerlaw11.UsePuts', WHERE WHAT IT READS IS OF BULK AT MOST 1048576: true; the input reads as it did. -/
def usePutsUptoRow : OpenClaim := { program := "ytlgekplmbmkcmaa", sum := "dc6bf6c203840aff97f16d1d3e2b754ea86cd7c65e64ff1aa3693d2727d61ff4", func := "gossamer/gossamerlaw11.UsePuts", spec := "usePuts", unfollowed := true, recurses := true, loops := true, apart := false, narrowed := true }
def UsePutsUptoSaid : Prop := usePutsUptoRow.holds Try.pinned (OpenSpec.upto usePutsSpec)

/-- 'gossamerlaw11.UseAffine', WHERE WHAT IT READS IS OF BULK AT MOST 1048576: true; the input reads as it did. -/
def useAffineUptoRow : OpenClaim := { program := "ytlgekplmbmkcmaa", sum := "dc6bf6c203840aff97f16d1d3e2b754ea86cd7c65e64ff1aa3693d2727d61ff4", func := "gossamer/gossamerlaw11.UseAffine", spec := "useAffine", unfollowed := true, recurses := true, loops := true, apart := false, narrowed := true }
def UseAffineUptoSaid : Prop := useAffineUptoRow.holds Try.pinned (OpenSpec.upto useAffineSpec)

/-- 'gossamerlaw11.UseSteps', WHERE WHAT IT READS IS OF BULK AT MOST 1048576: true; the input reads as it did. -/
def useStepsUptoRow : OpenClaim := { program := "ytlgekplmbmkcmaa", sum := "dc6bf6c203840aff97f16d1d3e2b754ea86cd7c65e64ff1aa3693d2727d61ff4", func := "gossamer/gossamerlaw11.UseSteps", spec := "useSteps", unfollowed := true, recurses := true, loops := true, apart := false, narrowed := true }
def UseStepsUptoSaid : Prop := useStepsUptoRow.holds Try.pinned (OpenSpec.upto useStepsSpec)

end Rows
end Go.Proofs.Ytlgekplmbmkcmaa
