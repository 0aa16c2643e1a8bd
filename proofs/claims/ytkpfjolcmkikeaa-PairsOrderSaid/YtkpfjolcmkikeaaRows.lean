/-
  NARROWER THAN 'FOR EVERY INPUT', by the rows' own cells (each row's printed sentence says how): SweepWoven: loops · WalkWoven: loops · PairsWoven: loops.
  DERIVED. THE GIVEN ROWS OF THIS SEAT. 14 by the template 'for every input the law returns true; each argument reads behind the call as it read before'; 0 by the template 'total and deterministic' (their statements: YtkpfjolcmkikeaaTotals.lean).
  GIVEN WITH THE SEED: the statements are not yours to turn. If you find one false, say at which input.
  Laid BY PROGRAM, IN A SANDBOX (cutbox-rows.mjs): the forced cells as the released guide's own fill.sh prints them over the translation 61138918bb1890fe… (all of the seat's roots in one cut). By AI agents, Wed Nov 11 2026. No macro, syntax, notation, axiom, sorry.
-/
import Derived.Test.YtkpfjolcmkikeaaChecked
import GoSem.Claim
import GoSem.ClaimJoined
import GoSem.ClaimMapViews
import Derived.JoinedTies
import Derived.KernelRfl
namespace Go.Proofs.Ytkpfjolcmkikeaa
/- THE CELL 'sum', in the pinned program and in every row, IS THE sha256 OF THE DUMP (.gsa) THAT YtkpfjolcmkikeaaProg.lean LOADS. Nothing in Lean hashes anything: it is a label: what it is worth is what the hold of that sum in a sandbox is worth. -/
noncomputable def Try.pinned : Pinned := { name := "ytkpfjolcmkikeaa", sum := "61138918bb1890fedf72c9dc82e282f28de106296ca0dbcdc7f7f6c267867b49", checked := Try.checked }
namespace Rows
def none {H : Type} : Left H := { results := [], args := [] }

/-- 'gossamerlaw18.SweepTells': WHATEVER THE INPUT: true; the input reads as it did. -/
def sweepTellsSpec : ChangeSpec := { name := "sweepTells", fn := fun _ => fun
  | [d] => { results := [.lit (.bool true)], args := [d] }
  | _ => none }
def sweepTellsRow : OpenClaim := { program := "ytkpfjolcmkikeaa", sum := "61138918bb1890fedf72c9dc82e282f28de106296ca0dbcdc7f7f6c267867b49", func := "gossamer/gossamerlaw18.SweepTells", spec := "sweepTells", unfollowed := true, recurses := true, apart := false }
def SweepTellsSaid : Prop := sweepTellsRow.holds Try.pinned (OpenSpec.ofChange sweepTellsSpec)

/-- ITS FALSE NEIGHBOUR: 'it returns false'. Refute it at one input. -/
def sweepTellsWrong : ChangeSpec := { name := "sweepTells", fn := fun _ => fun
  | [d] => { results := [.lit (.bool false)], args := [d] }
  | _ => none }
def SweepTellsWrongFalsely : Prop := sweepTellsRow.holds Try.pinned (OpenSpec.ofChange sweepTellsWrong)

/-- 'gossamerlaw18.SweepCloses': WHATEVER THE INPUT: true; the input reads as it did. -/
def sweepClosesSpec : ChangeSpec := { name := "sweepCloses", fn := fun _ => fun
  | [d] => { results := [.lit (.bool true)], args := [d] }
  | _ => none }
def sweepClosesRow : OpenClaim := { program := "ytkpfjolcmkikeaa", sum := "61138918bb1890fedf72c9dc82e282f28de106296ca0dbcdc7f7f6c267867b49", func := "gossamer/gossamerlaw18.SweepCloses", spec := "sweepCloses", unfollowed := true, recurses := true, apart := false }
def SweepClosesSaid : Prop := sweepClosesRow.holds Try.pinned (OpenSpec.ofChange sweepClosesSpec)

/-- ITS FALSE NEIGHBOUR: 'it returns false'. Refute it at one input. -/
def sweepClosesWrong : ChangeSpec := { name := "sweepCloses", fn := fun _ => fun
  | [d] => { results := [.lit (.bool false)], args := [d] }
  | _ => none }
def SweepClosesWrongFalsely : Prop := sweepClosesRow.holds Try.pinned (OpenSpec.ofChange sweepClosesWrong)

/-- 'gossamerlaw18.SweepWoven': WHATEVER THE INPUT: true; the input reads as it did. -/
def sweepWovenSpec : ChangeSpec := { name := "sweepWoven", fn := fun _ => fun
  | [d] => { results := [.lit (.bool true)], args := [d] }
  | _ => none }
def sweepWovenRow : OpenClaim := { program := "ytkpfjolcmkikeaa", sum := "61138918bb1890fedf72c9dc82e282f28de106296ca0dbcdc7f7f6c267867b49", func := "gossamer/gossamerlaw18.SweepWoven", spec := "sweepWoven", unfollowed := true, recurses := true, loops := true, apart := false }
def SweepWovenSaid : Prop := sweepWovenRow.holds Try.pinned (OpenSpec.ofChange sweepWovenSpec)

/-- ITS FALSE NEIGHBOUR: 'it returns false'. Refute it at one input. -/
def sweepWovenWrong : ChangeSpec := { name := "sweepWoven", fn := fun _ => fun
  | [d] => { results := [.lit (.bool false)], args := [d] }
  | _ => none }
def SweepWovenWrongFalsely : Prop := sweepWovenRow.holds Try.pinned (OpenSpec.ofChange sweepWovenWrong)

/-- 'gossamerlaw18.SweepAdds': WHATEVER THE INPUT: true; the input reads as it did. -/
def sweepAddsSpec : ChangeSpec := { name := "sweepAdds", fn := fun _ => fun
  | [d1, d2] => { results := [.lit (.bool true)], args := [d1, d2] }
  | _ => none }
def sweepAddsRow : OpenClaim := { program := "ytkpfjolcmkikeaa", sum := "61138918bb1890fedf72c9dc82e282f28de106296ca0dbcdc7f7f6c267867b49", func := "gossamer/gossamerlaw18.SweepAdds", spec := "sweepAdds", unfollowed := true, recurses := true, apart := false }
def SweepAddsSaid : Prop := sweepAddsRow.holds Try.pinned (OpenSpec.ofChange sweepAddsSpec)

/-- ITS FALSE NEIGHBOUR: 'it returns false'. Refute it at one input. -/
def sweepAddsWrong : ChangeSpec := { name := "sweepAdds", fn := fun _ => fun
  | [d1, d2] => { results := [.lit (.bool false)], args := [d1, d2] }
  | _ => none }
def SweepAddsWrongFalsely : Prop := sweepAddsRow.holds Try.pinned (OpenSpec.ofChange sweepAddsWrong)

/-- 'gossamerlaw19.WalkThere': WHATEVER THE INPUT: true; the input reads as it did. -/
def walkThereSpec : ChangeSpec := { name := "walkThere", fn := fun _ => fun
  | [d1, d2] => { results := [.lit (.bool true)], args := [d1, d2] }
  | _ => none }
def walkThereRow : OpenClaim := { program := "ytkpfjolcmkikeaa", sum := "61138918bb1890fedf72c9dc82e282f28de106296ca0dbcdc7f7f6c267867b49", func := "gossamer/gossamerlaw19.WalkThere", spec := "walkThere", unfollowed := true, recurses := true, apart := false }
def WalkThereSaid : Prop := walkThereRow.holds Try.pinned (OpenSpec.ofChange walkThereSpec)

/-- ITS FALSE NEIGHBOUR: 'it returns false'. Refute it at one input. -/
def walkThereWrong : ChangeSpec := { name := "walkThere", fn := fun _ => fun
  | [d1, d2] => { results := [.lit (.bool false)], args := [d1, d2] }
  | _ => none }
def WalkThereWrongFalsely : Prop := walkThereRow.holds Try.pinned (OpenSpec.ofChange walkThereWrong)

/-- 'gossamerlaw19.WalkWoven': WHATEVER THE INPUT: true; the input reads as it did. -/
def walkWovenSpec : ChangeSpec := { name := "walkWoven", fn := fun _ => fun
  | [d] => { results := [.lit (.bool true)], args := [d] }
  | _ => none }
def walkWovenRow : OpenClaim := { program := "ytkpfjolcmkikeaa", sum := "61138918bb1890fedf72c9dc82e282f28de106296ca0dbcdc7f7f6c267867b49", func := "gossamer/gossamerlaw19.WalkWoven", spec := "walkWoven", unfollowed := true, recurses := true, loops := true, apart := false }
def WalkWovenSaid : Prop := walkWovenRow.holds Try.pinned (OpenSpec.ofChange walkWovenSpec)

/-- ITS FALSE NEIGHBOUR: 'it returns false'. Refute it at one input. -/
def walkWovenWrong : ChangeSpec := { name := "walkWoven", fn := fun _ => fun
  | [d] => { results := [.lit (.bool false)], args := [d] }
  | _ => none }
def WalkWovenWrongFalsely : Prop := walkWovenRow.holds Try.pinned (OpenSpec.ofChange walkWovenWrong)

/-- 'gossamerlaw19.WalkNone': WHATEVER THE INPUT: true; the input reads as it did. -/
def walkNoneSpec : ChangeSpec := { name := "walkNone", fn := fun _ => fun
  | [d1, d2] => { results := [.lit (.bool true)], args := [d1, d2] }
  | _ => none }
def walkNoneRow : OpenClaim := { program := "ytkpfjolcmkikeaa", sum := "61138918bb1890fedf72c9dc82e282f28de106296ca0dbcdc7f7f6c267867b49", func := "gossamer/gossamerlaw19.WalkNone", spec := "walkNone", unfollowed := true, recurses := true, apart := false }
def WalkNoneSaid : Prop := walkNoneRow.holds Try.pinned (OpenSpec.ofChange walkNoneSpec)

/-- ITS FALSE NEIGHBOUR: 'it returns false'. Refute it at one input. -/
def walkNoneWrong : ChangeSpec := { name := "walkNone", fn := fun _ => fun
  | [d1, d2] => { results := [.lit (.bool false)], args := [d1, d2] }
  | _ => none }
def WalkNoneWrongFalsely : Prop := walkNoneRow.holds Try.pinned (OpenSpec.ofChange walkNoneWrong)

/-- 'gossamerlaw17.PairsTell': WHATEVER THE INPUT: true; the input reads as it did. -/
def pairsTellSpec : ChangeSpec := { name := "pairsTell", fn := fun _ => fun
  | [d1, d2] => { results := [.lit (.bool true)], args := [d1, d2] }
  | _ => none }
def pairsTellRow : OpenClaim := { program := "ytkpfjolcmkikeaa", sum := "61138918bb1890fedf72c9dc82e282f28de106296ca0dbcdc7f7f6c267867b49", func := "gossamer/gossamerlaw17.PairsTell", spec := "pairsTell", unfollowed := true, recurses := true, apart := false }
def PairsTellSaid : Prop := pairsTellRow.holds Try.pinned (OpenSpec.ofChange pairsTellSpec)

/-- ITS FALSE NEIGHBOUR: 'it returns false'. Refute it at one input. -/
def pairsTellWrong : ChangeSpec := { name := "pairsTell", fn := fun _ => fun
  | [d1, d2] => { results := [.lit (.bool false)], args := [d1, d2] }
  | _ => none }
def PairsTellWrongFalsely : Prop := pairsTellRow.holds Try.pinned (OpenSpec.ofChange pairsTellWrong)

/-- 'gossamerlaw17.PairsPick': WHATEVER THE INPUT: true; the input reads as it did. -/
def pairsPickSpec : ChangeSpec := { name := "pairsPick", fn := fun _ => fun
  | [d1, d2] => { results := [.lit (.bool true)], args := [d1, d2] }
  | _ => none }
def pairsPickRow : OpenClaim := { program := "ytkpfjolcmkikeaa", sum := "61138918bb1890fedf72c9dc82e282f28de106296ca0dbcdc7f7f6c267867b49", func := "gossamer/gossamerlaw17.PairsPick", spec := "pairsPick", unfollowed := true, recurses := true, apart := false }
def PairsPickSaid : Prop := pairsPickRow.holds Try.pinned (OpenSpec.ofChange pairsPickSpec)

/-- ITS FALSE NEIGHBOUR: 'it returns false'. Refute it at one input. -/
def pairsPickWrong : ChangeSpec := { name := "pairsPick", fn := fun _ => fun
  | [d1, d2] => { results := [.lit (.bool false)], args := [d1, d2] }
  | _ => none }
def PairsPickWrongFalsely : Prop := pairsPickRow.holds Try.pinned (OpenSpec.ofChange pairsPickWrong)

/-- 'gossamerlaw17.PairsMeet': WHATEVER THE INPUT: true; the input reads as it did. -/
def pairsMeetSpec : ChangeSpec := { name := "pairsMeet", fn := fun _ => fun
  | [d] => { results := [.lit (.bool true)], args := [d] }
  | _ => none }
def pairsMeetRow : OpenClaim := { program := "ytkpfjolcmkikeaa", sum := "61138918bb1890fedf72c9dc82e282f28de106296ca0dbcdc7f7f6c267867b49", func := "gossamer/gossamerlaw17.PairsMeet", spec := "pairsMeet", unfollowed := true, recurses := true, apart := false }
def PairsMeetSaid : Prop := pairsMeetRow.holds Try.pinned (OpenSpec.ofChange pairsMeetSpec)

/-- ITS FALSE NEIGHBOUR: 'it returns false'. Refute it at one input. -/
def pairsMeetWrong : ChangeSpec := { name := "pairsMeet", fn := fun _ => fun
  | [d] => { results := [.lit (.bool false)], args := [d] }
  | _ => none }
def PairsMeetWrongFalsely : Prop := pairsMeetRow.holds Try.pinned (OpenSpec.ofChange pairsMeetWrong)

/-- 'gossamerlaw17.PairsWoven': WHATEVER THE INPUT: true; the input reads as it did. -/
def pairsWovenSpec : ChangeSpec := { name := "pairsWoven", fn := fun _ => fun
  | [d] => { results := [.lit (.bool true)], args := [d] }
  | _ => none }
def pairsWovenRow : OpenClaim := { program := "ytkpfjolcmkikeaa", sum := "61138918bb1890fedf72c9dc82e282f28de106296ca0dbcdc7f7f6c267867b49", func := "gossamer/gossamerlaw17.PairsWoven", spec := "pairsWoven", unfollowed := true, recurses := true, loops := true, apart := false }
def PairsWovenSaid : Prop := pairsWovenRow.holds Try.pinned (OpenSpec.ofChange pairsWovenSpec)

/-- ITS FALSE NEIGHBOUR: 'it returns false'. Refute it at one input. -/
def pairsWovenWrong : ChangeSpec := { name := "pairsWoven", fn := fun _ => fun
  | [d] => { results := [.lit (.bool false)], args := [d] }
  | _ => none }
def PairsWovenWrongFalsely : Prop := pairsWovenRow.holds Try.pinned (OpenSpec.ofChange pairsWovenWrong)

/-- 'gossamerlaw18.SweepPairs': WHATEVER THE INPUT: true; the input reads as it did. -/
def sweepPairsSpec : ChangeSpec := { name := "sweepPairs", fn := fun _ => fun
  | [d] => { results := [.lit (.bool true)], args := [d] }
  | _ => none }
def sweepPairsRow : OpenClaim := { program := "ytkpfjolcmkikeaa", sum := "61138918bb1890fedf72c9dc82e282f28de106296ca0dbcdc7f7f6c267867b49", func := "gossamer/gossamerlaw18.SweepPairs", spec := "sweepPairs", unfollowed := true, recurses := true, apart := false }
def SweepPairsSaid : Prop := sweepPairsRow.holds Try.pinned (OpenSpec.ofChange sweepPairsSpec)

/-- ITS FALSE NEIGHBOUR: 'it returns false'. Refute it at one input. -/
def sweepPairsWrong : ChangeSpec := { name := "sweepPairs", fn := fun _ => fun
  | [d] => { results := [.lit (.bool false)], args := [d] }
  | _ => none }
def SweepPairsWrongFalsely : Prop := sweepPairsRow.holds Try.pinned (OpenSpec.ofChange sweepPairsWrong)

/-- 'gossamerlaw17.PairsApart': WHATEVER THE INPUT: true; the input reads as it did. -/
def pairsApartSpec : ChangeSpec := { name := "pairsApart", fn := fun _ => fun
  | [d1, d2] => { results := [.lit (.bool true)], args := [d1, d2] }
  | _ => none }
def pairsApartRow : OpenClaim := { program := "ytkpfjolcmkikeaa", sum := "61138918bb1890fedf72c9dc82e282f28de106296ca0dbcdc7f7f6c267867b49", func := "gossamer/gossamerlaw17.PairsApart", spec := "pairsApart", unfollowed := true, recurses := true, apart := false }
def PairsApartSaid : Prop := pairsApartRow.holds Try.pinned (OpenSpec.ofChange pairsApartSpec)

/-- ITS FALSE NEIGHBOUR: 'it returns false'. Refute it at one input. -/
def pairsApartWrong : ChangeSpec := { name := "pairsApart", fn := fun _ => fun
  | [d1, d2] => { results := [.lit (.bool false)], args := [d1, d2] }
  | _ => none }
def PairsApartWrongFalsely : Prop := pairsApartRow.holds Try.pinned (OpenSpec.ofChange pairsApartWrong)

/-- 'gossamerlaw17.PairsOrder': WHATEVER THE INPUT: true; the input reads as it did. -/
def pairsOrderSpec : ChangeSpec := { name := "pairsOrder", fn := fun _ => fun
  | [d1, d2, d3] => { results := [.lit (.bool true)], args := [d1, d2, d3] }
  | _ => none }
def pairsOrderRow : OpenClaim := { program := "ytkpfjolcmkikeaa", sum := "61138918bb1890fedf72c9dc82e282f28de106296ca0dbcdc7f7f6c267867b49", func := "gossamer/gossamerlaw17.PairsOrder", spec := "pairsOrder", unfollowed := true, recurses := true, apart := false }
def PairsOrderSaid : Prop := pairsOrderRow.holds Try.pinned (OpenSpec.ofChange pairsOrderSpec)

/-- ITS FALSE NEIGHBOUR: 'it returns false'. Refute it at one input. -/
def pairsOrderWrong : ChangeSpec := { name := "pairsOrder", fn := fun _ => fun
  | [d1, d2, d3] => { results := [.lit (.bool false)], args := [d1, d2, d3] }
  | _ => none }
def PairsOrderWrongFalsely : Prop := pairsOrderRow.holds Try.pinned (OpenSpec.ofChange pairsOrderWrong)

/- THE SECOND FORM. 'bulk': how many values and letters a reading holds, each counted each time it is reached (what is shared counts as often as it is met; a slice's spare places count too). A statement '..UptoSaid' is the law's where the arguments, and the package variables that the reading takes, are together of bulk at most 1048576: NARROWER than '..Said'. Prove '..Said' where nothing that the law and all that it calls make is longer than what came in: it says more and counts as full. Else prove '..UptoSaid'. A law counts once. -/
mutual
def uptoBulk {H : Type} : DataW H → Nat
  | .lit (.string bytes) => bytes.length + 1
  | .lit _ => 1
  | .nil => 1
  | .ptr d => uptoBulk d + 1
  | .slice elems spare => uptoBulkAll elems + uptoBulkAll spare + 1
  | .agg parts => uptoBulkAll parts + 1
  | .iface _ d => uptoBulk d + 1
  | .map entries => uptoBulkEntries entries + 1
  | .held _ => 1
def uptoBulkAll {H : Type} : List (DataW H) → Nat
  | [] => 0
  | d :: r => uptoBulk d + uptoBulkAll r
def uptoBulkEntries {H : Type} : List (Lit × DataW H) → Nat
  | [] => 0
  | x :: r => uptoBulkEntry x + uptoBulkEntries r
def uptoBulkEntry {H : Type} : Lit × DataW H → Nat
  | (.string bytes, d) => bytes.length + uptoBulk d + 1
  | (_, d) => uptoBulk d + 1
 end
def uptoSmall : (H : Type) → List (DataW H) → Bool := fun _ ds => decide (uptoBulkAll ds ≤ 1048576)
def OpenSpec.upto (s : _root_.Go.ChangeSpec) : _root_.Go.OpenSpec := { _root_.Go.OpenSpec.ofChange s with cond := some uptoSmall }

/-- 'gossamerlaw18.SweepTells', WHERE WHAT IT READS IS OF BULK AT MOST 1048576: true; the input reads as it did. -/
def sweepTellsUptoRow : OpenClaim := { program := "ytkpfjolcmkikeaa", sum := "61138918bb1890fedf72c9dc82e282f28de106296ca0dbcdc7f7f6c267867b49", func := "gossamer/gossamerlaw18.SweepTells", spec := "sweepTells", unfollowed := true, recurses := true, apart := false, narrowed := true }
def SweepTellsUptoSaid : Prop := sweepTellsUptoRow.holds Try.pinned (OpenSpec.upto sweepTellsSpec)

/-- 'gossamerlaw18.SweepCloses', WHERE WHAT IT READS IS OF BULK AT MOST 1048576: true; the input reads as it did. -/
def sweepClosesUptoRow : OpenClaim := { program := "ytkpfjolcmkikeaa", sum := "61138918bb1890fedf72c9dc82e282f28de106296ca0dbcdc7f7f6c267867b49", func := "gossamer/gossamerlaw18.SweepCloses", spec := "sweepCloses", unfollowed := true, recurses := true, apart := false, narrowed := true }
def SweepClosesUptoSaid : Prop := sweepClosesUptoRow.holds Try.pinned (OpenSpec.upto sweepClosesSpec)

/-- 'gossamerlaw18.SweepWoven', WHERE WHAT IT READS IS OF BULK AT MOST 1048576: true; the input reads as it did. -/
def sweepWovenUptoRow : OpenClaim := { program := "ytkpfjolcmkikeaa", sum := "61138918bb1890fedf72c9dc82e282f28de106296ca0dbcdc7f7f6c267867b49", func := "gossamer/gossamerlaw18.SweepWoven", spec := "sweepWoven", unfollowed := true, recurses := true, loops := true, apart := false, narrowed := true }
def SweepWovenUptoSaid : Prop := sweepWovenUptoRow.holds Try.pinned (OpenSpec.upto sweepWovenSpec)

/-- 'gossamerlaw18.SweepAdds', WHERE WHAT IT READS IS OF BULK AT MOST 1048576: true; the input reads as it did. -/
def sweepAddsUptoRow : OpenClaim := { program := "ytkpfjolcmkikeaa", sum := "61138918bb1890fedf72c9dc82e282f28de106296ca0dbcdc7f7f6c267867b49", func := "gossamer/gossamerlaw18.SweepAdds", spec := "sweepAdds", unfollowed := true, recurses := true, apart := false, narrowed := true }
def SweepAddsUptoSaid : Prop := sweepAddsUptoRow.holds Try.pinned (OpenSpec.upto sweepAddsSpec)

/-- 'gossamerlaw19.WalkThere', WHERE WHAT IT READS IS OF BULK AT MOST 1048576: true; the input reads as it did. -/
def walkThereUptoRow : OpenClaim := { program := "ytkpfjolcmkikeaa", sum := "61138918bb1890fedf72c9dc82e282f28de106296ca0dbcdc7f7f6c267867b49", func := "gossamer/gossamerlaw19.WalkThere", spec := "walkThere", unfollowed := true, recurses := true, apart := false, narrowed := true }
def WalkThereUptoSaid : Prop := walkThereUptoRow.holds Try.pinned (OpenSpec.upto walkThereSpec)

/-- 'gossamerlaw19.WalkWoven', WHERE WHAT IT READS IS OF BULK AT MOST 1048576: true; the input reads as it did. -/
def walkWovenUptoRow : OpenClaim := { program := "ytkpfjolcmkikeaa", sum := "61138918bb1890fedf72c9dc82e282f28de106296ca0dbcdc7f7f6c267867b49", func := "gossamer/gossamerlaw19.WalkWoven", spec := "walkWoven", unfollowed := true, recurses := true, loops := true, apart := false, narrowed := true }
def WalkWovenUptoSaid : Prop := walkWovenUptoRow.holds Try.pinned (OpenSpec.upto walkWovenSpec)

/-- 'gossamerlaw19.WalkNone', WHERE WHAT IT READS IS OF BULK AT MOST 1048576: true; the input reads as it did. -/
def walkNoneUptoRow : OpenClaim := { program := "ytkpfjolcmkikeaa", sum := "61138918bb1890fedf72c9dc82e282f28de106296ca0dbcdc7f7f6c267867b49", func := "gossamer/gossamerlaw19.WalkNone", spec := "walkNone", unfollowed := true, recurses := true, apart := false, narrowed := true }
def WalkNoneUptoSaid : Prop := walkNoneUptoRow.holds Try.pinned (OpenSpec.upto walkNoneSpec)

/-- 'gossamerlaw17.PairsTell', WHERE WHAT IT READS IS OF BULK AT MOST 1048576: true; the input reads as it did. -/
def pairsTellUptoRow : OpenClaim := { program := "ytkpfjolcmkikeaa", sum := "61138918bb1890fedf72c9dc82e282f28de106296ca0dbcdc7f7f6c267867b49", func := "gossamer/gossamerlaw17.PairsTell", spec := "pairsTell", unfollowed := true, recurses := true, apart := false, narrowed := true }
def PairsTellUptoSaid : Prop := pairsTellUptoRow.holds Try.pinned (OpenSpec.upto pairsTellSpec)

/-- 'gossamerlaw17.PairsPick', WHERE WHAT IT READS IS OF BULK AT MOST 1048576: true; the input reads as it did. -/
def pairsPickUptoRow : OpenClaim := { program := "ytkpfjolcmkikeaa", sum := "61138918bb1890fedf72c9dc82e282f28de106296ca0dbcdc7f7f6c267867b49", func := "gossamer/gossamerlaw17.PairsPick", spec := "pairsPick", unfollowed := true, recurses := true, apart := false, narrowed := true }
def PairsPickUptoSaid : Prop := pairsPickUptoRow.holds Try.pinned (OpenSpec.upto pairsPickSpec)

/-- 'gossamerlaw17.PairsMeet', WHERE WHAT IT READS IS OF BULK AT MOST 1048576: true; the input reads as it did. -/
def pairsMeetUptoRow : OpenClaim := { program := "ytkpfjolcmkikeaa", sum := "61138918bb1890fedf72c9dc82e282f28de106296ca0dbcdc7f7f6c267867b49", func := "gossamer/gossamerlaw17.PairsMeet", spec := "pairsMeet", unfollowed := true, recurses := true, apart := false, narrowed := true }
def PairsMeetUptoSaid : Prop := pairsMeetUptoRow.holds Try.pinned (OpenSpec.upto pairsMeetSpec)

/-- 'gossamerlaw17.PairsWoven', WHERE WHAT IT READS IS OF BULK AT MOST 1048576: true; the input reads as it did. -/
def pairsWovenUptoRow : OpenClaim := { program := "ytkpfjolcmkikeaa", sum := "61138918bb1890fedf72c9dc82e282f28de106296ca0dbcdc7f7f6c267867b49", func := "gossamer/gossamerlaw17.PairsWoven", spec := "pairsWoven", unfollowed := true, recurses := true, loops := true, apart := false, narrowed := true }
def PairsWovenUptoSaid : Prop := pairsWovenUptoRow.holds Try.pinned (OpenSpec.upto pairsWovenSpec)

/-- 'gossamerlaw18.SweepPairs', WHERE WHAT IT READS IS OF BULK AT MOST 1048576: true; the input reads as it did. -/
def sweepPairsUptoRow : OpenClaim := { program := "ytkpfjolcmkikeaa", sum := "61138918bb1890fedf72c9dc82e282f28de106296ca0dbcdc7f7f6c267867b49", func := "gossamer/gossamerlaw18.SweepPairs", spec := "sweepPairs", unfollowed := true, recurses := true, apart := false, narrowed := true }
def SweepPairsUptoSaid : Prop := sweepPairsUptoRow.holds Try.pinned (OpenSpec.upto sweepPairsSpec)

/-- 'gossamerlaw17.PairsApart', WHERE WHAT IT READS IS OF BULK AT MOST 1048576: true; the input reads as it did. -/
def pairsApartUptoRow : OpenClaim := { program := "ytkpfjolcmkikeaa", sum := "61138918bb1890fedf72c9dc82e282f28de106296ca0dbcdc7f7f6c267867b49", func := "gossamer/gossamerlaw17.PairsApart", spec := "pairsApart", unfollowed := true, recurses := true, apart := false, narrowed := true }
def PairsApartUptoSaid : Prop := pairsApartUptoRow.holds Try.pinned (OpenSpec.upto pairsApartSpec)

/-- 'gossamerlaw17.PairsOrder', WHERE WHAT IT READS IS OF BULK AT MOST 1048576: true; the input reads as it did. -/
def pairsOrderUptoRow : OpenClaim := { program := "ytkpfjolcmkikeaa", sum := "61138918bb1890fedf72c9dc82e282f28de106296ca0dbcdc7f7f6c267867b49", func := "gossamer/gossamerlaw17.PairsOrder", spec := "pairsOrder", unfollowed := true, recurses := true, apart := false, narrowed := true }
def PairsOrderUptoSaid : Prop := pairsOrderUptoRow.holds Try.pinned (OpenSpec.upto pairsOrderSpec)

end Rows
end Go.Proofs.Ytkpfjolcmkikeaa
