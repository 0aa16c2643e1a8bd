/-
  No cell of these rows narrows 'for every input' (looked for: loops, veiled, ifaces, maps, wideKeys, modest, calm, conditions, laid).
  DERIVED. THE GIVEN ROWS OF THIS SEAT. 10 by the template 'for every input the law returns true; each argument reads behind the call as it read before'; 0 by the template 'total and deterministic' (their statements: YtgdaanehmdgmeaaTotals.lean).
  GIVEN WITH THE SEED: the statements are not yours to turn. If you find one false, say at which input.
  Laid BY PROGRAM, IN A SANDBOX (cutbox-rows.mjs): the forced cells as the released guide's own fill.sh prints them over the translation a35ce21cb0e9ea82… (all of the seat's roots in one cut). By AI agents, Wed Nov 11 2026. No macro, syntax, notation, axiom, sorry.
-/
import Derived.Test.YtgdaanehmdgmeaaChecked
import GoSem.Claim
import GoSem.ClaimJoined
import GoSem.ClaimMapViews
import Derived.JoinedTies
import Derived.KernelRfl
namespace Go.Proofs.Ytgdaanehmdgmeaa
/- THE CELL 'sum', in the pinned program and in every row, IS THE sha256 OF THE DUMP (.gsa) THAT YtgdaanehmdgmeaaProg.lean LOADS. Nothing in Lean hashes anything: it is a label: what it is worth is what the hold of that sum in a sandbox is worth. -/
noncomputable def Try.pinned : Pinned := { name := "ytgdaanehmdgmeaa", sum := "a35ce21cb0e9ea82ab38fb48c858658ff17c870a300e53a18b2f4bcf55565bb6", checked := Try.checked }
namespace Rows
def none {H : Type} : Left H := { results := [], args := [] }

/-- 'gossamerlaw13.WireTells': WHATEVER THE INPUT: true; the input reads as it did. -/
def wireTellsSpec : ChangeSpec := { name := "wireTells", fn := fun _ => fun
  | [d1, d2] => { results := [.lit (.bool true)], args := [d1, d2] }
  | _ => none }
def wireTellsRow : OpenClaim := { program := "ytgdaanehmdgmeaa", sum := "a35ce21cb0e9ea82ab38fb48c858658ff17c870a300e53a18b2f4bcf55565bb6", func := "gossamer/gossamerlaw13.WireTells", spec := "wireTells", unfollowed := true, recurses := true, apart := false }
def WireTellsSaid : Prop := wireTellsRow.holds Try.pinned (OpenSpec.ofChange wireTellsSpec)

/-- ITS FALSE NEIGHBOUR: 'it returns false'. Refute it at one input. -/
def wireTellsWrong : ChangeSpec := { name := "wireTells", fn := fun _ => fun
  | [d1, d2] => { results := [.lit (.bool false)], args := [d1, d2] }
  | _ => none }
def WireTellsWrongFalsely : Prop := wireTellsRow.holds Try.pinned (OpenSpec.ofChange wireTellsWrong)

/-- 'gossamerlaw13.WireMoves': WHATEVER THE INPUT: true; the input reads as it did. -/
def wireMovesSpec : ChangeSpec := { name := "wireMoves", fn := fun _ => fun
  | [d1, d2] => { results := [.lit (.bool true)], args := [d1, d2] }
  | _ => none }
def wireMovesRow : OpenClaim := { program := "ytgdaanehmdgmeaa", sum := "a35ce21cb0e9ea82ab38fb48c858658ff17c870a300e53a18b2f4bcf55565bb6", func := "gossamer/gossamerlaw13.WireMoves", spec := "wireMoves", unfollowed := true, recurses := true, apart := false }
def WireMovesSaid : Prop := wireMovesRow.holds Try.pinned (OpenSpec.ofChange wireMovesSpec)

/-- ITS FALSE NEIGHBOUR: 'it returns false'. Refute it at one input. -/
def wireMovesWrong : ChangeSpec := { name := "wireMoves", fn := fun _ => fun
  | [d1, d2] => { results := [.lit (.bool false)], args := [d1, d2] }
  | _ => none }
def WireMovesWrongFalsely : Prop := wireMovesRow.holds Try.pinned (OpenSpec.ofChange wireMovesWrong)

/-- 'gossamerlaw13.WireLinks': WHATEVER THE INPUT: true; the input reads as it did. -/
def wireLinksSpec : ChangeSpec := { name := "wireLinks", fn := fun _ => fun
  | [d1, d2] => { results := [.lit (.bool true)], args := [d1, d2] }
  | _ => none }
def wireLinksRow : OpenClaim := { program := "ytgdaanehmdgmeaa", sum := "a35ce21cb0e9ea82ab38fb48c858658ff17c870a300e53a18b2f4bcf55565bb6", func := "gossamer/gossamerlaw13.WireLinks", spec := "wireLinks", unfollowed := true, recurses := true, apart := false }
def WireLinksSaid : Prop := wireLinksRow.holds Try.pinned (OpenSpec.ofChange wireLinksSpec)

/-- ITS FALSE NEIGHBOUR: 'it returns false'. Refute it at one input. -/
def wireLinksWrong : ChangeSpec := { name := "wireLinks", fn := fun _ => fun
  | [d1, d2] => { results := [.lit (.bool false)], args := [d1, d2] }
  | _ => none }
def WireLinksWrongFalsely : Prop := wireLinksRow.holds Try.pinned (OpenSpec.ofChange wireLinksWrong)

/-- 'gossamerlaw13.WireBack': WHATEVER THE INPUT: true; the input reads as it did. -/
def wireBackSpec : ChangeSpec := { name := "wireBack", fn := fun _ => fun
  | [d1, d2] => { results := [.lit (.bool true)], args := [d1, d2] }
  | _ => none }
def wireBackRow : OpenClaim := { program := "ytgdaanehmdgmeaa", sum := "a35ce21cb0e9ea82ab38fb48c858658ff17c870a300e53a18b2f4bcf55565bb6", func := "gossamer/gossamerlaw13.WireBack", spec := "wireBack", unfollowed := true, recurses := true, apart := false }
def WireBackSaid : Prop := wireBackRow.holds Try.pinned (OpenSpec.ofChange wireBackSpec)

/-- ITS FALSE NEIGHBOUR: 'it returns false'. Refute it at one input. -/
def wireBackWrong : ChangeSpec := { name := "wireBack", fn := fun _ => fun
  | [d1, d2] => { results := [.lit (.bool false)], args := [d1, d2] }
  | _ => none }
def WireBackWrongFalsely : Prop := wireBackRow.holds Try.pinned (OpenSpec.ofChange wireBackWrong)

/-- 'gossamerlaw13.WireNone': WHATEVER THE INPUT: true; the input reads as it did. -/
def wireNoneSpec : ChangeSpec := { name := "wireNone", fn := fun _ => fun
  | [d1, d2] => { results := [.lit (.bool true)], args := [d1, d2] }
  | _ => none }
def wireNoneRow : OpenClaim := { program := "ytgdaanehmdgmeaa", sum := "a35ce21cb0e9ea82ab38fb48c858658ff17c870a300e53a18b2f4bcf55565bb6", func := "gossamer/gossamerlaw13.WireNone", spec := "wireNone", unfollowed := true, recurses := true, apart := false }
def WireNoneSaid : Prop := wireNoneRow.holds Try.pinned (OpenSpec.ofChange wireNoneSpec)

/-- ITS FALSE NEIGHBOUR: 'it returns false'. Refute it at one input. -/
def wireNoneWrong : ChangeSpec := { name := "wireNone", fn := fun _ => fun
  | [d1, d2] => { results := [.lit (.bool false)], args := [d1, d2] }
  | _ => none }
def WireNoneWrongFalsely : Prop := wireNoneRow.holds Try.pinned (OpenSpec.ofChange wireNoneWrong)

/-- 'gossamerlaw12.StoreBack': WHATEVER THE INPUT: true; the input reads as it did. -/
def storeBackSpec : ChangeSpec := { name := "storeBack", fn := fun _ => fun
  | [d1, d2] => { results := [.lit (.bool true)], args := [d1, d2] }
  | _ => none }
def storeBackRow : OpenClaim := { program := "ytgdaanehmdgmeaa", sum := "a35ce21cb0e9ea82ab38fb48c858658ff17c870a300e53a18b2f4bcf55565bb6", func := "gossamer/gossamerlaw12.StoreBack", spec := "storeBack", unfollowed := true, recurses := true, apart := false }
def StoreBackSaid : Prop := storeBackRow.holds Try.pinned (OpenSpec.ofChange storeBackSpec)

/-- ITS FALSE NEIGHBOUR: 'it returns false'. Refute it at one input. -/
def storeBackWrong : ChangeSpec := { name := "storeBack", fn := fun _ => fun
  | [d1, d2] => { results := [.lit (.bool false)], args := [d1, d2] }
  | _ => none }
def StoreBackWrongFalsely : Prop := storeBackRow.holds Try.pinned (OpenSpec.ofChange storeBackWrong)

/-- 'gossamerlaw12.StoreParts': WHATEVER THE INPUT: true; the input reads as it did. -/
def storePartsSpec : ChangeSpec := { name := "storeParts", fn := fun _ => fun
  | [d1, d2] => { results := [.lit (.bool true)], args := [d1, d2] }
  | _ => none }
def storePartsRow : OpenClaim := { program := "ytgdaanehmdgmeaa", sum := "a35ce21cb0e9ea82ab38fb48c858658ff17c870a300e53a18b2f4bcf55565bb6", func := "gossamer/gossamerlaw12.StoreParts", spec := "storeParts", unfollowed := true, recurses := true, apart := false }
def StorePartsSaid : Prop := storePartsRow.holds Try.pinned (OpenSpec.ofChange storePartsSpec)

/-- ITS FALSE NEIGHBOUR: 'it returns false'. Refute it at one input. -/
def storePartsWrong : ChangeSpec := { name := "storeParts", fn := fun _ => fun
  | [d1, d2] => { results := [.lit (.bool false)], args := [d1, d2] }
  | _ => none }
def StorePartsWrongFalsely : Prop := storePartsRow.holds Try.pinned (OpenSpec.ofChange storePartsWrong)

/-- 'gossamerlaw12.StoreFills': WHATEVER THE INPUT: true; the input reads as it did. -/
def storeFillsSpec : ChangeSpec := { name := "storeFills", fn := fun _ => fun
  | [d1, d2] => { results := [.lit (.bool true)], args := [d1, d2] }
  | _ => none }
def storeFillsRow : OpenClaim := { program := "ytgdaanehmdgmeaa", sum := "a35ce21cb0e9ea82ab38fb48c858658ff17c870a300e53a18b2f4bcf55565bb6", func := "gossamer/gossamerlaw12.StoreFills", spec := "storeFills", unfollowed := true, recurses := true, apart := false }
def StoreFillsSaid : Prop := storeFillsRow.holds Try.pinned (OpenSpec.ofChange storeFillsSpec)

/-- ITS FALSE NEIGHBOUR: 'it returns false'. Refute it at one input. -/
def storeFillsWrong : ChangeSpec := { name := "storeFills", fn := fun _ => fun
  | [d1, d2] => { results := [.lit (.bool false)], args := [d1, d2] }
  | _ => none }
def StoreFillsWrongFalsely : Prop := storeFillsRow.holds Try.pinned (OpenSpec.ofChange storeFillsWrong)

/-- 'gossamerlaw12.StoreLinks': WHATEVER THE INPUT: true; the input reads as it did. -/
def storeLinksSpec : ChangeSpec := { name := "storeLinks", fn := fun _ => fun
  | [d1, d2, d3] => { results := [.lit (.bool true)], args := [d1, d2, d3] }
  | _ => none }
def storeLinksRow : OpenClaim := { program := "ytgdaanehmdgmeaa", sum := "a35ce21cb0e9ea82ab38fb48c858658ff17c870a300e53a18b2f4bcf55565bb6", func := "gossamer/gossamerlaw12.StoreLinks", spec := "storeLinks", unfollowed := true, recurses := true, apart := false }
def StoreLinksSaid : Prop := storeLinksRow.holds Try.pinned (OpenSpec.ofChange storeLinksSpec)

/-- ITS FALSE NEIGHBOUR: 'it returns false'. Refute it at one input. -/
def storeLinksWrong : ChangeSpec := { name := "storeLinks", fn := fun _ => fun
  | [d1, d2, d3] => { results := [.lit (.bool false)], args := [d1, d2, d3] }
  | _ => none }
def StoreLinksWrongFalsely : Prop := storeLinksRow.holds Try.pinned (OpenSpec.ofChange storeLinksWrong)

/-- 'gossamerlaw12.StorePorts': WHATEVER THE INPUT: true; the input reads as it did. -/
def storePortsSpec : ChangeSpec := { name := "storePorts", fn := fun _ => fun
  | [d] => { results := [.lit (.bool true)], args := [d] }
  | _ => none }
def storePortsRow : OpenClaim := { program := "ytgdaanehmdgmeaa", sum := "a35ce21cb0e9ea82ab38fb48c858658ff17c870a300e53a18b2f4bcf55565bb6", func := "gossamer/gossamerlaw12.StorePorts", spec := "storePorts", unfollowed := true, recurses := true, apart := false }
def StorePortsSaid : Prop := storePortsRow.holds Try.pinned (OpenSpec.ofChange storePortsSpec)

/-- ITS FALSE NEIGHBOUR: 'it returns false'. Refute it at one input. -/
def storePortsWrong : ChangeSpec := { name := "storePorts", fn := fun _ => fun
  | [d] => { results := [.lit (.bool false)], args := [d] }
  | _ => none }
def StorePortsWrongFalsely : Prop := storePortsRow.holds Try.pinned (OpenSpec.ofChange storePortsWrong)

/- THE SECOND FORM. 'bulk': how many values and letters a reading holds, each counted each time it is reached (what is shared counts as often as it is met; a slice's spare places count too). A statement '..UptoSaid' is the law's where the arguments, and the package variables that the reading takes, are together of bulk at most 1048576: NARROWER than '..Said'. Prove '..Said' where nothing that the law and all that it calls make is longer than what came in: it says more and counts as full. Else prove '..UptoSaid'. A law counts once. -/
mutual
def uptoBulk {H : Type} : DataW H → Nat
  | .lit (.string bytes) => bytes.length + 1
  | .lit _ => 1
  | .nil => 1
  | .ptr d => uptoBulk d + 1
  | .slice elems spare => uptoBulkAll elems + uptoBulkAll spare + 1
  | .agg parts => uptoBulkAll parts + 1
  | .iface _ d => uptoBulk d + 1
  | .map entries => uptoBulkEntries entries + 1
  | .held _ => 1
def uptoBulkAll {H : Type} : List (DataW H) → Nat
  | [] => 0
  | d :: r => uptoBulk d + uptoBulkAll r
def uptoBulkEntries {H : Type} : List (Lit × DataW H) → Nat
  | [] => 0
  | x :: r => uptoBulkEntry x + uptoBulkEntries r
def uptoBulkEntry {H : Type} : Lit × DataW H → Nat
  | (.string bytes, d) => bytes.length + uptoBulk d + 1
  | (_, d) => uptoBulk d + 1
 end
def uptoSmall : (H : Type) → List (DataW H) → Bool := fun _ ds => decide (uptoBulkAll ds ≤ 1048576)
def OpenSpec.upto (s : _root_.Go.ChangeSpec) : _root_.Go.OpenSpec := { _root_.Go.OpenSpec.ofChange s with cond := some uptoSmall }

/-- 'gossamerlaw13.WireTells', WHERE WHAT IT READS IS OF BULK AT MOST 1048576: true; the input reads as it did. -/
def wireTellsUptoRow : OpenClaim := { program := "ytgdaanehmdgmeaa", sum := "a35ce21cb0e9ea82ab38fb48c858658ff17c870a300e53a18b2f4bcf55565bb6", func := "gossamer/gossamerlaw13.WireTells", spec := "wireTells", unfollowed := true, recurses := true, apart := false, narrowed := true }
def WireTellsUptoSaid : Prop := wireTellsUptoRow.holds Try.pinned (OpenSpec.upto wireTellsSpec)

/-- 'gossamerlaw13.WireMoves', WHERE WHAT IT READS IS OF BULK AT MOST 1048576: true; the input reads as it did. -/
def wireMovesUptoRow : OpenClaim := { program := "ytgdaanehmdgmeaa", sum := "a35ce21cb0e9ea82ab38fb48c858658ff17c870a300e53a18b2f4bcf55565bb6", func := "gossamer/gossamerlaw13.WireMoves", spec := "wireMoves", unfollowed := true, recurses := true, apart := false, narrowed := true }
def WireMovesUptoSaid : Prop := wireMovesUptoRow.holds Try.pinned (OpenSpec.upto wireMovesSpec)

/-- 'gossamerlaw13.WireLinks', WHERE WHAT IT READS IS OF BULK AT MOST 1048576: true; the input reads as it did. -/
def wireLinksUptoRow : OpenClaim := { program := "ytgdaanehmdgmeaa", sum := "a35ce21cb0e9ea82ab38fb48c858658ff17c870a300e53a18b2f4bcf55565bb6", func := "gossamer/gossamerlaw13.WireLinks", spec := "wireLinks", unfollowed := true, recurses := true, apart := false, narrowed := true }
def WireLinksUptoSaid : Prop := wireLinksUptoRow.holds Try.pinned (OpenSpec.upto wireLinksSpec)

/-- 'gossamerlaw13.WireBack', WHERE WHAT IT READS IS OF BULK AT MOST 1048576: true; the input reads as it did. -/
def wireBackUptoRow : OpenClaim := { program := "ytgdaanehmdgmeaa", sum := "a35ce21cb0e9ea82ab38fb48c858658ff17c870a300e53a18b2f4bcf55565bb6", func := "gossamer/gossamerlaw13.WireBack", spec := "wireBack", unfollowed := true, recurses := true, apart := false, narrowed := true }
def WireBackUptoSaid : Prop := wireBackUptoRow.holds Try.pinned (OpenSpec.upto wireBackSpec)

/-- 'gossamerlaw13.WireNone', WHERE WHAT IT READS IS OF BULK AT MOST 1048576: true; the input reads as it did. -/
def wireNoneUptoRow : OpenClaim := { program := "ytgdaanehmdgmeaa", sum := "a35ce21cb0e9ea82ab38fb48c858658ff17c870a300e53a18b2f4bcf55565bb6", func := "gossamer/gossamerlaw13.WireNone", spec := "wireNone", unfollowed := true, recurses := true, apart := false, narrowed := true }
def WireNoneUptoSaid : Prop := wireNoneUptoRow.holds Try.pinned (OpenSpec.upto wireNoneSpec)

/-- 'gossamerlaw12.StoreBack', WHERE WHAT IT READS IS OF BULK AT MOST 1048576: true; the input reads as it did. -/
def storeBackUptoRow : OpenClaim := { program := "ytgdaanehmdgmeaa", sum := "a35ce21cb0e9ea82ab38fb48c858658ff17c870a300e53a18b2f4bcf55565bb6", func := "gossamer/gossamerlaw12.StoreBack", spec := "storeBack", unfollowed := true, recurses := true, apart := false, narrowed := true }
def StoreBackUptoSaid : Prop := storeBackUptoRow.holds Try.pinned (OpenSpec.upto storeBackSpec)

/-- 'gossamerlaw12.StoreParts', WHERE WHAT IT READS IS OF BULK AT MOST 1048576: true; the input reads as it did. -/
def storePartsUptoRow : OpenClaim := { program := "ytgdaanehmdgmeaa", sum := "a35ce21cb0e9ea82ab38fb48c858658ff17c870a300e53a18b2f4bcf55565bb6", func := "gossamer/gossamerlaw12.StoreParts", spec := "storeParts", unfollowed := true, recurses := true, apart := false, narrowed := true }
def StorePartsUptoSaid : Prop := storePartsUptoRow.holds Try.pinned (OpenSpec.upto storePartsSpec)

/-- 'gossamerlaw12.StoreFills', WHERE WHAT IT READS IS OF BULK AT MOST 1048576: true; the input reads as it did. -/
def storeFillsUptoRow : OpenClaim := { program := "ytgdaanehmdgmeaa", sum := "a35ce21cb0e9ea82ab38fb48c858658ff17c870a300e53a18b2f4bcf55565bb6", func := "gossamer/gossamerlaw12.StoreFills", spec := "storeFills", unfollowed := true, recurses := true, apart := false, narrowed := true }
def StoreFillsUptoSaid : Prop := storeFillsUptoRow.holds Try.pinned (OpenSpec.upto storeFillsSpec)

/-- 'gossamerlaw12.StoreLinks', WHERE WHAT IT READS IS OF BULK AT MOST 1048576: true; the input reads as it did. -/
def storeLinksUptoRow : OpenClaim := { program := "ytgdaanehmdgmeaa", sum := "a35ce21cb0e9ea82ab38fb48c858658ff17c870a300e53a18b2f4bcf55565bb6", func := "gossamer/gossamerlaw12.StoreLinks", spec := "storeLinks", unfollowed := true, recurses := true, apart := false, narrowed := true }
def StoreLinksUptoSaid : Prop := storeLinksUptoRow.holds Try.pinned (OpenSpec.upto storeLinksSpec)

/-- 'gossamerlaw12.StorePorts', WHERE WHAT IT READS IS OF BULK AT MOST 1048576: true; the input reads as it did. -/
def storePortsUptoRow : OpenClaim := { program := "ytgdaanehmdgmeaa", sum := "a35ce21cb0e9ea82ab38fb48c858658ff17c870a300e53a18b2f4bcf55565bb6", func := "gossamer/gossamerlaw12.StorePorts", spec := "storePorts", unfollowed := true, recurses := true, apart := false, narrowed := true }
def StorePortsUptoSaid : Prop := storePortsUptoRow.holds Try.pinned (OpenSpec.upto storePortsSpec)

end Rows
end Go.Proofs.Ytgdaanehmdgmeaa
