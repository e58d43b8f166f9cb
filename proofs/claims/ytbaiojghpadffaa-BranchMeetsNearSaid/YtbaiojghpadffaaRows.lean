/-
  No cell of these rows narrows 'for every input' (looked for: loops, veiled, ifaces, maps, wideKeys, modest, calm, conditions, laid).
  DERIVED. THE GIVEN ROWS OF THIS SEAT. 6 by the template 'for every input the law returns true; each argument reads behind the call as it read before'; 0 by the template 'total and deterministic' (their statements: YtbaiojghpadffaaTotals.lean).
  GIVEN WITH THE SEED: the statements are not yours to turn. If you find one false, say at which input.
  Laid BY PROGRAM, IN A SANDBOX (cutbox-rows.mjs): the forced cells as the released guide's own fill.sh prints them over the translation 5a1b53077deba620… (all of the seat's roots in one cut). By AI agents, Wed Nov 11 2026. No macro, syntax, notation, axiom, sorry.
-/
import Derived.Test.YtbaiojghpadffaaChecked
import GoSem.Claim
import GoSem.ClaimJoined
import GoSem.ClaimMapViews
import Derived.JoinedTies
import Derived.KernelRfl
namespace Go.Proofs.Ytbaiojghpadffaa
/- THE CELL 'sum', in the pinned program and in every row, IS THE sha256 OF THE DUMP (.gsa) THAT YtbaiojghpadffaaProg.lean LOADS. Nothing in Lean hashes anything: it is a label: what it is worth is what the hold of that sum in a sandbox is worth. -/
noncomputable def Try.pinned : Pinned := { name := "ytbaiojghpadffaa", sum := "5a1b53077deba6206fed6625718a56756ce15a820e61bdfee7e93edebe0675d8", checked := Try.checked }
namespace Rows
def none {H : Type} : Left H := { results := [], args := [] }

/-- 'lightclientlaw16.BranchLines': WHATEVER THE INPUT: true; the input reads as it did. -/
def branchLinesSpec : ChangeSpec := { name := "branchLines", fn := fun _ => fun
  | [d1, d2, d3, d4, d5] => { results := [.lit (.bool true)], args := [d1, d2, d3, d4, d5] }
  | _ => none }
def branchLinesRow : OpenClaim := { program := "ytbaiojghpadffaa", sum := "5a1b53077deba6206fed6625718a56756ce15a820e61bdfee7e93edebe0675d8", func := "lightclient/lightclientlaw16.BranchLines", spec := "branchLines", plainKeys := false, apart := false }
def BranchLinesSaid : Prop := branchLinesRow.holds Try.pinned (OpenSpec.ofChange branchLinesSpec)

/-- ITS FALSE NEIGHBOUR: 'it returns false'. Refute it at one input. -/
def branchLinesWrong : ChangeSpec := { name := "branchLines", fn := fun _ => fun
  | [d1, d2, d3, d4, d5] => { results := [.lit (.bool false)], args := [d1, d2, d3, d4, d5] }
  | _ => none }
def BranchLinesWrongFalsely : Prop := branchLinesRow.holds Try.pinned (OpenSpec.ofChange branchLinesWrong)

/-- 'lightclientlaw16.BranchShort': WHATEVER THE INPUT: true; the input reads as it did. -/
def branchShortSpec : ChangeSpec := { name := "branchShort", fn := fun _ => fun
  | [d1, d2] => { results := [.lit (.bool true)], args := [d1, d2] }
  | _ => none }
def branchShortRow : OpenClaim := { program := "ytbaiojghpadffaa", sum := "5a1b53077deba6206fed6625718a56756ce15a820e61bdfee7e93edebe0675d8", func := "lightclient/lightclientlaw16.BranchShort", spec := "branchShort", plainKeys := false, apart := false }
def BranchShortSaid : Prop := branchShortRow.holds Try.pinned (OpenSpec.ofChange branchShortSpec)

/-- ITS FALSE NEIGHBOUR: 'it returns false'. Refute it at one input. -/
def branchShortWrong : ChangeSpec := { name := "branchShort", fn := fun _ => fun
  | [d1, d2] => { results := [.lit (.bool false)], args := [d1, d2] }
  | _ => none }
def BranchShortWrongFalsely : Prop := branchShortRow.holds Try.pinned (OpenSpec.ofChange branchShortWrong)

/-- 'lightclientlaw16.BranchPaths': WHATEVER THE INPUT: true; the input reads as it did. -/
def branchPathsSpec : ChangeSpec := { name := "branchPaths", fn := fun _ => fun
  | [d1, d2, d3, d4] => { results := [.lit (.bool true)], args := [d1, d2, d3, d4] }
  | _ => none }
def branchPathsRow : OpenClaim := { program := "ytbaiojghpadffaa", sum := "5a1b53077deba6206fed6625718a56756ce15a820e61bdfee7e93edebe0675d8", func := "lightclient/lightclientlaw16.BranchPaths", spec := "branchPaths", plainKeys := false, apart := false }
def BranchPathsSaid : Prop := branchPathsRow.holds Try.pinned (OpenSpec.ofChange branchPathsSpec)

/-- ITS FALSE NEIGHBOUR: 'it returns false'. Refute it at one input. -/
def branchPathsWrong : ChangeSpec := { name := "branchPaths", fn := fun _ => fun
  | [d1, d2, d3, d4] => { results := [.lit (.bool false)], args := [d1, d2, d3, d4] }
  | _ => none }
def BranchPathsWrongFalsely : Prop := branchPathsRow.holds Try.pinned (OpenSpec.ofChange branchPathsWrong)

/-- 'lightclientlaw16.BranchWalks': WHATEVER THE INPUT: true; the input reads as it did. -/
def branchWalksSpec : ChangeSpec := { name := "branchWalks", fn := fun _ => fun
  | [d1, d2, d3] => { results := [.lit (.bool true)], args := [d1, d2, d3] }
  | _ => none }
def branchWalksRow : OpenClaim := { program := "ytbaiojghpadffaa", sum := "5a1b53077deba6206fed6625718a56756ce15a820e61bdfee7e93edebe0675d8", func := "lightclient/lightclientlaw16.BranchWalks", spec := "branchWalks", plainKeys := false, apart := false }
def BranchWalksSaid : Prop := branchWalksRow.holds Try.pinned (OpenSpec.ofChange branchWalksSpec)

/-- ITS FALSE NEIGHBOUR: 'it returns false'. Refute it at one input. -/
def branchWalksWrong : ChangeSpec := { name := "branchWalks", fn := fun _ => fun
  | [d1, d2, d3] => { results := [.lit (.bool false)], args := [d1, d2, d3] }
  | _ => none }
def BranchWalksWrongFalsely : Prop := branchWalksRow.holds Try.pinned (OpenSpec.ofChange branchWalksWrong)

/-- 'lightclientlaw16.BranchMeetsNear': WHATEVER THE INPUT: true; the input reads as it did. -/
def branchMeetsNearSpec : ChangeSpec := { name := "branchMeetsNear", fn := fun _ => fun
  | [d1, d2] => { results := [.lit (.bool true)], args := [d1, d2] }
  | _ => none }
def branchMeetsNearRow : OpenClaim := { program := "ytbaiojghpadffaa", sum := "5a1b53077deba6206fed6625718a56756ce15a820e61bdfee7e93edebe0675d8", func := "lightclient/lightclientlaw16.BranchMeetsNear", spec := "branchMeetsNear", plainKeys := false, apart := false }
def BranchMeetsNearSaid : Prop := branchMeetsNearRow.holds Try.pinned (OpenSpec.ofChange branchMeetsNearSpec)

/-- ITS FALSE NEIGHBOUR: 'it returns false'. Refute it at one input. -/
def branchMeetsNearWrong : ChangeSpec := { name := "branchMeetsNear", fn := fun _ => fun
  | [d1, d2] => { results := [.lit (.bool false)], args := [d1, d2] }
  | _ => none }
def BranchMeetsNearWrongFalsely : Prop := branchMeetsNearRow.holds Try.pinned (OpenSpec.ofChange branchMeetsNearWrong)

/-- 'lightclientlaw16.BranchSyncs': WHATEVER THE INPUT: true; the input reads as it did. -/
def branchSyncsSpec : ChangeSpec := { name := "branchSyncs", fn := fun _ => fun
  | [d1, d2, d3] => { results := [.lit (.bool true)], args := [d1, d2, d3] }
  | _ => none }
def branchSyncsRow : OpenClaim := { program := "ytbaiojghpadffaa", sum := "5a1b53077deba6206fed6625718a56756ce15a820e61bdfee7e93edebe0675d8", func := "lightclient/lightclientlaw16.BranchSyncs", spec := "branchSyncs", inPlace := ["math/bits.Add64", "math/bits.Sub64"], recurses := true, plainKeys := false, apart := false }
def BranchSyncsSaid : Prop := branchSyncsRow.holds Try.pinned (OpenSpec.ofChange branchSyncsSpec)

/-- ITS FALSE NEIGHBOUR: 'it returns false'. Refute it at one input. -/
def branchSyncsWrong : ChangeSpec := { name := "branchSyncs", fn := fun _ => fun
  | [d1, d2, d3] => { results := [.lit (.bool false)], args := [d1, d2, d3] }
  | _ => none }
def BranchSyncsWrongFalsely : Prop := branchSyncsRow.holds Try.pinned (OpenSpec.ofChange branchSyncsWrong)

/- THE SECOND FORM. 'bulk': how many values and letters a reading holds, each counted each time it is reached (what is shared counts as often as it is met; a slice's spare places count too). A statement '..UptoSaid' is the law's where the arguments, and the package variables that the reading takes, are together of bulk at most 1048576: NARROWER than '..Said'. Prove '..Said' where nothing that the law and all that it calls make is longer than what came in: it says more and counts as full. Else prove '..UptoSaid'. A law counts once. -/
mutual
def uptoBulk {H : Type} : DataW H → Nat
  | .lit (.string bytes) => bytes.length + 1
  | .lit _ => 1
  | .nil => 1
  | .ptr d => uptoBulk d + 1
  | .slice elems spare => uptoBulkAll elems + uptoBulkAll spare + 1
  | .agg parts => uptoBulkAll parts + 1
  | .iface _ d => uptoBulk d + 1
  | .map entries => uptoBulkEntries entries + 1
  | .held _ => 1
def uptoBulkAll {H : Type} : List (DataW H) → Nat
  | [] => 0
  | d :: r => uptoBulk d + uptoBulkAll r
def uptoBulkEntries {H : Type} : List (Lit × DataW H) → Nat
  | [] => 0
  | x :: r => uptoBulkEntry x + uptoBulkEntries r
def uptoBulkEntry {H : Type} : Lit × DataW H → Nat
  | (.string bytes, d) => bytes.length + uptoBulk d + 1
  | (_, d) => uptoBulk d + 1
 end
def uptoSmall : (H : Type) → List (DataW H) → Bool := fun _ ds => decide (uptoBulkAll ds ≤ 1048576)
def OpenSpec.upto (s : _root_.Go.ChangeSpec) : _root_.Go.OpenSpec := { _root_.Go.OpenSpec.ofChange s with cond := some uptoSmall }

/-- 'lightclientlaw16.BranchLines', WHERE WHAT IT READS IS OF BULK AT MOST 1048576: true; the input reads as it did. -/
def branchLinesUptoRow : OpenClaim := { program := "ytbaiojghpadffaa", sum := "5a1b53077deba6206fed6625718a56756ce15a820e61bdfee7e93edebe0675d8", func := "lightclient/lightclientlaw16.BranchLines", spec := "branchLines", plainKeys := false, apart := false, narrowed := true }
def BranchLinesUptoSaid : Prop := branchLinesUptoRow.holds Try.pinned (OpenSpec.upto branchLinesSpec)

/-- 'lightclientlaw16.BranchShort', WHERE WHAT IT READS IS OF BULK AT MOST 1048576: true; the input reads as it did. -/
def branchShortUptoRow : OpenClaim := { program := "ytbaiojghpadffaa", sum := "5a1b53077deba6206fed6625718a56756ce15a820e61bdfee7e93edebe0675d8", func := "lightclient/lightclientlaw16.BranchShort", spec := "branchShort", plainKeys := false, apart := false, narrowed := true }
def BranchShortUptoSaid : Prop := branchShortUptoRow.holds Try.pinned (OpenSpec.upto branchShortSpec)

/-- 'lightclientlaw16.BranchPaths', WHERE WHAT IT READS IS OF BULK AT MOST 1048576: true; the input reads as it did. -/
def branchPathsUptoRow : OpenClaim := { program := "ytbaiojghpadffaa", sum := "5a1b53077deba6206fed6625718a56756ce15a820e61bdfee7e93edebe0675d8", func := "lightclient/lightclientlaw16.BranchPaths", spec := "branchPaths", plainKeys := false, apart := false, narrowed := true }
def BranchPathsUptoSaid : Prop := branchPathsUptoRow.holds Try.pinned (OpenSpec.upto branchPathsSpec)

/-- 'lightclientlaw16.BranchWalks', WHERE WHAT IT READS IS OF BULK AT MOST 1048576: true; the input reads as it did. -/
def branchWalksUptoRow : OpenClaim := { program := "ytbaiojghpadffaa", sum := "5a1b53077deba6206fed6625718a56756ce15a820e61bdfee7e93edebe0675d8", func := "lightclient/lightclientlaw16.BranchWalks", spec := "branchWalks", plainKeys := false, apart := false, narrowed := true }
def BranchWalksUptoSaid : Prop := branchWalksUptoRow.holds Try.pinned (OpenSpec.upto branchWalksSpec)

/-- 'lightclientlaw16.BranchMeetsNear', WHERE WHAT IT READS IS OF BULK AT MOST 1048576: true; the input reads as it did. -/
def branchMeetsNearUptoRow : OpenClaim := { program := "ytbaiojghpadffaa", sum := "5a1b53077deba6206fed6625718a56756ce15a820e61bdfee7e93edebe0675d8", func := "lightclient/lightclientlaw16.BranchMeetsNear", spec := "branchMeetsNear", plainKeys := false, apart := false, narrowed := true }
def BranchMeetsNearUptoSaid : Prop := branchMeetsNearUptoRow.holds Try.pinned (OpenSpec.upto branchMeetsNearSpec)

/-- 'lightclientlaw16.BranchSyncs', WHERE WHAT IT READS IS OF BULK AT MOST 1048576: true; the input reads as it did. -/
def branchSyncsUptoRow : OpenClaim := { program := "ytbaiojghpadffaa", sum := "5a1b53077deba6206fed6625718a56756ce15a820e61bdfee7e93edebe0675d8", func := "lightclient/lightclientlaw16.BranchSyncs", spec := "branchSyncs", inPlace := ["math/bits.Add64", "math/bits.Sub64"], recurses := true, plainKeys := false, apart := false, narrowed := true }
def BranchSyncsUptoSaid : Prop := branchSyncsUptoRow.holds Try.pinned (OpenSpec.upto branchSyncsSpec)

end Rows
end Go.Proofs.Ytbaiojghpadffaa
