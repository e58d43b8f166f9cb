/-
  No cell of these rows narrows 'for every input' (looked for: loops, veiled, ifaces, maps, wideKeys, modest, calm, conditions, laid).
  DERIVED. THE GIVEN ROWS OF THIS SEAT. 7 by the template 'for every input the law returns true; each argument reads behind the call as it read before'; 0 by the template 'total and deterministic' (their statements: YtpbfmmnncbbhdaaTotals.lean).
  GIVEN WITH THE SEED: the statements are not yours to turn. If you find one false, say at which input.
  Laid BY PROGRAM, IN A SANDBOX (cutbox-rows.mjs): the forced cells as the released guide's own fill.sh prints them over the translation d77fcff2de21cba0… (all of the seat's roots in one cut). By AI agents, Wed Nov 11 2026. No macro, syntax, notation, axiom, sorry.
-/
import Derived.Test.YtpbfmmnncbbhdaaChecked
import GoSem.Claim
import GoSem.ClaimJoined
import GoSem.ClaimMapViews
import Derived.JoinedTies
import Derived.KernelRfl
namespace Go.Proofs.Ytpbfmmnncbbhdaa
/- THE CELL 'sum', in the pinned program and in every row, IS THE sha256 OF THE DUMP (.gsa) THAT YtpbfmmnncbbhdaaProg.lean LOADS. Nothing in Lean hashes anything: it is a label: what it is worth is what the hold of that sum in a sandbox is worth. -/
noncomputable def Try.pinned : Pinned := { name := "ytpbfmmnncbbhdaa", sum := "d77fcff2de21cba09470f02c4af757d827f7c50f515748fdd6d17cd66ae3fba2", checked := Try.checked }
namespace Rows
def none {H : Type} : Left H := { results := [], args := [] }

/-- 'lightclientlaw13.RetargetValid': WHATEVER THE INPUT: true; the input reads as it did. -/
def retargetValidSpec : ChangeSpec := { name := "retargetValid", fn := fun _ => fun
  | [d] => { results := [.lit (.bool true)], args := [d] }
  | _ => none }
def retargetValidRow : OpenClaim := { program := "ytpbfmmnncbbhdaa", sum := "d77fcff2de21cba09470f02c4af757d827f7c50f515748fdd6d17cd66ae3fba2", func := "lightclient/lightclientlaw13.RetargetValid", spec := "retargetValid", inPlace := ["math/bits.Add64", "math/bits.Sub64"], unfollowed := true, recurses := true, apart := false }
def RetargetValidSaid : Prop := retargetValidRow.holds Try.pinned (OpenSpec.ofChange retargetValidSpec)

/-- ITS FALSE NEIGHBOUR: 'it returns false'. Refute it at one input. -/
def retargetValidWrong : ChangeSpec := { name := "retargetValid", fn := fun _ => fun
  | [d] => { results := [.lit (.bool false)], args := [d] }
  | _ => none }
def RetargetValidWrongFalsely : Prop := retargetValidRow.holds Try.pinned (OpenSpec.ofChange retargetValidWrong)

/-- 'lightclientlaw13.RetargetMedians': WHATEVER THE INPUT: true; the input reads as it did. -/
def retargetMediansSpec : ChangeSpec := { name := "retargetMedians", fn := fun _ => fun
  | [d] => { results := [.lit (.bool true)], args := [d] }
  | _ => none }
def retargetMediansRow : OpenClaim := { program := "ytpbfmmnncbbhdaa", sum := "d77fcff2de21cba09470f02c4af757d827f7c50f515748fdd6d17cd66ae3fba2", func := "lightclient/lightclientlaw13.RetargetMedians", spec := "retargetMedians", inPlace := ["math/bits.Add64", "math/bits.Sub64"], unfollowed := true, recurses := true, apart := false }
def RetargetMediansSaid : Prop := retargetMediansRow.holds Try.pinned (OpenSpec.ofChange retargetMediansSpec)

/-- ITS FALSE NEIGHBOUR: 'it returns false'. Refute it at one input. -/
def retargetMediansWrong : ChangeSpec := { name := "retargetMedians", fn := fun _ => fun
  | [d] => { results := [.lit (.bool false)], args := [d] }
  | _ => none }
def RetargetMediansWrongFalsely : Prop := retargetMediansRow.holds Try.pinned (OpenSpec.ofChange retargetMediansWrong)

/-- 'lightclientlaw13.RetargetAdjusts': WHATEVER THE INPUT: true; the input reads as it did. -/
def retargetAdjustsSpec : ChangeSpec := { name := "retargetAdjusts", fn := fun _ => fun
  | [d1, d2, d3, d4] => { results := [.lit (.bool true)], args := [d1, d2, d3, d4] }
  | _ => none }
def retargetAdjustsRow : OpenClaim := { program := "ytpbfmmnncbbhdaa", sum := "d77fcff2de21cba09470f02c4af757d827f7c50f515748fdd6d17cd66ae3fba2", func := "lightclient/lightclientlaw13.RetargetAdjusts", spec := "retargetAdjusts", inPlace := ["math/bits.Add64", "math/bits.Sub64"], unfollowed := true, recurses := true, apart := false }
def RetargetAdjustsSaid : Prop := retargetAdjustsRow.holds Try.pinned (OpenSpec.ofChange retargetAdjustsSpec)

/-- ITS FALSE NEIGHBOUR: 'it returns false'. Refute it at one input. -/
def retargetAdjustsWrong : ChangeSpec := { name := "retargetAdjusts", fn := fun _ => fun
  | [d1, d2, d3, d4] => { results := [.lit (.bool false)], args := [d1, d2, d3, d4] }
  | _ => none }
def RetargetAdjustsWrongFalsely : Prop := retargetAdjustsRow.holds Try.pinned (OpenSpec.ofChange retargetAdjustsWrong)

/-- 'lightclientlaw13.RetargetClamped': WHATEVER THE INPUT: true; the input reads as it did. -/
def retargetClampedSpec : ChangeSpec := { name := "retargetClamped", fn := fun _ => fun
  | [d1, d2, d3, d4] => { results := [.lit (.bool true)], args := [d1, d2, d3, d4] }
  | _ => none }
def retargetClampedRow : OpenClaim := { program := "ytpbfmmnncbbhdaa", sum := "d77fcff2de21cba09470f02c4af757d827f7c50f515748fdd6d17cd66ae3fba2", func := "lightclient/lightclientlaw13.RetargetClamped", spec := "retargetClamped", inPlace := ["math/bits.Add64", "math/bits.Sub64"], unfollowed := true, recurses := true, apart := false }
def RetargetClampedSaid : Prop := retargetClampedRow.holds Try.pinned (OpenSpec.ofChange retargetClampedSpec)

/-- ITS FALSE NEIGHBOUR: 'it returns false'. Refute it at one input. -/
def retargetClampedWrong : ChangeSpec := { name := "retargetClamped", fn := fun _ => fun
  | [d1, d2, d3, d4] => { results := [.lit (.bool false)], args := [d1, d2, d3, d4] }
  | _ => none }
def RetargetClampedWrongFalsely : Prop := retargetClampedRow.holds Try.pinned (OpenSpec.ofChange retargetClampedWrong)

/-- 'lightclientlaw13.RetargetMonotone': WHATEVER THE INPUT: true; the input reads as it did. -/
def retargetMonotoneSpec : ChangeSpec := { name := "retargetMonotone", fn := fun _ => fun
  | [d1, d2, d3, d4, d5] => { results := [.lit (.bool true)], args := [d1, d2, d3, d4, d5] }
  | _ => none }
def retargetMonotoneRow : OpenClaim := { program := "ytpbfmmnncbbhdaa", sum := "d77fcff2de21cba09470f02c4af757d827f7c50f515748fdd6d17cd66ae3fba2", func := "lightclient/lightclientlaw13.RetargetMonotone", spec := "retargetMonotone", inPlace := ["math/bits.Add64", "math/bits.Sub64"], unfollowed := true, recurses := true, apart := false }
def RetargetMonotoneSaid : Prop := retargetMonotoneRow.holds Try.pinned (OpenSpec.ofChange retargetMonotoneSpec)

/-- ITS FALSE NEIGHBOUR: 'it returns false'. Refute it at one input. -/
def retargetMonotoneWrong : ChangeSpec := { name := "retargetMonotone", fn := fun _ => fun
  | [d1, d2, d3, d4, d5] => { results := [.lit (.bool false)], args := [d1, d2, d3, d4, d5] }
  | _ => none }
def RetargetMonotoneWrongFalsely : Prop := retargetMonotoneRow.holds Try.pinned (OpenSpec.ofChange retargetMonotoneWrong)

/-- 'lightclientlaw13.RetargetMiddle': WHATEVER THE INPUT: true; the input reads as it did. -/
def retargetMiddleSpec : ChangeSpec := { name := "retargetMiddle", fn := fun _ => fun
  | [d1, d2] => { results := [.lit (.bool true)], args := [d1, d2] }
  | _ => none }
def retargetMiddleRow : OpenClaim := { program := "ytpbfmmnncbbhdaa", sum := "d77fcff2de21cba09470f02c4af757d827f7c50f515748fdd6d17cd66ae3fba2", func := "lightclient/lightclientlaw13.RetargetMiddle", spec := "retargetMiddle", inPlace := ["math/bits.Add64", "math/bits.Sub64"], unfollowed := true, recurses := true, apart := false }
def RetargetMiddleSaid : Prop := retargetMiddleRow.holds Try.pinned (OpenSpec.ofChange retargetMiddleSpec)

/-- ITS FALSE NEIGHBOUR: 'it returns false'. Refute it at one input. -/
def retargetMiddleWrong : ChangeSpec := { name := "retargetMiddle", fn := fun _ => fun
  | [d1, d2] => { results := [.lit (.bool false)], args := [d1, d2] }
  | _ => none }
def RetargetMiddleWrongFalsely : Prop := retargetMiddleRow.holds Try.pinned (OpenSpec.ofChange retargetMiddleWrong)

/-- 'lightclientlaw13.RetargetNext': WHATEVER THE INPUT: true; the input reads as it did. -/
def retargetNextSpec : ChangeSpec := { name := "retargetNext", fn := fun _ => fun
  | [d1, d2] => { results := [.lit (.bool true)], args := [d1, d2] }
  | _ => none }
def retargetNextRow : OpenClaim := { program := "ytpbfmmnncbbhdaa", sum := "d77fcff2de21cba09470f02c4af757d827f7c50f515748fdd6d17cd66ae3fba2", func := "lightclient/lightclientlaw13.RetargetNext", spec := "retargetNext", inPlace := ["math/bits.Add64", "math/bits.Sub64"], unfollowed := true, recurses := true, apart := false }
def RetargetNextSaid : Prop := retargetNextRow.holds Try.pinned (OpenSpec.ofChange retargetNextSpec)

/-- ITS FALSE NEIGHBOUR: 'it returns false'. Refute it at one input. -/
def retargetNextWrong : ChangeSpec := { name := "retargetNext", fn := fun _ => fun
  | [d1, d2] => { results := [.lit (.bool false)], args := [d1, d2] }
  | _ => none }
def RetargetNextWrongFalsely : Prop := retargetNextRow.holds Try.pinned (OpenSpec.ofChange retargetNextWrong)

/- THE SECOND FORM. 'bulk': how many values and letters a reading holds, each counted each time it is reached (what is shared counts as often as it is met; a slice's spare places count too). A statement '..UptoSaid' is the law's where the arguments, and the package variables that the reading takes, are together of bulk at most 1048576: NARROWER than '..Said'. Prove '..Said' where nothing that the law and all that it calls make is longer than what came in: it says more and counts as full. Else prove '..UptoSaid'. A law counts once. -/
mutual
def uptoBulk {H : Type} : DataW H → Nat
  | .lit (.string bytes) => bytes.length + 1
  | .lit _ => 1
  | .nil => 1
  | .ptr d => uptoBulk d + 1
  | .slice elems spare => uptoBulkAll elems + uptoBulkAll spare + 1
  | .agg parts => uptoBulkAll parts + 1
  | .iface _ d => uptoBulk d + 1
  | .map entries => uptoBulkEntries entries + 1
  | .held _ => 1
def uptoBulkAll {H : Type} : List (DataW H) → Nat
  | [] => 0
  | d :: r => uptoBulk d + uptoBulkAll r
def uptoBulkEntries {H : Type} : List (Lit × DataW H) → Nat
  | [] => 0
  | x :: r => uptoBulkEntry x + uptoBulkEntries r
def uptoBulkEntry {H : Type} : Lit × DataW H → Nat
  | (.string bytes, d) => bytes.length + uptoBulk d + 1
  | (_, d) => uptoBulk d + 1
 end
def uptoSmall : (H : Type) → List (DataW H) → Bool := fun _ ds => decide (uptoBulkAll ds ≤ 1048576)
def OpenSpec.upto (s : _root_.Go.ChangeSpec) : _root_.Go.OpenSpec := { _root_.Go.OpenSpec.ofChange s with cond := some uptoSmall }

/-- 'lightclientlaw13.RetargetValid', WHERE WHAT IT READS IS OF BULK AT MOST 1048576: true; the input reads as it did. -/
def retargetValidUptoRow : OpenClaim := { program := "ytpbfmmnncbbhdaa", sum := "d77fcff2de21cba09470f02c4af757d827f7c50f515748fdd6d17cd66ae3fba2", func := "lightclient/lightclientlaw13.RetargetValid", spec := "retargetValid", inPlace := ["math/bits.Add64", "math/bits.Sub64"], unfollowed := true, recurses := true, apart := false, narrowed := true }
def RetargetValidUptoSaid : Prop := retargetValidUptoRow.holds Try.pinned (OpenSpec.upto retargetValidSpec)

/-- 'lightclientlaw13.RetargetMedians', WHERE WHAT IT READS IS OF BULK AT MOST 1048576: true; the input reads as it did. -/
def retargetMediansUptoRow : OpenClaim := { program := "ytpbfmmnncbbhdaa", sum := "d77fcff2de21cba09470f02c4af757d827f7c50f515748fdd6d17cd66ae3fba2", func := "lightclient/lightclientlaw13.RetargetMedians", spec := "retargetMedians", inPlace := ["math/bits.Add64", "math/bits.Sub64"], unfollowed := true, recurses := true, apart := false, narrowed := true }
def RetargetMediansUptoSaid : Prop := retargetMediansUptoRow.holds Try.pinned (OpenSpec.upto retargetMediansSpec)

/-- 'lightclientlaw13.RetargetAdjusts', WHERE WHAT IT READS IS OF BULK AT MOST 1048576: true; the input reads as it did. -/
def retargetAdjustsUptoRow : OpenClaim := { program := "ytpbfmmnncbbhdaa", sum := "d77fcff2de21cba09470f02c4af757d827f7c50f515748fdd6d17cd66ae3fba2", func := "lightclient/lightclientlaw13.RetargetAdjusts", spec := "retargetAdjusts", inPlace := ["math/bits.Add64", "math/bits.Sub64"], unfollowed := true, recurses := true, apart := false, narrowed := true }
def RetargetAdjustsUptoSaid : Prop := retargetAdjustsUptoRow.holds Try.pinned (OpenSpec.upto retargetAdjustsSpec)

/-- 'lightclientlaw13.RetargetClamped', WHERE WHAT IT READS IS OF BULK AT MOST 1048576: true; the input reads as it did. -/
def retargetClampedUptoRow : OpenClaim := { program := "ytpbfmmnncbbhdaa", sum := "d77fcff2de21cba09470f02c4af757d827f7c50f515748fdd6d17cd66ae3fba2", func := "lightclient/lightclientlaw13.RetargetClamped", spec := "retargetClamped", inPlace := ["math/bits.Add64", "math/bits.Sub64"], unfollowed := true, recurses := true, apart := false, narrowed := true }
def RetargetClampedUptoSaid : Prop := retargetClampedUptoRow.holds Try.pinned (OpenSpec.upto retargetClampedSpec)

/-- 'lightclientlaw13.RetargetMonotone', WHERE WHAT IT READS IS OF BULK AT MOST 1048576: true; the input reads as it did. -/
def retargetMonotoneUptoRow : OpenClaim := { program := "ytpbfmmnncbbhdaa", sum := "d77fcff2de21cba09470f02c4af757d827f7c50f515748fdd6d17cd66ae3fba2", func := "lightclient/lightclientlaw13.RetargetMonotone", spec := "retargetMonotone", inPlace := ["math/bits.Add64", "math/bits.Sub64"], unfollowed := true, recurses := true, apart := false, narrowed := true }
def RetargetMonotoneUptoSaid : Prop := retargetMonotoneUptoRow.holds Try.pinned (OpenSpec.upto retargetMonotoneSpec)

/-- 'lightclientlaw13.RetargetMiddle', WHERE WHAT IT READS IS OF BULK AT MOST 1048576: true; the input reads as it did. -/
def retargetMiddleUptoRow : OpenClaim := { program := "ytpbfmmnncbbhdaa", sum := "d77fcff2de21cba09470f02c4af757d827f7c50f515748fdd6d17cd66ae3fba2", func := "lightclient/lightclientlaw13.RetargetMiddle", spec := "retargetMiddle", inPlace := ["math/bits.Add64", "math/bits.Sub64"], unfollowed := true, recurses := true, apart := false, narrowed := true }
def RetargetMiddleUptoSaid : Prop := retargetMiddleUptoRow.holds Try.pinned (OpenSpec.upto retargetMiddleSpec)

/-- 'lightclientlaw13.RetargetNext', WHERE WHAT IT READS IS OF BULK AT MOST 1048576: true; the input reads as it did. -/
def retargetNextUptoRow : OpenClaim := { program := "ytpbfmmnncbbhdaa", sum := "d77fcff2de21cba09470f02c4af757d827f7c50f515748fdd6d17cd66ae3fba2", func := "lightclient/lightclientlaw13.RetargetNext", spec := "retargetNext", inPlace := ["math/bits.Add64", "math/bits.Sub64"], unfollowed := true, recurses := true, apart := false, narrowed := true }
def RetargetNextUptoSaid : Prop := retargetNextUptoRow.holds Try.pinned (OpenSpec.upto retargetNextSpec)

end Rows
end Go.Proofs.Ytpbfmmnncbbhdaa
