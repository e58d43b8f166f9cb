/-
  DERIVED. GIVEN WITH THE SEED: THE CARDS: each row of YtlhdieoemhjjiaaGreatDoorRows.lean that lists a variable, with what it lists TIED to the program's text (the seventh form; the later family's looks); each row that meets fmt, with fmt's text TOLD by the authors' own Lean function (tested against real Go, not proved from fmt's source: count such statements apart). THE CARD IS WHAT COUNTS. Prove the row's statement (the work); the ties are given (YtlhdieoemhjjiaaGreatDoorTie.lean); close each card by the builder's one call (the guide's Derived/Test/ToyasCard.lean, 'card_holds'). Laid BY PROGRAM, IN A SANDBOX (cutbox-door.mjs). By AI agents, Wed Nov 11 2026. No macro, syntax, notation, axiom, sorry.
-/
import Derived.Test.YtlhdieoemhjjiaaGreatDoorRows
import GoSem.ClaimSeven
namespace Go.Proofs.YtlhdieoemhjjiaaGreatDoor
namespace Rows

/-- THE TIED CARD OF 'lightclientlaw15.TreeValid'. -/
def treeValidCard : Claim7 := { stood := { row := treeValidRow, standIns := [], harness := (true, "2c2987d8208956056d0c6a0a8ee67d7a53c421993f75b79fbdd9bc5f3a0eeea4"), looks := false }, kinds := [], alts := [], laidByText := true, laidKinds := [.data, .data], laidTests := true, laidLooks := .later }
def TreeValidCardSaid : Prop := Claim7.holds Tryz.pinned (.plain (OpenSpec.ofChange treeValidSpec)) treeValidCard

/-- THE SECOND FORM's CARD OF 'lightclientlaw15.TreeValid'. -/
def treeValidUptoCard : Claim7 := { stood := { row := treeValidUptoRow, standIns := [], harness := (true, "2c2987d8208956056d0c6a0a8ee67d7a53c421993f75b79fbdd9bc5f3a0eeea4"), looks := false }, kinds := [], alts := [], laidByText := true, laidKinds := [.data, .data], laidTests := true, laidLooks := .later }
def TreeValidUptoCardSaid : Prop := Claim7.holds Tryz.pinned (.plain (OpenSpec.upto treeValidSpec)) treeValidUptoCard
end Rows
end Go.Proofs.YtlhdieoemhjjiaaGreatDoor
