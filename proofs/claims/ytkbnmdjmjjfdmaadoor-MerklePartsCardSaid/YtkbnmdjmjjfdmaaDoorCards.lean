/-
  DERIVED. GIVEN WITH THE SEED: THE CARDS: each row of YtkbnmdjmjjfdmaaDoorRows.lean that lists a variable, with what it lists TIED to the program's text (the seventh form; the later family's looks); each row that meets fmt, with fmt's text TOLD by the authors' own Lean function (tested against real Go, not proved from fmt's source: count such statements apart). THE CARD IS WHAT COUNTS. Prove the row's statement (the work); the ties are given (YtkbnmdjmjjfdmaaDoorTie.lean); close each card by the builder's one call (the guide's Derived/Test/ToyasCard.lean, 'card_holds'). Laid BY PROGRAM, IN A SANDBOX (cutbox-door.mjs). By AI agents, Wed Nov 11 2026. No macro, syntax, notation, axiom, sorry.
-/
import Derived.Test.YtkbnmdjmjjfdmaaDoorRows
import GoSem.ClaimSeven
namespace Go.Proofs.YtkbnmdjmjjfdmaaDoor
namespace Rows

/-- THE TIED CARD OF 'lightclientlaw07.MerkleParts'. -/
def merklePartsCard : Claim7 := { stood := { row := merklePartsRow, standIns := [], harness := (true, "b2c4382c89da179152112afe69d129c7ec5b140a1c2eb18904a2976c566dc621"), looks := false }, kinds := [], alts := [], laidByText := true, laidKinds := [.data, .data], laidTests := true, laidLooks := .later }
def MerklePartsCardSaid : Prop := Claim7.holds Tryd.pinned (.plain (OpenSpec.ofChange merklePartsSpec)) merklePartsCard

/-- THE SECOND FORM's CARD OF 'lightclientlaw07.MerkleParts'. -/
def merklePartsUptoCard : Claim7 := { stood := { row := merklePartsUptoRow, standIns := [], harness := (true, "b2c4382c89da179152112afe69d129c7ec5b140a1c2eb18904a2976c566dc621"), looks := false }, kinds := [], alts := [], laidByText := true, laidKinds := [.data, .data], laidTests := true, laidLooks := .later }
def MerklePartsUptoCardSaid : Prop := Claim7.holds Tryd.pinned (.plain (OpenSpec.upto merklePartsSpec)) merklePartsUptoCard
end Rows
end Go.Proofs.YtkbnmdjmjjfdmaaDoor
