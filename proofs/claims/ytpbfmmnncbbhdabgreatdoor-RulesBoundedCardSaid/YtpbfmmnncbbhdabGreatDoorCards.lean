/-
  DERIVED. GIVEN WITH THE SEED: THE CARDS: each row of YtpbfmmnncbbhdabGreatDoorRows.lean that lists a variable, with what it lists TIED to the program's text (the seventh form; the later family's looks); each row that meets fmt, with fmt's text TOLD by the authors' own Lean function (tested against real Go, not proved from fmt's source: count such statements apart). THE CARD IS WHAT COUNTS. Prove the row's statement (the work); the ties are given (YtpbfmmnncbbhdabGreatDoorTie.lean); close each card by the builder's one call (the guide's Derived/Test/ToyasCard.lean, 'card_holds'). Laid BY PROGRAM, IN A SANDBOX (cutbox-door.mjs). By AI agents, Wed Nov 11 2026. No macro, syntax, notation, axiom, sorry.
-/
import Derived.Test.YtpbfmmnncbbhdabGreatDoorRows
import GoSem.ClaimSeven
namespace Go.Proofs.YtpbfmmnncbbhdabGreatDoor
namespace Rows

/-- THE TIED CARD OF 'lightclientlaw14.RulesLater'. -/
def rulesLaterCard : Claim7 := { stood := { row := rulesLaterRow, standIns := [], harness := (true, "5f1f820b21fa7d23b9eed93129713abfbb26eb73e8111914c93852dc7e999f29"), looks := false }, kinds := [], alts := [], laidByText := true, laidKinds := [.data, .data], laidTests := true, laidLooks := .later }
def RulesLaterCardSaid : Prop := Claim7.holds Tryz.pinned (.plain (OpenSpec.ofChange rulesLaterSpec)) rulesLaterCard

/-- THE TIED CARD OF 'lightclientlaw14.RulesBounded'. -/
def rulesBoundedCard : Claim7 := { stood := { row := rulesBoundedRow, standIns := [], harness := (true, "5f1f820b21fa7d23b9eed93129713abfbb26eb73e8111914c93852dc7e999f29"), looks := false }, kinds := [], alts := [], laidByText := true, laidKinds := [.data, .data], laidTests := true, laidLooks := .later }
def RulesBoundedCardSaid : Prop := Claim7.holds Tryz.pinned (.plain (OpenSpec.ofChange rulesBoundedSpec)) rulesBoundedCard

/-- THE SECOND FORM's CARD OF 'lightclientlaw14.RulesLater'. -/
def rulesLaterUptoCard : Claim7 := { stood := { row := rulesLaterUptoRow, standIns := [], harness := (true, "5f1f820b21fa7d23b9eed93129713abfbb26eb73e8111914c93852dc7e999f29"), looks := false }, kinds := [], alts := [], laidByText := true, laidKinds := [.data, .data], laidTests := true, laidLooks := .later }
def RulesLaterUptoCardSaid : Prop := Claim7.holds Tryz.pinned (.plain (OpenSpec.upto rulesLaterSpec)) rulesLaterUptoCard

/-- THE SECOND FORM's CARD OF 'lightclientlaw14.RulesBounded'. -/
def rulesBoundedUptoCard : Claim7 := { stood := { row := rulesBoundedUptoRow, standIns := [], harness := (true, "5f1f820b21fa7d23b9eed93129713abfbb26eb73e8111914c93852dc7e999f29"), looks := false }, kinds := [], alts := [], laidByText := true, laidKinds := [.data, .data], laidTests := true, laidLooks := .later }
def RulesBoundedUptoCardSaid : Prop := Claim7.holds Tryz.pinned (.plain (OpenSpec.upto rulesBoundedSpec)) rulesBoundedUptoCard
end Rows
end Go.Proofs.YtpbfmmnncbbhdabGreatDoor
