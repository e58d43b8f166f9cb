/-
  DERIVED. GIVEN WITH THE SEED: THE CARDS: each row of YtpbfmmnncbbhdaaGreatDoorRows.lean that lists a variable, with what it lists TIED to the program's text (the seventh form; the later family's looks); each row that meets fmt, with fmt's text TOLD by the authors' own Lean function (tested against real Go, not proved from fmt's source: count such statements apart). THE CARD IS WHAT COUNTS. Prove the row's statement (the work); the ties are given (YtpbfmmnncbbhdaaGreatDoorTie.lean); close each card by the builder's one call (the guide's Derived/Test/ToyasCard.lean, 'card_holds'). Laid BY PROGRAM, IN A SANDBOX (cutbox-door.mjs). By AI agents, Wed Nov 11 2026. No macro, syntax, notation, axiom, sorry.
-/
import Derived.Test.YtpbfmmnncbbhdaaGreatDoorRows
import GoSem.ClaimSeven
namespace Go.Proofs.YtpbfmmnncbbhdaaGreatDoor
namespace Rows

/-- THE TIED CARD OF 'lightclientlaw14.RulesAdvance'. -/
def rulesAdvanceCard : Claim7 := { stood := { row := rulesAdvanceRow, standIns := [], harness := (true, "f9bef6d986f0c0b35bbfa394112d2b8fd8e1b10a3c1b7b178fc6ef5011643c6d"), looks := false }, kinds := [], alts := [], laidByText := true, laidKinds := [.data, .data], laidTests := true, laidLooks := .later }
def RulesAdvanceCardSaid : Prop := Claim7.holds Tryz.pinned (.plain (OpenSpec.ofChange rulesAdvanceSpec)) rulesAdvanceCard

/-- THE TIED CARD OF 'lightclientlaw14.RulesChecks'. -/
def rulesChecksCard : Claim7 := { stood := { row := rulesChecksRow, standIns := [], harness := (true, "f9bef6d986f0c0b35bbfa394112d2b8fd8e1b10a3c1b7b178fc6ef5011643c6d"), looks := false }, kinds := [], alts := [], laidByText := true, laidKinds := [.data, .data], laidTests := true, laidLooks := .later }
def RulesChecksCardSaid : Prop := Claim7.holds Tryz.pinned (.plain (OpenSpec.ofChange rulesChecksSpec)) rulesChecksCard

/-- THE TIED CARD OF 'lightclientlaw14.RulesMined'. -/
def rulesMinedCard : Claim7 := { stood := { row := rulesMinedRow, standIns := [], harness := (true, "f9bef6d986f0c0b35bbfa394112d2b8fd8e1b10a3c1b7b178fc6ef5011643c6d"), looks := false }, kinds := [], alts := [], laidByText := true, laidKinds := [.data, .data], laidTests := true, laidLooks := .later }
def RulesMinedCardSaid : Prop := Claim7.holds Tryz.pinned (.plain (OpenSpec.ofChange rulesMinedSpec)) rulesMinedCard

/-- THE TIED CARD OF 'lightclientlaw14.RulesRuns'. -/
def rulesRunsCard : Claim7 := { stood := { row := rulesRunsRow, standIns := [], harness := (true, "f9bef6d986f0c0b35bbfa394112d2b8fd8e1b10a3c1b7b178fc6ef5011643c6d"), looks := false }, kinds := [], alts := [], laidByText := true, laidKinds := [.data, .data], laidTests := true, laidLooks := .later }
def RulesRunsCardSaid : Prop := Claim7.holds Tryz.pinned (.plain (OpenSpec.ofChange rulesRunsSpec)) rulesRunsCard

/-- THE TIED CARD OF 'lightclientlaw14.RulesDivides'. -/
def rulesDividesCard : Claim7 := { stood := { row := rulesDividesRow, standIns := [], harness := (true, "f9bef6d986f0c0b35bbfa394112d2b8fd8e1b10a3c1b7b178fc6ef5011643c6d"), looks := false }, kinds := [], alts := [], laidByText := true, laidKinds := [.data, .data], laidTests := true, laidLooks := .later }
def RulesDividesCardSaid : Prop := Claim7.holds Tryz.pinned (.plain (OpenSpec.ofChange rulesDividesSpec)) rulesDividesCard

/-- THE SECOND FORM's CARD OF 'lightclientlaw14.RulesAdvance'. -/
def rulesAdvanceUptoCard : Claim7 := { stood := { row := rulesAdvanceUptoRow, standIns := [], harness := (true, "f9bef6d986f0c0b35bbfa394112d2b8fd8e1b10a3c1b7b178fc6ef5011643c6d"), looks := false }, kinds := [], alts := [], laidByText := true, laidKinds := [.data, .data], laidTests := true, laidLooks := .later }
def RulesAdvanceUptoCardSaid : Prop := Claim7.holds Tryz.pinned (.plain (OpenSpec.upto rulesAdvanceSpec)) rulesAdvanceUptoCard

/-- THE SECOND FORM's CARD OF 'lightclientlaw14.RulesChecks'. -/
def rulesChecksUptoCard : Claim7 := { stood := { row := rulesChecksUptoRow, standIns := [], harness := (true, "f9bef6d986f0c0b35bbfa394112d2b8fd8e1b10a3c1b7b178fc6ef5011643c6d"), looks := false }, kinds := [], alts := [], laidByText := true, laidKinds := [.data, .data], laidTests := true, laidLooks := .later }
def RulesChecksUptoCardSaid : Prop := Claim7.holds Tryz.pinned (.plain (OpenSpec.upto rulesChecksSpec)) rulesChecksUptoCard

/-- THE SECOND FORM's CARD OF 'lightclientlaw14.RulesMined'. -/
def rulesMinedUptoCard : Claim7 := { stood := { row := rulesMinedUptoRow, standIns := [], harness := (true, "f9bef6d986f0c0b35bbfa394112d2b8fd8e1b10a3c1b7b178fc6ef5011643c6d"), looks := false }, kinds := [], alts := [], laidByText := true, laidKinds := [.data, .data], laidTests := true, laidLooks := .later }
def RulesMinedUptoCardSaid : Prop := Claim7.holds Tryz.pinned (.plain (OpenSpec.upto rulesMinedSpec)) rulesMinedUptoCard

/-- THE SECOND FORM's CARD OF 'lightclientlaw14.RulesRuns'. -/
def rulesRunsUptoCard : Claim7 := { stood := { row := rulesRunsUptoRow, standIns := [], harness := (true, "f9bef6d986f0c0b35bbfa394112d2b8fd8e1b10a3c1b7b178fc6ef5011643c6d"), looks := false }, kinds := [], alts := [], laidByText := true, laidKinds := [.data, .data], laidTests := true, laidLooks := .later }
def RulesRunsUptoCardSaid : Prop := Claim7.holds Tryz.pinned (.plain (OpenSpec.upto rulesRunsSpec)) rulesRunsUptoCard

/-- THE SECOND FORM's CARD OF 'lightclientlaw14.RulesDivides'. -/
def rulesDividesUptoCard : Claim7 := { stood := { row := rulesDividesUptoRow, standIns := [], harness := (true, "f9bef6d986f0c0b35bbfa394112d2b8fd8e1b10a3c1b7b178fc6ef5011643c6d"), looks := false }, kinds := [], alts := [], laidByText := true, laidKinds := [.data, .data], laidTests := true, laidLooks := .later }
def RulesDividesUptoCardSaid : Prop := Claim7.holds Tryz.pinned (.plain (OpenSpec.upto rulesDividesSpec)) rulesDividesUptoCard
end Rows
end Go.Proofs.YtpbfmmnncbbhdaaGreatDoor
