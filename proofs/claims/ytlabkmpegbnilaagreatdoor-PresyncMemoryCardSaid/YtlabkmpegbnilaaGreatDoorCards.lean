/-
  DERIVED. GIVEN WITH THE SEED: THE CARDS: each row of YtlabkmpegbnilaaGreatDoorRows.lean that lists a variable, with what it lists TIED to the program's text (the seventh form; the later family's looks); each row that meets fmt, with fmt's text TOLD by the authors' own Lean function (tested against real Go, not proved from fmt's source: count such statements apart). THE CARD IS WHAT COUNTS. Prove the row's statement (the work); the ties are given (YtlabkmpegbnilaaGreatDoorTie.lean); close each card by the builder's one call (the guide's Derived/Test/ToyasCard.lean, 'card_holds'). Laid BY PROGRAM, IN A SANDBOX (cutbox-door.mjs). By AI agents, Wed Nov 11 2026. No macro, syntax, notation, axiom, sorry.
-/
import Derived.Test.YtlabkmpegbnilaaGreatDoorRows
import GoSem.ClaimSeven
namespace Go.Proofs.YtlabkmpegbnilaaGreatDoor
namespace Rows

/-- THE TIED CARD OF 'lightclientlaw15.TreeValid'. -/
def treeValidCard : Claim7 := { stood := { row := treeValidRow, standIns := [], harness := (true, "bb40f135ca81565a499617bc64c638f6b494fa1eaef54a89014a0c24734305d3"), looks := false }, kinds := [], alts := [], laidByText := true, laidKinds := [.data, .data], laidTests := true, laidLooks := .later }
def TreeValidCardSaid : Prop := Claim7.holds Tryz.pinned (.plain (OpenSpec.ofChange treeValidSpec)) treeValidCard

/-- THE TIED CARD OF 'lightclientlaw15.TreeContexts'. -/
def treeContextsCard : Claim7 := { stood := { row := treeContextsRow, standIns := [], harness := (true, "bb40f135ca81565a499617bc64c638f6b494fa1eaef54a89014a0c24734305d3"), looks := false }, kinds := [], alts := [], laidByText := true, laidKinds := [.data, .data], laidTests := true, laidLooks := .later }
def TreeContextsCardSaid : Prop := Claim7.holds Tryz.pinned (.plain (OpenSpec.ofChange treeContextsSpec)) treeContextsCard

/-- THE TIED CARD OF 'lightclientlaw15.TreeInserts'. -/
def treeInsertsCard : Claim7 := { stood := { row := treeInsertsRow, standIns := [], harness := (true, "bb40f135ca81565a499617bc64c638f6b494fa1eaef54a89014a0c24734305d3"), looks := false }, kinds := [], alts := [], laidByText := true, laidKinds := [.data, .data], laidTests := true, laidLooks := .later }
def TreeInsertsCardSaid : Prop := Claim7.holds Tryz.pinned (.plain (OpenSpec.ofChange treeInsertsSpec)) treeInsertsCard

/-- THE TIED CARD OF 'lightclientlaw15.TreeBest'. -/
def treeBestCard : Claim7 := { stood := { row := treeBestRow, standIns := [], harness := (true, "bb40f135ca81565a499617bc64c638f6b494fa1eaef54a89014a0c24734305d3"), looks := false }, kinds := [], alts := [], laidByText := true, laidKinds := [.data, .data], laidTests := true, laidLooks := .later }
def TreeBestCardSaid : Prop := Claim7.holds Tryz.pinned (.plain (OpenSpec.ofChange treeBestSpec)) treeBestCard

/-- THE TIED CARD OF 'lightclientlaw15.TreeOrders'. -/
def treeOrdersCard : Claim7 := { stood := { row := treeOrdersRow, standIns := [], harness := (true, "bb40f135ca81565a499617bc64c638f6b494fa1eaef54a89014a0c24734305d3"), looks := false }, kinds := [], alts := [], laidByText := true, laidKinds := [.data, .data], laidTests := true, laidLooks := .later }
def TreeOrdersCardSaid : Prop := Claim7.holds Tryz.pinned (.plain (OpenSpec.ofChange treeOrdersSpec)) treeOrdersCard

/-- THE TIED CARD OF 'lightclientlaw15.TreeGrows'. -/
def treeGrowsCard : Claim7 := { stood := { row := treeGrowsRow, standIns := [], harness := (true, "bb40f135ca81565a499617bc64c638f6b494fa1eaef54a89014a0c24734305d3"), looks := false }, kinds := [], alts := [], laidByText := true, laidKinds := [.data, .data], laidTests := true, laidLooks := .later }
def TreeGrowsCardSaid : Prop := Claim7.holds Tryz.pinned (.plain (OpenSpec.ofChange treeGrowsSpec)) treeGrowsCard

/-- THE TIED CARD OF 'lightclientlaw15.TreeRecovers'. -/
def treeRecoversCard : Claim7 := { stood := { row := treeRecoversRow, standIns := [], harness := (true, "bb40f135ca81565a499617bc64c638f6b494fa1eaef54a89014a0c24734305d3"), looks := false }, kinds := [], alts := [], laidByText := true, laidKinds := [.data, .data], laidTests := true, laidLooks := .later }
def TreeRecoversCardSaid : Prop := Claim7.holds Tryz.pinned (.plain (OpenSpec.ofChange treeRecoversSpec)) treeRecoversCard

/-- THE TIED CARD OF 'lightclientlaw17.PresyncBegins'. -/
def presyncBeginsCard : Claim7 := { stood := { row := presyncBeginsRow, standIns := [], harness := (true, "bb40f135ca81565a499617bc64c638f6b494fa1eaef54a89014a0c24734305d3"), looks := false }, kinds := [], alts := [], laidByText := true, laidKinds := [.data, .data], laidTests := true, laidLooks := .later }
def PresyncBeginsCardSaid : Prop := Claim7.holds Tryz.pinned (.plain (OpenSpec.ofChange presyncBeginsSpec)) presyncBeginsCard

/-- THE TIED CARD OF 'lightclientlaw17.PresyncDivides'. -/
def presyncDividesCard : Claim7 := { stood := { row := presyncDividesRow, standIns := [], harness := (true, "bb40f135ca81565a499617bc64c638f6b494fa1eaef54a89014a0c24734305d3"), looks := false }, kinds := [], alts := [], laidByText := true, laidKinds := [.data, .data], laidTests := true, laidLooks := .later }
def PresyncDividesCardSaid : Prop := Claim7.holds Tryz.pinned (.plain (OpenSpec.ofChange presyncDividesSpec)) presyncDividesCard

/-- THE TIED CARD OF 'lightclientlaw17.PresyncTwice'. -/
def presyncTwiceCard : Claim7 := { stood := { row := presyncTwiceRow, standIns := [], harness := (true, "bb40f135ca81565a499617bc64c638f6b494fa1eaef54a89014a0c24734305d3"), looks := false }, kinds := [], alts := [], laidByText := true, laidKinds := [.data, .data], laidTests := true, laidLooks := .later }
def PresyncTwiceCardSaid : Prop := Claim7.holds Tryz.pinned (.plain (OpenSpec.ofChange presyncTwiceSpec)) presyncTwiceCard

/-- THE TIED CARD OF 'lightclientlaw17.PresyncContinues'. -/
def presyncContinuesCard : Claim7 := { stood := { row := presyncContinuesRow, standIns := [], harness := (true, "bb40f135ca81565a499617bc64c638f6b494fa1eaef54a89014a0c24734305d3"), looks := false }, kinds := [], alts := [], laidByText := true, laidKinds := [.data, .data], laidTests := true, laidLooks := .later }
def PresyncContinuesCardSaid : Prop := Claim7.holds Tryz.pinned (.plain (OpenSpec.ofChange presyncContinuesSpec)) presyncContinuesCard

/-- THE TIED CARD OF 'lightclientlaw17.PresyncMemory'. -/
def presyncMemoryCard : Claim7 := { stood := { row := presyncMemoryRow, standIns := [], harness := (true, "bb40f135ca81565a499617bc64c638f6b494fa1eaef54a89014a0c24734305d3"), looks := false }, kinds := [], alts := [], laidByText := true, laidKinds := [.data, .data], laidTests := true, laidLooks := .later }
def PresyncMemoryCardSaid : Prop := Claim7.holds Tryz.pinned (.plain (OpenSpec.ofChange presyncMemorySpec)) presyncMemoryCard

/-- THE SECOND FORM's CARD OF 'lightclientlaw15.TreeValid'. -/
def treeValidUptoCard : Claim7 := { stood := { row := treeValidUptoRow, standIns := [], harness := (true, "bb40f135ca81565a499617bc64c638f6b494fa1eaef54a89014a0c24734305d3"), looks := false }, kinds := [], alts := [], laidByText := true, laidKinds := [.data, .data], laidTests := true, laidLooks := .later }
def TreeValidUptoCardSaid : Prop := Claim7.holds Tryz.pinned (.plain (OpenSpec.upto treeValidSpec)) treeValidUptoCard

/-- THE SECOND FORM's CARD OF 'lightclientlaw15.TreeContexts'. -/
def treeContextsUptoCard : Claim7 := { stood := { row := treeContextsUptoRow, standIns := [], harness := (true, "bb40f135ca81565a499617bc64c638f6b494fa1eaef54a89014a0c24734305d3"), looks := false }, kinds := [], alts := [], laidByText := true, laidKinds := [.data, .data], laidTests := true, laidLooks := .later }
def TreeContextsUptoCardSaid : Prop := Claim7.holds Tryz.pinned (.plain (OpenSpec.upto treeContextsSpec)) treeContextsUptoCard

/-- THE SECOND FORM's CARD OF 'lightclientlaw15.TreeInserts'. -/
def treeInsertsUptoCard : Claim7 := { stood := { row := treeInsertsUptoRow, standIns := [], harness := (true, "bb40f135ca81565a499617bc64c638f6b494fa1eaef54a89014a0c24734305d3"), looks := false }, kinds := [], alts := [], laidByText := true, laidKinds := [.data, .data], laidTests := true, laidLooks := .later }
def TreeInsertsUptoCardSaid : Prop := Claim7.holds Tryz.pinned (.plain (OpenSpec.upto treeInsertsSpec)) treeInsertsUptoCard

/-- THE SECOND FORM's CARD OF 'lightclientlaw15.TreeBest'. -/
def treeBestUptoCard : Claim7 := { stood := { row := treeBestUptoRow, standIns := [], harness := (true, "bb40f135ca81565a499617bc64c638f6b494fa1eaef54a89014a0c24734305d3"), looks := false }, kinds := [], alts := [], laidByText := true, laidKinds := [.data, .data], laidTests := true, laidLooks := .later }
def TreeBestUptoCardSaid : Prop := Claim7.holds Tryz.pinned (.plain (OpenSpec.upto treeBestSpec)) treeBestUptoCard

/-- THE SECOND FORM's CARD OF 'lightclientlaw15.TreeOrders'. -/
def treeOrdersUptoCard : Claim7 := { stood := { row := treeOrdersUptoRow, standIns := [], harness := (true, "bb40f135ca81565a499617bc64c638f6b494fa1eaef54a89014a0c24734305d3"), looks := false }, kinds := [], alts := [], laidByText := true, laidKinds := [.data, .data], laidTests := true, laidLooks := .later }
def TreeOrdersUptoCardSaid : Prop := Claim7.holds Tryz.pinned (.plain (OpenSpec.upto treeOrdersSpec)) treeOrdersUptoCard

/-- THE SECOND FORM's CARD OF 'lightclientlaw15.TreeGrows'. -/
def treeGrowsUptoCard : Claim7 := { stood := { row := treeGrowsUptoRow, standIns := [], harness := (true, "bb40f135ca81565a499617bc64c638f6b494fa1eaef54a89014a0c24734305d3"), looks := false }, kinds := [], alts := [], laidByText := true, laidKinds := [.data, .data], laidTests := true, laidLooks := .later }
def TreeGrowsUptoCardSaid : Prop := Claim7.holds Tryz.pinned (.plain (OpenSpec.upto treeGrowsSpec)) treeGrowsUptoCard

/-- THE SECOND FORM's CARD OF 'lightclientlaw15.TreeRecovers'. -/
def treeRecoversUptoCard : Claim7 := { stood := { row := treeRecoversUptoRow, standIns := [], harness := (true, "bb40f135ca81565a499617bc64c638f6b494fa1eaef54a89014a0c24734305d3"), looks := false }, kinds := [], alts := [], laidByText := true, laidKinds := [.data, .data], laidTests := true, laidLooks := .later }
def TreeRecoversUptoCardSaid : Prop := Claim7.holds Tryz.pinned (.plain (OpenSpec.upto treeRecoversSpec)) treeRecoversUptoCard

/-- THE SECOND FORM's CARD OF 'lightclientlaw17.PresyncBegins'. -/
def presyncBeginsUptoCard : Claim7 := { stood := { row := presyncBeginsUptoRow, standIns := [], harness := (true, "bb40f135ca81565a499617bc64c638f6b494fa1eaef54a89014a0c24734305d3"), looks := false }, kinds := [], alts := [], laidByText := true, laidKinds := [.data, .data], laidTests := true, laidLooks := .later }
def PresyncBeginsUptoCardSaid : Prop := Claim7.holds Tryz.pinned (.plain (OpenSpec.upto presyncBeginsSpec)) presyncBeginsUptoCard

/-- THE SECOND FORM's CARD OF 'lightclientlaw17.PresyncDivides'. -/
def presyncDividesUptoCard : Claim7 := { stood := { row := presyncDividesUptoRow, standIns := [], harness := (true, "bb40f135ca81565a499617bc64c638f6b494fa1eaef54a89014a0c24734305d3"), looks := false }, kinds := [], alts := [], laidByText := true, laidKinds := [.data, .data], laidTests := true, laidLooks := .later }
def PresyncDividesUptoCardSaid : Prop := Claim7.holds Tryz.pinned (.plain (OpenSpec.upto presyncDividesSpec)) presyncDividesUptoCard

/-- THE SECOND FORM's CARD OF 'lightclientlaw17.PresyncTwice'. -/
def presyncTwiceUptoCard : Claim7 := { stood := { row := presyncTwiceUptoRow, standIns := [], harness := (true, "bb40f135ca81565a499617bc64c638f6b494fa1eaef54a89014a0c24734305d3"), looks := false }, kinds := [], alts := [], laidByText := true, laidKinds := [.data, .data], laidTests := true, laidLooks := .later }
def PresyncTwiceUptoCardSaid : Prop := Claim7.holds Tryz.pinned (.plain (OpenSpec.upto presyncTwiceSpec)) presyncTwiceUptoCard

/-- THE SECOND FORM's CARD OF 'lightclientlaw17.PresyncContinues'. -/
def presyncContinuesUptoCard : Claim7 := { stood := { row := presyncContinuesUptoRow, standIns := [], harness := (true, "bb40f135ca81565a499617bc64c638f6b494fa1eaef54a89014a0c24734305d3"), looks := false }, kinds := [], alts := [], laidByText := true, laidKinds := [.data, .data], laidTests := true, laidLooks := .later }
def PresyncContinuesUptoCardSaid : Prop := Claim7.holds Tryz.pinned (.plain (OpenSpec.upto presyncContinuesSpec)) presyncContinuesUptoCard

/-- THE SECOND FORM's CARD OF 'lightclientlaw17.PresyncMemory'. -/
def presyncMemoryUptoCard : Claim7 := { stood := { row := presyncMemoryUptoRow, standIns := [], harness := (true, "bb40f135ca81565a499617bc64c638f6b494fa1eaef54a89014a0c24734305d3"), looks := false }, kinds := [], alts := [], laidByText := true, laidKinds := [.data, .data], laidTests := true, laidLooks := .later }
def PresyncMemoryUptoCardSaid : Prop := Claim7.holds Tryz.pinned (.plain (OpenSpec.upto presyncMemorySpec)) presyncMemoryUptoCard
end Rows
end Go.Proofs.YtlabkmpegbnilaaGreatDoor
