/-
  DERIVED. GIVEN WITH THE SEED: THE CARDS: each row of YtkpligkggnjcoaaGreatDoorRows.lean that lists a variable, with what it lists TIED to the program's text (the seventh form; the later family's looks); each row that meets fmt, with fmt's text TOLD by the authors' own Lean function (tested against real Go, not proved from fmt's source: count such statements apart). THE CARD IS WHAT COUNTS. Prove the row's statement (the work); the ties are given (YtkpligkggnjcoaaGreatDoorTie.lean); close each card by the builder's one call (the guide's Derived/Test/ToyasCard.lean, 'card_holds'). Laid BY PROGRAM, IN A SANDBOX (cutbox-door.mjs). By AI agents, Wed Nov 11 2026. No macro, syntax, notation, axiom, sorry.
-/
import Derived.Test.YtkpligkggnjcoaaGreatDoorRows
import GoSem.ClaimSeven
namespace Go.Proofs.YtkpligkggnjcoaaGreatDoor
namespace Rows

/-- THE TIED CARD OF 'kentledgelaw07.TariffReads'. -/
def tariffReadsCard : Claim7 := { stood := { row := tariffReadsRow, standIns := [], harness := (true, "fcbc0f06cfb0852765b5d314151e6a6b6fa20a409caa56c6c083d63a06688d16"), looks := true }, kinds := [], alts := [], laidByText := true, laidKinds := [.data, .data, .data, .sentinel, .sentinel, .listed, .data], laidTests := true, laidLooks := .later }
def TariffReadsCardSaid : Prop := Claim7.holds Tryz.pinned (.plain (OpenSpec.ofChange tariffReadsSpec)) tariffReadsCard

/-- THE TIED CARD OF 'kentledgelaw07.TariffBills'. -/
def tariffBillsCard : Claim7 := { stood := { row := tariffBillsRow, standIns := [], harness := (true, "fcbc0f06cfb0852765b5d314151e6a6b6fa20a409caa56c6c083d63a06688d16"), looks := true }, kinds := [], alts := [], laidByText := true, laidKinds := [.data, .data, .data, .sentinel, .sentinel, .listed, .data], laidTests := true, laidLooks := .later }
def TariffBillsCardSaid : Prop := Claim7.holds Tryz.pinned (.plain (OpenSpec.ofChange tariffBillsSpec)) tariffBillsCard

/-- THE TIED CARD OF 'kentledgelaw07.TariffCompares'. -/
def tariffComparesCard : Claim7 := { stood := { row := tariffComparesRow, standIns := [], harness := (true, "fcbc0f06cfb0852765b5d314151e6a6b6fa20a409caa56c6c083d63a06688d16"), looks := true }, kinds := [], alts := [], laidByText := true, laidKinds := [.data, .data, .data, .sentinel, .sentinel, .listed, .data], laidTests := true, laidLooks := .later }
def TariffComparesCardSaid : Prop := Claim7.holds Tryz.pinned (.plain (OpenSpec.ofChange tariffComparesSpec)) tariffComparesCard

/-- THE TIED CARD OF 'kentledgelaw07.TariffDiffers'. -/
def tariffDiffersCard : Claim7 := { stood := { row := tariffDiffersRow, standIns := [], harness := (true, "fcbc0f06cfb0852765b5d314151e6a6b6fa20a409caa56c6c083d63a06688d16"), looks := true }, kinds := [], alts := [], laidByText := true, laidKinds := [.data, .data, .data, .sentinel, .sentinel, .listed, .data], laidTests := true, laidLooks := .later }
def TariffDiffersCardSaid : Prop := Claim7.holds Tryz.pinned (.plain (OpenSpec.ofChange tariffDiffersSpec)) tariffDiffersCard

/-- THE TIED CARD OF 'kentledgelaw07.TariffPence'. -/
def tariffPenceCard : Claim7 := { stood := { row := tariffPenceRow, standIns := [], harness := (true, "fcbc0f06cfb0852765b5d314151e6a6b6fa20a409caa56c6c083d63a06688d16"), looks := true }, kinds := [], alts := [], laidByText := true, laidKinds := [.data, .data, .data, .sentinel, .sentinel, .listed, .data], laidTests := true, laidLooks := .later }
def TariffPenceCardSaid : Prop := Claim7.holds Tryz.pinned (.plain (OpenSpec.ofChange tariffPenceSpec)) tariffPenceCard

/-- THE TIED CARD OF 'kentledgelaw07.TariffTraces'. -/
def tariffTracesCard : Claim7 := { stood := { row := tariffTracesRow, standIns := [], harness := (true, "fcbc0f06cfb0852765b5d314151e6a6b6fa20a409caa56c6c083d63a06688d16"), looks := true }, kinds := [], alts := [], laidByText := true, laidKinds := [.data, .data, .data, .sentinel, .sentinel, .listed, .data], laidTests := true, laidLooks := .later }
def TariffTracesCardSaid : Prop := Claim7.holds Tryz.pinned (.plain (OpenSpec.ofChange tariffTracesSpec)) tariffTracesCard

/-- THE TIED CARD OF 'kentledgelaw07.TariffRules'. -/
def tariffRulesCard : Claim7 := { stood := { row := tariffRulesRow, standIns := [], harness := (true, "fcbc0f06cfb0852765b5d314151e6a6b6fa20a409caa56c6c083d63a06688d16"), looks := true }, kinds := [], alts := [], laidByText := true, laidKinds := [.data, .data, .data, .sentinel, .sentinel, .listed, .data], laidTests := true, laidLooks := .later }
def TariffRulesCardSaid : Prop := Claim7.holds Tryz.pinned (.plain (OpenSpec.ofChange tariffRulesSpec)) tariffRulesCard

/-- THE TIED CARD OF 'kentledgelaw07.TariffStages'. -/
def tariffStagesCard : Claim7 := { stood := { row := tariffStagesRow, standIns := [], harness := (true, "fcbc0f06cfb0852765b5d314151e6a6b6fa20a409caa56c6c083d63a06688d16"), looks := true }, kinds := [], alts := [], laidByText := true, laidKinds := [.data, .data, .data, .sentinel, .sentinel, .listed, .data], laidTests := true, laidLooks := .later }
def TariffStagesCardSaid : Prop := Claim7.holds Tryz.pinned (.plain (OpenSpec.ofChange tariffStagesSpec)) tariffStagesCard

/-- THE TIED CARD OF 'kentledgelaw07.TariffRuns'. -/
def tariffRunsCard : Claim7 := { stood := { row := tariffRunsRow, standIns := [], harness := (true, "fcbc0f06cfb0852765b5d314151e6a6b6fa20a409caa56c6c083d63a06688d16"), looks := true }, kinds := [], alts := [], laidByText := true, laidKinds := [.data, .data, .data, .sentinel, .sentinel, .listed, .data], laidTests := true, laidLooks := .later }
def TariffRunsCardSaid : Prop := Claim7.holds Tryz.pinned (.plain (OpenSpec.ofChange tariffRunsSpec)) tariffRunsCard

/-- THE TIED CARD OF 'kentledgelaw07.TariffDues'. -/
def tariffDuesCard : Claim7 := { stood := { row := tariffDuesRow, standIns := [], harness := (true, "fcbc0f06cfb0852765b5d314151e6a6b6fa20a409caa56c6c083d63a06688d16"), looks := true }, kinds := [], alts := [], laidByText := true, laidKinds := [.data, .data, .data, .sentinel, .sentinel, .listed, .data], laidTests := true, laidLooks := .later }
def TariffDuesCardSaid : Prop := Claim7.holds Tryz.pinned (.plain (OpenSpec.ofChange tariffDuesSpec)) tariffDuesCard

/-- THE TIED CARD OF 'kentledgelaw07.TariffTexts'. -/
def tariffTextsCard : Claim7 := { stood := { row := tariffTextsRow, standIns := [], harness := (true, "fcbc0f06cfb0852765b5d314151e6a6b6fa20a409caa56c6c083d63a06688d16"), looks := true }, kinds := [], alts := [], laidByText := true, laidKinds := [.data, .data, .data, .sentinel, .sentinel, .listed, .data], laidTests := true, laidLooks := .later }
def TariffTextsCardSaid : Prop := Claim7.holds Tryz.pinned (.plain (OpenSpec.ofChange tariffTextsSpec)) tariffTextsCard

/-- THE TIED CARD OF 'kentledgelaw07.TariffPrints'. -/
def tariffPrintsCard : Claim7 := { stood := { row := tariffPrintsRow, standIns := [], harness := (true, "fcbc0f06cfb0852765b5d314151e6a6b6fa20a409caa56c6c083d63a06688d16"), looks := true }, kinds := [], alts := [], laidByText := true, laidKinds := [.data, .data, .data, .sentinel, .sentinel, .listed, .data], laidTests := true, laidLooks := .later }
def TariffPrintsCardSaid : Prop := Claim7.holds Tryz.pinned (.plain (OpenSpec.ofChange tariffPrintsSpec)) tariffPrintsCard

/-- THE TIED CARD OF 'kentledgelaw07.TariffEditions'. -/
def tariffEditionsCard : Claim7 := { stood := { row := tariffEditionsRow, standIns := [], harness := (true, "fcbc0f06cfb0852765b5d314151e6a6b6fa20a409caa56c6c083d63a06688d16"), looks := true }, kinds := [], alts := [], laidByText := true, laidKinds := [.data, .data, .data, .sentinel, .sentinel, .listed, .data], laidTests := true, laidLooks := .later }
def TariffEditionsCardSaid : Prop := Claim7.holds Tryz.pinned (.plain (OpenSpec.ofChange tariffEditionsSpec)) tariffEditionsCard

/-- THE TIED CARD OF 'kentledgelaw07.TariffDays'. -/
def tariffDaysCard : Claim7 := { stood := { row := tariffDaysRow, standIns := [], harness := (true, "fcbc0f06cfb0852765b5d314151e6a6b6fa20a409caa56c6c083d63a06688d16"), looks := true }, kinds := [], alts := [], laidByText := true, laidKinds := [.data, .data, .data, .sentinel, .sentinel, .listed, .data], laidTests := true, laidLooks := .later }
def TariffDaysCardSaid : Prop := Claim7.holds Tryz.pinned (.plain (OpenSpec.ofChange tariffDaysSpec)) tariffDaysCard

/-- THE SECOND FORM's CARD OF 'kentledgelaw07.TariffReads'. -/
def tariffReadsUptoCard : Claim7 := { stood := { row := tariffReadsUptoRow, standIns := [], harness := (true, "fcbc0f06cfb0852765b5d314151e6a6b6fa20a409caa56c6c083d63a06688d16"), looks := true }, kinds := [], alts := [], laidByText := true, laidKinds := [.data, .data, .data, .sentinel, .sentinel, .listed, .data], laidTests := true, laidLooks := .later }
def TariffReadsUptoCardSaid : Prop := Claim7.holds Tryz.pinned (.plain (OpenSpec.upto tariffReadsSpec)) tariffReadsUptoCard

/-- THE SECOND FORM's CARD OF 'kentledgelaw07.TariffBills'. -/
def tariffBillsUptoCard : Claim7 := { stood := { row := tariffBillsUptoRow, standIns := [], harness := (true, "fcbc0f06cfb0852765b5d314151e6a6b6fa20a409caa56c6c083d63a06688d16"), looks := true }, kinds := [], alts := [], laidByText := true, laidKinds := [.data, .data, .data, .sentinel, .sentinel, .listed, .data], laidTests := true, laidLooks := .later }
def TariffBillsUptoCardSaid : Prop := Claim7.holds Tryz.pinned (.plain (OpenSpec.upto tariffBillsSpec)) tariffBillsUptoCard

/-- THE SECOND FORM's CARD OF 'kentledgelaw07.TariffCompares'. -/
def tariffComparesUptoCard : Claim7 := { stood := { row := tariffComparesUptoRow, standIns := [], harness := (true, "fcbc0f06cfb0852765b5d314151e6a6b6fa20a409caa56c6c083d63a06688d16"), looks := true }, kinds := [], alts := [], laidByText := true, laidKinds := [.data, .data, .data, .sentinel, .sentinel, .listed, .data], laidTests := true, laidLooks := .later }
def TariffComparesUptoCardSaid : Prop := Claim7.holds Tryz.pinned (.plain (OpenSpec.upto tariffComparesSpec)) tariffComparesUptoCard

/-- THE SECOND FORM's CARD OF 'kentledgelaw07.TariffDiffers'. -/
def tariffDiffersUptoCard : Claim7 := { stood := { row := tariffDiffersUptoRow, standIns := [], harness := (true, "fcbc0f06cfb0852765b5d314151e6a6b6fa20a409caa56c6c083d63a06688d16"), looks := true }, kinds := [], alts := [], laidByText := true, laidKinds := [.data, .data, .data, .sentinel, .sentinel, .listed, .data], laidTests := true, laidLooks := .later }
def TariffDiffersUptoCardSaid : Prop := Claim7.holds Tryz.pinned (.plain (OpenSpec.upto tariffDiffersSpec)) tariffDiffersUptoCard

/-- THE SECOND FORM's CARD OF 'kentledgelaw07.TariffPence'. -/
def tariffPenceUptoCard : Claim7 := { stood := { row := tariffPenceUptoRow, standIns := [], harness := (true, "fcbc0f06cfb0852765b5d314151e6a6b6fa20a409caa56c6c083d63a06688d16"), looks := true }, kinds := [], alts := [], laidByText := true, laidKinds := [.data, .data, .data, .sentinel, .sentinel, .listed, .data], laidTests := true, laidLooks := .later }
def TariffPenceUptoCardSaid : Prop := Claim7.holds Tryz.pinned (.plain (OpenSpec.upto tariffPenceSpec)) tariffPenceUptoCard

/-- THE SECOND FORM's CARD OF 'kentledgelaw07.TariffTraces'. -/
def tariffTracesUptoCard : Claim7 := { stood := { row := tariffTracesUptoRow, standIns := [], harness := (true, "fcbc0f06cfb0852765b5d314151e6a6b6fa20a409caa56c6c083d63a06688d16"), looks := true }, kinds := [], alts := [], laidByText := true, laidKinds := [.data, .data, .data, .sentinel, .sentinel, .listed, .data], laidTests := true, laidLooks := .later }
def TariffTracesUptoCardSaid : Prop := Claim7.holds Tryz.pinned (.plain (OpenSpec.upto tariffTracesSpec)) tariffTracesUptoCard

/-- THE SECOND FORM's CARD OF 'kentledgelaw07.TariffRules'. -/
def tariffRulesUptoCard : Claim7 := { stood := { row := tariffRulesUptoRow, standIns := [], harness := (true, "fcbc0f06cfb0852765b5d314151e6a6b6fa20a409caa56c6c083d63a06688d16"), looks := true }, kinds := [], alts := [], laidByText := true, laidKinds := [.data, .data, .data, .sentinel, .sentinel, .listed, .data], laidTests := true, laidLooks := .later }
def TariffRulesUptoCardSaid : Prop := Claim7.holds Tryz.pinned (.plain (OpenSpec.upto tariffRulesSpec)) tariffRulesUptoCard

/-- THE SECOND FORM's CARD OF 'kentledgelaw07.TariffStages'. -/
def tariffStagesUptoCard : Claim7 := { stood := { row := tariffStagesUptoRow, standIns := [], harness := (true, "fcbc0f06cfb0852765b5d314151e6a6b6fa20a409caa56c6c083d63a06688d16"), looks := true }, kinds := [], alts := [], laidByText := true, laidKinds := [.data, .data, .data, .sentinel, .sentinel, .listed, .data], laidTests := true, laidLooks := .later }
def TariffStagesUptoCardSaid : Prop := Claim7.holds Tryz.pinned (.plain (OpenSpec.upto tariffStagesSpec)) tariffStagesUptoCard

/-- THE SECOND FORM's CARD OF 'kentledgelaw07.TariffRuns'. -/
def tariffRunsUptoCard : Claim7 := { stood := { row := tariffRunsUptoRow, standIns := [], harness := (true, "fcbc0f06cfb0852765b5d314151e6a6b6fa20a409caa56c6c083d63a06688d16"), looks := true }, kinds := [], alts := [], laidByText := true, laidKinds := [.data, .data, .data, .sentinel, .sentinel, .listed, .data], laidTests := true, laidLooks := .later }
def TariffRunsUptoCardSaid : Prop := Claim7.holds Tryz.pinned (.plain (OpenSpec.upto tariffRunsSpec)) tariffRunsUptoCard

/-- THE SECOND FORM's CARD OF 'kentledgelaw07.TariffDues'. -/
def tariffDuesUptoCard : Claim7 := { stood := { row := tariffDuesUptoRow, standIns := [], harness := (true, "fcbc0f06cfb0852765b5d314151e6a6b6fa20a409caa56c6c083d63a06688d16"), looks := true }, kinds := [], alts := [], laidByText := true, laidKinds := [.data, .data, .data, .sentinel, .sentinel, .listed, .data], laidTests := true, laidLooks := .later }
def TariffDuesUptoCardSaid : Prop := Claim7.holds Tryz.pinned (.plain (OpenSpec.upto tariffDuesSpec)) tariffDuesUptoCard

/-- THE SECOND FORM's CARD OF 'kentledgelaw07.TariffTexts'. -/
def tariffTextsUptoCard : Claim7 := { stood := { row := tariffTextsUptoRow, standIns := [], harness := (true, "fcbc0f06cfb0852765b5d314151e6a6b6fa20a409caa56c6c083d63a06688d16"), looks := true }, kinds := [], alts := [], laidByText := true, laidKinds := [.data, .data, .data, .sentinel, .sentinel, .listed, .data], laidTests := true, laidLooks := .later }
def TariffTextsUptoCardSaid : Prop := Claim7.holds Tryz.pinned (.plain (OpenSpec.upto tariffTextsSpec)) tariffTextsUptoCard

/-- THE SECOND FORM's CARD OF 'kentledgelaw07.TariffPrints'. -/
def tariffPrintsUptoCard : Claim7 := { stood := { row := tariffPrintsUptoRow, standIns := [], harness := (true, "fcbc0f06cfb0852765b5d314151e6a6b6fa20a409caa56c6c083d63a06688d16"), looks := true }, kinds := [], alts := [], laidByText := true, laidKinds := [.data, .data, .data, .sentinel, .sentinel, .listed, .data], laidTests := true, laidLooks := .later }
def TariffPrintsUptoCardSaid : Prop := Claim7.holds Tryz.pinned (.plain (OpenSpec.upto tariffPrintsSpec)) tariffPrintsUptoCard

/-- THE SECOND FORM's CARD OF 'kentledgelaw07.TariffEditions'. -/
def tariffEditionsUptoCard : Claim7 := { stood := { row := tariffEditionsUptoRow, standIns := [], harness := (true, "fcbc0f06cfb0852765b5d314151e6a6b6fa20a409caa56c6c083d63a06688d16"), looks := true }, kinds := [], alts := [], laidByText := true, laidKinds := [.data, .data, .data, .sentinel, .sentinel, .listed, .data], laidTests := true, laidLooks := .later }
def TariffEditionsUptoCardSaid : Prop := Claim7.holds Tryz.pinned (.plain (OpenSpec.upto tariffEditionsSpec)) tariffEditionsUptoCard

/-- THE SECOND FORM's CARD OF 'kentledgelaw07.TariffDays'. -/
def tariffDaysUptoCard : Claim7 := { stood := { row := tariffDaysUptoRow, standIns := [], harness := (true, "fcbc0f06cfb0852765b5d314151e6a6b6fa20a409caa56c6c083d63a06688d16"), looks := true }, kinds := [], alts := [], laidByText := true, laidKinds := [.data, .data, .data, .sentinel, .sentinel, .listed, .data], laidTests := true, laidLooks := .later }
def TariffDaysUptoCardSaid : Prop := Claim7.holds Tryz.pinned (.plain (OpenSpec.upto tariffDaysSpec)) tariffDaysUptoCard
end Rows
end Go.Proofs.YtkpligkggnjcoaaGreatDoor
