/-
  DERIVED. GIVEN WITH THE SEED: THE CARDS: each row of YtpjojkomdndamaaGreatDoorRows.lean that lists a variable, with what it lists TIED to the program's text (the seventh form; the later family's looks); each row that meets fmt, with fmt's text TOLD by the authors' own Lean function (tested against real Go, not proved from fmt's source: count such statements apart). THE CARD IS WHAT COUNTS. Prove the row's statement (the work); the ties are given (YtpjojkomdndamaaGreatDoorTie.lean); close each card by the builder's one call (the guide's Derived/Test/ToyasCard.lean, 'card_holds'). Laid BY PROGRAM, IN A SANDBOX (cutbox-door.mjs). By AI agents, Wed Nov 11 2026. No macro, syntax, notation, axiom, sorry.
-/
import Derived.Test.YtpjojkomdndamaaGreatDoorRows
import GoSem.ClaimSeven
namespace Go.Proofs.YtpjojkomdndamaaGreatDoor
namespace Rows

/-- THE TIED CARD OF 'stratagemlaw46.MergeshrinkBuilds'. -/
def mergeshrinkBuildsCard : Claim7 := { stood := { row := mergeshrinkBuildsRow, standIns := [], harness := (true, "a61a41f1edee8894ef046eba697b77e7965f036c8b227546f24b24c19078bf0c"), looks := true }, kinds := [], alts := [], laidByText := true, laidKinds := [.data, .data, .data], laidTests := true, laidLooks := .later }
def MergeshrinkBuildsCardSaid : Prop := Claim7.holds Tryz.pinned (.plain (OpenSpec.ofChange mergeshrinkBuildsSpec)) mergeshrinkBuildsCard

/-- THE TIED CARD OF 'stratagemlaw46.MergeshrinkAdmissible'. -/
def mergeshrinkAdmissibleCard : Claim7 := { stood := { row := mergeshrinkAdmissibleRow, standIns := [], harness := (true, "a61a41f1edee8894ef046eba697b77e7965f036c8b227546f24b24c19078bf0c"), looks := true }, kinds := [], alts := [], laidByText := true, laidKinds := [.data, .data, .data], laidTests := true, laidLooks := .later }
def MergeshrinkAdmissibleCardSaid : Prop := Claim7.holds Tryz.pinned (.plain (OpenSpec.ofChange mergeshrinkAdmissibleSpec)) mergeshrinkAdmissibleCard

/-- THE TIED CARD OF 'stratagemlaw46.MergeshrinkConsistent'. -/
def mergeshrinkConsistentCard : Claim7 := { stood := { row := mergeshrinkConsistentRow, standIns := [], harness := (true, "a61a41f1edee8894ef046eba697b77e7965f036c8b227546f24b24c19078bf0c"), looks := true }, kinds := [], alts := [], laidByText := true, laidKinds := [.data, .data, .data], laidTests := true, laidLooks := .later }
def MergeshrinkConsistentCardSaid : Prop := Claim7.holds Tryz.pinned (.plain (OpenSpec.ofChange mergeshrinkConsistentSpec)) mergeshrinkConsistentCard

/-- THE TIED CARD OF 'stratagemlaw46.MergeshrinkPerfect'. -/
def mergeshrinkPerfectCard : Claim7 := { stood := { row := mergeshrinkPerfectRow, standIns := [], harness := (true, "a61a41f1edee8894ef046eba697b77e7965f036c8b227546f24b24c19078bf0c"), looks := true }, kinds := [], alts := [], laidByText := true, laidKinds := [.data, .data, .data], laidTests := true, laidLooks := .later }
def MergeshrinkPerfectCardSaid : Prop := Claim7.holds Tryz.pinned (.plain (OpenSpec.ofChange mergeshrinkPerfectSpec)) mergeshrinkPerfectCard

/-- THE TIED CARD OF 'stratagemlaw46.MergeshrinkSizes'. -/
def mergeshrinkSizesCard : Claim7 := { stood := { row := mergeshrinkSizesRow, standIns := [], harness := (true, "a61a41f1edee8894ef046eba697b77e7965f036c8b227546f24b24c19078bf0c"), looks := true }, kinds := [], alts := [], laidByText := true, laidKinds := [.data, .data, .data], laidTests := true, laidLooks := .later }
def MergeshrinkSizesCardSaid : Prop := Claim7.holds Tryz.pinned (.plain (OpenSpec.ofChange mergeshrinkSizesSpec)) mergeshrinkSizesCard

/-- THE TIED CARD OF 'stratagemlaw46.MergeshrinkTight'. -/
def mergeshrinkTightCard : Claim7 := { stood := { row := mergeshrinkTightRow, standIns := [], harness := (true, "a61a41f1edee8894ef046eba697b77e7965f036c8b227546f24b24c19078bf0c"), looks := true }, kinds := [], alts := [], laidByText := true, laidKinds := [.data, .data, .data], laidTests := true, laidLooks := .later }
def MergeshrinkTightCardSaid : Prop := Claim7.holds Tryz.pinned (.plain (OpenSpec.ofChange mergeshrinkTightSpec)) mergeshrinkTightCard

/-- THE TIED CARD OF 'stratagemlaw46.MergeshrinkForms'. -/
def mergeshrinkFormsCard : Claim7 := { stood := { row := mergeshrinkFormsRow, standIns := [], harness := (true, "a61a41f1edee8894ef046eba697b77e7965f036c8b227546f24b24c19078bf0c"), looks := true }, kinds := [], alts := [], laidByText := true, laidKinds := [.data, .data, .data], laidTests := true, laidLooks := .later }
def MergeshrinkFormsCardSaid : Prop := Claim7.holds Tryz.pinned (.plain (OpenSpec.ofChange mergeshrinkFormsSpec)) mergeshrinkFormsCard

/-- THE SECOND FORM's CARD OF 'stratagemlaw46.MergeshrinkBuilds'. -/
def mergeshrinkBuildsUptoCard : Claim7 := { stood := { row := mergeshrinkBuildsUptoRow, standIns := [], harness := (true, "a61a41f1edee8894ef046eba697b77e7965f036c8b227546f24b24c19078bf0c"), looks := true }, kinds := [], alts := [], laidByText := true, laidKinds := [.data, .data, .data], laidTests := true, laidLooks := .later }
def MergeshrinkBuildsUptoCardSaid : Prop := Claim7.holds Tryz.pinned (.plain (OpenSpec.upto mergeshrinkBuildsSpec)) mergeshrinkBuildsUptoCard

/-- THE SECOND FORM's CARD OF 'stratagemlaw46.MergeshrinkAdmissible'. -/
def mergeshrinkAdmissibleUptoCard : Claim7 := { stood := { row := mergeshrinkAdmissibleUptoRow, standIns := [], harness := (true, "a61a41f1edee8894ef046eba697b77e7965f036c8b227546f24b24c19078bf0c"), looks := true }, kinds := [], alts := [], laidByText := true, laidKinds := [.data, .data, .data], laidTests := true, laidLooks := .later }
def MergeshrinkAdmissibleUptoCardSaid : Prop := Claim7.holds Tryz.pinned (.plain (OpenSpec.upto mergeshrinkAdmissibleSpec)) mergeshrinkAdmissibleUptoCard

/-- THE SECOND FORM's CARD OF 'stratagemlaw46.MergeshrinkConsistent'. -/
def mergeshrinkConsistentUptoCard : Claim7 := { stood := { row := mergeshrinkConsistentUptoRow, standIns := [], harness := (true, "a61a41f1edee8894ef046eba697b77e7965f036c8b227546f24b24c19078bf0c"), looks := true }, kinds := [], alts := [], laidByText := true, laidKinds := [.data, .data, .data], laidTests := true, laidLooks := .later }
def MergeshrinkConsistentUptoCardSaid : Prop := Claim7.holds Tryz.pinned (.plain (OpenSpec.upto mergeshrinkConsistentSpec)) mergeshrinkConsistentUptoCard

/-- THE SECOND FORM's CARD OF 'stratagemlaw46.MergeshrinkPerfect'. -/
def mergeshrinkPerfectUptoCard : Claim7 := { stood := { row := mergeshrinkPerfectUptoRow, standIns := [], harness := (true, "a61a41f1edee8894ef046eba697b77e7965f036c8b227546f24b24c19078bf0c"), looks := true }, kinds := [], alts := [], laidByText := true, laidKinds := [.data, .data, .data], laidTests := true, laidLooks := .later }
def MergeshrinkPerfectUptoCardSaid : Prop := Claim7.holds Tryz.pinned (.plain (OpenSpec.upto mergeshrinkPerfectSpec)) mergeshrinkPerfectUptoCard

/-- THE SECOND FORM's CARD OF 'stratagemlaw46.MergeshrinkSizes'. -/
def mergeshrinkSizesUptoCard : Claim7 := { stood := { row := mergeshrinkSizesUptoRow, standIns := [], harness := (true, "a61a41f1edee8894ef046eba697b77e7965f036c8b227546f24b24c19078bf0c"), looks := true }, kinds := [], alts := [], laidByText := true, laidKinds := [.data, .data, .data], laidTests := true, laidLooks := .later }
def MergeshrinkSizesUptoCardSaid : Prop := Claim7.holds Tryz.pinned (.plain (OpenSpec.upto mergeshrinkSizesSpec)) mergeshrinkSizesUptoCard

/-- THE SECOND FORM's CARD OF 'stratagemlaw46.MergeshrinkTight'. -/
def mergeshrinkTightUptoCard : Claim7 := { stood := { row := mergeshrinkTightUptoRow, standIns := [], harness := (true, "a61a41f1edee8894ef046eba697b77e7965f036c8b227546f24b24c19078bf0c"), looks := true }, kinds := [], alts := [], laidByText := true, laidKinds := [.data, .data, .data], laidTests := true, laidLooks := .later }
def MergeshrinkTightUptoCardSaid : Prop := Claim7.holds Tryz.pinned (.plain (OpenSpec.upto mergeshrinkTightSpec)) mergeshrinkTightUptoCard

/-- THE SECOND FORM's CARD OF 'stratagemlaw46.MergeshrinkForms'. -/
def mergeshrinkFormsUptoCard : Claim7 := { stood := { row := mergeshrinkFormsUptoRow, standIns := [], harness := (true, "a61a41f1edee8894ef046eba697b77e7965f036c8b227546f24b24c19078bf0c"), looks := true }, kinds := [], alts := [], laidByText := true, laidKinds := [.data, .data, .data], laidTests := true, laidLooks := .later }
def MergeshrinkFormsUptoCardSaid : Prop := Claim7.holds Tryz.pinned (.plain (OpenSpec.upto mergeshrinkFormsSpec)) mergeshrinkFormsUptoCard
end Rows
end Go.Proofs.YtpjojkomdndamaaGreatDoor
