/-
  DERIVED. GIVEN WITH THE SEED: THE CARDS: each row of YtcabhickgjhkhaaGreatDoorRows.lean that lists a variable, with what it lists TIED to the program's text (the seventh form; the later family's looks); each row that meets fmt, with fmt's text TOLD by the authors' own Lean function (tested against real Go, not proved from fmt's source: count such statements apart). THE CARD IS WHAT COUNTS. Prove the row's statement (the work); the ties are given (YtcabhickgjhkhaaGreatDoorTie.lean); close each card by the builder's one call (the guide's Derived/Test/ToyasCard.lean, 'card_holds'). Laid BY PROGRAM, IN A SANDBOX (cutbox-door.mjs). By AI agents, Wed Nov 11 2026. No macro, syntax, notation, axiom, sorry.
-/
import Derived.Test.YtcabhickgjhkhaaGreatDoorRows
import GoSem.ClaimSeven
namespace Go.Proofs.YtcabhickgjhkhaaGreatDoor
namespace Rows

/-- THE TIED CARD OF 'stratagemlaw20.InvariantBalances'. -/
def invariantBalancesCard : Claim7 := { stood := { row := invariantBalancesRow, standIns := [], harness := (true, "f80cb9e646a5ed8fd6b3d20b6cb8d197e6effc8063fc94591a0a076e0501df17"), looks := true }, kinds := [], alts := [], laidByText := true, laidKinds := [.data, .data, .data, .data, .pinned, .pinned, .pinned, .pinned, .pinned, .pinned], laidTests := true, laidLooks := .later }
def InvariantBalancesCardSaid : Prop := Claim7.holds Tryz.pinned (.plain (OpenSpec.ofChange invariantBalancesSpec)) invariantBalancesCard

/-- THE TIED CARD OF 'stratagemlaw20.InvariantHolds'. -/
def invariantHoldsCard : Claim7 := { stood := { row := invariantHoldsRow, standIns := [], harness := (true, "f80cb9e646a5ed8fd6b3d20b6cb8d197e6effc8063fc94591a0a076e0501df17"), looks := true }, kinds := [], alts := [], laidByText := true, laidKinds := [.data, .data, .data, .data, .pinned, .pinned, .pinned, .pinned, .pinned, .pinned], laidTests := true, laidLooks := .later }
def InvariantHoldsCardSaid : Prop := Claim7.holds Tryz.pinned (.plain (OpenSpec.ofChange invariantHoldsSpec)) invariantHoldsCard

/-- THE TIED CARD OF 'stratagemlaw20.InvariantMaximal'. -/
def invariantMaximalCard : Claim7 := { stood := { row := invariantMaximalRow, standIns := [], harness := (true, "f80cb9e646a5ed8fd6b3d20b6cb8d197e6effc8063fc94591a0a076e0501df17"), looks := true }, kinds := [], alts := [], laidByText := true, laidKinds := [.data, .data, .data, .data, .pinned, .pinned, .pinned, .pinned, .pinned, .pinned], laidTests := true, laidLooks := .later }
def InvariantMaximalCardSaid : Prop := Claim7.holds Tryz.pinned (.plain (OpenSpec.ofChange invariantMaximalSpec)) invariantMaximalCard

/-- THE TIED CARD OF 'stratagemlaw20.InvariantForms'. -/
def invariantFormsCard : Claim7 := { stood := { row := invariantFormsRow, standIns := [], harness := (true, "f80cb9e646a5ed8fd6b3d20b6cb8d197e6effc8063fc94591a0a076e0501df17"), looks := true }, kinds := [], alts := [], laidByText := true, laidKinds := [.data, .data, .data, .data, .pinned, .pinned, .pinned, .pinned, .pinned, .pinned], laidTests := true, laidLooks := .later }
def InvariantFormsCardSaid : Prop := Claim7.holds Tryz.pinned (.plain (OpenSpec.ofChange invariantFormsSpec)) invariantFormsCard

/-- THE TIED CARD OF 'stratagemlaw20.InvariantInductive'. -/
def invariantInductiveCard : Claim7 := { stood := { row := invariantInductiveRow, standIns := [], harness := (true, "f80cb9e646a5ed8fd6b3d20b6cb8d197e6effc8063fc94591a0a076e0501df17"), looks := true }, kinds := [], alts := [], laidByText := true, laidKinds := [.data, .data, .data, .data, .pinned, .pinned, .pinned, .pinned, .pinned, .pinned], laidTests := true, laidLooks := .later }
def InvariantInductiveCardSaid : Prop := Claim7.holds Tryz.pinned (.plain (OpenSpec.ofChange invariantInductiveSpec)) invariantInductiveCard

/-- THE TIED CARD OF 'stratagemlaw20.InvariantSteps'. -/
def invariantStepsCard : Claim7 := { stood := { row := invariantStepsRow, standIns := [], harness := (true, "f80cb9e646a5ed8fd6b3d20b6cb8d197e6effc8063fc94591a0a076e0501df17"), looks := true }, kinds := [], alts := [], laidByText := true, laidKinds := [.data, .data, .data, .data, .pinned, .pinned, .pinned, .pinned, .pinned, .pinned], laidTests := true, laidLooks := .later }
def InvariantStepsCardSaid : Prop := Claim7.holds Tryz.pinned (.plain (OpenSpec.ofChange invariantStepsSpec)) invariantStepsCard

/-- THE SECOND FORM's CARD OF 'stratagemlaw20.InvariantBalances'. -/
def invariantBalancesUptoCard : Claim7 := { stood := { row := invariantBalancesUptoRow, standIns := [], harness := (true, "f80cb9e646a5ed8fd6b3d20b6cb8d197e6effc8063fc94591a0a076e0501df17"), looks := true }, kinds := [], alts := [], laidByText := true, laidKinds := [.data, .data, .data, .data, .pinned, .pinned, .pinned, .pinned, .pinned, .pinned], laidTests := true, laidLooks := .later }
def InvariantBalancesUptoCardSaid : Prop := Claim7.holds Tryz.pinned (.plain (OpenSpec.upto invariantBalancesSpec)) invariantBalancesUptoCard

/-- THE SECOND FORM's CARD OF 'stratagemlaw20.InvariantHolds'. -/
def invariantHoldsUptoCard : Claim7 := { stood := { row := invariantHoldsUptoRow, standIns := [], harness := (true, "f80cb9e646a5ed8fd6b3d20b6cb8d197e6effc8063fc94591a0a076e0501df17"), looks := true }, kinds := [], alts := [], laidByText := true, laidKinds := [.data, .data, .data, .data, .pinned, .pinned, .pinned, .pinned, .pinned, .pinned], laidTests := true, laidLooks := .later }
def InvariantHoldsUptoCardSaid : Prop := Claim7.holds Tryz.pinned (.plain (OpenSpec.upto invariantHoldsSpec)) invariantHoldsUptoCard

/-- THE SECOND FORM's CARD OF 'stratagemlaw20.InvariantMaximal'. -/
def invariantMaximalUptoCard : Claim7 := { stood := { row := invariantMaximalUptoRow, standIns := [], harness := (true, "f80cb9e646a5ed8fd6b3d20b6cb8d197e6effc8063fc94591a0a076e0501df17"), looks := true }, kinds := [], alts := [], laidByText := true, laidKinds := [.data, .data, .data, .data, .pinned, .pinned, .pinned, .pinned, .pinned, .pinned], laidTests := true, laidLooks := .later }
def InvariantMaximalUptoCardSaid : Prop := Claim7.holds Tryz.pinned (.plain (OpenSpec.upto invariantMaximalSpec)) invariantMaximalUptoCard

/-- THE SECOND FORM's CARD OF 'stratagemlaw20.InvariantForms'. -/
def invariantFormsUptoCard : Claim7 := { stood := { row := invariantFormsUptoRow, standIns := [], harness := (true, "f80cb9e646a5ed8fd6b3d20b6cb8d197e6effc8063fc94591a0a076e0501df17"), looks := true }, kinds := [], alts := [], laidByText := true, laidKinds := [.data, .data, .data, .data, .pinned, .pinned, .pinned, .pinned, .pinned, .pinned], laidTests := true, laidLooks := .later }
def InvariantFormsUptoCardSaid : Prop := Claim7.holds Tryz.pinned (.plain (OpenSpec.upto invariantFormsSpec)) invariantFormsUptoCard

/-- THE SECOND FORM's CARD OF 'stratagemlaw20.InvariantInductive'. -/
def invariantInductiveUptoCard : Claim7 := { stood := { row := invariantInductiveUptoRow, standIns := [], harness := (true, "f80cb9e646a5ed8fd6b3d20b6cb8d197e6effc8063fc94591a0a076e0501df17"), looks := true }, kinds := [], alts := [], laidByText := true, laidKinds := [.data, .data, .data, .data, .pinned, .pinned, .pinned, .pinned, .pinned, .pinned], laidTests := true, laidLooks := .later }
def InvariantInductiveUptoCardSaid : Prop := Claim7.holds Tryz.pinned (.plain (OpenSpec.upto invariantInductiveSpec)) invariantInductiveUptoCard

/-- THE SECOND FORM's CARD OF 'stratagemlaw20.InvariantSteps'. -/
def invariantStepsUptoCard : Claim7 := { stood := { row := invariantStepsUptoRow, standIns := [], harness := (true, "f80cb9e646a5ed8fd6b3d20b6cb8d197e6effc8063fc94591a0a076e0501df17"), looks := true }, kinds := [], alts := [], laidByText := true, laidKinds := [.data, .data, .data, .data, .pinned, .pinned, .pinned, .pinned, .pinned, .pinned], laidTests := true, laidLooks := .later }
def InvariantStepsUptoCardSaid : Prop := Claim7.holds Tryz.pinned (.plain (OpenSpec.upto invariantStepsSpec)) invariantStepsUptoCard
end Rows
end Go.Proofs.YtcabhickgjhkhaaGreatDoor
