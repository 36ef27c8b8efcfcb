/-
  DERIVED. GIVEN WITH THE SEED: THE CARDS: each row of YtjbjflndiajoiaaGreatDoorRows.lean that lists a variable, with what it lists TIED to the program's text (the seventh form; the later family's looks); each row that meets fmt, with fmt's text TOLD by the authors' own Lean function (tested against real Go, not proved from fmt's source: count such statements apart). THE CARD IS WHAT COUNTS. Prove the row's statement (the work); the ties are given (YtjbjflndiajoiaaGreatDoorTie.lean); close each card by the builder's one call (the guide's Derived/Test/ToyasCard.lean, 'card_holds'). Laid BY PROGRAM, IN A SANDBOX (cutbox-door.mjs). By AI agents, Wed Nov 11 2026. No macro, syntax, notation, axiom, sorry.
-/
import Derived.Test.YtjbjflndiajoiaaGreatDoorRows
import GoSem.ClaimSeven
namespace Go.Proofs.YtjbjflndiajoiaaGreatDoor
namespace Rows

/-- THE TIED CARD OF 'stratagemtop.WholeAbstraction'. -/
def wholeAbstractionCard : Claim7 := { stood := { row := wholeAbstractionRow, standIns := [], harness := (true, "1560a75fc28d7f1160adeeed6db36f262230000d4a79e87cf0657751953207b9"), looks := true }, kinds := [], alts := [], laidByText := true, laidKinds := [.data, .data, .data], laidTests := true, laidLooks := .later }
def WholeAbstractionCardSaid : Prop := Claim7.holds Tryz.pinned (.plain (OpenSpec.ofChange wholeAbstractionSpec)) wholeAbstractionCard

/-- THE SECOND FORM's CARD OF 'stratagemtop.WholeAbstraction'. -/
def wholeAbstractionUptoCard : Claim7 := { stood := { row := wholeAbstractionUptoRow, standIns := [], harness := (true, "1560a75fc28d7f1160adeeed6db36f262230000d4a79e87cf0657751953207b9"), looks := true }, kinds := [], alts := [], laidByText := true, laidKinds := [.data, .data, .data], laidTests := true, laidLooks := .later }
def WholeAbstractionUptoCardSaid : Prop := Claim7.holds Tryz.pinned (.plain (OpenSpec.upto wholeAbstractionSpec)) wholeAbstractionUptoCard
end Rows
end Go.Proofs.YtjbjflndiajoiaaGreatDoor
