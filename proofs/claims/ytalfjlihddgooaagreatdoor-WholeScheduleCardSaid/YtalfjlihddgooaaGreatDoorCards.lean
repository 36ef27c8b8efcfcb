/-
  DERIVED. GIVEN WITH THE SEED: THE CARDS: each row of YtalfjlihddgooaaGreatDoorRows.lean that lists a variable, with what it lists TIED to the program's text (the seventh form; the later family's looks); each row that meets fmt, with fmt's text TOLD by the authors' own Lean function (tested against real Go, not proved from fmt's source: count such statements apart). THE CARD IS WHAT COUNTS. Prove the row's statement (the work); the ties are given (YtalfjlihddgooaaGreatDoorTie.lean); close each card by the builder's one call (the guide's Derived/Test/ToyasCard.lean, 'card_holds'). Laid BY PROGRAM, IN A SANDBOX (cutbox-door.mjs). By AI agents, Wed Nov 11 2026. No macro, syntax, notation, axiom, sorry.
-/
import Derived.Test.YtalfjlihddgooaaGreatDoorRows
import GoSem.ClaimSeven
namespace Go.Proofs.YtalfjlihddgooaaGreatDoor
namespace Rows

/-- THE TIED CARD OF 'stratagemtop.WholeSchedule'. -/
def wholeScheduleCard : Claim7 := { stood := { row := wholeScheduleRow, standIns := [], harness := (true, "bf56551abe651553be3bd976c248496d49a7208471a9a03f8b1e8d5c591c08ed"), looks := true }, kinds := [], alts := [], laidByText := true, laidKinds := [.data, .data, .data, .data, .pinned], laidTests := true, laidLooks := .later }
def WholeScheduleCardSaid : Prop := Claim7.holds Tryz.pinned (.plain (OpenSpec.ofChange wholeScheduleSpec)) wholeScheduleCard

/-- THE SECOND FORM's CARD OF 'stratagemtop.WholeSchedule'. -/
def wholeScheduleUptoCard : Claim7 := { stood := { row := wholeScheduleUptoRow, standIns := [], harness := (true, "bf56551abe651553be3bd976c248496d49a7208471a9a03f8b1e8d5c591c08ed"), looks := true }, kinds := [], alts := [], laidByText := true, laidKinds := [.data, .data, .data, .data, .pinned], laidTests := true, laidLooks := .later }
def WholeScheduleUptoCardSaid : Prop := Claim7.holds Tryz.pinned (.plain (OpenSpec.upto wholeScheduleSpec)) wholeScheduleUptoCard
end Rows
end Go.Proofs.YtalfjlihddgooaaGreatDoor
