/-
  DERIVED. GIVEN WITH THE SEED: THE CARDS: each row of YtfcmpbkafbhdgaaGreatDoorRows.lean that lists a variable, with what it lists TIED to the program's text (the seventh form; the later family's looks); each row that meets fmt, with fmt's text TOLD by the authors' own Lean function (tested against real Go, not proved from fmt's source: count such statements apart). THE CARD IS WHAT COUNTS. Prove the row's statement (the work); the ties are given (YtfcmpbkafbhdgaaGreatDoorTie.lean); close each card by the builder's one call (the guide's Derived/Test/ToyasCard.lean, 'card_holds'). Laid BY PROGRAM, IN A SANDBOX (cutbox-door.mjs). By AI agents, Wed Nov 11 2026. No macro, syntax, notation, axiom, sorry.
-/
import Derived.Test.YtfcmpbkafbhdgaaGreatDoorRows
import GoSem.ClaimSeven
namespace Go.Proofs.YtfcmpbkafbhdgaaGreatDoor
namespace Rows

/-- THE TIED CARD OF 'stratagemtop.WholeCertificate'. -/
def wholeCertificateCard : Claim7 := { stood := { row := wholeCertificateRow, standIns := [], harness := (true, "5089d655c136386095d8c59a8024eace516d1910f0dffdd0a1f57184a0a7f668"), looks := true }, kinds := [], alts := [], laidByText := true, laidKinds := [.data, .data, .data, .data, .pinned], laidTests := true, laidLooks := .later }
def WholeCertificateCardSaid : Prop := Claim7.holds Tryz.pinned (.plain (OpenSpec.ofChange wholeCertificateSpec)) wholeCertificateCard

/-- THE SECOND FORM's CARD OF 'stratagemtop.WholeCertificate'. -/
def wholeCertificateUptoCard : Claim7 := { stood := { row := wholeCertificateUptoRow, standIns := [], harness := (true, "5089d655c136386095d8c59a8024eace516d1910f0dffdd0a1f57184a0a7f668"), looks := true }, kinds := [], alts := [], laidByText := true, laidKinds := [.data, .data, .data, .data, .pinned], laidTests := true, laidLooks := .later }
def WholeCertificateUptoCardSaid : Prop := Claim7.holds Tryz.pinned (.plain (OpenSpec.upto wholeCertificateSpec)) wholeCertificateUptoCard
end Rows
end Go.Proofs.YtfcmpbkafbhdgaaGreatDoor
