/-
  DERIVED. GIVEN WITH THE SEED: THE CARDS: each row of YtcpkjkmbdolfnaaGreatDoorRows.lean that lists a variable, with what it lists TIED to the program's text (the seventh form; the later family's looks); each row that meets fmt, with fmt's text TOLD by the authors' own Lean function (tested against real Go, not proved from fmt's source: count such statements apart). THE CARD IS WHAT COUNTS. Prove the row's statement (the work); the ties are given (YtcpkjkmbdolfnaaGreatDoorTie.lean); close each card by the builder's one call (the guide's Derived/Test/ToyasCard.lean, 'card_holds'). Laid BY PROGRAM, IN A SANDBOX (cutbox-door.mjs). By AI agents, Wed Nov 11 2026. No macro, syntax, notation, axiom, sorry.
-/
import Derived.Test.YtcpkjkmbdolfnaaGreatDoorRows
import GoSem.ClaimSeven
namespace Go.Proofs.YtcpkjkmbdolfnaaGreatDoor
namespace Rows

/-- THE TIED CARD OF 'stratagemlaw46.MergeshrinkBuilds'. -/
def mergeshrinkBuildsCard : Claim7 := { stood := { row := mergeshrinkBuildsRow, standIns := [], harness := (true, "48eaf5b9fadd37e60f89011438d8d6128efa977d8b10a9ed8f6e4fe9a440671e"), looks := false }, kinds := [], alts := [], laidByText := true, laidKinds := [.data, .data, .data], laidTests := true, laidLooks := .later }
def MergeshrinkBuildsCardSaid : Prop := Claim7.holds Tryz.pinned (.plain (OpenSpec.ofChange mergeshrinkBuildsSpec)) mergeshrinkBuildsCard

/-- THE SECOND FORM's CARD OF 'stratagemlaw46.MergeshrinkBuilds'. -/
def mergeshrinkBuildsUptoCard : Claim7 := { stood := { row := mergeshrinkBuildsUptoRow, standIns := [], harness := (true, "48eaf5b9fadd37e60f89011438d8d6128efa977d8b10a9ed8f6e4fe9a440671e"), looks := false }, kinds := [], alts := [], laidByText := true, laidKinds := [.data, .data, .data], laidTests := true, laidLooks := .later }
def MergeshrinkBuildsUptoCardSaid : Prop := Claim7.holds Tryz.pinned (.plain (OpenSpec.upto mergeshrinkBuildsSpec)) mergeshrinkBuildsUptoCard
end Rows
end Go.Proofs.YtcpkjkmbdolfnaaGreatDoor
