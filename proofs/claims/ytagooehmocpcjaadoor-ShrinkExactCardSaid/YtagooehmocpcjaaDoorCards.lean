/-
  DERIVED. GIVEN WITH THE SEED: THE CARDS: each row of YtagooehmocpcjaaDoorRows.lean that lists a variable, with what it lists TIED to the program's text (the seventh form; the later family's looks); each row that meets fmt, with fmt's text TOLD by the authors' own Lean function (tested against real Go, not proved from fmt's source: count such statements apart). THE CARD IS WHAT COUNTS. Prove the row's statement (the work); the ties are given (YtagooehmocpcjaaDoorTie.lean); close each card by the builder's one call (the guide's Derived/Test/ToyasCard.lean, 'card_holds'). Laid BY PROGRAM, IN A SANDBOX (cutbox-door.mjs). By AI agents, Wed Nov 11 2026. No macro, syntax, notation, axiom, sorry.
-/
import Derived.Test.YtagooehmocpcjaaDoorRows
import GoSem.ClaimSeven
namespace Go.Proofs.YtagooehmocpcjaaDoor
namespace Rows

/-- THE TIED CARD OF 'stratagemlaw45.ShrinkBisimulates'. -/
def shrinkBisimulatesCard : Claim7 := { stood := { row := shrinkBisimulatesRow, standIns := [], harness := (true, "78030927d3c7e4e06901cebf75a016173f28c27cd07636a35a5a82bcd5c33672"), looks := true }, kinds := [], alts := [], laidByText := true, laidKinds := [.data, .data, .data], laidTests := true, laidLooks := .later }
def ShrinkBisimulatesCardSaid : Prop := Claim7.holds Tryd.pinned (.plain (OpenSpec.ofChange shrinkBisimulatesSpec)) shrinkBisimulatesCard

/-- THE TIED CARD OF 'stratagemlaw45.ShrinkMerges'. -/
def shrinkMergesCard : Claim7 := { stood := { row := shrinkMergesRow, standIns := [], harness := (true, "78030927d3c7e4e06901cebf75a016173f28c27cd07636a35a5a82bcd5c33672"), looks := true }, kinds := [], alts := [], laidByText := true, laidKinds := [.data, .data, .data], laidTests := true, laidLooks := .later }
def ShrinkMergesCardSaid : Prop := Claim7.holds Tryd.pinned (.plain (OpenSpec.ofChange shrinkMergesSpec)) shrinkMergesCard

/-- THE TIED CARD OF 'stratagemlaw45.ShrinkReduces'. -/
def shrinkReducesCard : Claim7 := { stood := { row := shrinkReducesRow, standIns := [], harness := (true, "78030927d3c7e4e06901cebf75a016173f28c27cd07636a35a5a82bcd5c33672"), looks := true }, kinds := [], alts := [], laidByText := true, laidKinds := [.data, .data, .data], laidTests := true, laidLooks := .later }
def ShrinkReducesCardSaid : Prop := Claim7.holds Tryd.pinned (.plain (OpenSpec.ofChange shrinkReducesSpec)) shrinkReducesCard

/-- THE TIED CARD OF 'stratagemlaw45.ShrinkStable'. -/
def shrinkStableCard : Claim7 := { stood := { row := shrinkStableRow, standIns := [], harness := (true, "78030927d3c7e4e06901cebf75a016173f28c27cd07636a35a5a82bcd5c33672"), looks := true }, kinds := [], alts := [], laidByText := true, laidKinds := [.data, .data, .data], laidTests := true, laidLooks := .later }
def ShrinkStableCardSaid : Prop := Claim7.holds Tryd.pinned (.plain (OpenSpec.ofChange shrinkStableSpec)) shrinkStableCard

/-- THE TIED CARD OF 'stratagemlaw45.ShrinkSizes'. -/
def shrinkSizesCard : Claim7 := { stood := { row := shrinkSizesRow, standIns := [], harness := (true, "78030927d3c7e4e06901cebf75a016173f28c27cd07636a35a5a82bcd5c33672"), looks := true }, kinds := [], alts := [], laidByText := true, laidKinds := [.data, .data, .data], laidTests := true, laidLooks := .later }
def ShrinkSizesCardSaid : Prop := Claim7.holds Tryd.pinned (.plain (OpenSpec.ofChange shrinkSizesSpec)) shrinkSizesCard

/-- THE TIED CARD OF 'stratagemlaw45.ShrinkBounds'. -/
def shrinkBoundsCard : Claim7 := { stood := { row := shrinkBoundsRow, standIns := [], harness := (true, "78030927d3c7e4e06901cebf75a016173f28c27cd07636a35a5a82bcd5c33672"), looks := true }, kinds := [], alts := [], laidByText := true, laidKinds := [.data, .data, .data], laidTests := true, laidLooks := .later }
def ShrinkBoundsCardSaid : Prop := Claim7.holds Tryd.pinned (.plain (OpenSpec.ofChange shrinkBoundsSpec)) shrinkBoundsCard

/-- THE TIED CARD OF 'stratagemlaw45.ShrinkExact'. -/
def shrinkExactCard : Claim7 := { stood := { row := shrinkExactRow, standIns := [], harness := (true, "78030927d3c7e4e06901cebf75a016173f28c27cd07636a35a5a82bcd5c33672"), looks := true }, kinds := [], alts := [], laidByText := true, laidKinds := [.data, .data, .data], laidTests := true, laidLooks := .later }
def ShrinkExactCardSaid : Prop := Claim7.holds Tryd.pinned (.plain (OpenSpec.ofChange shrinkExactSpec)) shrinkExactCard

/-- THE SECOND FORM's CARD OF 'stratagemlaw45.ShrinkBisimulates'. -/
def shrinkBisimulatesUptoCard : Claim7 := { stood := { row := shrinkBisimulatesUptoRow, standIns := [], harness := (true, "78030927d3c7e4e06901cebf75a016173f28c27cd07636a35a5a82bcd5c33672"), looks := true }, kinds := [], alts := [], laidByText := true, laidKinds := [.data, .data, .data], laidTests := true, laidLooks := .later }
def ShrinkBisimulatesUptoCardSaid : Prop := Claim7.holds Tryd.pinned (.plain (OpenSpec.upto shrinkBisimulatesSpec)) shrinkBisimulatesUptoCard

/-- THE SECOND FORM's CARD OF 'stratagemlaw45.ShrinkMerges'. -/
def shrinkMergesUptoCard : Claim7 := { stood := { row := shrinkMergesUptoRow, standIns := [], harness := (true, "78030927d3c7e4e06901cebf75a016173f28c27cd07636a35a5a82bcd5c33672"), looks := true }, kinds := [], alts := [], laidByText := true, laidKinds := [.data, .data, .data], laidTests := true, laidLooks := .later }
def ShrinkMergesUptoCardSaid : Prop := Claim7.holds Tryd.pinned (.plain (OpenSpec.upto shrinkMergesSpec)) shrinkMergesUptoCard

/-- THE SECOND FORM's CARD OF 'stratagemlaw45.ShrinkReduces'. -/
def shrinkReducesUptoCard : Claim7 := { stood := { row := shrinkReducesUptoRow, standIns := [], harness := (true, "78030927d3c7e4e06901cebf75a016173f28c27cd07636a35a5a82bcd5c33672"), looks := true }, kinds := [], alts := [], laidByText := true, laidKinds := [.data, .data, .data], laidTests := true, laidLooks := .later }
def ShrinkReducesUptoCardSaid : Prop := Claim7.holds Tryd.pinned (.plain (OpenSpec.upto shrinkReducesSpec)) shrinkReducesUptoCard

/-- THE SECOND FORM's CARD OF 'stratagemlaw45.ShrinkStable'. -/
def shrinkStableUptoCard : Claim7 := { stood := { row := shrinkStableUptoRow, standIns := [], harness := (true, "78030927d3c7e4e06901cebf75a016173f28c27cd07636a35a5a82bcd5c33672"), looks := true }, kinds := [], alts := [], laidByText := true, laidKinds := [.data, .data, .data], laidTests := true, laidLooks := .later }
def ShrinkStableUptoCardSaid : Prop := Claim7.holds Tryd.pinned (.plain (OpenSpec.upto shrinkStableSpec)) shrinkStableUptoCard

/-- THE SECOND FORM's CARD OF 'stratagemlaw45.ShrinkSizes'. -/
def shrinkSizesUptoCard : Claim7 := { stood := { row := shrinkSizesUptoRow, standIns := [], harness := (true, "78030927d3c7e4e06901cebf75a016173f28c27cd07636a35a5a82bcd5c33672"), looks := true }, kinds := [], alts := [], laidByText := true, laidKinds := [.data, .data, .data], laidTests := true, laidLooks := .later }
def ShrinkSizesUptoCardSaid : Prop := Claim7.holds Tryd.pinned (.plain (OpenSpec.upto shrinkSizesSpec)) shrinkSizesUptoCard

/-- THE SECOND FORM's CARD OF 'stratagemlaw45.ShrinkBounds'. -/
def shrinkBoundsUptoCard : Claim7 := { stood := { row := shrinkBoundsUptoRow, standIns := [], harness := (true, "78030927d3c7e4e06901cebf75a016173f28c27cd07636a35a5a82bcd5c33672"), looks := true }, kinds := [], alts := [], laidByText := true, laidKinds := [.data, .data, .data], laidTests := true, laidLooks := .later }
def ShrinkBoundsUptoCardSaid : Prop := Claim7.holds Tryd.pinned (.plain (OpenSpec.upto shrinkBoundsSpec)) shrinkBoundsUptoCard

/-- THE SECOND FORM's CARD OF 'stratagemlaw45.ShrinkExact'. -/
def shrinkExactUptoCard : Claim7 := { stood := { row := shrinkExactUptoRow, standIns := [], harness := (true, "78030927d3c7e4e06901cebf75a016173f28c27cd07636a35a5a82bcd5c33672"), looks := true }, kinds := [], alts := [], laidByText := true, laidKinds := [.data, .data, .data], laidTests := true, laidLooks := .later }
def ShrinkExactUptoCardSaid : Prop := Claim7.holds Tryd.pinned (.plain (OpenSpec.upto shrinkExactSpec)) shrinkExactUptoCard
end Rows
end Go.Proofs.YtagooehmocpcjaaDoor
