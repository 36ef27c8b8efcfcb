/-
  No cell of these rows narrows 'for every input' (looked for: loops, veiled, ifaces, maps, wideKeys, modest, calm, conditions, laid).
  DERIVED. THE GIVEN ROWS OF THIS SEAT. 4 by the template 'for every input the law returns true; each argument reads behind the call as it read before'; 0 by the template 'total and deterministic' (their statements: YthbgcahoknmmmaaTotals.lean).
  GIVEN WITH THE SEED: the statements are not yours to turn. If you find one false, say at which input.
  Laid BY PROGRAM, IN A SANDBOX (cutbox-rows.mjs): the forced cells as the released guide's own fill.sh prints them over the translation 494b23de433a71e6… (all of the seat's roots in one cut). By AI agents, Wed Nov 11 2026. No macro, syntax, notation, axiom, sorry.
-/
import Derived.Test.YthbgcahoknmmmaaChecked
import GoSem.Claim
import GoSem.ClaimJoined
import GoSem.ClaimMapViews
import Derived.JoinedTies
import Derived.KernelRfl
namespace Go.Proofs.Ythbgcahoknmmmaa
/- THE CELL 'sum', in the pinned program and in every row, IS THE sha256 OF THE DUMP (.gsa) THAT YthbgcahoknmmmaaProg.lean LOADS. Nothing in Lean hashes anything: it is a label: what it is worth is what the hold of that sum in a sandbox is worth. -/
noncomputable def Try.pinned : Pinned := { name := "ythbgcahoknmmmaa", sum := "494b23de433a71e695df0bd7f9253be793f8ae95ae6f4ec33a6240bc659e1f03", checked := Try.checked }
namespace Rows
def none {H : Type} : Left H := { results := [], args := [] }

/-- 'stratagemlaw58.SimulateAgrees': WHATEVER THE INPUT: true; the input reads as it did. -/
def simulateAgreesSpec : ChangeSpec := { name := "simulateAgrees", fn := fun _ => fun
  | [d1, d2] => { results := [.lit (.bool true)], args := [d1, d2] }
  | _ => none }
def simulateAgreesRow : OpenClaim := { program := "ythbgcahoknmmmaa", sum := "494b23de433a71e695df0bd7f9253be793f8ae95ae6f4ec33a6240bc659e1f03", func := "stratagem/stratagemlaw58.SimulateAgrees", spec := "simulateAgrees", unfollowed := true, recurses := true, apart := false }
def SimulateAgreesSaid : Prop := simulateAgreesRow.holds Try.pinned (OpenSpec.ofChange simulateAgreesSpec)

/-- ITS FALSE NEIGHBOUR: 'it returns false'. Refute it at one input. -/
def simulateAgreesWrong : ChangeSpec := { name := "simulateAgrees", fn := fun _ => fun
  | [d1, d2] => { results := [.lit (.bool false)], args := [d1, d2] }
  | _ => none }
def SimulateAgreesWrongFalsely : Prop := simulateAgreesRow.holds Try.pinned (OpenSpec.ofChange simulateAgreesWrong)

/-- 'stratagemlaw58.SimulateOrder': WHATEVER THE INPUT: true; the input reads as it did. -/
def simulateOrderSpec : ChangeSpec := { name := "simulateOrder", fn := fun _ => fun
  | [d1, d2] => { results := [.lit (.bool true)], args := [d1, d2] }
  | _ => none }
def simulateOrderRow : OpenClaim := { program := "ythbgcahoknmmmaa", sum := "494b23de433a71e695df0bd7f9253be793f8ae95ae6f4ec33a6240bc659e1f03", func := "stratagem/stratagemlaw58.SimulateOrder", spec := "simulateOrder", unfollowed := true, recurses := true, apart := false }
def SimulateOrderSaid : Prop := simulateOrderRow.holds Try.pinned (OpenSpec.ofChange simulateOrderSpec)

/-- ITS FALSE NEIGHBOUR: 'it returns false'. Refute it at one input. -/
def simulateOrderWrong : ChangeSpec := { name := "simulateOrder", fn := fun _ => fun
  | [d1, d2] => { results := [.lit (.bool false)], args := [d1, d2] }
  | _ => none }
def SimulateOrderWrongFalsely : Prop := simulateOrderRow.holds Try.pinned (OpenSpec.ofChange simulateOrderWrong)

/-- 'stratagemlaw58.SimulateStates': WHATEVER THE INPUT: true; the input reads as it did. -/
def simulateStatesSpec : ChangeSpec := { name := "simulateStates", fn := fun _ => fun
  | [d1, d2] => { results := [.lit (.bool true)], args := [d1, d2] }
  | _ => none }
def simulateStatesRow : OpenClaim := { program := "ythbgcahoknmmmaa", sum := "494b23de433a71e695df0bd7f9253be793f8ae95ae6f4ec33a6240bc659e1f03", func := "stratagem/stratagemlaw58.SimulateStates", spec := "simulateStates", unfollowed := true, recurses := true, apart := false }
def SimulateStatesSaid : Prop := simulateStatesRow.holds Try.pinned (OpenSpec.ofChange simulateStatesSpec)

/-- ITS FALSE NEIGHBOUR: 'it returns false'. Refute it at one input. -/
def simulateStatesWrong : ChangeSpec := { name := "simulateStates", fn := fun _ => fun
  | [d1, d2] => { results := [.lit (.bool false)], args := [d1, d2] }
  | _ => none }
def SimulateStatesWrongFalsely : Prop := simulateStatesRow.holds Try.pinned (OpenSpec.ofChange simulateStatesWrong)

/-- 'stratagemlaw58.SimulateJoins': WHATEVER THE INPUT: true; the input reads as it did. -/
def simulateJoinsSpec : ChangeSpec := { name := "simulateJoins", fn := fun _ => fun
  | [d1, d2, d3] => { results := [.lit (.bool true)], args := [d1, d2, d3] }
  | _ => none }
def simulateJoinsRow : OpenClaim := { program := "ythbgcahoknmmmaa", sum := "494b23de433a71e695df0bd7f9253be793f8ae95ae6f4ec33a6240bc659e1f03", func := "stratagem/stratagemlaw58.SimulateJoins", spec := "simulateJoins", unfollowed := true, recurses := true, apart := false }
def SimulateJoinsSaid : Prop := simulateJoinsRow.holds Try.pinned (OpenSpec.ofChange simulateJoinsSpec)

/-- ITS FALSE NEIGHBOUR: 'it returns false'. Refute it at one input. -/
def simulateJoinsWrong : ChangeSpec := { name := "simulateJoins", fn := fun _ => fun
  | [d1, d2, d3] => { results := [.lit (.bool false)], args := [d1, d2, d3] }
  | _ => none }
def SimulateJoinsWrongFalsely : Prop := simulateJoinsRow.holds Try.pinned (OpenSpec.ofChange simulateJoinsWrong)

/- THE SECOND FORM. 'bulk': how many values and letters a reading holds, each counted each time it is reached (what is shared counts as often as it is met; a slice's spare places count too). A statement '..UptoSaid' is the law's where the arguments, and the package variables that the reading takes, are together of bulk at most 1048576: NARROWER than '..Said'. Prove '..Said' where nothing that the law and all that it calls make is longer than what came in: it says more and counts as full. Else prove '..UptoSaid'. A law counts once. -/
mutual
def uptoBulk {H : Type} : DataW H → Nat
  | .lit (.string bytes) => bytes.length + 1
  | .lit _ => 1
  | .nil => 1
  | .ptr d => uptoBulk d + 1
  | .slice elems spare => uptoBulkAll elems + uptoBulkAll spare + 1
  | .agg parts => uptoBulkAll parts + 1
  | .iface _ d => uptoBulk d + 1
  | .map entries => uptoBulkEntries entries + 1
  | .held _ => 1
def uptoBulkAll {H : Type} : List (DataW H) → Nat
  | [] => 0
  | d :: r => uptoBulk d + uptoBulkAll r
def uptoBulkEntries {H : Type} : List (Lit × DataW H) → Nat
  | [] => 0
  | x :: r => uptoBulkEntry x + uptoBulkEntries r
def uptoBulkEntry {H : Type} : Lit × DataW H → Nat
  | (.string bytes, d) => bytes.length + uptoBulk d + 1
  | (_, d) => uptoBulk d + 1
 end
def uptoSmall : (H : Type) → List (DataW H) → Bool := fun _ ds => decide (uptoBulkAll ds ≤ 1048576)
def OpenSpec.upto (s : _root_.Go.ChangeSpec) : _root_.Go.OpenSpec := { _root_.Go.OpenSpec.ofChange s with cond := some uptoSmall }

/-- 'stratagemlaw58.SimulateAgrees', WHERE WHAT IT READS IS OF BULK AT MOST 1048576: true; the input reads as it did. -/
def simulateAgreesUptoRow : OpenClaim := { program := "ythbgcahoknmmmaa", sum := "494b23de433a71e695df0bd7f9253be793f8ae95ae6f4ec33a6240bc659e1f03", func := "stratagem/stratagemlaw58.SimulateAgrees", spec := "simulateAgrees", unfollowed := true, recurses := true, apart := false, narrowed := true }
def SimulateAgreesUptoSaid : Prop := simulateAgreesUptoRow.holds Try.pinned (OpenSpec.upto simulateAgreesSpec)

/-- 'stratagemlaw58.SimulateOrder', WHERE WHAT IT READS IS OF BULK AT MOST 1048576: true; the input reads as it did. -/
def simulateOrderUptoRow : OpenClaim := { program := "ythbgcahoknmmmaa", sum := "494b23de433a71e695df0bd7f9253be793f8ae95ae6f4ec33a6240bc659e1f03", func := "stratagem/stratagemlaw58.SimulateOrder", spec := "simulateOrder", unfollowed := true, recurses := true, apart := false, narrowed := true }
def SimulateOrderUptoSaid : Prop := simulateOrderUptoRow.holds Try.pinned (OpenSpec.upto simulateOrderSpec)

/-- 'stratagemlaw58.SimulateStates', WHERE WHAT IT READS IS OF BULK AT MOST 1048576: true; the input reads as it did. -/
def simulateStatesUptoRow : OpenClaim := { program := "ythbgcahoknmmmaa", sum := "494b23de433a71e695df0bd7f9253be793f8ae95ae6f4ec33a6240bc659e1f03", func := "stratagem/stratagemlaw58.SimulateStates", spec := "simulateStates", unfollowed := true, recurses := true, apart := false, narrowed := true }
def SimulateStatesUptoSaid : Prop := simulateStatesUptoRow.holds Try.pinned (OpenSpec.upto simulateStatesSpec)

/-- 'stratagemlaw58.SimulateJoins', WHERE WHAT IT READS IS OF BULK AT MOST 1048576: true; the input reads as it did. -/
def simulateJoinsUptoRow : OpenClaim := { program := "ythbgcahoknmmmaa", sum := "494b23de433a71e695df0bd7f9253be793f8ae95ae6f4ec33a6240bc659e1f03", func := "stratagem/stratagemlaw58.SimulateJoins", spec := "simulateJoins", unfollowed := true, recurses := true, apart := false, narrowed := true }
def SimulateJoinsUptoSaid : Prop := simulateJoinsUptoRow.holds Try.pinned (OpenSpec.upto simulateJoinsSpec)

end Rows
end Go.Proofs.Ythbgcahoknmmmaa
