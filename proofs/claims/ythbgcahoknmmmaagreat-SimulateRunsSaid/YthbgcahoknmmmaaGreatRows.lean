/-
  No cell of these rows narrows 'for every input' (looked for: loops, veiled, ifaces, maps, wideKeys, modest, calm, conditions, laid).
  DERIVED. THE GIVEN ROWS OF THIS SEAT. 2 by the template 'for every input the law returns true; each argument reads behind the call as it read before'; 0 by the template 'total and deterministic' (their statements: YthbgcahoknmmmaaGreatTotals.lean).
  GIVEN WITH THE SEED: the statements are not yours to turn. If you find one false, say at which input.
  Laid BY PROGRAM, IN A SANDBOX (cutbox-rows.mjs): the forced cells as the released guide's own fill.sh prints them over the translation f63feb6fb6b0e293… (all of the seat's roots in one cut). By AI agents, Wed Nov 11 2026. No macro, syntax, notation, axiom, sorry.
-/
import Derived.Test.YthbgcahoknmmmaaGreatChecked
import GoSem.Claim
import GoSem.ClaimJoined
import GoSem.ClaimMapViews
import Derived.JoinedTies
import Derived.KernelRfl
namespace Go.Proofs.YthbgcahoknmmmaaGreat
/- THE CELL 'sum', in the pinned program and in every row, IS THE sha256 OF THE DUMP (.gsa) THAT YthbgcahoknmmmaaGreatProg.lean LOADS. Nothing in Lean hashes anything: it is a label: what it is worth is what the hold of that sum in a sandbox is worth. -/
noncomputable def Tryz.pinned : Pinned := { name := "ythbgcahoknmmmaagreat", sum := "f63feb6fb6b0e29318d274e9c69f8925b80474df92522dc64dca940e092ebddb", checked := Tryz.checked }
namespace Rows
def none {H : Type} : Left H := { results := [], args := [] }

/-- 'stratagemlaw58.SimulateRuns': WHATEVER THE INPUT: true; the input reads as it did. -/
def simulateRunsSpec : ChangeSpec := { name := "simulateRuns", fn := fun _ => fun
  | [d1, d2] => { results := [.lit (.bool true)], args := [d1, d2] }
  | _ => none }
def simulateRunsRow : OpenClaim := { program := "ythbgcahoknmmmaagreat", sum := "f63feb6fb6b0e29318d274e9c69f8925b80474df92522dc64dca940e092ebddb", func := "stratagem/stratagemlaw58.SimulateRuns", spec := "simulateRuns", unfollowed := true, recurses := true, apart := false }
def SimulateRunsSaid : Prop := simulateRunsRow.holds Tryz.pinned (OpenSpec.ofChange simulateRunsSpec)

/-- ITS FALSE NEIGHBOUR: 'it returns false'. Refute it at one input. -/
def simulateRunsWrong : ChangeSpec := { name := "simulateRuns", fn := fun _ => fun
  | [d1, d2] => { results := [.lit (.bool false)], args := [d1, d2] }
  | _ => none }
def SimulateRunsWrongFalsely : Prop := simulateRunsRow.holds Tryz.pinned (OpenSpec.ofChange simulateRunsWrong)

/-- 'stratagemlaw58.SimulateConflicts': WHATEVER THE INPUT: true; the input reads as it did. -/
def simulateConflictsSpec : ChangeSpec := { name := "simulateConflicts", fn := fun _ => fun
  | [d] => { results := [.lit (.bool true)], args := [d] }
  | _ => none }
def simulateConflictsRow : OpenClaim := { program := "ythbgcahoknmmmaagreat", sum := "f63feb6fb6b0e29318d274e9c69f8925b80474df92522dc64dca940e092ebddb", func := "stratagem/stratagemlaw58.SimulateConflicts", spec := "simulateConflicts", unfollowed := true, recurses := true, apart := false }
def SimulateConflictsSaid : Prop := simulateConflictsRow.holds Tryz.pinned (OpenSpec.ofChange simulateConflictsSpec)

/-- ITS FALSE NEIGHBOUR: 'it returns false'. Refute it at one input. -/
def simulateConflictsWrong : ChangeSpec := { name := "simulateConflicts", fn := fun _ => fun
  | [d] => { results := [.lit (.bool false)], args := [d] }
  | _ => none }
def SimulateConflictsWrongFalsely : Prop := simulateConflictsRow.holds Tryz.pinned (OpenSpec.ofChange simulateConflictsWrong)

/- THE SECOND FORM. 'bulk': how many values and letters a reading holds, each counted each time it is reached (what is shared counts as often as it is met; a slice's spare places count too). A statement '..UptoSaid' is the law's where the arguments, and the package variables that the reading takes, are together of bulk at most 1048576: NARROWER than '..Said'. Prove '..Said' where nothing that the law and all that it calls make is longer than what came in: it says more and counts as full. Else prove '..UptoSaid'. A law counts once. -/
mutual
def uptoBulk {H : Type} : DataW H → Nat
  | .lit (.string bytes) => bytes.length + 1
  | .lit _ => 1
  | .nil => 1
  | .ptr d => uptoBulk d + 1
  | .slice elems spare => uptoBulkAll elems + uptoBulkAll spare + 1
  | .agg parts => uptoBulkAll parts + 1
  | .iface _ d => uptoBulk d + 1
  | .map entries => uptoBulkEntries entries + 1
  | .held _ => 1
def uptoBulkAll {H : Type} : List (DataW H) → Nat
  | [] => 0
  | d :: r => uptoBulk d + uptoBulkAll r
def uptoBulkEntries {H : Type} : List (Lit × DataW H) → Nat
  | [] => 0
  | x :: r => uptoBulkEntry x + uptoBulkEntries r
def uptoBulkEntry {H : Type} : Lit × DataW H → Nat
  | (.string bytes, d) => bytes.length + uptoBulk d + 1
  | (_, d) => uptoBulk d + 1
 end
def uptoSmall : (H : Type) → List (DataW H) → Bool := fun _ ds => decide (uptoBulkAll ds ≤ 1048576)
def OpenSpec.upto (s : _root_.Go.ChangeSpec) : _root_.Go.OpenSpec := { _root_.Go.OpenSpec.ofChange s with cond := some uptoSmall }

/-- 'stratagemlaw58.SimulateRuns', WHERE WHAT IT READS IS OF BULK AT MOST 1048576: true; the input reads as it did. -/
def simulateRunsUptoRow : OpenClaim := { program := "ythbgcahoknmmmaagreat", sum := "f63feb6fb6b0e29318d274e9c69f8925b80474df92522dc64dca940e092ebddb", func := "stratagem/stratagemlaw58.SimulateRuns", spec := "simulateRuns", unfollowed := true, recurses := true, apart := false, narrowed := true }
def SimulateRunsUptoSaid : Prop := simulateRunsUptoRow.holds Tryz.pinned (OpenSpec.upto simulateRunsSpec)

/-- 'stratagemlaw58.SimulateConflicts', WHERE WHAT IT READS IS OF BULK AT MOST 1048576: true; the input reads as it did. -/
def simulateConflictsUptoRow : OpenClaim := { program := "ythbgcahoknmmmaagreat", sum := "f63feb6fb6b0e29318d274e9c69f8925b80474df92522dc64dca940e092ebddb", func := "stratagem/stratagemlaw58.SimulateConflicts", spec := "simulateConflicts", unfollowed := true, recurses := true, apart := false, narrowed := true }
def SimulateConflictsUptoSaid : Prop := simulateConflictsUptoRow.holds Tryz.pinned (OpenSpec.upto simulateConflictsSpec)

end Rows
end Go.Proofs.YthbgcahoknmmmaaGreat
