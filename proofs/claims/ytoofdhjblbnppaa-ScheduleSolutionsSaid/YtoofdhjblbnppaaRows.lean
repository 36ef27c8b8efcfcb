/-
  No cell of these rows narrows 'for every input' (looked for: loops, veiled, ifaces, maps, wideKeys, modest, calm, conditions, laid).
  DERIVED. THE GIVEN ROWS OF THIS SEAT. 4 by the template 'for every input the law returns true; each argument reads behind the call as it read before'; 0 by the template 'total and deterministic' (their statements: YtoofdhjblbnppaaTotals.lean).
  GIVEN WITH THE SEED: the statements are not yours to turn. If you find one false, say at which input.
  Laid BY PROGRAM, IN A SANDBOX (cutbox-rows.mjs): the forced cells as the released guide's own fill.sh prints them over the translation 03abade3850f4171… (all of the seat's roots in one cut). By AI agents, Wed Nov 11 2026. No macro, syntax, notation, axiom, sorry.
-/
import Derived.Test.YtoofdhjblbnppaaChecked
import GoSem.Claim
import GoSem.ClaimJoined
import GoSem.ClaimMapViews
import Derived.JoinedTies
import Derived.KernelRfl
namespace Go.Proofs.Ytoofdhjblbnppaa
/- THE CELL 'sum', in the pinned program and in every row, IS THE sha256 OF THE DUMP (.gsa) THAT YtoofdhjblbnppaaProg.lean LOADS. Nothing in Lean hashes anything: it is a label: what it is worth is what the hold of that sum in a sandbox is worth. -/
noncomputable def Try.pinned : Pinned := { name := "ytoofdhjblbnppaa", sum := "03abade3850f4171fbe9ab46b23da1daeeb7bbf944395490d3168a885ac47c9c", checked := Try.checked }
namespace Rows
def none {H : Type} : Left H := { results := [], args := [] }

/-- 'stratagemlaw57.ScheduleLeast': WHATEVER THE INPUT: true; the input reads as it did. -/
def scheduleLeastSpec : ChangeSpec := { name := "scheduleLeast", fn := fun _ => fun
  | [d1, d2] => { results := [.lit (.bool true)], args := [d1, d2] }
  | _ => none }
def scheduleLeastRow : OpenClaim := { program := "ytoofdhjblbnppaa", sum := "03abade3850f4171fbe9ab46b23da1daeeb7bbf944395490d3168a885ac47c9c", func := "stratagem/stratagemlaw57.ScheduleLeast", spec := "scheduleLeast", unfollowed := true, recurses := true, apart := false }
def ScheduleLeastSaid : Prop := scheduleLeastRow.holds Try.pinned (OpenSpec.ofChange scheduleLeastSpec)

/-- ITS FALSE NEIGHBOUR: 'it returns false'. Refute it at one input. -/
def scheduleLeastWrong : ChangeSpec := { name := "scheduleLeast", fn := fun _ => fun
  | [d1, d2] => { results := [.lit (.bool false)], args := [d1, d2] }
  | _ => none }
def ScheduleLeastWrongFalsely : Prop := scheduleLeastRow.holds Try.pinned (OpenSpec.ofChange scheduleLeastWrong)

/-- 'stratagemlaw57.ScheduleLimits': WHATEVER THE INPUT: true; the input reads as it did. -/
def scheduleLimitsSpec : ChangeSpec := { name := "scheduleLimits", fn := fun _ => fun
  | [d1, d2] => { results := [.lit (.bool true)], args := [d1, d2] }
  | _ => none }
def scheduleLimitsRow : OpenClaim := { program := "ytoofdhjblbnppaa", sum := "03abade3850f4171fbe9ab46b23da1daeeb7bbf944395490d3168a885ac47c9c", func := "stratagem/stratagemlaw57.ScheduleLimits", spec := "scheduleLimits", unfollowed := true, recurses := true, apart := false }
def ScheduleLimitsSaid : Prop := scheduleLimitsRow.holds Try.pinned (OpenSpec.ofChange scheduleLimitsSpec)

/-- ITS FALSE NEIGHBOUR: 'it returns false'. Refute it at one input. -/
def scheduleLimitsWrong : ChangeSpec := { name := "scheduleLimits", fn := fun _ => fun
  | [d1, d2] => { results := [.lit (.bool false)], args := [d1, d2] }
  | _ => none }
def ScheduleLimitsWrongFalsely : Prop := scheduleLimitsRow.holds Try.pinned (OpenSpec.ofChange scheduleLimitsWrong)

/-- 'stratagemlaw57.ScheduleGiven': WHATEVER THE INPUT: true; the input reads as it did. -/
def scheduleGivenSpec : ChangeSpec := { name := "scheduleGiven", fn := fun _ => fun
  | [d1, d2] => { results := [.lit (.bool true)], args := [d1, d2] }
  | _ => none }
def scheduleGivenRow : OpenClaim := { program := "ytoofdhjblbnppaa", sum := "03abade3850f4171fbe9ab46b23da1daeeb7bbf944395490d3168a885ac47c9c", func := "stratagem/stratagemlaw57.ScheduleGiven", spec := "scheduleGiven", unfollowed := true, recurses := true, apart := false }
def ScheduleGivenSaid : Prop := scheduleGivenRow.holds Try.pinned (OpenSpec.ofChange scheduleGivenSpec)

/-- ITS FALSE NEIGHBOUR: 'it returns false'. Refute it at one input. -/
def scheduleGivenWrong : ChangeSpec := { name := "scheduleGiven", fn := fun _ => fun
  | [d1, d2] => { results := [.lit (.bool false)], args := [d1, d2] }
  | _ => none }
def ScheduleGivenWrongFalsely : Prop := scheduleGivenRow.holds Try.pinned (OpenSpec.ofChange scheduleGivenWrong)

/-- 'stratagemlaw57.ScheduleSolutions': WHATEVER THE INPUT: true; the input reads as it did. -/
def scheduleSolutionsSpec : ChangeSpec := { name := "scheduleSolutions", fn := fun _ => fun
  | [d1, d2, d3] => { results := [.lit (.bool true)], args := [d1, d2, d3] }
  | _ => none }
def scheduleSolutionsRow : OpenClaim := { program := "ytoofdhjblbnppaa", sum := "03abade3850f4171fbe9ab46b23da1daeeb7bbf944395490d3168a885ac47c9c", func := "stratagem/stratagemlaw57.ScheduleSolutions", spec := "scheduleSolutions", unfollowed := true, recurses := true, apart := false }
def ScheduleSolutionsSaid : Prop := scheduleSolutionsRow.holds Try.pinned (OpenSpec.ofChange scheduleSolutionsSpec)

/-- ITS FALSE NEIGHBOUR: 'it returns false'. Refute it at one input. -/
def scheduleSolutionsWrong : ChangeSpec := { name := "scheduleSolutions", fn := fun _ => fun
  | [d1, d2, d3] => { results := [.lit (.bool false)], args := [d1, d2, d3] }
  | _ => none }
def ScheduleSolutionsWrongFalsely : Prop := scheduleSolutionsRow.holds Try.pinned (OpenSpec.ofChange scheduleSolutionsWrong)

/- THE SECOND FORM. 'bulk': how many values and letters a reading holds, each counted each time it is reached (what is shared counts as often as it is met; a slice's spare places count too). A statement '..UptoSaid' is the law's where the arguments, and the package variables that the reading takes, are together of bulk at most 1048576: NARROWER than '..Said'. Prove '..Said' where nothing that the law and all that it calls make is longer than what came in: it says more and counts as full. Else prove '..UptoSaid'. A law counts once. -/
mutual
def uptoBulk {H : Type} : DataW H → Nat
  | .lit (.string bytes) => bytes.length + 1
  | .lit _ => 1
  | .nil => 1
  | .ptr d => uptoBulk d + 1
  | .slice elems spare => uptoBulkAll elems + uptoBulkAll spare + 1
  | .agg parts => uptoBulkAll parts + 1
  | .iface _ d => uptoBulk d + 1
  | .map entries => uptoBulkEntries entries + 1
  | .held _ => 1
def uptoBulkAll {H : Type} : List (DataW H) → Nat
  | [] => 0
  | d :: r => uptoBulk d + uptoBulkAll r
def uptoBulkEntries {H : Type} : List (Lit × DataW H) → Nat
  | [] => 0
  | x :: r => uptoBulkEntry x + uptoBulkEntries r
def uptoBulkEntry {H : Type} : Lit × DataW H → Nat
  | (.string bytes, d) => bytes.length + uptoBulk d + 1
  | (_, d) => uptoBulk d + 1
 end
def uptoSmall : (H : Type) → List (DataW H) → Bool := fun _ ds => decide (uptoBulkAll ds ≤ 1048576)
def OpenSpec.upto (s : _root_.Go.ChangeSpec) : _root_.Go.OpenSpec := { _root_.Go.OpenSpec.ofChange s with cond := some uptoSmall }

/-- 'stratagemlaw57.ScheduleLeast', WHERE WHAT IT READS IS OF BULK AT MOST 1048576: true; the input reads as it did. -/
def scheduleLeastUptoRow : OpenClaim := { program := "ytoofdhjblbnppaa", sum := "03abade3850f4171fbe9ab46b23da1daeeb7bbf944395490d3168a885ac47c9c", func := "stratagem/stratagemlaw57.ScheduleLeast", spec := "scheduleLeast", unfollowed := true, recurses := true, apart := false, narrowed := true }
def ScheduleLeastUptoSaid : Prop := scheduleLeastUptoRow.holds Try.pinned (OpenSpec.upto scheduleLeastSpec)

/-- 'stratagemlaw57.ScheduleLimits', WHERE WHAT IT READS IS OF BULK AT MOST 1048576: true; the input reads as it did. -/
def scheduleLimitsUptoRow : OpenClaim := { program := "ytoofdhjblbnppaa", sum := "03abade3850f4171fbe9ab46b23da1daeeb7bbf944395490d3168a885ac47c9c", func := "stratagem/stratagemlaw57.ScheduleLimits", spec := "scheduleLimits", unfollowed := true, recurses := true, apart := false, narrowed := true }
def ScheduleLimitsUptoSaid : Prop := scheduleLimitsUptoRow.holds Try.pinned (OpenSpec.upto scheduleLimitsSpec)

/-- 'stratagemlaw57.ScheduleGiven', WHERE WHAT IT READS IS OF BULK AT MOST 1048576: true; the input reads as it did. -/
def scheduleGivenUptoRow : OpenClaim := { program := "ytoofdhjblbnppaa", sum := "03abade3850f4171fbe9ab46b23da1daeeb7bbf944395490d3168a885ac47c9c", func := "stratagem/stratagemlaw57.ScheduleGiven", spec := "scheduleGiven", unfollowed := true, recurses := true, apart := false, narrowed := true }
def ScheduleGivenUptoSaid : Prop := scheduleGivenUptoRow.holds Try.pinned (OpenSpec.upto scheduleGivenSpec)

/-- 'stratagemlaw57.ScheduleSolutions', WHERE WHAT IT READS IS OF BULK AT MOST 1048576: true; the input reads as it did. -/
def scheduleSolutionsUptoRow : OpenClaim := { program := "ytoofdhjblbnppaa", sum := "03abade3850f4171fbe9ab46b23da1daeeb7bbf944395490d3168a885ac47c9c", func := "stratagem/stratagemlaw57.ScheduleSolutions", spec := "scheduleSolutions", unfollowed := true, recurses := true, apart := false, narrowed := true }
def ScheduleSolutionsUptoSaid : Prop := scheduleSolutionsUptoRow.holds Try.pinned (OpenSpec.upto scheduleSolutionsSpec)

end Rows
end Go.Proofs.Ytoofdhjblbnppaa
