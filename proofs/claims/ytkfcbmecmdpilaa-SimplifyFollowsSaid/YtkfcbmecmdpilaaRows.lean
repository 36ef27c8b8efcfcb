/-
  NARROWER THAN 'FOR EVERY INPUT', by the rows' own cells (each row's printed sentence says how): SimplifyTasks: loops · SimplifyCosts: loops · SimplifyCopies: loops · SimplifyIdle: loops · SimplifyRelevant: loops · SimplifyTwice: loops · SimplifyFollows: loops.
  DERIVED. THE GIVEN ROWS OF THIS SEAT. 7 by the template 'for every input the law returns true; each argument reads behind the call as it read before'; 0 by the template 'total and deterministic' (their statements: YtkfcbmecmdpilaaTotals.lean).
  GIVEN WITH THE SEED: the statements are not yours to turn. If you find one false, say at which input.
  Laid BY PROGRAM, IN A SANDBOX (cutbox-rows.mjs): the forced cells as the released guide's own fill.sh prints them over the translation 05e00695702e1e69… (all of the seat's roots in one cut). By AI agents, Wed Nov 11 2026. No macro, syntax, notation, axiom, sorry.
-/
import Derived.Test.YtkfcbmecmdpilaaChecked
import GoSem.Claim
import GoSem.ClaimJoined
import GoSem.ClaimMapViews
import Derived.JoinedTies
import Derived.KernelRfl
namespace Go.Proofs.Ytkfcbmecmdpilaa
/- THE CELL 'sum', in the pinned program and in every row, IS THE sha256 OF THE DUMP (.gsa) THAT YtkfcbmecmdpilaaProg.lean LOADS. Nothing in Lean hashes anything: it is a label: what it is worth is what the hold of that sum in a sandbox is worth. -/
noncomputable def Try.pinned : Pinned := { name := "ytkfcbmecmdpilaa", sum := "05e00695702e1e69da4aa5093ad9c063082d24c7a1822b052a5d76f8ca2ed521", checked := Try.checked }
namespace Rows
def none {H : Type} : Left H := { results := [], args := [] }

/-- 'stratagemlaw19.SimplifyTasks': WHATEVER THE INPUT: true; the input reads as it did. -/
def simplifyTasksSpec : ChangeSpec := { name := "simplifyTasks", fn := fun _ => fun
  | [d] => { results := [.lit (.bool true)], args := [d] }
  | _ => none }
def simplifyTasksRow : OpenClaim := { program := "ytkfcbmecmdpilaa", sum := "05e00695702e1e69da4aa5093ad9c063082d24c7a1822b052a5d76f8ca2ed521", func := "stratagem/stratagemlaw19.SimplifyTasks", spec := "simplifyTasks", unfollowed := true, recurses := true, loops := true, apart := false }
def SimplifyTasksSaid : Prop := simplifyTasksRow.holds Try.pinned (OpenSpec.ofChange simplifyTasksSpec)

/-- ITS FALSE NEIGHBOUR: 'it returns false'. Refute it at one input. -/
def simplifyTasksWrong : ChangeSpec := { name := "simplifyTasks", fn := fun _ => fun
  | [d] => { results := [.lit (.bool false)], args := [d] }
  | _ => none }
def SimplifyTasksWrongFalsely : Prop := simplifyTasksRow.holds Try.pinned (OpenSpec.ofChange simplifyTasksWrong)

/-- 'stratagemlaw19.SimplifyCosts': WHATEVER THE INPUT: true; the input reads as it did. -/
def simplifyCostsSpec : ChangeSpec := { name := "simplifyCosts", fn := fun _ => fun
  | [d] => { results := [.lit (.bool true)], args := [d] }
  | _ => none }
def simplifyCostsRow : OpenClaim := { program := "ytkfcbmecmdpilaa", sum := "05e00695702e1e69da4aa5093ad9c063082d24c7a1822b052a5d76f8ca2ed521", func := "stratagem/stratagemlaw19.SimplifyCosts", spec := "simplifyCosts", unfollowed := true, recurses := true, loops := true, apart := false }
def SimplifyCostsSaid : Prop := simplifyCostsRow.holds Try.pinned (OpenSpec.ofChange simplifyCostsSpec)

/-- ITS FALSE NEIGHBOUR: 'it returns false'. Refute it at one input. -/
def simplifyCostsWrong : ChangeSpec := { name := "simplifyCosts", fn := fun _ => fun
  | [d] => { results := [.lit (.bool false)], args := [d] }
  | _ => none }
def SimplifyCostsWrongFalsely : Prop := simplifyCostsRow.holds Try.pinned (OpenSpec.ofChange simplifyCostsWrong)

/-- 'stratagemlaw19.SimplifyCopies': WHATEVER THE INPUT: true; the input reads as it did. -/
def simplifyCopiesSpec : ChangeSpec := { name := "simplifyCopies", fn := fun _ => fun
  | [d1, d2, d3] => { results := [.lit (.bool true)], args := [d1, d2, d3] }
  | _ => none }
def simplifyCopiesRow : OpenClaim := { program := "ytkfcbmecmdpilaa", sum := "05e00695702e1e69da4aa5093ad9c063082d24c7a1822b052a5d76f8ca2ed521", func := "stratagem/stratagemlaw19.SimplifyCopies", spec := "simplifyCopies", unfollowed := true, recurses := true, loops := true, apart := false }
def SimplifyCopiesSaid : Prop := simplifyCopiesRow.holds Try.pinned (OpenSpec.ofChange simplifyCopiesSpec)

/-- ITS FALSE NEIGHBOUR: 'it returns false'. Refute it at one input. -/
def simplifyCopiesWrong : ChangeSpec := { name := "simplifyCopies", fn := fun _ => fun
  | [d1, d2, d3] => { results := [.lit (.bool false)], args := [d1, d2, d3] }
  | _ => none }
def SimplifyCopiesWrongFalsely : Prop := simplifyCopiesRow.holds Try.pinned (OpenSpec.ofChange simplifyCopiesWrong)

/-- 'stratagemlaw19.SimplifyIdle': WHATEVER THE INPUT: true; the input reads as it did. -/
def simplifyIdleSpec : ChangeSpec := { name := "simplifyIdle", fn := fun _ => fun
  | [d1, d2, d3] => { results := [.lit (.bool true)], args := [d1, d2, d3] }
  | _ => none }
def simplifyIdleRow : OpenClaim := { program := "ytkfcbmecmdpilaa", sum := "05e00695702e1e69da4aa5093ad9c063082d24c7a1822b052a5d76f8ca2ed521", func := "stratagem/stratagemlaw19.SimplifyIdle", spec := "simplifyIdle", unfollowed := true, recurses := true, loops := true, apart := false }
def SimplifyIdleSaid : Prop := simplifyIdleRow.holds Try.pinned (OpenSpec.ofChange simplifyIdleSpec)

/-- ITS FALSE NEIGHBOUR: 'it returns false'. Refute it at one input. -/
def simplifyIdleWrong : ChangeSpec := { name := "simplifyIdle", fn := fun _ => fun
  | [d1, d2, d3] => { results := [.lit (.bool false)], args := [d1, d2, d3] }
  | _ => none }
def SimplifyIdleWrongFalsely : Prop := simplifyIdleRow.holds Try.pinned (OpenSpec.ofChange simplifyIdleWrong)

/-- 'stratagemlaw19.SimplifyRelevant': WHATEVER THE INPUT: true; the input reads as it did. -/
def simplifyRelevantSpec : ChangeSpec := { name := "simplifyRelevant", fn := fun _ => fun
  | [d] => { results := [.lit (.bool true)], args := [d] }
  | _ => none }
def simplifyRelevantRow : OpenClaim := { program := "ytkfcbmecmdpilaa", sum := "05e00695702e1e69da4aa5093ad9c063082d24c7a1822b052a5d76f8ca2ed521", func := "stratagem/stratagemlaw19.SimplifyRelevant", spec := "simplifyRelevant", unfollowed := true, recurses := true, loops := true, apart := false }
def SimplifyRelevantSaid : Prop := simplifyRelevantRow.holds Try.pinned (OpenSpec.ofChange simplifyRelevantSpec)

/-- ITS FALSE NEIGHBOUR: 'it returns false'. Refute it at one input. -/
def simplifyRelevantWrong : ChangeSpec := { name := "simplifyRelevant", fn := fun _ => fun
  | [d] => { results := [.lit (.bool false)], args := [d] }
  | _ => none }
def SimplifyRelevantWrongFalsely : Prop := simplifyRelevantRow.holds Try.pinned (OpenSpec.ofChange simplifyRelevantWrong)

/-- 'stratagemlaw19.SimplifyTwice': WHATEVER THE INPUT: true; the input reads as it did. -/
def simplifyTwiceSpec : ChangeSpec := { name := "simplifyTwice", fn := fun _ => fun
  | [d] => { results := [.lit (.bool true)], args := [d] }
  | _ => none }
def simplifyTwiceRow : OpenClaim := { program := "ytkfcbmecmdpilaa", sum := "05e00695702e1e69da4aa5093ad9c063082d24c7a1822b052a5d76f8ca2ed521", func := "stratagem/stratagemlaw19.SimplifyTwice", spec := "simplifyTwice", unfollowed := true, recurses := true, loops := true, apart := false }
def SimplifyTwiceSaid : Prop := simplifyTwiceRow.holds Try.pinned (OpenSpec.ofChange simplifyTwiceSpec)

/-- ITS FALSE NEIGHBOUR: 'it returns false'. Refute it at one input. -/
def simplifyTwiceWrong : ChangeSpec := { name := "simplifyTwice", fn := fun _ => fun
  | [d] => { results := [.lit (.bool false)], args := [d] }
  | _ => none }
def SimplifyTwiceWrongFalsely : Prop := simplifyTwiceRow.holds Try.pinned (OpenSpec.ofChange simplifyTwiceWrong)

/-- 'stratagemlaw19.SimplifyFollows': WHATEVER THE INPUT: true; the input reads as it did. -/
def simplifyFollowsSpec : ChangeSpec := { name := "simplifyFollows", fn := fun _ => fun
  | [d1, d2] => { results := [.lit (.bool true)], args := [d1, d2] }
  | _ => none }
def simplifyFollowsRow : OpenClaim := { program := "ytkfcbmecmdpilaa", sum := "05e00695702e1e69da4aa5093ad9c063082d24c7a1822b052a5d76f8ca2ed521", func := "stratagem/stratagemlaw19.SimplifyFollows", spec := "simplifyFollows", unfollowed := true, recurses := true, loops := true, apart := false }
def SimplifyFollowsSaid : Prop := simplifyFollowsRow.holds Try.pinned (OpenSpec.ofChange simplifyFollowsSpec)

/-- ITS FALSE NEIGHBOUR: 'it returns false'. Refute it at one input. -/
def simplifyFollowsWrong : ChangeSpec := { name := "simplifyFollows", fn := fun _ => fun
  | [d1, d2] => { results := [.lit (.bool false)], args := [d1, d2] }
  | _ => none }
def SimplifyFollowsWrongFalsely : Prop := simplifyFollowsRow.holds Try.pinned (OpenSpec.ofChange simplifyFollowsWrong)

/- THE SECOND FORM. 'bulk': how many values and letters a reading holds, each counted each time it is reached (what is shared counts as often as it is met; a slice's spare places count too). A statement '..UptoSaid' is the law's where the arguments, and the package variables that the reading takes, are together of bulk at most 1048576: NARROWER than '..Said'. Prove '..Said' where nothing that the law and all that it calls make is longer than what came in: it says more and counts as full. Else prove '..UptoSaid'. A law counts once. -/
mutual
def uptoBulk {H : Type} : DataW H → Nat
  | .lit (.string bytes) => bytes.length + 1
  | .lit _ => 1
  | .nil => 1
  | .ptr d => uptoBulk d + 1
  | .slice elems spare => uptoBulkAll elems + uptoBulkAll spare + 1
  | .agg parts => uptoBulkAll parts + 1
  | .iface _ d => uptoBulk d + 1
  | .map entries => uptoBulkEntries entries + 1
  | .held _ => 1
def uptoBulkAll {H : Type} : List (DataW H) → Nat
  | [] => 0
  | d :: r => uptoBulk d + uptoBulkAll r
def uptoBulkEntries {H : Type} : List (Lit × DataW H) → Nat
  | [] => 0
  | x :: r => uptoBulkEntry x + uptoBulkEntries r
def uptoBulkEntry {H : Type} : Lit × DataW H → Nat
  | (.string bytes, d) => bytes.length + uptoBulk d + 1
  | (_, d) => uptoBulk d + 1
 end
def uptoSmall : (H : Type) → List (DataW H) → Bool := fun _ ds => decide (uptoBulkAll ds ≤ 1048576)
def OpenSpec.upto (s : _root_.Go.ChangeSpec) : _root_.Go.OpenSpec := { _root_.Go.OpenSpec.ofChange s with cond := some uptoSmall }

/-- 'stratagemlaw19.SimplifyTasks', WHERE WHAT IT READS IS OF BULK AT MOST 1048576: true; the input reads as it did. -/
def simplifyTasksUptoRow : OpenClaim := { program := "ytkfcbmecmdpilaa", sum := "05e00695702e1e69da4aa5093ad9c063082d24c7a1822b052a5d76f8ca2ed521", func := "stratagem/stratagemlaw19.SimplifyTasks", spec := "simplifyTasks", unfollowed := true, recurses := true, loops := true, apart := false, narrowed := true }
def SimplifyTasksUptoSaid : Prop := simplifyTasksUptoRow.holds Try.pinned (OpenSpec.upto simplifyTasksSpec)

/-- 'stratagemlaw19.SimplifyCosts', WHERE WHAT IT READS IS OF BULK AT MOST 1048576: true; the input reads as it did. -/
def simplifyCostsUptoRow : OpenClaim := { program := "ytkfcbmecmdpilaa", sum := "05e00695702e1e69da4aa5093ad9c063082d24c7a1822b052a5d76f8ca2ed521", func := "stratagem/stratagemlaw19.SimplifyCosts", spec := "simplifyCosts", unfollowed := true, recurses := true, loops := true, apart := false, narrowed := true }
def SimplifyCostsUptoSaid : Prop := simplifyCostsUptoRow.holds Try.pinned (OpenSpec.upto simplifyCostsSpec)

/-- 'stratagemlaw19.SimplifyCopies', WHERE WHAT IT READS IS OF BULK AT MOST 1048576: true; the input reads as it did. -/
def simplifyCopiesUptoRow : OpenClaim := { program := "ytkfcbmecmdpilaa", sum := "05e00695702e1e69da4aa5093ad9c063082d24c7a1822b052a5d76f8ca2ed521", func := "stratagem/stratagemlaw19.SimplifyCopies", spec := "simplifyCopies", unfollowed := true, recurses := true, loops := true, apart := false, narrowed := true }
def SimplifyCopiesUptoSaid : Prop := simplifyCopiesUptoRow.holds Try.pinned (OpenSpec.upto simplifyCopiesSpec)

/-- 'stratagemlaw19.SimplifyIdle', WHERE WHAT IT READS IS OF BULK AT MOST 1048576: true; the input reads as it did. -/
def simplifyIdleUptoRow : OpenClaim := { program := "ytkfcbmecmdpilaa", sum := "05e00695702e1e69da4aa5093ad9c063082d24c7a1822b052a5d76f8ca2ed521", func := "stratagem/stratagemlaw19.SimplifyIdle", spec := "simplifyIdle", unfollowed := true, recurses := true, loops := true, apart := false, narrowed := true }
def SimplifyIdleUptoSaid : Prop := simplifyIdleUptoRow.holds Try.pinned (OpenSpec.upto simplifyIdleSpec)

/-- 'stratagemlaw19.SimplifyRelevant', WHERE WHAT IT READS IS OF BULK AT MOST 1048576: true; the input reads as it did. -/
def simplifyRelevantUptoRow : OpenClaim := { program := "ytkfcbmecmdpilaa", sum := "05e00695702e1e69da4aa5093ad9c063082d24c7a1822b052a5d76f8ca2ed521", func := "stratagem/stratagemlaw19.SimplifyRelevant", spec := "simplifyRelevant", unfollowed := true, recurses := true, loops := true, apart := false, narrowed := true }
def SimplifyRelevantUptoSaid : Prop := simplifyRelevantUptoRow.holds Try.pinned (OpenSpec.upto simplifyRelevantSpec)

/-- 'stratagemlaw19.SimplifyTwice', WHERE WHAT IT READS IS OF BULK AT MOST 1048576: true; the input reads as it did. -/
def simplifyTwiceUptoRow : OpenClaim := { program := "ytkfcbmecmdpilaa", sum := "05e00695702e1e69da4aa5093ad9c063082d24c7a1822b052a5d76f8ca2ed521", func := "stratagem/stratagemlaw19.SimplifyTwice", spec := "simplifyTwice", unfollowed := true, recurses := true, loops := true, apart := false, narrowed := true }
def SimplifyTwiceUptoSaid : Prop := simplifyTwiceUptoRow.holds Try.pinned (OpenSpec.upto simplifyTwiceSpec)

/-- 'stratagemlaw19.SimplifyFollows', WHERE WHAT IT READS IS OF BULK AT MOST 1048576: true; the input reads as it did. -/
def simplifyFollowsUptoRow : OpenClaim := { program := "ytkfcbmecmdpilaa", sum := "05e00695702e1e69da4aa5093ad9c063082d24c7a1822b052a5d76f8ca2ed521", func := "stratagem/stratagemlaw19.SimplifyFollows", spec := "simplifyFollows", unfollowed := true, recurses := true, loops := true, apart := false, narrowed := true }
def SimplifyFollowsUptoSaid : Prop := simplifyFollowsUptoRow.holds Try.pinned (OpenSpec.upto simplifyFollowsSpec)

end Rows
end Go.Proofs.Ytkfcbmecmdpilaa
