/-
  No cell of these rows narrows 'for every input' (looked for: loops, veiled, ifaces, maps, wideKeys, modest, calm, conditions, laid).
  DERIVED. THE GIVEN ROWS OF THIS SEAT. 3 by the template 'for every input the law returns true; each argument reads behind the call as it read before'; 0 by the template 'total and deterministic' (their statements: YtoofdhjblbnppaaGreatTotals.lean).
  GIVEN WITH THE SEED: the statements are not yours to turn. If you find one false, say at which input.
  Laid BY PROGRAM, IN A SANDBOX (cutbox-rows.mjs): the forced cells as the released guide's own fill.sh prints them over the translation 244acb73da29f6e3… (all of the seat's roots in one cut). By AI agents, Wed Nov 11 2026. No macro, syntax, notation, axiom, sorry.
-/
import Derived.Test.YtoofdhjblbnppaaGreatChecked
import GoSem.Claim
import GoSem.ClaimJoined
import GoSem.ClaimMapViews
import Derived.JoinedTies
import Derived.KernelRfl
namespace Go.Proofs.YtoofdhjblbnppaaGreat
/- THE CELL 'sum', in the pinned program and in every row, IS THE sha256 OF THE DUMP (.gsa) THAT YtoofdhjblbnppaaGreatProg.lean LOADS. Nothing in Lean hashes anything: it is a label: what it is worth is what the hold of that sum in a sandbox is worth. -/
noncomputable def Tryz.pinned : Pinned := { name := "ytoofdhjblbnppaagreat", sum := "244acb73da29f6e3e70e029d2b2c7f0062d59b0daee62cf0beaa31bb89e83d9b", checked := Tryz.checked }
namespace Rows
def none {H : Type} : Left H := { results := [], args := [] }

/-- 'stratagemlaw57.ScheduleShifts': WHATEVER THE INPUT: true; the input reads as it did. -/
def scheduleShiftsSpec : ChangeSpec := { name := "scheduleShifts", fn := fun _ => fun
  | [d1, d2] => { results := [.lit (.bool true)], args := [d1, d2] }
  | _ => none }
def scheduleShiftsRow : OpenClaim := { program := "ytoofdhjblbnppaagreat", sum := "244acb73da29f6e3e70e029d2b2c7f0062d59b0daee62cf0beaa31bb89e83d9b", func := "stratagem/stratagemlaw57.ScheduleShifts", spec := "scheduleShifts", unfollowed := true, recurses := true, apart := false }
def ScheduleShiftsSaid : Prop := scheduleShiftsRow.holds Tryz.pinned (OpenSpec.ofChange scheduleShiftsSpec)

/-- ITS FALSE NEIGHBOUR: 'it returns false'. Refute it at one input. -/
def scheduleShiftsWrong : ChangeSpec := { name := "scheduleShifts", fn := fun _ => fun
  | [d1, d2] => { results := [.lit (.bool false)], args := [d1, d2] }
  | _ => none }
def ScheduleShiftsWrongFalsely : Prop := scheduleShiftsRow.holds Tryz.pinned (OpenSpec.ofChange scheduleShiftsWrong)

/-- 'stratagemlaw57.ScheduleNetworks': WHATEVER THE INPUT: true; the input reads as it did. -/
def scheduleNetworksSpec : ChangeSpec := { name := "scheduleNetworks", fn := fun _ => fun
  | [d1, d2] => { results := [.lit (.bool true)], args := [d1, d2] }
  | _ => none }
def scheduleNetworksRow : OpenClaim := { program := "ytoofdhjblbnppaagreat", sum := "244acb73da29f6e3e70e029d2b2c7f0062d59b0daee62cf0beaa31bb89e83d9b", func := "stratagem/stratagemlaw57.ScheduleNetworks", spec := "scheduleNetworks", unfollowed := true, recurses := true, apart := false }
def ScheduleNetworksSaid : Prop := scheduleNetworksRow.holds Tryz.pinned (OpenSpec.ofChange scheduleNetworksSpec)

/-- ITS FALSE NEIGHBOUR: 'it returns false'. Refute it at one input. -/
def scheduleNetworksWrong : ChangeSpec := { name := "scheduleNetworks", fn := fun _ => fun
  | [d1, d2] => { results := [.lit (.bool false)], args := [d1, d2] }
  | _ => none }
def ScheduleNetworksWrongFalsely : Prop := scheduleNetworksRow.holds Tryz.pinned (OpenSpec.ofChange scheduleNetworksWrong)

/-- 'stratagemlaw57.ScheduleSlack': WHATEVER THE INPUT: true; the input reads as it did. -/
def scheduleSlackSpec : ChangeSpec := { name := "scheduleSlack", fn := fun _ => fun
  | [d1, d2] => { results := [.lit (.bool true)], args := [d1, d2] }
  | _ => none }
def scheduleSlackRow : OpenClaim := { program := "ytoofdhjblbnppaagreat", sum := "244acb73da29f6e3e70e029d2b2c7f0062d59b0daee62cf0beaa31bb89e83d9b", func := "stratagem/stratagemlaw57.ScheduleSlack", spec := "scheduleSlack", unfollowed := true, recurses := true, apart := false }
def ScheduleSlackSaid : Prop := scheduleSlackRow.holds Tryz.pinned (OpenSpec.ofChange scheduleSlackSpec)

/-- ITS FALSE NEIGHBOUR: 'it returns false'. Refute it at one input. -/
def scheduleSlackWrong : ChangeSpec := { name := "scheduleSlack", fn := fun _ => fun
  | [d1, d2] => { results := [.lit (.bool false)], args := [d1, d2] }
  | _ => none }
def ScheduleSlackWrongFalsely : Prop := scheduleSlackRow.holds Tryz.pinned (OpenSpec.ofChange scheduleSlackWrong)

/- THE SECOND FORM. 'bulk': how many values and letters a reading holds, each counted each time it is reached (what is shared counts as often as it is met; a slice's spare places count too). A statement '..UptoSaid' is the law's where the arguments, and the package variables that the reading takes, are together of bulk at most 1048576: NARROWER than '..Said'. Prove '..Said' where nothing that the law and all that it calls make is longer than what came in: it says more and counts as full. Else prove '..UptoSaid'. A law counts once. -/
mutual
def uptoBulk {H : Type} : DataW H → Nat
  | .lit (.string bytes) => bytes.length + 1
  | .lit _ => 1
  | .nil => 1
  | .ptr d => uptoBulk d + 1
  | .slice elems spare => uptoBulkAll elems + uptoBulkAll spare + 1
  | .agg parts => uptoBulkAll parts + 1
  | .iface _ d => uptoBulk d + 1
  | .map entries => uptoBulkEntries entries + 1
  | .held _ => 1
def uptoBulkAll {H : Type} : List (DataW H) → Nat
  | [] => 0
  | d :: r => uptoBulk d + uptoBulkAll r
def uptoBulkEntries {H : Type} : List (Lit × DataW H) → Nat
  | [] => 0
  | x :: r => uptoBulkEntry x + uptoBulkEntries r
def uptoBulkEntry {H : Type} : Lit × DataW H → Nat
  | (.string bytes, d) => bytes.length + uptoBulk d + 1
  | (_, d) => uptoBulk d + 1
 end
def uptoSmall : (H : Type) → List (DataW H) → Bool := fun _ ds => decide (uptoBulkAll ds ≤ 1048576)
def OpenSpec.upto (s : _root_.Go.ChangeSpec) : _root_.Go.OpenSpec := { _root_.Go.OpenSpec.ofChange s with cond := some uptoSmall }

/-- 'stratagemlaw57.ScheduleShifts', WHERE WHAT IT READS IS OF BULK AT MOST 1048576: true; the input reads as it did. -/
def scheduleShiftsUptoRow : OpenClaim := { program := "ytoofdhjblbnppaagreat", sum := "244acb73da29f6e3e70e029d2b2c7f0062d59b0daee62cf0beaa31bb89e83d9b", func := "stratagem/stratagemlaw57.ScheduleShifts", spec := "scheduleShifts", unfollowed := true, recurses := true, apart := false, narrowed := true }
def ScheduleShiftsUptoSaid : Prop := scheduleShiftsUptoRow.holds Tryz.pinned (OpenSpec.upto scheduleShiftsSpec)

/-- 'stratagemlaw57.ScheduleNetworks', WHERE WHAT IT READS IS OF BULK AT MOST 1048576: true; the input reads as it did. -/
def scheduleNetworksUptoRow : OpenClaim := { program := "ytoofdhjblbnppaagreat", sum := "244acb73da29f6e3e70e029d2b2c7f0062d59b0daee62cf0beaa31bb89e83d9b", func := "stratagem/stratagemlaw57.ScheduleNetworks", spec := "scheduleNetworks", unfollowed := true, recurses := true, apart := false, narrowed := true }
def ScheduleNetworksUptoSaid : Prop := scheduleNetworksUptoRow.holds Tryz.pinned (OpenSpec.upto scheduleNetworksSpec)

/-- 'stratagemlaw57.ScheduleSlack', WHERE WHAT IT READS IS OF BULK AT MOST 1048576: true; the input reads as it did. -/
def scheduleSlackUptoRow : OpenClaim := { program := "ytoofdhjblbnppaagreat", sum := "244acb73da29f6e3e70e029d2b2c7f0062d59b0daee62cf0beaa31bb89e83d9b", func := "stratagem/stratagemlaw57.ScheduleSlack", spec := "scheduleSlack", unfollowed := true, recurses := true, apart := false, narrowed := true }
def ScheduleSlackUptoSaid : Prop := scheduleSlackUptoRow.holds Tryz.pinned (OpenSpec.upto scheduleSlackSpec)

end Rows
end Go.Proofs.YtoofdhjblbnppaaGreat
