/-
  NARROWER THAN 'FOR EVERY INPUT', by the rows' own cells (each row's printed sentence says how): EncodeGroups: loops.
  DERIVED. THE GIVEN ROWS OF THIS SEAT. 2 by the template 'for every input the law returns true; each argument reads behind the call as it read before'; 0 by the template 'total and deterministic' (their statements: YteiainhbhaodoaaGreatTotals.lean).
  GIVEN WITH THE SEED: the statements are not yours to turn. If you find one false, say at which input.
  Laid BY PROGRAM, IN A SANDBOX (cutbox-rows.mjs): the forced cells as the released guide's own fill.sh prints them over the translation 2f7609d817ce0171… (all of the seat's roots in one cut). By AI agents, Wed Nov 11 2026. No macro, syntax, notation, axiom, sorry.
-/
import Derived.Test.YteiainhbhaodoaaGreatChecked
import GoSem.Claim
import GoSem.ClaimJoined
import GoSem.ClaimMapViews
import Derived.JoinedTies
import Derived.KernelRfl
namespace Go.Proofs.YteiainhbhaodoaaGreat
/- THE CELL 'sum', in the pinned program and in every row, IS THE sha256 OF THE DUMP (.gsa) THAT YteiainhbhaodoaaGreatProg.lean LOADS. Nothing in Lean hashes anything: it is a label: what it is worth is what the hold of that sum in a sandbox is worth. -/
noncomputable def Tryz.pinned : Pinned := { name := "yteiainhbhaodoaagreat", sum := "2f7609d817ce01710ff0fe264eccfe657c5835defb413eb2780e808521efafa5", checked := Tryz.checked }
namespace Rows
def none {H : Type} : Left H := { results := [], args := [] }

/-- 'stratagemlaw21.EncodePlan': WHATEVER THE INPUT: true; the input reads as it did. -/
def encodePlanSpec : ChangeSpec := { name := "encodePlan", fn := fun _ => fun
  | [d1, d2] => { results := [.lit (.bool true)], args := [d1, d2] }
  | _ => none }
def encodePlanRow : OpenClaim := { program := "yteiainhbhaodoaagreat", sum := "2f7609d817ce01710ff0fe264eccfe657c5835defb413eb2780e808521efafa5", func := "stratagem/stratagemlaw21.EncodePlan", spec := "encodePlan", unfollowed := true, recurses := true, apart := false }
def EncodePlanSaid : Prop := encodePlanRow.holds Tryz.pinned (OpenSpec.ofChange encodePlanSpec)

/-- ITS FALSE NEIGHBOUR: 'it returns false'. Refute it at one input. -/
def encodePlanWrong : ChangeSpec := { name := "encodePlan", fn := fun _ => fun
  | [d1, d2] => { results := [.lit (.bool false)], args := [d1, d2] }
  | _ => none }
def EncodePlanWrongFalsely : Prop := encodePlanRow.holds Tryz.pinned (OpenSpec.ofChange encodePlanWrong)

/-- 'stratagemlaw21.EncodeGroups': WHATEVER THE INPUT: true; the input reads as it did. -/
def encodeGroupsSpec : ChangeSpec := { name := "encodeGroups", fn := fun _ => fun
  | [d1, d2] => { results := [.lit (.bool true)], args := [d1, d2] }
  | _ => none }
def encodeGroupsRow : OpenClaim := { program := "yteiainhbhaodoaagreat", sum := "2f7609d817ce01710ff0fe264eccfe657c5835defb413eb2780e808521efafa5", func := "stratagem/stratagemlaw21.EncodeGroups", spec := "encodeGroups", unfollowed := true, recurses := true, loops := true, apart := false }
def EncodeGroupsSaid : Prop := encodeGroupsRow.holds Tryz.pinned (OpenSpec.ofChange encodeGroupsSpec)

/-- ITS FALSE NEIGHBOUR: 'it returns false'. Refute it at one input. -/
def encodeGroupsWrong : ChangeSpec := { name := "encodeGroups", fn := fun _ => fun
  | [d1, d2] => { results := [.lit (.bool false)], args := [d1, d2] }
  | _ => none }
def EncodeGroupsWrongFalsely : Prop := encodeGroupsRow.holds Tryz.pinned (OpenSpec.ofChange encodeGroupsWrong)

/- THE SECOND FORM. 'bulk': how many values and letters a reading holds, each counted each time it is reached (what is shared counts as often as it is met; a slice's spare places count too). A statement '..UptoSaid' is the law's where the arguments, and the package variables that the reading takes, are together of bulk at most 1048576: NARROWER than '..Said'. Prove '..Said' where nothing that the law and all that it calls make is longer than what came in: it says more and counts as full. Else prove '..UptoSaid'. A law counts once. -/
mutual
def uptoBulk {H : Type} : DataW H → Nat
  | .lit (.string bytes) => bytes.length + 1
  | .lit _ => 1
  | .nil => 1
  | .ptr d => uptoBulk d + 1
  | .slice elems spare => uptoBulkAll elems + uptoBulkAll spare + 1
  | .agg parts => uptoBulkAll parts + 1
  | .iface _ d => uptoBulk d + 1
  | .map entries => uptoBulkEntries entries + 1
  | .held _ => 1
def uptoBulkAll {H : Type} : List (DataW H) → Nat
  | [] => 0
  | d :: r => uptoBulk d + uptoBulkAll r
def uptoBulkEntries {H : Type} : List (Lit × DataW H) → Nat
  | [] => 0
  | x :: r => uptoBulkEntry x + uptoBulkEntries r
def uptoBulkEntry {H : Type} : Lit × DataW H → Nat
  | (.string bytes, d) => bytes.length + uptoBulk d + 1
  | (_, d) => uptoBulk d + 1
 end
def uptoSmall : (H : Type) → List (DataW H) → Bool := fun _ ds => decide (uptoBulkAll ds ≤ 1048576)
def OpenSpec.upto (s : _root_.Go.ChangeSpec) : _root_.Go.OpenSpec := { _root_.Go.OpenSpec.ofChange s with cond := some uptoSmall }

/-- 'stratagemlaw21.EncodePlan', WHERE WHAT IT READS IS OF BULK AT MOST 1048576: true; the input reads as it did. -/
def encodePlanUptoRow : OpenClaim := { program := "yteiainhbhaodoaagreat", sum := "2f7609d817ce01710ff0fe264eccfe657c5835defb413eb2780e808521efafa5", func := "stratagem/stratagemlaw21.EncodePlan", spec := "encodePlan", unfollowed := true, recurses := true, apart := false, narrowed := true }
def EncodePlanUptoSaid : Prop := encodePlanUptoRow.holds Tryz.pinned (OpenSpec.upto encodePlanSpec)

/-- 'stratagemlaw21.EncodeGroups', WHERE WHAT IT READS IS OF BULK AT MOST 1048576: true; the input reads as it did. -/
def encodeGroupsUptoRow : OpenClaim := { program := "yteiainhbhaodoaagreat", sum := "2f7609d817ce01710ff0fe264eccfe657c5835defb413eb2780e808521efafa5", func := "stratagem/stratagemlaw21.EncodeGroups", spec := "encodeGroups", unfollowed := true, recurses := true, loops := true, apart := false, narrowed := true }
def EncodeGroupsUptoSaid : Prop := encodeGroupsUptoRow.holds Tryz.pinned (OpenSpec.upto encodeGroupsSpec)

end Rows
end Go.Proofs.YteiainhbhaodoaaGreat
