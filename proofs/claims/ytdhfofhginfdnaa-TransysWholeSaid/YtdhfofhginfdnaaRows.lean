/-
  No cell of these rows narrows 'for every input' (looked for: loops, veiled, ifaces, maps, wideKeys, modest, calm, conditions, laid).
  DERIVED. THE GIVEN ROWS OF THIS SEAT. 7 by the template 'for every input the law returns true; each argument reads behind the call as it read before'; 0 by the template 'total and deterministic' (their statements: YtdhfofhginfdnaaTotals.lean).
  GIVEN WITH THE SEED: the statements are not yours to turn. If you find one false, say at which input.
  Laid BY PROGRAM, IN A SANDBOX (cutbox-rows.mjs): the forced cells as the released guide's own fill.sh prints them over the translation f9e56d421aea6ed3… (all of the seat's roots in one cut). By AI agents, Wed Nov 11 2026. No macro, syntax, notation, axiom, sorry.
-/
import Derived.Test.YtdhfofhginfdnaaChecked
import GoSem.Claim
import GoSem.ClaimJoined
import GoSem.ClaimMapViews
import Derived.JoinedTies
import Derived.KernelRfl
namespace Go.Proofs.Ytdhfofhginfdnaa
/- THE CELL 'sum', in the pinned program and in every row, IS THE sha256 OF THE DUMP (.gsa) THAT YtdhfofhginfdnaaProg.lean LOADS. Nothing in Lean hashes anything: it is a label: what it is worth is what the hold of that sum in a sandbox is worth. -/
noncomputable def Try.pinned : Pinned := { name := "ytdhfofhginfdnaa", sum := "f9e56d421aea6ed3ee54544f7de42007eb753379852df242c8754a969284b80c", checked := Try.checked }
namespace Rows
def none {H : Type} : Left H := { results := [], args := [] }

/-- 'stratagemlaw44.TransysProducts': WHATEVER THE INPUT: true; the input reads as it did. -/
def transysProductsSpec : ChangeSpec := { name := "transysProducts", fn := fun _ => fun
  | [d1, d2] => { results := [.lit (.bool true)], args := [d1, d2] }
  | _ => none }
def transysProductsRow : OpenClaim := { program := "ytdhfofhginfdnaa", sum := "f9e56d421aea6ed3ee54544f7de42007eb753379852df242c8754a969284b80c", func := "stratagem/stratagemlaw44.TransysProducts", spec := "transysProducts", unfollowed := true, recurses := true, apart := false }
def TransysProductsSaid : Prop := transysProductsRow.holds Try.pinned (OpenSpec.ofChange transysProductsSpec)

/-- ITS FALSE NEIGHBOUR: 'it returns false'. Refute it at one input. -/
def transysProductsWrong : ChangeSpec := { name := "transysProducts", fn := fun _ => fun
  | [d1, d2] => { results := [.lit (.bool false)], args := [d1, d2] }
  | _ => none }
def TransysProductsWrongFalsely : Prop := transysProductsRow.holds Try.pinned (OpenSpec.ofChange transysProductsWrong)

/-- 'stratagemlaw44.TransysLimits': WHATEVER THE INPUT: true; the input reads as it did. -/
def transysLimitsSpec : ChangeSpec := { name := "transysLimits", fn := fun _ => fun
  | [d1, d2] => { results := [.lit (.bool true)], args := [d1, d2] }
  | _ => none }
def transysLimitsRow : OpenClaim := { program := "ytdhfofhginfdnaa", sum := "f9e56d421aea6ed3ee54544f7de42007eb753379852df242c8754a969284b80c", func := "stratagem/stratagemlaw44.TransysLimits", spec := "transysLimits", unfollowed := true, recurses := true, apart := false }
def TransysLimitsSaid : Prop := transysLimitsRow.holds Try.pinned (OpenSpec.ofChange transysLimitsSpec)

/-- ITS FALSE NEIGHBOUR: 'it returns false'. Refute it at one input. -/
def transysLimitsWrong : ChangeSpec := { name := "transysLimits", fn := fun _ => fun
  | [d1, d2] => { results := [.lit (.bool false)], args := [d1, d2] }
  | _ => none }
def TransysLimitsWrongFalsely : Prop := transysLimitsRow.holds Try.pinned (OpenSpec.ofChange transysLimitsWrong)

/-- 'stratagemlaw44.TransysDistances': WHATEVER THE INPUT: true; the input reads as it did. -/
def transysDistancesSpec : ChangeSpec := { name := "transysDistances", fn := fun _ => fun
  | [d] => { results := [.lit (.bool true)], args := [d] }
  | _ => none }
def transysDistancesRow : OpenClaim := { program := "ytdhfofhginfdnaa", sum := "f9e56d421aea6ed3ee54544f7de42007eb753379852df242c8754a969284b80c", func := "stratagem/stratagemlaw44.TransysDistances", spec := "transysDistances", unfollowed := true, recurses := true, apart := false }
def TransysDistancesSaid : Prop := transysDistancesRow.holds Try.pinned (OpenSpec.ofChange transysDistancesSpec)

/-- ITS FALSE NEIGHBOUR: 'it returns false'. Refute it at one input. -/
def transysDistancesWrong : ChangeSpec := { name := "transysDistances", fn := fun _ => fun
  | [d] => { results := [.lit (.bool false)], args := [d] }
  | _ => none }
def TransysDistancesWrongFalsely : Prop := transysDistancesRow.holds Try.pinned (OpenSpec.ofChange transysDistancesWrong)

/-- 'stratagemlaw44.TransysTrims': WHATEVER THE INPUT: true; the input reads as it did. -/
def transysTrimsSpec : ChangeSpec := { name := "transysTrims", fn := fun _ => fun
  | [d] => { results := [.lit (.bool true)], args := [d] }
  | _ => none }
def transysTrimsRow : OpenClaim := { program := "ytdhfofhginfdnaa", sum := "f9e56d421aea6ed3ee54544f7de42007eb753379852df242c8754a969284b80c", func := "stratagem/stratagemlaw44.TransysTrims", spec := "transysTrims", unfollowed := true, recurses := true, apart := false }
def TransysTrimsSaid : Prop := transysTrimsRow.holds Try.pinned (OpenSpec.ofChange transysTrimsSpec)

/-- ITS FALSE NEIGHBOUR: 'it returns false'. Refute it at one input. -/
def transysTrimsWrong : ChangeSpec := { name := "transysTrims", fn := fun _ => fun
  | [d] => { results := [.lit (.bool false)], args := [d] }
  | _ => none }
def TransysTrimsWrongFalsely : Prop := transysTrimsRow.holds Try.pinned (OpenSpec.ofChange transysTrimsWrong)

/-- 'stratagemlaw44.TransysForms': WHATEVER THE INPUT: true; the input reads as it did. -/
def transysFormsSpec : ChangeSpec := { name := "transysForms", fn := fun _ => fun
  | [d] => { results := [.lit (.bool true)], args := [d] }
  | _ => none }
def transysFormsRow : OpenClaim := { program := "ytdhfofhginfdnaa", sum := "f9e56d421aea6ed3ee54544f7de42007eb753379852df242c8754a969284b80c", func := "stratagem/stratagemlaw44.TransysForms", spec := "transysForms", unfollowed := true, recurses := true, apart := false }
def TransysFormsSaid : Prop := transysFormsRow.holds Try.pinned (OpenSpec.ofChange transysFormsSpec)

/-- ITS FALSE NEIGHBOUR: 'it returns false'. Refute it at one input. -/
def transysFormsWrong : ChangeSpec := { name := "transysForms", fn := fun _ => fun
  | [d] => { results := [.lit (.bool false)], args := [d] }
  | _ => none }
def TransysFormsWrongFalsely : Prop := transysFormsRow.holds Try.pinned (OpenSpec.ofChange transysFormsWrong)

/-- 'stratagemlaw44.TransysAtomic': WHATEVER THE INPUT: true; the input reads as it did. -/
def transysAtomicSpec : ChangeSpec := { name := "transysAtomic", fn := fun _ => fun
  | [d1, d2] => { results := [.lit (.bool true)], args := [d1, d2] }
  | _ => none }
def transysAtomicRow : OpenClaim := { program := "ytdhfofhginfdnaa", sum := "f9e56d421aea6ed3ee54544f7de42007eb753379852df242c8754a969284b80c", func := "stratagem/stratagemlaw44.TransysAtomic", spec := "transysAtomic", unfollowed := true, recurses := true, apart := false }
def TransysAtomicSaid : Prop := transysAtomicRow.holds Try.pinned (OpenSpec.ofChange transysAtomicSpec)

/-- ITS FALSE NEIGHBOUR: 'it returns false'. Refute it at one input. -/
def transysAtomicWrong : ChangeSpec := { name := "transysAtomic", fn := fun _ => fun
  | [d1, d2] => { results := [.lit (.bool false)], args := [d1, d2] }
  | _ => none }
def TransysAtomicWrongFalsely : Prop := transysAtomicRow.holds Try.pinned (OpenSpec.ofChange transysAtomicWrong)

/-- 'stratagemlaw44.TransysWhole': WHATEVER THE INPUT: true; the input reads as it did. -/
def transysWholeSpec : ChangeSpec := { name := "transysWhole", fn := fun _ => fun
  | [d] => { results := [.lit (.bool true)], args := [d] }
  | _ => none }
def transysWholeRow : OpenClaim := { program := "ytdhfofhginfdnaa", sum := "f9e56d421aea6ed3ee54544f7de42007eb753379852df242c8754a969284b80c", func := "stratagem/stratagemlaw44.TransysWhole", spec := "transysWhole", unfollowed := true, recurses := true, apart := false }
def TransysWholeSaid : Prop := transysWholeRow.holds Try.pinned (OpenSpec.ofChange transysWholeSpec)

/-- ITS FALSE NEIGHBOUR: 'it returns false'. Refute it at one input. -/
def transysWholeWrong : ChangeSpec := { name := "transysWhole", fn := fun _ => fun
  | [d] => { results := [.lit (.bool false)], args := [d] }
  | _ => none }
def TransysWholeWrongFalsely : Prop := transysWholeRow.holds Try.pinned (OpenSpec.ofChange transysWholeWrong)

/- THE SECOND FORM. 'bulk': how many values and letters a reading holds, each counted each time it is reached (what is shared counts as often as it is met; a slice's spare places count too). A statement '..UptoSaid' is the law's where the arguments, and the package variables that the reading takes, are together of bulk at most 1048576: NARROWER than '..Said'. Prove '..Said' where nothing that the law and all that it calls make is longer than what came in: it says more and counts as full. Else prove '..UptoSaid'. A law counts once. -/
mutual
def uptoBulk {H : Type} : DataW H → Nat
  | .lit (.string bytes) => bytes.length + 1
  | .lit _ => 1
  | .nil => 1
  | .ptr d => uptoBulk d + 1
  | .slice elems spare => uptoBulkAll elems + uptoBulkAll spare + 1
  | .agg parts => uptoBulkAll parts + 1
  | .iface _ d => uptoBulk d + 1
  | .map entries => uptoBulkEntries entries + 1
  | .held _ => 1
def uptoBulkAll {H : Type} : List (DataW H) → Nat
  | [] => 0
  | d :: r => uptoBulk d + uptoBulkAll r
def uptoBulkEntries {H : Type} : List (Lit × DataW H) → Nat
  | [] => 0
  | x :: r => uptoBulkEntry x + uptoBulkEntries r
def uptoBulkEntry {H : Type} : Lit × DataW H → Nat
  | (.string bytes, d) => bytes.length + uptoBulk d + 1
  | (_, d) => uptoBulk d + 1
 end
def uptoSmall : (H : Type) → List (DataW H) → Bool := fun _ ds => decide (uptoBulkAll ds ≤ 1048576)
def OpenSpec.upto (s : _root_.Go.ChangeSpec) : _root_.Go.OpenSpec := { _root_.Go.OpenSpec.ofChange s with cond := some uptoSmall }

/-- 'stratagemlaw44.TransysProducts', WHERE WHAT IT READS IS OF BULK AT MOST 1048576: true; the input reads as it did. -/
def transysProductsUptoRow : OpenClaim := { program := "ytdhfofhginfdnaa", sum := "f9e56d421aea6ed3ee54544f7de42007eb753379852df242c8754a969284b80c", func := "stratagem/stratagemlaw44.TransysProducts", spec := "transysProducts", unfollowed := true, recurses := true, apart := false, narrowed := true }
def TransysProductsUptoSaid : Prop := transysProductsUptoRow.holds Try.pinned (OpenSpec.upto transysProductsSpec)

/-- 'stratagemlaw44.TransysLimits', WHERE WHAT IT READS IS OF BULK AT MOST 1048576: true; the input reads as it did. -/
def transysLimitsUptoRow : OpenClaim := { program := "ytdhfofhginfdnaa", sum := "f9e56d421aea6ed3ee54544f7de42007eb753379852df242c8754a969284b80c", func := "stratagem/stratagemlaw44.TransysLimits", spec := "transysLimits", unfollowed := true, recurses := true, apart := false, narrowed := true }
def TransysLimitsUptoSaid : Prop := transysLimitsUptoRow.holds Try.pinned (OpenSpec.upto transysLimitsSpec)

/-- 'stratagemlaw44.TransysDistances', WHERE WHAT IT READS IS OF BULK AT MOST 1048576: true; the input reads as it did. -/
def transysDistancesUptoRow : OpenClaim := { program := "ytdhfofhginfdnaa", sum := "f9e56d421aea6ed3ee54544f7de42007eb753379852df242c8754a969284b80c", func := "stratagem/stratagemlaw44.TransysDistances", spec := "transysDistances", unfollowed := true, recurses := true, apart := false, narrowed := true }
def TransysDistancesUptoSaid : Prop := transysDistancesUptoRow.holds Try.pinned (OpenSpec.upto transysDistancesSpec)

/-- 'stratagemlaw44.TransysTrims', WHERE WHAT IT READS IS OF BULK AT MOST 1048576: true; the input reads as it did. -/
def transysTrimsUptoRow : OpenClaim := { program := "ytdhfofhginfdnaa", sum := "f9e56d421aea6ed3ee54544f7de42007eb753379852df242c8754a969284b80c", func := "stratagem/stratagemlaw44.TransysTrims", spec := "transysTrims", unfollowed := true, recurses := true, apart := false, narrowed := true }
def TransysTrimsUptoSaid : Prop := transysTrimsUptoRow.holds Try.pinned (OpenSpec.upto transysTrimsSpec)

/-- 'stratagemlaw44.TransysForms', WHERE WHAT IT READS IS OF BULK AT MOST 1048576: true; the input reads as it did. -/
def transysFormsUptoRow : OpenClaim := { program := "ytdhfofhginfdnaa", sum := "f9e56d421aea6ed3ee54544f7de42007eb753379852df242c8754a969284b80c", func := "stratagem/stratagemlaw44.TransysForms", spec := "transysForms", unfollowed := true, recurses := true, apart := false, narrowed := true }
def TransysFormsUptoSaid : Prop := transysFormsUptoRow.holds Try.pinned (OpenSpec.upto transysFormsSpec)

/-- 'stratagemlaw44.TransysAtomic', WHERE WHAT IT READS IS OF BULK AT MOST 1048576: true; the input reads as it did. -/
def transysAtomicUptoRow : OpenClaim := { program := "ytdhfofhginfdnaa", sum := "f9e56d421aea6ed3ee54544f7de42007eb753379852df242c8754a969284b80c", func := "stratagem/stratagemlaw44.TransysAtomic", spec := "transysAtomic", unfollowed := true, recurses := true, apart := false, narrowed := true }
def TransysAtomicUptoSaid : Prop := transysAtomicUptoRow.holds Try.pinned (OpenSpec.upto transysAtomicSpec)

/-- 'stratagemlaw44.TransysWhole', WHERE WHAT IT READS IS OF BULK AT MOST 1048576: true; the input reads as it did. -/
def transysWholeUptoRow : OpenClaim := { program := "ytdhfofhginfdnaa", sum := "f9e56d421aea6ed3ee54544f7de42007eb753379852df242c8754a969284b80c", func := "stratagem/stratagemlaw44.TransysWhole", spec := "transysWhole", unfollowed := true, recurses := true, apart := false, narrowed := true }
def TransysWholeUptoSaid : Prop := transysWholeUptoRow.holds Try.pinned (OpenSpec.upto transysWholeSpec)

end Rows
end Go.Proofs.Ytdhfofhginfdnaa
