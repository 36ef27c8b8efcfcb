/-
  No cell of these rows narrows 'for every input' (looked for: loops, veiled, ifaces, maps, wideKeys, modest, calm, conditions, laid).
  DERIVED. THE GIVEN ROWS OF THIS SEAT. 6 by the template 'for every input the law returns true; each argument reads behind the call as it read before'; 0 by the template 'total and deterministic' (their statements: YtcapbkcdeeinoaaTotals.lean).
  GIVEN WITH THE SEED: the statements are not yours to turn. If you find one false, say at which input.
  Laid BY PROGRAM, IN A SANDBOX (cutbox-rows.mjs): the forced cells as the released guide's own fill.sh prints them over the translation 9d141b985095eab7… (all of the seat's roots in one cut). By AI agents, Wed Nov 11 2026. No macro, syntax, notation, axiom, sorry.
-/
import Derived.Test.YtcapbkcdeeinoaaChecked
import GoSem.Claim
import GoSem.ClaimJoined
import GoSem.ClaimMapViews
import Derived.JoinedTies
import Derived.KernelRfl
namespace Go.Proofs.Ytcapbkcdeeinoaa
/- THE CELL 'sum', in the pinned program and in every row, IS THE sha256 OF THE DUMP (.gsa) THAT YtcapbkcdeeinoaaProg.lean LOADS. Nothing in Lean hashes anything: it is a label: what it is worth is what the hold of that sum in a sandbox is worth. -/
noncomputable def Try.pinned : Pinned := { name := "ytcapbkcdeeinoaa", sum := "9d141b985095eab71cffefdbe61ff9ba52fdd048e11d5a0a336ea6e07d5f0b5e", checked := Try.checked }
namespace Rows
def none {H : Type} : Left H := { results := [], args := [] }

/-- 'stratagemlaw54.StnPlays': WHATEVER THE INPUT: true; the input reads as it did. -/
def stnPlaysSpec : ChangeSpec := { name := "stnPlays", fn := fun _ => fun
  | [d1, d2] => { results := [.lit (.bool true)], args := [d1, d2] }
  | _ => none }
def stnPlaysRow : OpenClaim := { program := "ytcapbkcdeeinoaa", sum := "9d141b985095eab71cffefdbe61ff9ba52fdd048e11d5a0a336ea6e07d5f0b5e", func := "stratagem/stratagemlaw54.StnPlays", spec := "stnPlays", apart := false }
def StnPlaysSaid : Prop := stnPlaysRow.holds Try.pinned (OpenSpec.ofChange stnPlaysSpec)

/-- ITS FALSE NEIGHBOUR: 'it returns false'. Refute it at one input. -/
def stnPlaysWrong : ChangeSpec := { name := "stnPlays", fn := fun _ => fun
  | [d1, d2] => { results := [.lit (.bool false)], args := [d1, d2] }
  | _ => none }
def StnPlaysWrongFalsely : Prop := stnPlaysRow.holds Try.pinned (OpenSpec.ofChange stnPlaysWrong)

/-- 'stratagemlaw54.StnOrder': WHATEVER THE INPUT: true; the input reads as it did. -/
def stnOrderSpec : ChangeSpec := { name := "stnOrder", fn := fun _ => fun
  | [d1, d2, d3] => { results := [.lit (.bool true)], args := [d1, d2, d3] }
  | _ => none }
def stnOrderRow : OpenClaim := { program := "ytcapbkcdeeinoaa", sum := "9d141b985095eab71cffefdbe61ff9ba52fdd048e11d5a0a336ea6e07d5f0b5e", func := "stratagem/stratagemlaw54.StnOrder", spec := "stnOrder", apart := false }
def StnOrderSaid : Prop := stnOrderRow.holds Try.pinned (OpenSpec.ofChange stnOrderSpec)

/-- ITS FALSE NEIGHBOUR: 'it returns false'. Refute it at one input. -/
def stnOrderWrong : ChangeSpec := { name := "stnOrder", fn := fun _ => fun
  | [d1, d2, d3] => { results := [.lit (.bool false)], args := [d1, d2, d3] }
  | _ => none }
def StnOrderWrongFalsely : Prop := stnOrderRow.holds Try.pinned (OpenSpec.ofChange stnOrderWrong)

/-- 'stratagemlaw54.StnSolutions': WHATEVER THE INPUT: true; the input reads as it did. -/
def stnSolutionsSpec : ChangeSpec := { name := "stnSolutions", fn := fun _ => fun
  | [d1, d2, d3] => { results := [.lit (.bool true)], args := [d1, d2, d3] }
  | _ => none }
def stnSolutionsRow : OpenClaim := { program := "ytcapbkcdeeinoaa", sum := "9d141b985095eab71cffefdbe61ff9ba52fdd048e11d5a0a336ea6e07d5f0b5e", func := "stratagem/stratagemlaw54.StnSolutions", spec := "stnSolutions", apart := false }
def StnSolutionsSaid : Prop := stnSolutionsRow.holds Try.pinned (OpenSpec.ofChange stnSolutionsSpec)

/-- ITS FALSE NEIGHBOUR: 'it returns false'. Refute it at one input. -/
def stnSolutionsWrong : ChangeSpec := { name := "stnSolutions", fn := fun _ => fun
  | [d1, d2, d3] => { results := [.lit (.bool false)], args := [d1, d2, d3] }
  | _ => none }
def StnSolutionsWrongFalsely : Prop := stnSolutionsRow.holds Try.pinned (OpenSpec.ofChange stnSolutionsWrong)

/-- 'stratagemlaw54.StnCopies': WHATEVER THE INPUT: true; the input reads as it did. -/
def stnCopiesSpec : ChangeSpec := { name := "stnCopies", fn := fun _ => fun
  | [d1, d2, d3] => { results := [.lit (.bool true)], args := [d1, d2, d3] }
  | _ => none }
def stnCopiesRow : OpenClaim := { program := "ytcapbkcdeeinoaa", sum := "9d141b985095eab71cffefdbe61ff9ba52fdd048e11d5a0a336ea6e07d5f0b5e", func := "stratagem/stratagemlaw54.StnCopies", spec := "stnCopies", apart := false }
def StnCopiesSaid : Prop := stnCopiesRow.holds Try.pinned (OpenSpec.ofChange stnCopiesSpec)

/-- ITS FALSE NEIGHBOUR: 'it returns false'. Refute it at one input. -/
def stnCopiesWrong : ChangeSpec := { name := "stnCopies", fn := fun _ => fun
  | [d1, d2, d3] => { results := [.lit (.bool false)], args := [d1, d2, d3] }
  | _ => none }
def StnCopiesWrongFalsely : Prop := stnCopiesRow.holds Try.pinned (OpenSpec.ofChange stnCopiesWrong)

/-- 'stratagemlaw54.StnTight': WHATEVER THE INPUT: true; the input reads as it did. -/
def stnTightSpec : ChangeSpec := { name := "stnTight", fn := fun _ => fun
  | [d1, d2, d3] => { results := [.lit (.bool true)], args := [d1, d2, d3] }
  | _ => none }
def stnTightRow : OpenClaim := { program := "ytcapbkcdeeinoaa", sum := "9d141b985095eab71cffefdbe61ff9ba52fdd048e11d5a0a336ea6e07d5f0b5e", func := "stratagem/stratagemlaw54.StnTight", spec := "stnTight", apart := false }
def StnTightSaid : Prop := stnTightRow.holds Try.pinned (OpenSpec.ofChange stnTightSpec)

/-- ITS FALSE NEIGHBOUR: 'it returns false'. Refute it at one input. -/
def stnTightWrong : ChangeSpec := { name := "stnTight", fn := fun _ => fun
  | [d1, d2, d3] => { results := [.lit (.bool false)], args := [d1, d2, d3] }
  | _ => none }
def StnTightWrongFalsely : Prop := stnTightRow.holds Try.pinned (OpenSpec.ofChange stnTightWrong)

/-- 'stratagemlaw54.StnNil': WHATEVER THE INPUT: true; the input reads as it did. -/
def stnNilSpec : ChangeSpec := { name := "stnNil", fn := fun _ => fun
  | [d1, d2, d3] => { results := [.lit (.bool true)], args := [d1, d2, d3] }
  | _ => none }
def stnNilRow : OpenClaim := { program := "ytcapbkcdeeinoaa", sum := "9d141b985095eab71cffefdbe61ff9ba52fdd048e11d5a0a336ea6e07d5f0b5e", func := "stratagem/stratagemlaw54.StnNil", spec := "stnNil", apart := false }
def StnNilSaid : Prop := stnNilRow.holds Try.pinned (OpenSpec.ofChange stnNilSpec)

/-- ITS FALSE NEIGHBOUR: 'it returns false'. Refute it at one input. -/
def stnNilWrong : ChangeSpec := { name := "stnNil", fn := fun _ => fun
  | [d1, d2, d3] => { results := [.lit (.bool false)], args := [d1, d2, d3] }
  | _ => none }
def StnNilWrongFalsely : Prop := stnNilRow.holds Try.pinned (OpenSpec.ofChange stnNilWrong)

/- THE SECOND FORM. 'bulk': how many values and letters a reading holds, each counted each time it is reached (what is shared counts as often as it is met; a slice's spare places count too). A statement '..UptoSaid' is the law's where the arguments, and the package variables that the reading takes, are together of bulk at most 1048576: NARROWER than '..Said'. Prove '..Said' where nothing that the law and all that it calls make is longer than what came in: it says more and counts as full. Else prove '..UptoSaid'. A law counts once. -/
mutual
def uptoBulk {H : Type} : DataW H → Nat
  | .lit (.string bytes) => bytes.length + 1
  | .lit _ => 1
  | .nil => 1
  | .ptr d => uptoBulk d + 1
  | .slice elems spare => uptoBulkAll elems + uptoBulkAll spare + 1
  | .agg parts => uptoBulkAll parts + 1
  | .iface _ d => uptoBulk d + 1
  | .map entries => uptoBulkEntries entries + 1
  | .held _ => 1
def uptoBulkAll {H : Type} : List (DataW H) → Nat
  | [] => 0
  | d :: r => uptoBulk d + uptoBulkAll r
def uptoBulkEntries {H : Type} : List (Lit × DataW H) → Nat
  | [] => 0
  | x :: r => uptoBulkEntry x + uptoBulkEntries r
def uptoBulkEntry {H : Type} : Lit × DataW H → Nat
  | (.string bytes, d) => bytes.length + uptoBulk d + 1
  | (_, d) => uptoBulk d + 1
 end
def uptoSmall : (H : Type) → List (DataW H) → Bool := fun _ ds => decide (uptoBulkAll ds ≤ 1048576)
def OpenSpec.upto (s : _root_.Go.ChangeSpec) : _root_.Go.OpenSpec := { _root_.Go.OpenSpec.ofChange s with cond := some uptoSmall }

/-- 'stratagemlaw54.StnPlays', WHERE WHAT IT READS IS OF BULK AT MOST 1048576: true; the input reads as it did. -/
def stnPlaysUptoRow : OpenClaim := { program := "ytcapbkcdeeinoaa", sum := "9d141b985095eab71cffefdbe61ff9ba52fdd048e11d5a0a336ea6e07d5f0b5e", func := "stratagem/stratagemlaw54.StnPlays", spec := "stnPlays", apart := false, narrowed := true }
def StnPlaysUptoSaid : Prop := stnPlaysUptoRow.holds Try.pinned (OpenSpec.upto stnPlaysSpec)

/-- 'stratagemlaw54.StnOrder', WHERE WHAT IT READS IS OF BULK AT MOST 1048576: true; the input reads as it did. -/
def stnOrderUptoRow : OpenClaim := { program := "ytcapbkcdeeinoaa", sum := "9d141b985095eab71cffefdbe61ff9ba52fdd048e11d5a0a336ea6e07d5f0b5e", func := "stratagem/stratagemlaw54.StnOrder", spec := "stnOrder", apart := false, narrowed := true }
def StnOrderUptoSaid : Prop := stnOrderUptoRow.holds Try.pinned (OpenSpec.upto stnOrderSpec)

/-- 'stratagemlaw54.StnSolutions', WHERE WHAT IT READS IS OF BULK AT MOST 1048576: true; the input reads as it did. -/
def stnSolutionsUptoRow : OpenClaim := { program := "ytcapbkcdeeinoaa", sum := "9d141b985095eab71cffefdbe61ff9ba52fdd048e11d5a0a336ea6e07d5f0b5e", func := "stratagem/stratagemlaw54.StnSolutions", spec := "stnSolutions", apart := false, narrowed := true }
def StnSolutionsUptoSaid : Prop := stnSolutionsUptoRow.holds Try.pinned (OpenSpec.upto stnSolutionsSpec)

/-- 'stratagemlaw54.StnCopies', WHERE WHAT IT READS IS OF BULK AT MOST 1048576: true; the input reads as it did. -/
def stnCopiesUptoRow : OpenClaim := { program := "ytcapbkcdeeinoaa", sum := "9d141b985095eab71cffefdbe61ff9ba52fdd048e11d5a0a336ea6e07d5f0b5e", func := "stratagem/stratagemlaw54.StnCopies", spec := "stnCopies", apart := false, narrowed := true }
def StnCopiesUptoSaid : Prop := stnCopiesUptoRow.holds Try.pinned (OpenSpec.upto stnCopiesSpec)

/-- 'stratagemlaw54.StnTight', WHERE WHAT IT READS IS OF BULK AT MOST 1048576: true; the input reads as it did. -/
def stnTightUptoRow : OpenClaim := { program := "ytcapbkcdeeinoaa", sum := "9d141b985095eab71cffefdbe61ff9ba52fdd048e11d5a0a336ea6e07d5f0b5e", func := "stratagem/stratagemlaw54.StnTight", spec := "stnTight", apart := false, narrowed := true }
def StnTightUptoSaid : Prop := stnTightUptoRow.holds Try.pinned (OpenSpec.upto stnTightSpec)

/-- 'stratagemlaw54.StnNil', WHERE WHAT IT READS IS OF BULK AT MOST 1048576: true; the input reads as it did. -/
def stnNilUptoRow : OpenClaim := { program := "ytcapbkcdeeinoaa", sum := "9d141b985095eab71cffefdbe61ff9ba52fdd048e11d5a0a336ea6e07d5f0b5e", func := "stratagem/stratagemlaw54.StnNil", spec := "stnNil", apart := false, narrowed := true }
def StnNilUptoSaid : Prop := stnNilUptoRow.holds Try.pinned (OpenSpec.upto stnNilSpec)

end Rows
end Go.Proofs.Ytcapbkcdeeinoaa
