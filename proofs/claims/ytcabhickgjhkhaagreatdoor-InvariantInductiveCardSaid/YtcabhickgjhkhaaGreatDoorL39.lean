/-
  My walk's base, part 39: a drawn region walked in one order, where some quiet operations are steps of their own.
-/
import Derived.Test.YtcabhickgjhkhaaGreatDoorL10
set_option linter.unusedSimpArgs false
set_option linter.unusedVariables false
namespace Go.Pw
def isQZ (Z : List Nat) (n0 : Nat) (ops : List Oper) (i : Nat) : Bool := isQ n0 ops i && !Z.contains i
def tmpOKZ (Z : List Nat) (n0 : Nat) (ops : List Oper) (i : Nat) (o : Oper) (u : Nat) : Bool := ((List.range n0).all fun k => !dstIs ops k u || (!isQZ Z n0 ops k && (match ops[k]? with | some ok => (deps ok).contains i | none => false))) || (deps o).any fun k => Nat.blt k n0 && dstIs ops k u
def opndsOKZ (Z : List Nat) (n0 : Nat) (ops : List Oper) (i : Nat) (o : Oper) : Bool :=
  (o.op.operands.toList.all fun x => match x with | .tmp u => tmpOKZ Z n0 ops i o u | _ => true) && (match o.guard with | some (j, _) => (deps o).contains j && Nat.blt j n0 | none => true) && noSel o
def stageOKZ (Z : List Nat) (n0 : Nat) (ops : List Oper) (T : List (List Nat)) (nx : List Nat) (qd ed : List Nat) : Bool :=
  (List.range n0).all fun i => qd.contains i || ed.contains i || nx.contains i || (ancOf T i).any fun j => !isQZ Z n0 ops j && !qd.contains j && !ed.contains j
def planOKZ (Z : List Nat) (n0 : Nat) (ops : List Oper) (T : List (List Nat)) : DPlan → Option (List Nat) → List Nat → List Nat → Bool
  | .done, nx, qd, ed => nx.isNone && (List.range n0).all fun i => qd.contains i || ed.contains i
  | .q i r, nx, qd, ed => nx.isNone && Nat.blt i n0 && (match ops[i]? with
    | some o => isQZ Z n0 ops i && quietOp o && !qd.contains i && ((deps o).all fun j => qd.contains j || ed.contains j) && opndsOKZ Z n0 ops i o
    | none => false) && planOKZ Z n0 ops T r none (i :: qd) ed
  | .e i ag r, nx, qd, ed => Nat.blt i n0 && (match ops[i]? with
    | some o => !isQZ Z n0 ops i && !ed.contains i && ((deps o).all fun j => qd.contains j || ed.contains j) && opndsOKZ Z n0 ops i o
    | none => false) && stageOKZ Z n0 ops T (nx.getD [i]) qd ed && (qd.all fun j => ag.contains j || (ancOf T i).contains j || ed.any fun k => (ancOf T k).contains j) && planOKZ Z n0 ops T r none qd (i :: ed)
  | .alt p q, nx, qd, ed => planOKZ Z n0 ops T p (some (nx.getD (firsts p ++ firsts q))) qd ed && planOKZ Z n0 ops T q (some (nx.getD (firsts p ++ firsts q))) qd ed
structure CanonZ (Z : List Nat) (P : Program) (n0 : Nat) (ops : List Oper) (T : List (List Nat)) (K : Fr → World → Prop) (p : DPlan) (gk : Fr) (w : World) (qd ed : List Nat) (dn : Nat → Bool) : Prop where
  ok : planOKZ Z n0 ops T p none qd ed = true
  dl : DL P ops K p gk w
  nq : ∀ i ∈ qd, i < n0 ∧ isQZ Z n0 ops i = true ∧ ∃ o, ops[i]? = some o ∧ quietOp o = true ∧ opndsOKZ Z n0 ops i o = true ∧ ∀ j ∈ deps o, j ∈ qd ∨ j ∈ ed
  ne : ∀ i ∈ ed, i < n0 ∧ isQZ Z n0 ops i = false
  ag : ∀ i ∈ qd, dn i = false → AgainAt P ops gk w i
section
variable {P : Program} {n0 : Nat} {ops : List Oper} {T : List (List Nat)} {K : Fr → World → Prop} {gk : Fr} {w : World} {qd ed : List Nat}
end
section
variable {P : Program} {N : Nat} {Q : Post} {f : Fr} {w : World}
end
end Go.Pw
