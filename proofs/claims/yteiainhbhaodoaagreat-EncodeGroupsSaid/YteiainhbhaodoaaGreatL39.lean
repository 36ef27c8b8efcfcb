/- -/
import Derived.Test.YteiainhbhaodoaaGreatL10
set_option linter.unusedSimpArgs false
set_option linter.unusedVariables false
namespace Go.Pw
def QhZ (Z : List Nat) (n0 : Nat) (ops : List Oper) (i : Nat) : Bool := isQ n0 ops i && !Z.contains i
def Qk2 (Z : List Nat) (n0 : Nat) (ops : List Oper) (i : Nat) (o : Oper) (u : Nat) : Bool := ((List.range n0).all fun k => !Qao ops k u || (!QhZ Z n0 ops k && (match ops[k]? with | some ok => (Yi ok).contains i | none => false))) || (Yi o).any fun k => Nat.blt k n0 && Qao ops k u
def QeP (Z : List Nat) (n0 : Nat) (ops : List Oper) (i : Nat) (o : Oper) : Bool :=
 (o.op.operands.toList.all fun x => match x with | .tmp u => Qk2 Z n0 ops i o u | _ => true) && (match o.guard with | some (j, _) => (Yi o).contains j && Nat.blt j n0 | none => true) && QiF o
def QiZ (Z : List Nat) (n0 : Nat) (ops : List Oper) (T : List (List Nat)) (nx : List Nat) (qd ed : List Nat) : Bool :=
 (List.range n0).all fun i => qd.contains i || ed.contains i || nx.contains i || (QcK T i).any fun j => !QhZ Z n0 ops j && !qd.contains j && !ed.contains j
def Qdt (Z : List Nat) (n0 : Nat) (ops : List Oper) (T : List (List Nat)) : DPlan → Option (List Nat) → List Nat → List Nat → Bool
 | .done, nx, qd, ed => nx.isNone && (List.range n0).all fun i => qd.contains i || ed.contains i
 | .q i r, nx, qd, ed => nx.isNone && Nat.blt i n0 && (match ops[i]? with
  | some o => QhZ Z n0 ops i && Qbm o && !qd.contains i && ((Yi o).all fun j => qd.contains j || ed.contains j) && QeP Z n0 ops i o
  | none => false) && Qdt Z n0 ops T r none (i :: qd) ed
 | .e i ag r, nx, qd, ed => Nat.blt i n0 && (match ops[i]? with
  | some o => !QhZ Z n0 ops i && !ed.contains i && ((Yi o).all fun j => qd.contains j || ed.contains j) && QeP Z n0 ops i o
  | none => false) && QiZ Z n0 ops T (nx.getD [i]) qd ed && (qd.all fun j => ag.contains j || (QcK T i).contains j || ed.any fun k => (QcK T k).contains j) && Qdt Z n0 ops T r none qd (i :: ed)
 | .alt p q, nx, qd, ed => Qdt Z n0 ops T p (some (nx.getD (Kq p ++ Kq q))) qd ed && Qdt Z n0 ops T q (some (nx.getD (Kq p ++ Kq q))) qd ed
structure CanonZ (Z : List Nat) (P : Program) (n0 : Nat) (ops : List Oper) (T : List (List Nat)) (K : Fr → World → Prop) (p : DPlan) (gk : Fr) (w : World) (qd ed : List Nat) (dn : Nat → Bool) : Prop where
 ok : Qdt Z n0 ops T p none qd ed = true
 dl : DL P ops K p gk w
 nq : ∀ i ∈ qd, i < n0 ∧ QhZ Z n0 ops i = true ∧ ∃ o, ops[i]? = some o ∧ Qbm o = true ∧ QeP Z n0 ops i o = true ∧ ∀ j ∈ Yi o, j ∈ qd ∨ j ∈ ed
 ne : ∀ i ∈ ed, i < n0 ∧ QhZ Z n0 ops i = false
 ag : ∀ i ∈ qd, dn i = false → Jh P ops gk w i
section
variable {P : Program} {n0 : Nat} {ops : List Oper} {T : List (List Nat)} {K : Fr → World → Prop} {gk : Fr} {w : World} {qd ed : List Nat}
end
section
variable {P : Program} {N : Nat} {Q : Qaz} {f : Fr} {w : World}
end
end Go.Pw
