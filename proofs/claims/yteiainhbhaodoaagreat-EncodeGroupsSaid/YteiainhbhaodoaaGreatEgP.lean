/- -/
import Derived.Test.YteiainhbhaodoaaGreatL6
import Derived.Test.YteiainhbhaodoaaGreatL21
import Derived.Test.YteiainhbhaodoaaGreatL11
import Derived.Test.YteiainhbhaodoaaGreatL14
import Derived.Test.YteiainhbhaodoaaGreatL16
import Derived.Test.YteiainhbhaodoaaGreatL18
import Derived.Test.YteiainhbhaodoaaGreatL30
import Derived.Test.YteiainhbhaodoaaGreatL31
import Derived.Test.YteiainhbhaodoaaGreatL34
import Derived.Test.YteiainhbhaodoaaGreatLC
set_option maxRecDepth 100000
set_option maxHeartbeats 4000000
set_option linter.unusedVariables false
namespace Go.Pw
structure Atom where
 Name : ByteArray
 Args : (List ByteArray)
def encAtom : Enc Atom := Enc.iso (encStr.pair (Qp encStr)) (fun b => (b.Name, b.Args))
structure GFluent where
 Fluent : Atom
 Lo : Int
 Hi : Int
 Init : Int
def encGFluent : Enc GFluent := Enc.iso (encAtom.pair ((Qc .i64).pair ((Qc .i64).pair (Qc .i64)))) (fun b => (b.Fluent, b.Lo, b.Hi, b.Init))
theorem Qad {s : PHeap} {v : Value} {b : GFluent} : encGFluent.val s v b ↔ ∃ u1, v = .agg #[.string (b.Fluent.Name), u1, .int .i64 (b.Lo), .int .i64 (b.Hi), .int .i64 (b.Init)] ∧ SliceRep encStr s u1 (b.Fluent.Args) := by
 simp only [Enc.iso, Enc.pair, Enc.val, encAtom, encGFluent, Qc, Qp, encStr, if_true, KO]
 constructor
 ·rintro ⟨cs, rfl, h⟩
  obtain ⟨cs⟩ := cs
  simp only [] at h
  obtain ⟨_, _, rfl, ⟨_, _, rfl, rfl, ⟨w1, rfl, h1⟩⟩, ⟨_, _, rfl, rfl, ⟨_, _, rfl, rfl, rfl⟩⟩⟩ := h
  exact ⟨w1, Z, h1⟩
 ·rintro ⟨w1, rfl, h1⟩
  exact ⟨_, Z, ⟨[.string (b.Fluent.Name), w1], [.int .i64 (b.Lo), .int .i64 (b.Hi), .int .i64 (b.Init)], Z, ⟨[.string (b.Fluent.Name)], [w1], Z, Z, ⟨w1, Z, h1⟩⟩, ⟨[.int .i64 (b.Lo)], [.int .i64 (b.Hi), .int .i64 (b.Init)], Z, Z, ⟨[.int .i64 (b.Hi)], [.int .i64 (b.Init)], Z, Z, Z⟩⟩⟩⟩
structure GExpr where
 Op : ByteArray
 N : Int
 Kids : (List GExpr)
def YL (E : Enc GExpr) : Enc GExpr := Enc.iso (encStr.pair ((Qc .i64).pair (Qp E))) (fun b => (b.Op, b.N, b.Kids))
theorem QcP (G : Nat → Enc GExpr) (L : Enc GExpr) (h : Enc.Sup G L) : Enc.Sup (fun n => YL (G n)) (YL L) := Enc.Sup.iso _ (Qem _ (Qem _ (Enc.Sup.slice h)))
def encGExpr : Enc GExpr := QeC YL 3 (by decide) (fun _ _ => rfl)
theorem YZ (s : PHeap) (cs : List Value) (a : GExpr) : encGExpr.rep s cs a ↔ (YL encGExpr).rep s cs a := QgY (fun _ _ => Qf7 QcP) QcP s cs a
theorem Kc {s : PHeap} {v : Value} {b : GExpr} : encGExpr.val s v b ↔ ∃ u1, v = .agg #[.string (b.Op), .int .i64 (b.N), u1] ∧ SliceRep encGExpr s u1 (b.Kids) := by
 refine (QgW (E := encGExpr) (E' := YL encGExpr) Z YZ s v b).trans ?_
 simp only [Enc.iso, Enc.pair, Enc.val, YL, YZ, Qc, Qp, encStr, if_true, KO]
 constructor
 ·rintro ⟨cs, rfl, h⟩
  obtain ⟨cs⟩ := cs
  simp only [] at h
  obtain ⟨_, _, rfl, rfl, ⟨_, _, rfl, rfl, ⟨w1, rfl, h1⟩⟩⟩ := h
  exact ⟨w1, Z, h1⟩
 ·rintro ⟨w1, rfl, h1⟩
  exact ⟨_, Z, ⟨[.string (b.Op)], [.int .i64 (b.N), w1], Z, Z, ⟨[.int .i64 (b.N)], [w1], Z, Z, ⟨w1, Z, h1⟩⟩⟩⟩
structure GTest where
 Op : ByteArray
 A : GExpr
 B : GExpr
def encGTest : Enc GTest := Enc.iso (encStr.pair (encGExpr.pair encGExpr)) (fun b => (b.Op, b.A, b.B))
theorem YY {s : PHeap} {v : Value} {b : GTest} : encGTest.val s v b ↔ ∃ u1, ∃ u2, v = .agg #[.string (b.Op), .string (b.A.Op), .int .i64 (b.A.N), u1, .string (b.B.Op), .int .i64 (b.B.N), u2] ∧ SliceRep encGExpr s u1 (b.A.Kids) ∧ SliceRep encGExpr s u2 (b.B.Kids) := by
 simp only [Enc.iso, Enc.pair, Enc.val, YL, YZ, encGTest, Qc, Qp, encStr, if_true, KO]
 constructor
 ·rintro ⟨cs, rfl, h⟩
  obtain ⟨cs⟩ := cs
  simp only [] at h
  obtain ⟨_, _, rfl, rfl, ⟨_, _, rfl, ⟨_, _, rfl, rfl, ⟨_, _, rfl, rfl, ⟨w1, rfl, h1⟩⟩⟩, ⟨_, _, rfl, rfl, ⟨_, _, rfl, rfl, ⟨w2, rfl, h2⟩⟩⟩⟩⟩ := h
  exact ⟨w1, w2, Z, h1, h2⟩
 ·rintro ⟨w1, w2, rfl, h1, h2⟩
  exact ⟨_, Z, ⟨[.string (b.Op)], [.string (b.A.Op), .int .i64 (b.A.N), w1, .string (b.B.Op), .int .i64 (b.B.N), w2], Z, Z, ⟨[.string (b.A.Op), .int .i64 (b.A.N), w1], [.string (b.B.Op), .int .i64 (b.B.N), w2], Z, ⟨[.string (b.A.Op)], [.int .i64 (b.A.N), w1], Z, Z, ⟨[.int .i64 (b.A.N)], [w1], Z, Z, ⟨w1, Z, h1⟩⟩⟩, ⟨[.string (b.B.Op)], [.int .i64 (b.B.N), w2], Z, Z, ⟨[.int .i64 (b.B.N)], [w2], Z, Z, ⟨w2, Z, h2⟩⟩⟩⟩⟩⟩
structure Cond where
 Pos : (List Int)
 Neg : (List Int)
 Tests : (List GTest)
def encCond : Enc Cond := Enc.iso ((Qp (Qc .i64)).pair ((Qp (Qc .i64)).pair (Qp encGTest))) (fun b => (b.Pos, b.Neg, b.Tests))
theorem KJ {s : PHeap} {v : Value} {b : Cond} : encCond.val s v b ↔ ∃ u1, ∃ u2, ∃ u3, v = .agg #[u1, u2, u3] ∧ SliceRep (Qc .i64) s u1 (b.Pos) ∧ SliceRep (Qc .i64) s u2 (b.Neg) ∧ SliceRep encGTest s u3 (b.Tests) := by
 simp only [Enc.iso, Enc.pair, Enc.val, encCond, Qp, if_true]
 constructor
 ·rintro ⟨cs, rfl, h⟩
  obtain ⟨cs⟩ := cs
  simp only [] at h
  obtain ⟨_, _, rfl, ⟨w1, rfl, h1⟩, ⟨_, _, rfl, ⟨w2, rfl, h2⟩, ⟨w3, rfl, h3⟩⟩⟩ := h
  exact ⟨w1, w2, w3, Z, h1, h2, h3⟩
 ·rintro ⟨w1, w2, w3, rfl, h1, h2, h3⟩
  exact ⟨_, Z, ⟨[w1], [w2, w3], Z, ⟨w1, Z, h1⟩, ⟨[w2], [w3], Z, ⟨w2, Z, h2⟩, ⟨w3, Z, h3⟩⟩⟩⟩
structure GChange where
 When : Cond
 Atom : Int
 Add : Bool
def encGChange : Enc GChange := Enc.iso (encCond.pair ((Qc .i64).pair encBool)) (fun b => (b.When, b.Atom, b.Add))
theorem Ji {s : PHeap} {v : Value} {b : GChange} : encGChange.val s v b ↔ ∃ u1, ∃ u2, ∃ u3, v = .agg #[u1, u2, u3, .int .i64 (b.Atom), .bool (b.Add)] ∧ SliceRep (Qc .i64) s u1 (b.When.Pos) ∧ SliceRep (Qc .i64) s u2 (b.When.Neg) ∧ SliceRep encGTest s u3 (b.When.Tests) := by
 simp only [Enc.iso, Enc.pair, Enc.val, encBool, encCond, encGChange, Qc, Qp, if_true, KO]
 constructor
 ·rintro ⟨cs, rfl, h⟩
  obtain ⟨cs⟩ := cs
  simp only [] at h
  obtain ⟨_, _, rfl, ⟨_, _, rfl, ⟨w1, rfl, h1⟩, ⟨_, _, rfl, ⟨w2, rfl, h2⟩, ⟨w3, rfl, h3⟩⟩⟩, ⟨_, _, rfl, rfl, rfl⟩⟩ := h
  exact ⟨w1, w2, w3, Z, h1, h2, h3⟩
 ·rintro ⟨w1, w2, w3, rfl, h1, h2, h3⟩
  exact ⟨_, Z, ⟨[w1, w2, w3], [.int .i64 (b.Atom), .bool (b.Add)], Z, ⟨[w1], [w2, w3], Z, ⟨w1, Z, h1⟩, ⟨[w2], [w3], Z, ⟨w2, Z, h2⟩, ⟨w3, Z, h3⟩⟩⟩, ⟨[.int .i64 (b.Atom)], [.bool (b.Add)], Z, Z, Z⟩⟩⟩
structure GAssign where
 Fluent : Int
 Value : GExpr
def encGAssign : Enc GAssign := Enc.iso ((Qc .i64).pair encGExpr) (fun b => (b.Fluent, b.Value))
theorem Qae {s : PHeap} {v : Value} {b : GAssign} : encGAssign.val s v b ↔ ∃ u1, v = .agg #[.int .i64 (b.Fluent), .string (b.Value.Op), .int .i64 (b.Value.N), u1] ∧ SliceRep encGExpr s u1 (b.Value.Kids) := by
 simp only [Enc.iso, Enc.pair, Enc.val, encGAssign, YL, YZ, Qc, Qp, encStr, if_true, KO]
 constructor
 ·rintro ⟨cs, rfl, h⟩
  obtain ⟨cs⟩ := cs
  simp only [] at h
  obtain ⟨_, _, rfl, rfl, ⟨_, _, rfl, rfl, ⟨_, _, rfl, rfl, ⟨w1, rfl, h1⟩⟩⟩⟩ := h
  exact ⟨w1, Z, h1⟩
 ·rintro ⟨w1, rfl, h1⟩
  exact ⟨_, Z, ⟨[.int .i64 (b.Fluent)], [.string (b.Value.Op), .int .i64 (b.Value.N), w1], Z, Z, ⟨[.string (b.Value.Op)], [.int .i64 (b.Value.N), w1], Z, Z, ⟨[.int .i64 (b.Value.N)], [w1], Z, Z, ⟨w1, Z, h1⟩⟩⟩⟩⟩
structure GOp where
 Name : ByteArray
 Cost : Int
 Pre : Cond
 Changes : (List GChange)
 Assigns : (List GAssign)
def encGOp : Enc GOp := Enc.iso (encStr.pair ((Qc .i64).pair (encCond.pair ((Qp encGChange).pair (Qp encGAssign))))) (fun b => (b.Name, b.Cost, b.Pre, b.Changes, b.Assigns))
theorem Ys {s : PHeap} {v : Value} {b : GOp} : encGOp.val s v b ↔ ∃ u1, ∃ u2, ∃ u3, ∃ u4, ∃ u5, v = .agg #[.string (b.Name), .int .i64 (b.Cost), u1, u2, u3, u4, u5] ∧ SliceRep (Qc .i64) s u1 (b.Pre.Pos) ∧ SliceRep (Qc .i64) s u2 (b.Pre.Neg) ∧ SliceRep encGTest s u3 (b.Pre.Tests) ∧ SliceRep encGChange s u4 (b.Changes) ∧ SliceRep encGAssign s u5 (b.Assigns) := by
 simp only [Enc.iso, Enc.pair, Enc.val, encCond, encGOp, Qc, Qp, encStr, if_true, KO]
 constructor
 ·rintro ⟨cs, rfl, h⟩
  obtain ⟨cs⟩ := cs
  simp only [] at h
  obtain ⟨_, _, rfl, rfl, ⟨_, _, rfl, rfl, ⟨_, _, rfl, ⟨_, _, rfl, ⟨w1, rfl, h1⟩, ⟨_, _, rfl, ⟨w2, rfl, h2⟩, ⟨w3, rfl, h3⟩⟩⟩, ⟨_, _, rfl, ⟨w4, rfl, h4⟩, ⟨w5, rfl, h5⟩⟩⟩⟩⟩ := h
  exact ⟨w1, w2, w3, w4, w5, Z, h1, h2, h3, h4, h5⟩
 ·rintro ⟨w1, w2, w3, w4, w5, rfl, h1, h2, h3, h4, h5⟩
  exact ⟨_, Z, ⟨[.string (b.Name)], [.int .i64 (b.Cost), w1, w2, w3, w4, w5], Z, Z, ⟨[.int .i64 (b.Cost)], [w1, w2, w3, w4, w5], Z, Z, ⟨[w1, w2, w3], [w4, w5], Z, ⟨[w1], [w2, w3], Z, ⟨w1, Z, h1⟩, ⟨[w2], [w3], Z, ⟨w2, Z, h2⟩, ⟨w3, Z, h3⟩⟩⟩, ⟨[w4], [w5], Z, ⟨w4, Z, h4⟩, ⟨w5, Z, h5⟩⟩⟩⟩⟩⟩
structure Ground where
 Atoms : (List Atom)
 Fluents : (List GFluent)
 Init : (List Int)
 Goal : (List Cond)
 Ops : (List GOp)
def encGround : Enc Ground := Enc.iso ((Qp encAtom).pair ((Qp encGFluent).pair ((Qp (Qc .i64)).pair ((Qp encCond).pair (Qp encGOp))))) (fun b => (b.Atoms, b.Fluents, b.Init, b.Goal, b.Ops))
theorem Yh {s : PHeap} {v : Value} {b : Ground} : encGround.val s v b ↔ ∃ u1, ∃ u2, ∃ u3, ∃ u4, ∃ u5, v = .agg #[u1, u2, u3, u4, u5] ∧ SliceRep encAtom s u1 (b.Atoms) ∧ SliceRep encGFluent s u2 (b.Fluents) ∧ SliceRep (Qc .i64) s u3 (b.Init) ∧ SliceRep encCond s u4 (b.Goal) ∧ SliceRep encGOp s u5 (b.Ops) := by
 simp only [Enc.iso, Enc.pair, Enc.val, encGround, Qp, if_true]
 constructor
 ·rintro ⟨cs, rfl, h⟩
  obtain ⟨cs⟩ := cs
  simp only [] at h
  obtain ⟨_, _, rfl, ⟨w1, rfl, h1⟩, ⟨_, _, rfl, ⟨w2, rfl, h2⟩, ⟨_, _, rfl, ⟨w3, rfl, h3⟩, ⟨_, _, rfl, ⟨w4, rfl, h4⟩, ⟨w5, rfl, h5⟩⟩⟩⟩⟩ := h
  exact ⟨w1, w2, w3, w4, w5, Z, h1, h2, h3, h4, h5⟩
 ·rintro ⟨w1, w2, w3, w4, w5, rfl, h1, h2, h3, h4, h5⟩
  exact ⟨_, Z, ⟨[w1], [w2, w3, w4, w5], Z, ⟨w1, Z, h1⟩, ⟨[w2], [w3, w4, w5], Z, ⟨w2, Z, h2⟩, ⟨[w3], [w4, w5], Z, ⟨w3, Z, h3⟩, ⟨[w4], [w5], Z, ⟨w4, Z, h4⟩, ⟨w5, Z, h5⟩⟩⟩⟩⟩⟩
noncomputable def JI : Nat → GExpr → Option (Int)
 | 0, _ => none
 | fu + 1, c =>
 ctl (JA (R := (Int)) (QO fun (b : Int) (a : Int) => if ((decide (a < (c.Kids.length : Int))) && decide (b < 2000)) then ((Q9 c.Kids a).bind fun e =>
 (JI fu e).bind <| fun (f : Int) =>
 some (Ctl.next (IntKind.i64.wrap (b + f), IntKind.i64.wrap (a + 1))))
 else (some (Ctl.brk (b, a)))) (1, 0)) (fun r => some r) (QO fun (d : Int) (g : Int) => some d)
noncomputable def K4 (fu : Nat) (c76 : Cond) : Option (Int) :=
 ctl (JA (R := (Int)) (QO fun (b : Int) (a : Int) => if decide (a < (c76.Tests.length : Int)) then ((Q9 c76.Tests a).bind fun c =>
 (JI fu c.A).bind <| fun (e : Int) =>
 (JI fu c.B).bind <| fun (f : Int) =>
 some (Ctl.next (IntKind.i64.wrap (b + (IntKind.i64.wrap (e + f))), IntKind.i64.wrap (a + 1))))
 else (some (Ctl.brk (b, a)))) (IntKind.i64.wrap ((c76.Pos.length : Int) + (c76.Neg.length : Int)), 0)) (fun r => some r) (QO fun (d : Int) (g : Int) => some d)
noncomputable def YD (fu : Nat) (g42 : Ground) : Option (Bool) :=
 ctl (JA (R := (Bool)) (QO fun (f : Int) (b : Int) => if decide (b < (g42.Goal.length : Int)) then ((Q9 g42.Goal b).bind fun n =>
 (K4 fu n).bind <| fun (q : Int) =>
 some (Ctl.next (IntKind.i64.wrap (f + (IntKind.i64.wrap (1 + q))), IntKind.i64.wrap (b + 1))))
 else (some (Ctl.brk (f, b)))) (IntKind.i64.wrap ((IntKind.i64.wrap ((g42.Atoms.length : Int) + (g42.Fluents.length : Int))) + (g42.Init.length : Int)), 0)) (fun r => some r) (QO fun (j : Int) (v : Int) => ctl (JA (R := (Bool)) (QO fun (g : Int) (c : Int) => if decide (c < (g42.Ops.length : Int)) then ((Q9 g42.Ops c).bind fun a =>
 (K4 fu a.Pre).bind <| fun (s : Int) =>
 ctl (JA (R := (Bool)) (QO fun (h : Int) (d : Int) => if decide (d < (a.Changes.length : Int)) then ((Q9 a.Changes d).bind fun o =>
 (K4 fu o.When).bind <| fun (t : Int) =>
 some (Ctl.next (IntKind.i64.wrap (h + (IntKind.i64.wrap (1 + t))), IntKind.i64.wrap (d + 1))))
 else (some (Ctl.brk (h, d)))) (IntKind.i64.wrap (g + (IntKind.i64.wrap ((IntKind.i64.wrap (1 + s)) + (IntKind.i64.wrap ((a.Name.size : Int).tdiv 100))))), 0)) (fun r => some (Ctl.ret r)) (QO fun (k : Int) (x : Int) => ctl (JA (R := (Bool)) (QO fun (i : Int) (e : Int) => if decide (e < (a.Assigns.length : Int)) then ((Q9 a.Assigns e).bind fun p =>
 (JI fu p.Value).bind <| fun (u : Int) =>
 some (Ctl.next (IntKind.i64.wrap (i + u), IntKind.i64.wrap (e + 1))))
 else (some (Ctl.brk (i, e)))) (k, 0)) (fun r => some (Ctl.ret r)) (QO fun (l : Int) (y : Int) => some (Ctl.next (l, IntKind.i64.wrap (c + 1))))))
 else (some (Ctl.brk (g, c)))) (j, 0)) (fun r => some r) (QO fun (m : Int) (w : Int) => some (decide (3000 < m))))
noncomputable def YB (d : Ground) : Option (Bool) :=
 (forS (fun i => fun (c : Int) => (Q9 d.Fluents (i : Int)).bind fun a =>
 (if ((decide ((-1099511627776) ≤ a.Lo)) && ((decide (a.Lo ≤ a.Hi)) && decide (a.Hi ≤ 1099511627776))) then (some (min (IntKind.i64.wrap ((IntKind.i64.wrap (a.Hi - a.Lo)) + 1)) 256))
 else (some 256)).bind (fun (l : Int) => some (min (IntKind.i64.wrap (c * l)) 256))) (d.Fluents.length) 0 1).bind (fun (c : Int) => (forS (fun j => fun (f : Int) => (Q9 d.Ops (j : Int)).bind fun e =>
 (forS (fun k => fun (b : Int) => (Q9 e.Changes (k : Int)).bind fun m =>
 (if decide (0 < (m.When.Tests.length : Int)) then (some (IntKind.i64.wrap ((IntKind.i64.wrap (b + 1)) + c)))
 else (some (IntKind.i64.wrap (b + 1)))).bind (fun (g : Int) => some g)) (e.Changes.length) 0 1).bind (fun (b : Int) => (if decide (0 < (IntKind.i64.wrap ((e.Pre.Tests.length : Int) + (e.Assigns.length : Int)))) then (some (IntKind.i64.wrap (b * c)))
 else (some b)).bind (fun (h : Int) => some (IntKind.i64.wrap (f + h))))) (d.Ops.length) 0 0).bind (fun (f : Int) => some (decide (200000 < f))))
noncomputable def YC (fu : Nat) (g23 : Ground) : Option (Bool) :=
 ((YD fu g23).bind <| fun (a : Bool) =>
 if a then (some true)
 else (if decide (30 < (g23.Ops.length : Int)) then (some true)
 else (if decide (60 < (g23.Atoms.length : Int)) then (some true)
 else (if decide (8 < (g23.Fluents.length : Int)) then (some true)
 else ((YB g23).bind <| fun (b : Bool) =>
 some b))))).bind (fun (c : Bool) => some c)
noncomputable def Qaa  : Option (Ground) :=
 some (⟨[(⟨⟨#[97, 116]⟩, ([⟨#[97]⟩] : List ByteArray)⟩ : Atom), (⟨⟨#[97, 116]⟩, ([⟨#[98]⟩] : List ByteArray)⟩ : Atom), (⟨⟨#[112]⟩, []⟩ : Atom)], [], [0], [(⟨[1], [], []⟩ : Cond)], [(⟨⟨#[40, 109, 111, 118, 101, 41]⟩, 3, (⟨[0], [2], []⟩ : Cond), [(⟨(⟨[], [], []⟩ : Cond), 0, false⟩ : GChange), (⟨(⟨[], [], []⟩ : Cond), 1, true⟩ : GChange)], []⟩ : GOp)]⟩ : Ground)
def KA  : Ground :=
 (⟨[(⟨⟨#[97, 116]⟩, ([⟨#[97]⟩] : List ByteArray)⟩ : Atom), (⟨⟨#[97, 116]⟩, ([⟨#[98]⟩] : List ByteArray)⟩ : Atom), (⟨⟨#[112]⟩, []⟩ : Atom)], [], [0], [(⟨[1], [], []⟩ : Cond)], [(⟨⟨#[40, 109, 111, 118, 101, 41]⟩, 3, (⟨[0], [2], []⟩ : Cond), [(⟨(⟨[], [], []⟩ : Cond), 0, false⟩ : GChange), (⟨(⟨[], [], []⟩ : Cond), 1, true⟩ : GChange)], []⟩ : GOp)]⟩ : Ground)
theorem Qas  : Qaa  = some (KA ) := by
 unfold Qaa KA
 (repeat' split) <;> rfl
attribute [irreducible] KA
noncomputable def Yc (a : GFluent) : Option (Bool) :=
 some ((decide ((-1099511627776) ≤ a.Lo)) && ((decide (a.Lo ≤ a.Init)) && ((decide (a.Init ≤ a.Hi)) && ((decide (a.Hi ≤ 1099511627776)) && decide ((IntKind.i64.wrap (a.Hi - a.Lo)) < 64)))))
def Ks (a : GFluent) : Bool :=
 ((decide ((-1099511627776) ≤ a.Lo)) && ((decide (a.Lo ≤ a.Init)) && ((decide (a.Init ≤ a.Hi)) && ((decide (a.Hi ≤ 1099511627776)) && decide ((IntKind.i64.wrap (a.Hi - a.Lo)) < 64)))))
theorem Qbs (a : GFluent) : Yc a = some (Ks a) := by
 unfold Yc Ks
 (repeat' split) <;> rfl
attribute [irreducible] Ks
noncomputable def Kz (a : GFluent) : Option (Bool) :=
 some (!(Ks a))
def Ky (a : GFluent) : Bool :=
 (!(Ks a))
theorem QaG (a : GFluent) : Kz a = some (Ky a) := by
 unfold Kz Ky
 (repeat' split) <;> rfl
attribute [irreducible] Ky
noncomputable def Ja (b : (List GFluent)) : Option (Int) :=
 ctl (QW (R := (Int)) (fun a => fun (_ : Unit) => (Q9 b (a : Int)).bind fun c =>
 if (Ky c) then (some (Ctl.ret (a : Int)))
 else (some (Ctl.next ()))) (b.length) 0 ()) (fun r => some r) (fun (_ : Unit) => some (-1))
noncomputable def QF (a : (List GFluent)) : Option (Bool) :=
 (Ja a).bind <| fun (b : Int) =>
 some (decide (0 ≤ b))
noncomputable def J2 (b : (List Int)) (d : Int) : Option (Bool) :=
 ctl (QW (R := (Bool)) (fun a => fun (_ : Unit) => (Q9 b (a : Int)).bind fun c =>
 (if decide (c < 0) then (some true)
 else (if decide (d ≤ c) then (some true)
 else (if decide (0 < (a : Int)) then ((Q9 b (IntKind.i64.wrap ((a : Int) - 1))).bind fun e =>
 some (decide (c ≤ e)))
 else (some false)))).bind (fun (f : Bool) => if f then (some (Ctl.ret false))
 else (some (Ctl.next ())))) (b.length) 0 ()) (fun r => some r) (fun (_ : Unit) => some true)
noncomputable def Q8 : Nat → GExpr → Int → Option (Bool)
 | 0, _, _ => none
 | fu + 1, a, b =>
 if decide (a.Op = (⟨#[110, 117, 109, 98, 101, 114]⟩)) then (some ((decide ((a.Kids.length : Int) = 0)) && ((decide ((-1099511627776) ≤ a.N)) && decide (a.N ≤ 1099511627776))))
 else (if decide (a.Op = (⟨#[102, 108, 117, 101, 110, 116]⟩)) then (some ((decide ((a.Kids.length : Int) = 0)) && ((decide (0 ≤ a.N)) && decide (a.N < b))))
 else ((if decide (a.Op = (⟨#[43]⟩)) then (some (decide (a.Op = (⟨#[43]⟩))))
 else ((if decide (a.Op = (⟨#[45]⟩)) then (some (decide (a.Op = (⟨#[45]⟩))))
 else (some (decide (a.Op = (⟨#[42]⟩))))).bind (fun (g : Bool) => some g))).bind (fun (h : Bool) => if h then ((if decide (a.N = 0) then (if decide ((a.Kids.length : Int) = 2) then ((Q9 a.Kids 0).bind fun c =>
 (Q8 fu c b).bind <| fun (e : Bool) =>
 if e then ((Q9 a.Kids 1).bind fun d =>
 (Q8 fu d b).bind <| fun (f : Bool) =>
 some f)
 else (some false))
 else (some false))
 else (some false)).bind (fun (i : Bool) => some i))
 else (some false))))
noncomputable def Jn (fu : Nat) (b : Ground) (c : Cond) : Option (Bool) :=
 ctl (QW (R := (Bool)) (fun d => fun (_ : Unit) => (Q9 c.Tests (d : Int)).bind fun a =>
 (if !decide (a.Op = (⟨#[60]⟩)) then (if !decide (a.Op = (⟨#[60, 61]⟩)) then (if !decide (a.Op = (⟨#[61]⟩)) then (some true)
 else ((Q8 fu a.A (b.Fluents.length : Int)).bind <| fun (e : Bool) =>
 if !e then (some true)
 else ((Q8 fu a.B (b.Fluents.length : Int)).bind <| fun (f : Bool) =>
 some (!f))))
 else ((Q8 fu a.A (b.Fluents.length : Int)).bind <| fun (g : Bool) =>
 if !g then (some true)
 else ((Q8 fu a.B (b.Fluents.length : Int)).bind <| fun (h : Bool) =>
 some (!h))))
 else ((Q8 fu a.A (b.Fluents.length : Int)).bind <| fun (i : Bool) =>
 if !i then (some true)
 else ((Q8 fu a.B (b.Fluents.length : Int)).bind <| fun (j : Bool) =>
 some (!j)))).bind (fun (m : Bool) => if m then (some (Ctl.ret false))
 else (some (Ctl.next ())))) (c.Tests.length) 0 ()) (fun r => some r) (fun (_ : Unit) => ((J2 c.Pos (b.Atoms.length : Int)).bind <| fun (k : Bool) =>
 if k then ((J2 c.Neg (b.Atoms.length : Int)).bind <| fun (l : Bool) =>
 some l)
 else (some false)).bind (fun (n : Bool) => some n))
noncomputable def Kx (fu : Nat) (a : Cond) (b : Ground) : Option (Bool) :=
 (Jn fu b a).bind <| fun (c : Bool) =>
 some (!c)
noncomputable def Jl (fu : Nat) (b : (List Cond)) (c : Ground) : Option (Int) :=
 ctl (QW (R := (Int)) (fun a => fun (_ : Unit) => (Q9 b (a : Int)).bind fun d =>
 (Kx fu d c).bind <| fun (e : Bool) =>
 if e then (some (Ctl.ret (a : Int)))
 else (some (Ctl.next ()))) (b.length) 0 ()) (fun r => some r) (fun (_ : Unit) => some (-1))
noncomputable def QK (fu : Nat) (b : (List Cond)) (a : Ground) : Option (Bool) :=
 (Jl fu b a).bind <| fun (c : Int) =>
 some (decide (0 ≤ c))
noncomputable def Yt (a : ByteArray) : Option (Bool) :=
 (must (decide ((a.size : Int) ≤ 9223372036854775807))).bind fun e =>
 ctl (QW (R := (Bool)) (fun c => fun (_ : Unit) => ((Q9 (Kt a) (c : Int)).bind fun b =>
 if decide (b < 32) then (some true)
 else (some (decide (126 < b)))).bind (fun (d : Bool) => if d then (some (Ctl.ret false))
 else (some (Ctl.next ())))) ((a.size : Int).toNat) 0 ()) (fun r => some r) (fun (_ : Unit) => some (decide ((a.size : Int) ≤ 256)))
noncomputable def Kv (fu : Nat) (b : Ground) (a : GOp) : Option (Bool) :=
 (if decide (256 < (a.Changes.length : Int)) then (some true)
 else (if decide (a.Cost < 0) then (some true)
 else (if decide (1048576 < a.Cost) then (some true)
 else ((Yt a.Name).bind <| fun (j : Bool) =>
 if !j then (some true)
 else ((Jn fu b a.Pre).bind <| fun (k : Bool) =>
 some (!k)))))).bind (fun (n : Bool) => if n then (some false)
 else (ctl (QW (R := (Bool)) (fun f => fun (_ : Unit) => (Q9 a.Changes (f : Int)).bind fun d =>
 (if decide (d.Atom < 0) then (some true)
 else (if decide ((b.Atoms.length : Int) ≤ d.Atom) then (some true)
 else ((Jn fu b d.When).bind <| fun (l : Bool) =>
 some (!l)))).bind (fun (o : Bool) => if o then (some (Ctl.ret false))
 else (some (Ctl.next ())))) (a.Changes.length) 0 ()) (fun r => some r) (fun (_ : Unit) => ctl (QW (R := (Bool)) (fun g => fun (e : Q0) => (Q9 a.Assigns (g : Int)).bind fun c =>
 (if decide (c.Fluent < 0) then (some true)
 else (if decide ((b.Fluents.length : Int) ≤ c.Fluent) then (some true)
 else ((KP e c.Fluent).bind fun i =>
 if i then (some true)
 else ((Q8 fu c.Value (b.Fluents.length : Int)).bind <| fun (m : Bool) =>
 some (!m))))).bind (fun (p : Bool) => if p then (some (Ctl.ret false))
 else ((JN e c.Fluent true).bind fun h =>
 some (Ctl.next h)))) (a.Assigns.length) 0 ([] : Q0)) (fun r => some r) (fun (q : Q0) => some true))))
noncomputable def Kw (fu : Nat) (b : GOp) (a : Ground) : Option (Bool) :=
 (Kv fu a b).bind <| fun (c : Bool) =>
 some (!c)
noncomputable def Jp (fu : Nat) (b : (List GOp)) (c : Ground) : Option (Int) :=
 ctl (QW (R := (Int)) (fun a => fun (_ : Unit) => (Q9 b (a : Int)).bind fun d =>
 (Kw fu d c).bind <| fun (e : Bool) =>
 if e then (some (Ctl.ret (a : Int)))
 else (some (Ctl.next ()))) (b.length) 0 ()) (fun r => some r) (fun (_ : Unit) => some (-1))
noncomputable def QL (fu : Nat) (b : (List GOp)) (a : Ground) : Option (Bool) :=
 (Jp fu b a).bind <| fun (c : Int) =>
 some (decide (0 ≤ c))
noncomputable def J0 (fu : Nat) (a : Ground) : Option (Bool) :=
 if ((decide (4096 < (a.Atoms.length : Int))) || ((decide (4096 < (a.Fluents.length : Int))) || ((decide (4096 < (a.Ops.length : Int))) || decide (64 < (a.Goal.length : Int))))) then (some false)
 else (((QF a.Fluents).bind <| fun (b : Bool) =>
 if !b then ((J2 a.Init (a.Atoms.length : Int)).bind <| fun (c : Bool) =>
 if c then ((QK fu a.Goal a).bind <| fun (d : Bool) =>
 if !d then ((QL fu a.Ops a).bind <| fun (e : Bool) =>
 some (!e))
 else (some false))
 else (some false))
 else (some false)).bind (fun (f : Bool) => some f))
structure GState where
 True : (List Int)
 Values : (List Int)
def encGState : Enc GState := Enc.iso ((Qp (Qc .i64)).pair (Qp (Qc .i64))) (fun b => (b.True, b.Values))
theorem Qfy {s : PHeap} {v : Value} {b : GState} : encGState.val s v b ↔ ∃ u1, ∃ u2, v = .agg #[u1, u2] ∧ SliceRep (Qc .i64) s u1 (b.True) ∧ SliceRep (Qc .i64) s u2 (b.Values) := by
 simp only [Enc.iso, Enc.pair, Enc.val, encGState, Qp, if_true]
 constructor
 ·rintro ⟨cs, rfl, h⟩
  obtain ⟨cs⟩ := cs
  simp only [] at h
  obtain ⟨_, _, rfl, ⟨w1, rfl, h1⟩, ⟨w2, rfl, h2⟩⟩ := h
  exact ⟨w1, w2, Z, h1, h2⟩
 ·rintro ⟨w1, w2, rfl, h1, h2⟩
  exact ⟨_, Z, ⟨[w1], [w2], Z, ⟨w1, Z, h1⟩, ⟨w2, Z, h2⟩⟩⟩
noncomputable def KU (b : (List Int)) (c : Int) : Option (Int) :=
 ctl (QW (R := (Int)) (fun a => fun (_ : Unit) => (Q9 b (a : Int)).bind fun d =>
 if decide (c = d) then (some (Ctl.ret (a : Int)))
 else (some (Ctl.next ()))) (b.length) 0 ()) (fun r => some r) (fun (_ : Unit) => some (-1))
noncomputable def JP (a : (List Int)) (b : Int) : Option (Bool) :=
 (KU a b).bind <| fun (c : Int) =>
 some (decide (0 ≤ c))
noncomputable def Ku (g : GState) (b : (List Int)) : Option (Bool) :=
 (forS (fun d => fun (a : Q0) => (Q9 b (d : Int)).bind fun c =>
 (JP g.True c).bind <| fun (h : Bool) =>
 (if h then ((JN a c true).bind fun f =>
 some f)
 else (some a)).bind (fun (e : Q0) => some e)) (b.length) 0 ([] : Q0)).bind (fun (a : Q0) => some (decide ((a.length : Int) ≤ 1)))
noncomputable def Yd (a : Int) : Option (Bool) :=
 some (!decide (a = a))
def Jt (a : Int) : Bool :=
 (!decide (a = a))
theorem Yp (a : Int) : Yd a = some (Jt a) := by
 unfold Yd Jt
 (repeat' split) <;> rfl
attribute [irreducible] Jt
noncomputable def Yv (a : Int) (b : Int) : Option (Bool) :=
 some (bif (Jt a) then ((!(Jt b)) || decide (a < b)) else decide (a < b))
def Yu (a : Int) (b : Int) : Bool :=
 (bif (Jt a) then ((!(Jt b)) || decide (a < b)) else decide (a < b))
theorem QbK (a : Int) (b : Int) : Yv a b = some (Yu a b) := by
 unfold Yv Yu
 (repeat' split) <;> rfl
attribute [irreducible] Yu
noncomputable def Km (a : Int) : Option (Bool) :=
 some (!decide (a = a))
def JR (a : Int) : Bool :=
 (!decide (a = a))
theorem Yw (a : Int) : Km a = some (JR a) := by
 unfold Km JR
 (repeat' split) <;> rfl
attribute [irreducible] JR
noncomputable def Q4 (c : (List Int)) (e : Int) : Option (Int × Bool) :=
 ctl (JA (R := (Int × Bool)) (QO fun (a : Int) (b : Int) => if decide (a < b) then ((Q9 c (IntKind.i64.wrap ((IntKind.u64.wrap (IntKind.i64.wrap (a + b))).fdiv (2 ^ 1)))).bind fun i =>
 (if (Yu i e) then (some (IntKind.i64.wrap ((IntKind.i64.wrap ((IntKind.u64.wrap (IntKind.i64.wrap (a + b))).fdiv (2 ^ 1))) + 1), b))
 else (some (a, IntKind.i64.wrap ((IntKind.u64.wrap (IntKind.i64.wrap (a + b))).fdiv (2 ^ 1))))).bind (QO fun (g : Int) (h : Int) => some (Ctl.next (g, h))))
 else (some (Ctl.brk (a, b)))) (0, (c.length : Int))) (fun r => some r) (QO fun (d : Int) (k : Int) => (if decide (d < (c.length : Int)) then ((Q9 c d).bind fun f =>
 if decide (f = e) then (some true)
 else (if (JR f) then (some (JR e))
 else (some false)))
 else (some false)).bind (fun (j : Bool) => some (d, j)))
structure invariant_literals where
 pos : Q0
 neg : Q0
noncomputable def Jc (a : Cond) (d : invariant_literals) : Option (Q0 × Q0) :=
 (forS (fun e => fun (b : Q0) => (Q9 a.Pos (e : Int)).bind fun i =>
 (JN b i true).bind fun g =>
 some g) (a.Pos.length) 0 d.pos).bind (fun (b : Q0) => (forS (fun f => fun (c : Q0) => (Q9 a.Neg (f : Int)).bind fun j =>
 (JN c j true).bind fun h =>
 some h) (a.Neg.length) 0 d.neg).bind (fun (c : Q0) => some (b, c)))
noncomputable def QM (s : GOp) (f : (List GChange)) (c : Int) (g : (List Int)) : Option (Bool × invariant_literals) :=
 (Jc s.Pre (⟨([] : Q0), ([] : Q0)⟩ : invariant_literals)).bind <| QO fun (k : Q0) (l : Q0) =>
 (forS (fun i => QO fun (b : Q0) (d : Q0) => (Q9 f (i : Int)).bind fun v =>
 (Jc v.When (⟨b, d⟩ : invariant_literals)).bind <| QO fun (m : Q0) (n : Q0) =>
 some (m, n)) (f.length) 0 (k, l)).bind (QO fun (b : Q0) (d : Q0) => (if decide (0 ≤ c) then ((JN b c true).bind fun p =>
 some p)
 else (some b)).bind (fun (e : Q0) => (forS (fun j => fun (a : Q0) => (Q9 g (j : Int)).bind fun h =>
 (if !decide (h = c) then ((JN a h true).bind fun q =>
 some q)
 else (some a)).bind (fun (o : Q0) => some o)) (g.length) 0 d).bind (fun (a : Q0) => QcY (e.map Prod.fst) fun t => ctl (Qbl (R := (Bool × invariant_literals)) (fun w => fun (_ : Unit) => (KP a w).bind fun u =>
 if u then (some (Ctl.ret (false, (⟨e, a⟩ : invariant_literals))))
 else (some (Ctl.next ()))) t ()) (fun r => some r) (fun (_ : Unit) => some (true, (⟨e, a⟩ : invariant_literals))))))
noncomputable def Jj (d : invariant_literals) (e : GOp) (o : Int) : Option (Bool) :=
 ctl (QW (R := (Bool)) (fun h => fun (_ : Unit) => (Q9 e.Changes (h : Int)).bind fun a =>
 if (a.Add || ((!decide (a.Atom = o)) || decide (0 < (a.When.Tests.length : Int)))) then (some (Ctl.next ()))
 else ((forS (fun i => fun (b : Bool) => (Q9 a.When.Pos (i : Int)).bind fun m =>
 (if b then ((KP d.pos m).bind fun k =>
 some k)
 else (some false)).bind (fun (f : Bool) => some f)) (a.When.Pos.length) 0 true).bind (fun (b : Bool) => (forS (fun j => fun (c : Bool) => (Q9 a.When.Neg (j : Int)).bind fun n =>
 (if c then ((KP d.neg n).bind fun l =>
 some l)
 else (some false)).bind (fun (g : Bool) => some g)) (a.When.Neg.length) 0 b).bind (fun (c : Bool) => if c then (some (Ctl.ret true))
 else (some (Ctl.next ())))))) (e.Changes.length) 0 ()) (fun r => some r) (fun (_ : Unit) => some false)
noncomputable def JJ (c : GOp) (b : (List Int)) : Option (Bool) :=
 (forS (fun m => fun (a : (List GChange)) => (Q9 c.Changes (m : Int)).bind fun e =>
 (Q4 b e.Atom).bind <| QO fun (ab : Int) (u : Bool) =>
 (if (u && e.Add) then ((app 88 a [e]).bind fun q =>
 some q)
 else (some a)).bind (fun (s : (List GChange)) => some s)) (c.Changes.length) 0 []).bind (fun (a : (List GChange)) => ctl (QW (R := (Bool)) (fun i => QO fun (g : (List GChange)) (l : (List GChange)) => (Q9 l (i : Int)).bind fun d =>
 (cut g 0 (i : Int)).bind fun h =>
 ctl (QW (R := (Bool)) (fun n => fun (_ : Unit) => (Q9 h (n : Int)).bind fun k =>
 if decide (d.Atom = k.Atom) then (some (Ctl.next ()))
 else ((app 8 [(-1)] b).bind fun j =>
 ctl (QW (R := (Bool)) (fun o => fun (_ : Unit) => (Q9 j (o : Int)).bind fun t =>
 (QM c [d, k] t b).bind <| QO fun (v : Bool) (ac : invariant_literals) =>
 if v then (some (Ctl.ret false))
 else (some (Ctl.next ()))) (j.length) 0 ()) (fun r => some (Ctl.ret r)) (fun (_ : Unit) => some (Ctl.next ())))) (h.length) 0 ()) (fun r => some (Ctl.ret r)) (fun (_ : Unit) => ctl (QW (R := (Bool)) (fun p => fun (_ : Unit) => (Q9 b (p : Int)).bind fun f =>
 if decide (f = d.Atom) then (some (Ctl.next ()))
 else ((QM c [d] f b).bind <| QO fun (w : Bool) (x : invariant_literals) =>
 (if w then ((Jj x c f).bind <| fun (y : Bool) =>
 some (!y))
 else (some false)).bind (fun (z : Bool) => if z then (some (Ctl.ret false))
 else (some (Ctl.next ()))))) (b.length) 0 ()) (fun r => some (Ctl.ret r)) (fun (_ : Unit) => some (Ctl.next (g, l))))) (a.length) 0 (a, a)) (fun r => some r) (QO fun (aa : (List GChange)) (ad : (List GChange)) => some true))
noncomputable def JE (b : Ground) (a : (List Int)) : Option (Bool) :=
 ctl (QW (R := (Bool)) (fun c => fun (_ : Unit) => (Q9 a (c : Int)).bind fun d =>
 (if decide (d < 0) then (some true)
 else (if decide ((b.Atoms.length : Int) ≤ d) then (some true)
 else (if decide (0 < (c : Int)) then ((Q9 a (IntKind.i64.wrap ((c : Int) - 1))).bind fun f =>
 some (decide (d ≤ f)))
 else (some false)))).bind (fun (j : Bool) => if j then (some (Ctl.ret false))
 else (some (Ctl.next ())))) (a.length) 0 ()) (fun r => some r) (fun (_ : Unit) => (Ku (⟨b.Init, []⟩ : GState) a).bind <| fun (h : Bool) =>
 if !h then (some false)
 else (ctl (QW (R := (Bool)) (fun e => fun (_ : Unit) => (Q9 b.Ops (e : Int)).bind fun g =>
 (JJ g a).bind <| fun (i : Bool) =>
 if !i then (some (Ctl.ret false))
 else (some (Ctl.next ()))) (b.Ops.length) 0 ()) (fun r => some r) (fun (_ : Unit) => some true)))
noncomputable def QQ (fu : Nat) (a : Ground) (b : (List Int)) : Option (Bool) :=
 ((J0 fu a).bind <| fun (c : Bool) =>
 if c then ((JE a b).bind <| fun (d : Bool) =>
 some d)
 else (some false)).bind (fun (e : Bool) => some e)
noncomputable def Ko (fu : Nat) (b : (List Int)) (a : Ground) : Option (Bool) :=
 (QQ fu a b).bind <| fun (c : Bool) =>
 some (!c)
noncomputable def QZ (fu : Nat) (b : (List (List Int))) (c : Ground) : Option (Int) :=
 ctl (QW (R := (Int)) (fun a => fun (_ : Unit) => (Q9 b (a : Int)).bind fun d =>
 (Ko fu d c).bind <| fun (e : Bool) =>
 if e then (some (Ctl.ret (a : Int)))
 else (some (Ctl.next ()))) (b.length) 0 ()) (fun r => some r) (fun (_ : Unit) => some (-1))
noncomputable def Q6 (fu : Nat) (b : (List (List Int))) (a : Ground) : Option (Bool) :=
 (QZ fu b a).bind <| fun (c : Int) =>
 some (decide (0 ≤ c))
structure Fact where
 Var : Int
 Val : Int
def encFact : Enc Fact := Enc.iso ((Qc .i64).pair (Qc .i64)) (fun b => (b.Var, b.Val))
theorem Ju {s : PHeap} {v : Value} {b : Fact} : encFact.val s v b ↔ v = .agg #[.int .i64 (b.Var), .int .i64 (b.Val)] := by
 simp only [Enc.iso, Enc.pair, Enc.val, encFact, Qc, if_true, KO]
 constructor
 ·rintro ⟨cs, rfl, h⟩
  obtain ⟨cs⟩ := cs
  simp only [] at h
  obtain ⟨_, _, rfl, rfl, rfl⟩ := h
  rfl
 ·rintro rfl
  exact ⟨_, Z, ⟨[.int .i64 (b.Var)], [.int .i64 (b.Val)], Z, Z, Z⟩⟩
structure encode_encoder where
 g : Ground
 vars : (List Int)
 atoms : (List Fact)
 grouped : (List Bool)
 fluents : (List Int)
noncomputable def Ke (b : (List Cond)) : Option ((List Cond)) :=
 (app 72 [] b).bind fun a =>
 some a
noncomputable def Kb (a : Ground) : Option ((List Cond)) :=
 (Ke a.Goal).bind <| fun (j : (List Cond)) =>
 (forS (fun e => fun (b : (List Cond)) => (Q9 a.Ops (e : Int)).bind fun d =>
 (app 72 b [d.Pre]).bind fun g =>
 (forS (fun f => fun (c : (List Cond)) => (Q9 d.Changes (f : Int)).bind fun i =>
 (app 72 c [i.When]).bind fun h =>
 some h) (d.Changes.length) 0 g).bind (fun (c : (List Cond)) => some c)) (a.Ops.length) 0 j).bind (fun (b : (List Cond)) => some b)
noncomputable def Kn (c : (List (List Int))) (g : (List Bool)) : Option ((List Int)) :=
 (forS (fun h => fun (b : (List Int)) => (Q9 c (h : Int)).bind fun d =>
 (forS (fun i => fun (a : (List Int)) => (Q9 d (i : Int)).bind fun e =>
 (Q9 g e).bind fun l =>
 (if l then ((app 8 a [e]).bind fun j =>
 some j)
 else (some a)).bind (fun (k : (List Int)) => some k)) (d.length) 0 []).bind (fun (a : (List Int)) => (if decide ((b.length : Int) < (a.length : Int)) then (some a)
 else (some b)).bind (fun (f : (List Int)) => some f))) (c.length) 0 []).bind (fun (b : (List Int)) => some b)
noncomputable def QU (a : encode_encoder) (ae : (List (List Int))) : Option ((List Fact) × (List Bool) × (List Int) × (List Int)) :=
 (mk 1 false (a.g.Atoms.length : Int)).bind fun v =>
 (forS (fun t => fun (f : (List Bool)) => (Q9 f (t : Int)).bind fun a1 =>
 (QaP f (t : Int) true).bind fun ai =>
 some ai) (v.length) 0 v).bind (fun (f : (List Bool)) => (Kb a.g).bind <| fun (ad : (List Cond)) =>
 (forS (fun af => fun (c : (List Bool)) => (Q9 ad (af : Int)).bind fun aa =>
 (forS (fun ag => fun (h : (List Bool)) => (Q9 aa.Neg (ag : Int)).bind fun ab =>
 (Q9 h ab).bind fun a2 =>
 (QaP h ab false).bind fun aj =>
 some aj) (aa.Neg.length) 0 c).bind (fun (h : (List Bool)) => some h)) (ad.length) 0 f).bind (fun (c : (List Bool)) => (mk 16 (⟨0, 0⟩ : Fact) (c.length : Int)).bind fun ak =>
 (mk 1 false (c.length : Int)).bind fun al =>
 ctl (JA (R := ((List Fact) × (List Bool) × (List Int) × (List Int))) (un4 fun (o : (List Int)) (p : (List Bool)) (w : (List Fact)) (x : (List Bool)) => (Kn ae p).bind <| fun (s : (List Int)) =>
 if decide ((s.length : Int) < 2) then (some (Ctl.brk (o, p, w, x)))
 else ((cut s 0 (min (s.length : Int) 63)).bind fun m =>
 (forS (fun u => un3 fun (i : (List Bool)) (j : (List Fact)) (k : (List Bool)) => (Q9 m (u : Int)).bind fun b =>
 (Q9 j b).bind fun a3 =>
 (QaP j b (⟨(o.length : Int), IntKind.i64.wrap ((u : Int) + 1)⟩ : Fact)).bind fun am =>
 (Q9 k b).bind fun a4 =>
 (QaP k b true).bind fun an =>
 (Q9 i b).bind fun a5 =>
 (QaP i b false).bind fun ao =>
 some (ao, am, an)) (m.length) 0 (p, w, x)).bind (un3 fun (i : (List Bool)) (j : (List Fact)) (k : (List Bool)) => (app 8 o [IntKind.i64.wrap ((m.length : Int) + 1)]).bind fun ap =>
 some (Ctl.next (ap, i, j, k))))) (a.vars, c, ak, al)) (fun r => some r) (un4 fun (aq : (List Int)) (a0 : (List Bool)) (y : (List Fact)) (z : (List Bool)) => (forS (fun n => QO fun (d : (List Int)) (e : (List Fact)) => (Q9 z (n : Int)).bind fun az =>
 (if !az then ((Q9 e (n : Int)).bind fun a6 =>
 (QaP e (n : Int) (⟨(d.length : Int), 1⟩ : Fact)).bind fun ar =>
 (app 8 d [2]).bind fun au =>
 some (au, ar))
 else (some (d, e))).bind (QO fun (av : (List Int)) (aw : (List Fact)) => some (av, aw))) (y.length) 0 (aq, y)).bind (QO fun (d : (List Int)) (e : (List Fact)) => (forS (fun ah => QO fun (l : (List Int)) (q : (List Int)) => (Q9 a.g.Fluents (ah : Int)).bind fun ac =>
 (app 8 q [(l.length : Int)]).bind fun ax =>
 (app 8 l [IntKind.i64.wrap ((IntKind.i64.wrap (ac.Hi - ac.Lo)) + 1)]).bind fun ay =>
 some (ay, ax)) (a.g.Fluents.length) 0 (d, a.fluents)).bind (QO fun (l : (List Int)) (q : (List Int)) => some (e, z, l, q))))))
noncomputable def Q7 : Nat → GExpr → Q0 → Option (Q0)
 | 0, _, _ => none
 | fu + 1, a, c =>
 (if decide (a.Op = (⟨#[102, 108, 117, 101, 110, 116]⟩)) then ((JN c a.N true).bind fun g =>
 some g)
 else (some c)).bind (fun (e : Q0) => (forS (fun d => fun (b : Q0) => (Q9 a.Kids (d : Int)).bind fun h =>
 (Q7 fu h b).bind <| fun (f : Q0) =>
 some f) (a.Kids.length) 0 e).bind (fun (b : Q0) => some b))
noncomputable def QaV (xs : List Int) : Option (List Int) := if xs.length < 4611686018427387904 then some (xs.mergeSort fun x y => decide (x ≤ y)) else none
noncomputable def JK (e : Q0) : Option ((List Int)) :=
 QcY (e.map Prod.fst) fun d => ctl (Qbl (R := ((List Int))) (fun f => fun (a : (List Int)) => (app 8 a [f]).bind fun b =>
 some (Ctl.next b)) d []) (fun r => some r) (fun (a : (List Int)) => (QaV a).bind <| fun (c : (List Int)) =>
 some c)
noncomputable def QE (fu : Nat) (c : (List GTest)) (d : (List Int)) : Option ((List Int)) :=
 (forS (fun f => fun (a : Q0) => (Q9 c (f : Int)).bind fun e =>
 (Q7 fu e.A a).bind <| fun (h : Q0) =>
 (Q7 fu e.B h).bind <| fun (i : Q0) =>
 some i) (c.length) 0 ([] : Q0)).bind (fun (a : Q0) => (forS (fun g => fun (b : Q0) => (Q9 d (g : Int)).bind fun k =>
 (QeB b k).bind fun j =>
 some j) (d.length) 0 a).bind (fun (b : Q0) => (JK b).bind <| fun (l : (List Int)) =>
 some l))
noncomputable def Jv (e : encode_encoder) (b : (List Int)) : Option (Int) :=
 (forS (fun d => fun (a : Int) => (Q9 b (d : Int)).bind fun f =>
 (Q9 e.g.Fluents f).bind fun c =>
 some (min (IntKind.i64.wrap (a * (IntKind.i64.wrap ((IntKind.i64.wrap (c.Hi - c.Lo)) + 1)))) 257)) (b.length) 0 1).bind (fun (a : Int) => some a)
noncomputable def J8 (fu : Nat) (a : GOp) : Option ((List Int)) :=
 (forS (fun e => fun (b : Q0) => (Q9 a.Pre.Tests (e : Int)).bind fun d =>
 (Q7 fu d.A b).bind <| fun (g : Q0) =>
 (Q7 fu d.B g).bind <| fun (h : Q0) =>
 some h) (a.Pre.Tests.length) 0 ([] : Q0)).bind (fun (b : Q0) => (forS (fun f => fun (c : Q0) => (Q9 a.Assigns (f : Int)).bind fun j =>
 (Q7 fu j.Value c).bind <| fun (i : Q0) =>
 some i) (a.Assigns.length) 0 b).bind (fun (c : Q0) => (JK c).bind <| fun (k : (List Int)) =>
 some k))
noncomputable def Jo (fu : Nat) (a : encode_encoder) : Option (Bool) :=
 ctl (QW (R := (Bool)) (fun d => fun (_ : Unit) => (Q9 a.g.Goal (d : Int)).bind fun h =>
 (QE fu h.Tests ([] : (List Int))).bind <| fun (j : (List Int)) =>
 (Jv a j).bind <| fun (k : Int) =>
 if decide (256 < k) then (some (Ctl.ret true))
 else (some (Ctl.next ()))) (a.g.Goal.length) 0 ()) (fun r => some r) (fun (_ : Unit) => ctl (QW (R := (Bool)) (fun e => fun (_ : Unit) => (Q9 a.g.Ops (e : Int)).bind fun b =>
 (J8 fu b).bind <| fun (c : (List Int)) =>
 (Jv a c).bind <| fun (l : Int) =>
 if decide (256 < l) then (some (Ctl.ret true))
 else (ctl (QW (R := (Bool)) (fun f => fun (_ : Unit) => (Q9 b.Changes (f : Int)).bind fun i =>
 (QE fu i.When.Tests c).bind <| fun (m : (List Int)) =>
 (Jv a m).bind <| fun (n : Int) =>
 if decide (256 < n) then (some (Ctl.ret true))
 else (some (Ctl.next ()))) (b.Changes.length) 0 ()) (fun r => some (Ctl.ret r)) (fun (_ : Unit) => some (Ctl.next ())))) (a.g.Ops.length) 0 ()) (fun r => some r) (fun (_ : Unit) => some false))
structure Effect where
 When : (List Fact)
 Var : Int
 Val : Int
def encEffect : Enc Effect := Enc.iso ((Qp encFact).pair ((Qc .i64).pair (Qc .i64))) (fun b => (b.When, b.Var, b.Val))
theorem QcQ {s : PHeap} {v : Value} {b : Effect} : encEffect.val s v b ↔ ∃ u1, v = .agg #[u1, .int .i64 (b.Var), .int .i64 (b.Val)] ∧ SliceRep encFact s u1 (b.When) := by
 simp only [Enc.iso, Enc.pair, Enc.val, encEffect, Qc, Qp, if_true, KO]
 constructor
 ·rintro ⟨cs, rfl, h⟩
  obtain ⟨cs⟩ := cs
  simp only [] at h
  obtain ⟨_, _, rfl, ⟨w1, rfl, h1⟩, ⟨_, _, rfl, rfl, rfl⟩⟩ := h
  exact ⟨w1, Z, h1⟩
 ·rintro ⟨w1, rfl, h1⟩
  exact ⟨_, Z, ⟨[w1], [.int .i64 (b.Var), .int .i64 (b.Val)], Z, ⟨w1, Z, h1⟩, ⟨[.int .i64 (b.Var)], [.int .i64 (b.Val)], Z, Z, Z⟩⟩⟩
structure Op where
 Name : ByteArray
 Cost : Int
 Pre : (List Fact)
 Effs : (List Effect)
def encOp : Enc Op := Enc.iso (encStr.pair ((Qc .i64).pair ((Qp encFact).pair (Qp encEffect)))) (fun b => (b.Name, b.Cost, b.Pre, b.Effs))
theorem QbE {s : PHeap} {v : Value} {b : Op} : encOp.val s v b ↔ ∃ u1, ∃ u2, v = .agg #[.string (b.Name), .int .i64 (b.Cost), u1, u2] ∧ SliceRep encFact s u1 (b.Pre) ∧ SliceRep encEffect s u2 (b.Effs) := by
 simp only [Enc.iso, Enc.pair, Enc.val, Qc, encOp, Qp, encStr, if_true, KO]
 constructor
 ·rintro ⟨cs, rfl, h⟩
  obtain ⟨cs⟩ := cs
  simp only [] at h
  obtain ⟨_, _, rfl, rfl, ⟨_, _, rfl, rfl, ⟨_, _, rfl, ⟨w1, rfl, h1⟩, ⟨w2, rfl, h2⟩⟩⟩⟩ := h
  exact ⟨w1, w2, Z, h1, h2⟩
 ·rintro ⟨w1, w2, rfl, h1, h2⟩
  exact ⟨_, Z, ⟨[.string (b.Name)], [.int .i64 (b.Cost), w1, w2], Z, Z, ⟨[.int .i64 (b.Cost)], [w1, w2], Z, Z, ⟨[w1], [w2], Z, ⟨w1, Z, h1⟩, ⟨w2, Z, h2⟩⟩⟩⟩⟩
noncomputable def K0 (b : (List Int)) : Option ((List Int)) :=
 (app 8 [] b).bind fun a =>
 some a
structure Task where
 Vars : (List Int)
 Init : (List Int)
 Goal : (List Fact)
 Ops : (List Op)
structure Encoding where
 Task : Task
 Atoms : (List Fact)
 Fluents : (List Int)
 Ops : (List Int)
noncomputable def KV (b : (List Int)) : Option ((List Int)) :=
 (app 8 [] b).bind fun a =>
 some a
noncomputable def QN (p : encode_encoder) (e : (List Int)) (j : (List Int)) : Option ((List (List Int))) :=
 (forS (fun k => fun (b : (List (List Int))) => (Q9 e (k : Int)).bind fun d =>
 (forS (fun l => fun (c : (List (List Int))) => (Q9 b (l : Int)).bind fun q =>
 (Q9 p.g.Fluents d).bind fun h =>
 ctl (JA (R := ((List (List Int)))) (QO fun (a : Int) (f : (List (List Int))) => if decide (a ≤ h.Hi) then ((KV q).bind <| fun (i : (List Int)) =>
 (Q9 i d).bind fun t =>
 (QaP i d a).bind fun m =>
 (app 24 f [m]).bind fun n =>
 some (Ctl.next (IntKind.i64.wrap (a + 1), n)))
 else (some (Ctl.brk (a, f)))) (h.Lo, c)) (fun r => none) (QO fun (s : Int) (o : (List (List Int))) => some o)) (b.length) 0 []).bind (fun (c : (List (List Int))) => some c)) (e.length) 0 [j]).bind (fun (b : (List (List Int))) => some b)
noncomputable def JZ (b : Ground) (a : GState) : Option (Bool) :=
 (if !decide ((a.Values.length : Int) = (b.Fluents.length : Int)) then (some true)
 else ((J2 a.True (b.Atoms.length : Int)).bind <| fun (f : Bool) =>
 some (!f))).bind (fun (g : Bool) => if g then (some false)
 else (ctl (QW (R := (Bool)) (fun c => fun (_ : Unit) => (Q9 a.Values (c : Int)).bind fun d =>
 ((Q9 b.Fluents (c : Int)).bind fun e =>
 if decide (d < e.Lo) then (some true)
 else (some (decide (e.Hi < d)))).bind (fun (h : Bool) => if h then (some (Ctl.ret false))
 else (some (Ctl.next ())))) (a.Values.length) 0 ()) (fun r => some r) (fun (_ : Unit) => some true)))
noncomputable def KC (c : ByteArray) (a : Int) (b : Int) : Option (Int × Bool) :=
 if decide (c = (⟨#[43]⟩)) then ((if decide ((-1099511627776) ≤ (IntKind.i64.wrap (a + b))) then (some (decide ((IntKind.i64.wrap (a + b)) ≤ 1099511627776)))
 else (some false)).bind (fun (d : Bool) => some (IntKind.i64.wrap (a + b), d)))
 else (if decide (c = (⟨#[45]⟩)) then ((if decide ((-1099511627776) ≤ (IntKind.i64.wrap (a - b))) then (some (decide ((IntKind.i64.wrap (a - b)) ≤ 1099511627776)))
 else (some false)).bind (fun (e : Bool) => some (IntKind.i64.wrap (a - b), e)))
 else ((if !decide (a = 0) then ((must (!decide ((max a (IntKind.i64.wrap (0 - a))) = 0))).bind fun h =>
 some (decide ((IntKind.i64.wrap ((1099511627776 : Int).tdiv (max a (IntKind.i64.wrap (0 - a))))) < (max b (IntKind.i64.wrap (0 - b))))))
 else (some false)).bind (fun (f : Bool) => if f then (some (0, false))
 else ((if decide ((-1099511627776) ≤ (IntKind.i64.wrap (a * b))) then (some (decide ((IntKind.i64.wrap (a * b)) ≤ 1099511627776)))
 else (some false)).bind (fun (g : Bool) => some (IntKind.i64.wrap (a * b), g))))))
noncomputable def Jr : Nat → GState → GExpr → Option (Int × Bool)
 | 0, _, _ => none
 | fu + 1, b, a =>
 if decide (a.Op = (⟨#[110, 117, 109, 98, 101, 114]⟩)) then (some (a.N, true))
 else (if decide (a.Op = (⟨#[102, 108, 117, 101, 110, 116]⟩)) then ((Q9 b.Values a.N).bind fun c =>
 some (c, true))
 else ((Q9 a.Kids 0).bind fun d =>
 (Jr fu b d).bind <| QO fun (f : Int) (g : Bool) =>
 if !g then (some (0, false))
 else ((Q9 a.Kids 1).bind fun e =>
 (Jr fu b e).bind <| QO fun (h : Int) (i : Bool) =>
 if !i then (some (0, false))
 else ((KC a.Op f h).bind <| QO fun (j : Int) (k : Bool) =>
 some (j, k)))))
noncomputable def Qab (fu : Nat) (a : Ground) (c : GState) (b : GExpr) : Option (Int × (Option Int)) :=
 ((J0 fu a).bind <| fun (d : Bool) =>
 if !d then (some true)
 else ((JZ a c).bind <| fun (e : Bool) =>
 if !e then (some true)
 else ((Q8 fu b (a.Fluents.length : Int)).bind <| fun (f : Bool) =>
 some (!f)))).bind (fun (i : Bool) => if i then (some (0, some 2))
 else ((Jr fu c b).bind <| QO fun (g : Int) (h : Bool) =>
 if !h then (some (0, some 5))
 else (some (g, none))))
noncomputable def QA (fu : Nat) (c : encode_encoder) (a : GExpr) (b : (List Int)) : Option (Int × Bool) :=
 (Qab fu (⟨[], c.g.Fluents, [], [], []⟩ : Ground) (⟨[], b⟩ : GState) a).bind <| QO fun (d : Int) (e : (Option Int)) =>
 some (d, e.isNone)
noncomputable def Jw (fu : Nat) (f : encode_encoder) (d : (List GTest)) (e : (List Int)) : Option (Bool) :=
 ctl (QW (R := (Bool)) (fun g => fun (_ : Unit) => (Q9 d (g : Int)).bind fun a =>
 (QA fu f a.A e).bind <| QO fun (b : Int) (h : Bool) =>
 (QA fu f a.B e).bind <| QO fun (c : Int) (i : Bool) =>
 if ((!h) || ((!i) || (bif (decide (a.Op = (⟨#[60]⟩))) then ((decide (c ≤ b)) || (bif (decide (a.Op = (⟨#[60, 61]⟩))) then ((decide (c < b)) || ((decide (a.Op = (⟨#[61]⟩))) && !decide (b = c))) else ((decide (a.Op = (⟨#[61]⟩))) && !decide (b = c)))) else (bif (decide (a.Op = (⟨#[60, 61]⟩))) then ((decide (c < b)) || ((decide (a.Op = (⟨#[61]⟩))) && !decide (b = c))) else ((decide (a.Op = (⟨#[61]⟩))) && !decide (b = c)))))) then (some (Ctl.ret false))
 else (some (Ctl.next ()))) (d.length) 0 ()) (fun r => some r) (fun (_ : Unit) => some true)
noncomputable def J3 (fu : Nat) (b : encode_encoder) (a : GOp) (c : (List Int)) : Option (Bool) :=
 (Jw fu b a.Pre.Tests c).bind <| fun (i : Bool) =>
 if !i then (some false)
 else (ctl (QW (R := (Bool)) (fun h => fun (_ : Unit) => (Q9 a.Assigns (h : Int)).bind fun d =>
 (QA fu b d.Value c).bind <| QO fun (f : Int) (j : Bool) =>
 (if !j then (some true)
 else ((Q9 b.g.Fluents d.Fluent).bind fun e =>
 if decide (f < e.Lo) then (some true)
 else (some (decide (e.Hi < f))))).bind (fun (k : Bool) => if k then (some (Ctl.ret false))
 else (some (Ctl.next ())))) (a.Assigns.length) 0 ()) (fun r => some r) (fun (_ : Unit) => some true))
noncomputable def Kd (b : (List Fact)) : Option ((List Fact)) :=
 (app 16 [] b).bind fun a =>
 some a
noncomputable def JO (a : Fact) (b : Fact) : Option (Int) :=
 if !decide (a.Var = b.Var) then (some (IntKind.i64.wrap (a.Var - b.Var)))
 else (some (IntKind.i64.wrap (a.Val - b.Val)))
def RF (f : Fact) : Prop := -1000000000000 ≤ f.Var ∧ f.Var ≤ 1000000000000 ∧ -1000000000000 ≤ f.Val ∧ f.Val ≤ 1000000000000
instance (f : Fact) : Decidable (RF f) := by unfold RF; infer_instance
def Qb6 (a b : Fact) : Int := if a.Var ≠ b.Var then a.Var - b.Var else a.Val - b.Val
noncomputable def Kf (xs : List Fact) : Option (List Fact) := if xs.length < 4611686018427387904 ∧ ∀ x ∈ xs, RF x then some (xs.mergeSort fun x y => !decide (Qb6 y x < 0)) else none
noncomputable def QT (a : (List Fact)) : Option (Nat × (List Fact)) :=
 if decide ((a.length : Int) < 2) then (some ((a).length, a))
 else (ctl (JA (R := (Nat × (List Fact))) (fun (b : Int) => if decide (b < (a.length : Int)) then ((Q9 a b).bind fun j =>
 (Q9 a (IntKind.i64.wrap (b - 1))).bind fun k =>
 if eqs [j.Var, j.Val] [k.Var, k.Val] then ((Qce a b (a.length : Int)).bind fun h =>
 ctl (JA (R := (Nat × (List Fact))) (un3 fun (g : Int) (d : Int) (c : (List Fact)) => if decide (d < (h : Int)) then ((Qeo c b h d).bind fun l =>
 (Qeo c b h (IntKind.i64.wrap (d - 1))).bind fun m =>
 (if !(eqs [l.Var, l.Val] [m.Var, m.Val]) then ((Qeo c b h d).bind fun s =>
 (Q9 c g).bind fun v =>
 (QaP c g s).bind fun o =>
 some (IntKind.i64.wrap (g + 1), o))
 else (some (g, c))).bind (QO fun (n : Int) (p : (List Fact)) => some (Ctl.next (n, IntKind.i64.wrap (d + 1), p))))
 else (some (Ctl.brk (g, d, c)))) (b, 1, a)) (fun r => some (Ctl.ret r)) (un3 fun (e : Int) (t : Int) (f : (List Fact)) => (Qce f e (f.length : Int)).bind fun i =>
 (Qce ((f).take (e).toNat ++ List.replicate i (⟨0, 0⟩ : Fact) ++ (f).drop ((e).toNat + i)) 0 e).bind fun q =>
 some (Ctl.ret (q, (f).take (e).toNat ++ List.replicate i (⟨0, 0⟩ : Fact) ++ (f).drop ((e).toNat + i)))))
 else (some (Ctl.next (IntKind.i64.wrap (b + 1)))))
 else (some (Ctl.brk b))) 1) (fun r => some r) (fun (u : Int) => some ((a).length, a)))
noncomputable def QB (e : encode_encoder) (d : Cond) (k : (List Int)) (u : (List Int)) (t : (List Fact)) : Option ((List Fact) × Bool) :=
 (Kd t).bind <| fun (ae : (List Fact)) =>
 (forS (fun l => fun (f : (List Fact)) => (Q9 d.Pos (l : Int)).bind fun v =>
 (Q9 e.atoms v).bind fun w =>
 (app 16 f [w]).bind fun o =>
 some o) (d.Pos.length) 0 ae).bind (fun (f : (List Fact)) => (forS (fun m => fun (h : (List Fact)) => (Q9 d.Neg (m : Int)).bind fun x =>
 (Q9 e.atoms x).bind fun y =>
 (app 16 h [(⟨y.Var, 0⟩ : Fact)]).bind fun p =>
 some p) (d.Neg.length) 0 f).bind (fun (h : (List Fact)) => (forS (fun n => fun (i : (List Fact)) => (Q9 k (n : Int)).bind fun j =>
 (Q9 e.fluents j).bind fun z =>
 (Q9 u j).bind fun aa =>
 (Q9 e.g.Fluents j).bind fun ab =>
 (app 16 i [(⟨z, IntKind.i64.wrap (aa - ab.Lo)⟩ : Fact)]).bind fun q =>
 some q) (k.length) 0 h).bind (fun (i : (List Fact)) => (Kf i).bind <| fun (s : (List Fact)) =>
 (QT s).bind <| QO fun (c : Nat) (b : (List Fact)) =>
 (must (decide (c ≤ b.length))).bind fun ag =>
 ctl (JA (R := ((List Fact) × Bool)) (fun (a : Int) => if decide (a < (((b).take c).length : Int)) then ((Q9 ((b).take c) a).bind fun ac =>
 (Q9 ((b).take c) (IntKind.i64.wrap (a - 1))).bind fun ad =>
 if decide (ac.Var = ad.Var) then (some (Ctl.ret ([], false)))
 else (some (Ctl.next (IntKind.i64.wrap (a + 1)))))
 else (some (Ctl.brk a))) 1) (fun r => some r) (fun (af : Int) => some ((b).take c, true)))))
noncomputable def K5 (b : (List Fact)) : Option ((List Fact)) :=
 (app 16 [] b).bind fun a =>
 some a
noncomputable def Jd (e : encode_encoder) (d : Cond) (k : (List Int)) (u : (List Int)) (t : (List Fact)) : Option ((List Fact) × Bool) :=
 (K5 t).bind <| fun (ae : (List Fact)) =>
 (forS (fun l => fun (f : (List Fact)) => (Q9 d.Pos (l : Int)).bind fun v =>
 (Q9 e.atoms v).bind fun w =>
 (app 16 f [w]).bind fun o =>
 some o) (d.Pos.length) 0 ae).bind (fun (f : (List Fact)) => (forS (fun m => fun (h : (List Fact)) => (Q9 d.Neg (m : Int)).bind fun x =>
 (Q9 e.atoms x).bind fun y =>
 (app 16 h [(⟨y.Var, 0⟩ : Fact)]).bind fun p =>
 some p) (d.Neg.length) 0 f).bind (fun (h : (List Fact)) => (forS (fun n => fun (i : (List Fact)) => (Q9 k (n : Int)).bind fun j =>
 (Q9 e.fluents j).bind fun z =>
 (Q9 u j).bind fun aa =>
 (Q9 e.g.Fluents j).bind fun ab =>
 (app 16 i [(⟨z, IntKind.i64.wrap (aa - ab.Lo)⟩ : Fact)]).bind fun q =>
 some q) (k.length) 0 h).bind (fun (i : (List Fact)) => (Kf i).bind <| fun (s : (List Fact)) =>
 (QT s).bind <| QO fun (c : Nat) (b : (List Fact)) =>
 (must (decide (c ≤ b.length))).bind fun ag =>
 ctl (JA (R := ((List Fact) × Bool)) (fun (a : Int) => if decide (a < (((b).take c).length : Int)) then ((Q9 ((b).take c) a).bind fun ac =>
 (Q9 ((b).take c) (IntKind.i64.wrap (a - 1))).bind fun ad =>
 if decide (ac.Var = ad.Var) then (some (Ctl.ret ([], false)))
 else (some (Ctl.next (IntKind.i64.wrap (a + 1)))))
 else (some (Ctl.brk a))) 1) (fun r => some r) (fun (af : Int) => some ((b).take c, true)))))
noncomputable def QR (fu : Nat) (c : encode_encoder) (b : Cond) (g : (List Int)) (l : (List Int)) (k : (List Fact)) : Option ((List (List Fact))) :=
 (QE fu b.Tests g).bind <| fun (e : (List Int)) =>
 (QN c e l).bind <| fun (f : (List (List Int))) =>
 (forS (fun h => fun (a : (List (List Fact))) => (Q9 f (h : Int)).bind fun d =>
 (Jw fu c b.Tests d).bind <| fun (m : Bool) =>
 if !m then (some a)
 else ((Jd c b e d k).bind <| QO fun (n : (List Fact)) (o : Bool) =>
 (if o then ((app 24 a [n]).bind fun i =>
 some i)
 else (some a)).bind (fun (j : (List (List Fact))) => some j))) (f.length) 0 []).bind (fun (a : (List (List Fact))) => some a)
noncomputable def Je (fu : Nat) (a : encode_encoder) (c : GOp) (n : (List Int)) (k : (List Int)) : Option ((List Effect)) :=
 (forS (fun o => fun (h : (List Effect)) => (Q9 [false, true] (o : Int)).bind fun l =>
 (forS (fun p => fun (b : (List Effect)) => (Q9 c.Changes (p : Int)).bind fun d =>
 if !(d.Add == l) then (some b)
 else ((Q9 a.atoms d.Atom).bind fun i =>
 (if !l then ((Q9 a.grouped d.Atom).bind fun x =>
 (if x then ((app 16 ([] : (List Fact)) [i]).bind fun s =>
 some s)
 else (some [])).bind (fun (v : (List Fact)) => some (v, 0)))
 else (some ([], i.Val))).bind (QO fun (w : (List Fact)) (ac : Int) => (QR fu a d.When n k w).bind <| fun (m : (List (List Fact))) =>
 (forS (fun q => fun (e : (List Effect)) => (Q9 m (q : Int)).bind fun y =>
 (app 40 e [(⟨y, i.Var, ac⟩ : Effect)]).bind fun t =>
 some t) (m.length) 0 b).bind (fun (e : (List Effect)) => some e)))) (c.Changes.length) 0 h).bind (fun (b : (List Effect)) => some b)) ([false, true].length) 0 []).bind (fun (h : (List Effect)) => (forS (fun r => fun (f : (List Effect)) => (Q9 c.Assigns (r : Int)).bind fun j =>
 (QA fu a j.Value k).bind <| QO fun (ab : Int) (ad : Bool) =>
 (Q9 a.fluents j.Fluent).bind fun z =>
 (Q9 a.g.Fluents j.Fluent).bind fun aa =>
 (app 40 f ([(⟨[], z, IntKind.i64.wrap (ab - aa.Lo)⟩ : Effect)])).bind fun u =>
 some u) (c.Assigns.length) 0 h).bind (fun (f : (List Effect)) => some f))
noncomputable def QV (fu : Nat) (c : encode_encoder) (i : Encoding) (h : Int) (l : (List Int)) : Option (Bool × (List Op) × (List Int)) :=
 (Q9 c.g.Ops h).bind fun a =>
 (J8 fu a).bind <| fun (f : (List Int)) =>
 (QN c f l).bind <| fun (j : (List (List Int))) =>
 ctl (QW (R := (Bool × (List Op) × (List Int))) (fun m => QO fun (d : (List Op)) (b : (List Int)) => (Q9 j (m : Int)).bind fun e =>
 (J3 fu c a e).bind <| fun (s : Bool) =>
 if !s then (some (Ctl.next (d, b)))
 else ((QB c a.Pre f e ([] : (List Fact))).bind <| QO fun (t : (List Fact)) (u : Bool) =>
 if !u then (some (Ctl.ret (true, d, b)))
 else ((Je fu c a f e).bind <| fun (k : (List Effect)) =>
 if ((decide (64 < (k.length : Int))) || decide ((b.length : Int) = 4096)) then (some (Ctl.ret (false, d, b)))
 else ((app 72 d [(⟨a.Name, a.Cost, t, k⟩ : Op)]).bind fun n =>
 (app 8 b [h]).bind fun o =>
 some (Ctl.next (n, o)))))) (j.length) 0 (i.Task.Ops, i.Ops)) (fun r => some r) (QO fun (p : (List Op)) (q : (List Int)) => some (true, p, q))
noncomputable def QP (fu : Nat) (c : encode_encoder) (b : Cond) (g : (List Int)) (l : (List Int)) (k : (List Fact)) : Option ((List (List Fact))) :=
 (QE fu b.Tests g).bind <| fun (e : (List Int)) =>
 (QN c e l).bind <| fun (f : (List (List Int))) =>
 (forS (fun h => fun (a : (List (List Fact))) => (Q9 f (h : Int)).bind fun d =>
 (Jw fu c b.Tests d).bind <| fun (m : Bool) =>
 if !m then (some a)
 else ((QB c b e d k).bind <| QO fun (n : (List Fact)) (o : Bool) =>
 (if o then ((app 24 a [n]).bind fun i =>
 some i)
 else (some a)).bind (fun (j : (List (List Fact))) => some j))) (f.length) 0 []).bind (fun (a : (List (List Fact))) => some a)
noncomputable def Jx (fu : Nat) (b : encode_encoder) (a : Encoding) (c : (List Int)) : Option (Bool × (List Fact) × (List Int) × (List Int) × (List Op) × (List Int)) :=
 (if decide ((b.g.Goal.length : Int) = 1) then ((Q9 b.g.Goal 0).bind fun aj =>
 some (decide ((aj.Tests.length : Int) = 0)))
 else (some false)).bind (fun (ar : Bool) => if ar then ((Q9 b.g.Goal 0).bind fun ak =>
 (QB b ak ([] : (List Int)) c ([] : (List Fact))).bind <| QO fun (ap : (List Fact)) (aq : Bool) =>
 if aq then (some (true, ap, a.Task.Vars, a.Task.Init, a.Task.Ops, a.Ops))
 else ((app 8 a.Task.Vars [2]).bind fun f =>
 (app 8 a.Task.Init [0]).bind fun h =>
 ctl (QW (R := (Bool × (List Fact) × (List Int) × (List Int) × (List Op) × (List Int))) (fun o => QO fun (t : (List Op)) (u : (List Int)) => (Q9 b.g.Goal (o : Int)).bind fun al =>
 (QP fu b al ([] : (List Int)) c ([] : (List Fact))).bind <| fun (m : (List (List Fact))) =>
 ctl (QW (R := (Bool × (List Fact) × (List Int) × (List Int) × (List Op) × (List Int))) (fun p => QO fun (i : (List Op)) (d : (List Int)) => (Q9 m (p : Int)).bind fun am =>
 if decide ((d.length : Int) = 4096) then (some (Ctl.ret (false, [(⟨(a.Task.Vars.length : Int), 1⟩ : Fact)], f, h, i, d)))
 else ((app 72 i ([(⟨⟨#[]⟩, 0, am, [(⟨[], (a.Task.Vars.length : Int), 1⟩ : Effect)]⟩ : Op)])).bind fun v =>
 (app 8 d [(-1)]).bind fun w =>
 some (Ctl.next (v, w)))) (m.length) 0 (t, u)) (fun r => some (Ctl.ret r)) (QO fun (x : (List Op)) (y : (List Int)) => some (Ctl.next (x, y)))) (b.g.Goal.length) 0 (a.Task.Ops, a.Ops)) (fun r => some r) (QO fun (z : (List Op)) (aa : (List Int)) => some (true, [(⟨(a.Task.Vars.length : Int), 1⟩ : Fact)], f, h, z, aa))))
 else ((app 8 a.Task.Vars [2]).bind fun j =>
 (app 8 a.Task.Init [0]).bind fun k =>
 ctl (QW (R := (Bool × (List Fact) × (List Int) × (List Int) × (List Op) × (List Int))) (fun q => QO fun (ab : (List Op)) (ac : (List Int)) => (Q9 b.g.Goal (q : Int)).bind fun an =>
 (QP fu b an ([] : (List Int)) c ([] : (List Fact))).bind <| fun (n : (List (List Fact))) =>
 ctl (QW (R := (Bool × (List Fact) × (List Int) × (List Int) × (List Op) × (List Int))) (fun s => QO fun (l : (List Op)) (e : (List Int)) => (Q9 n (s : Int)).bind fun ao =>
 if decide ((e.length : Int) = 4096) then (some (Ctl.ret (false, [(⟨(a.Task.Vars.length : Int), 1⟩ : Fact)], j, k, l, e)))
 else ((app 72 l ([(⟨⟨#[]⟩, 0, ao, [(⟨[], (a.Task.Vars.length : Int), 1⟩ : Effect)]⟩ : Op)])).bind fun ad =>
 (app 8 e [(-1)]).bind fun ae =>
 some (Ctl.next (ad, ae)))) (n.length) 0 (ab, ac)) (fun r => some (Ctl.ret r)) (QO fun (af : (List Op)) (ag : (List Int)) => some (Ctl.next (af, ag)))) (b.g.Goal.length) 0 (a.Task.Ops, a.Ops)) (fun r => some r) (QO fun (ah : (List Op)) (ai : (List Int)) => some (true, [(⟨(a.Task.Vars.length : Int), 1⟩ : Fact)], j, k, ah, ai))))
noncomputable def JY (c : Task) : Option ((List (List Fact))) :=
 (forS (fun e => fun (b : (List (List Fact))) => (Q9 c.Ops (e : Int)).bind fun d =>
 (app 24 b [d.Pre]).bind fun g =>
 (forS (fun f => fun (a : (List (List Fact))) => (Q9 d.Effs (f : Int)).bind fun i =>
 (app 24 a [i.When]).bind fun h =>
 some h) (d.Effs.length) 0 g).bind (fun (a : (List (List Fact))) => some a)) (c.Ops.length) 0 [c.Goal]).bind (fun (b : (List (List Fact))) => some b)
noncomputable def YH (a : (List Fact)) : Option (Bool) :=
 some (decide (64 < (a.length : Int)))
def YG (a : (List Fact)) : Bool :=
 (decide (64 < (a.length : Int)))
theorem Qd9 (a : (List Fact)) : YH a = some (YG a) := by
 unfold YH YG
 (repeat' split) <;> rfl
attribute [irreducible] YG
noncomputable def Jk (b : (List (List Fact))) : Option (Int) :=
 ctl (QW (R := (Int)) (fun a => fun (_ : Unit) => (Q9 b (a : Int)).bind fun c =>
 if (YG c) then (some (Ctl.ret (a : Int)))
 else (some (Ctl.next ()))) (b.length) 0 ()) (fun r => some r) (fun (_ : Unit) => some (-1))
noncomputable def Jb (a : (List (List Fact))) : Option (Bool) :=
 (Jk a).bind <| fun (b : Int) =>
 some (decide (0 ≤ b))
noncomputable def YV (a : Task) : Option (Bool) :=
 if ((decide (64 < (a.Vars.length : Int))) || decide (4096 < (a.Ops.length : Int))) then (some true)
 else (ctl (QW (R := (Bool)) (fun b => fun (_ : Unit) => (Q9 a.Ops (b : Int)).bind fun c =>
 if decide (64 < (c.Effs.length : Int)) then (some (Ctl.ret true))
 else (some (Ctl.next ()))) (a.Ops.length) 0 ()) (fun r => some r) (fun (_ : Unit) => (JY a).bind <| fun (d : (List (List Fact))) =>
 (Jb d).bind <| fun (e : Bool) =>
 some e))
noncomputable def YA (c : (List Int)) (a : (List Int)) : Option (Bool) :=
 if !decide ((a.length : Int) = (c.length : Int)) then (some false)
 else (ctl (QW (R := (Bool)) (fun b => fun (_ : Unit) => (Q9 a (b : Int)).bind fun d =>
 (if decide (d < 0) then (some true)
 else ((Q9 c (b : Int)).bind fun e =>
 some (decide (e ≤ d)))).bind (fun (f : Bool) => if f then (some (Ctl.ret false))
 else (some (Ctl.next ())))) (a.length) 0 ()) (fun r => some r) (fun (_ : Unit) => some true))
noncomputable def KS (c : (List Int)) (b : (List Fact)) : Option (Bool) :=
 ctl (QW (R := (Bool)) (fun d => fun (e : Int) => (Q9 b (d : Int)).bind fun a =>
 (if decide (a.Var ≤ e) then (some true)
 else (if decide ((c.length : Int) ≤ a.Var) then (some true)
 else (if decide (a.Val < 0) then (some true)
 else ((Q9 c a.Var).bind fun f =>
 some (decide (f ≤ a.Val)))))).bind (fun (g : Bool) => if g then (some (Ctl.ret false))
 else (some (Ctl.next a.Var)))) (b.length) 0 (-1)) (fun r => some r) (fun (h : Int) => some true)
noncomputable def YU (a : ByteArray) : Option (Bool) :=
 (must (decide ((a.size : Int) ≤ 9223372036854775807))).bind fun e =>
 ctl (QW (R := (Bool)) (fun c => fun (_ : Unit) => ((Q9 (Kt a) (c : Int)).bind fun b =>
 if decide (b < 32) then (some true)
 else (some (decide (126 < b)))).bind (fun (d : Bool) => if d then (some (Ctl.ret false))
 else (some (Ctl.next ())))) ((a.size : Int).toNat) 0 ()) (fun r => some r) (fun (_ : Unit) => some (decide ((a.size : Int) ≤ 256)))
noncomputable def KT (a : Task) : Option ((Option Int)) :=
 (YV a).bind <| fun (o : Bool) =>
 if o then (some (some 5))
 else (ctl (QW (R := ((Option Int))) (fun g => fun (_ : Unit) => (Q9 a.Vars (g : Int)).bind fun b =>
 if ((decide (b < 1)) || decide (64 < b)) then (some (Ctl.ret (some 1)))
 else (some (Ctl.next ()))) (a.Vars.length) 0 ()) (fun r => some r) (fun (_ : Unit) => ctl (QW (R := ((Option Int))) (fun h => fun (_ : Unit) => (Q9 a.Ops (h : Int)).bind fun c =>
 if ((decide (c.Cost < 0)) || decide (1048576 < c.Cost)) then (some (Ctl.ret (some 1)))
 else (some (Ctl.next ()))) (a.Ops.length) 0 ()) (fun r => some r) (fun (_ : Unit) => (YA a.Vars a.Init).bind <| fun (p : Bool) =>
 if !p then (some (some 2))
 else ((JY a).bind <| fun (f : (List (List Fact))) =>
 ctl (QW (R := ((Option Int))) (fun i => fun (_ : Unit) => (Q9 f (i : Int)).bind fun m =>
 (KS a.Vars m).bind <| fun (q : Bool) =>
 if !q then (some (Ctl.ret (some 2)))
 else (some (Ctl.next ()))) (f.length) 0 ()) (fun r => some r) (fun (_ : Unit) => ctl (QW (R := ((Option Int))) (fun j => fun (_ : Unit) => (Q9 a.Ops (j : Int)).bind fun d =>
 ctl (QW (R := ((Option Int))) (fun k => fun (_ : Unit) => (Q9 d.Effs (k : Int)).bind fun e =>
 (KS a.Vars [(⟨e.Var, e.Val⟩ : Fact)]).bind <| fun (s : Bool) =>
 if !s then (some (Ctl.ret (some 2)))
 else (some (Ctl.next ()))) (d.Effs.length) 0 ()) (fun r => some (Ctl.ret r)) (fun (_ : Unit) => some (Ctl.next ()))) (a.Ops.length) 0 ()) (fun r => some r) (fun (_ : Unit) => ctl (QW (R := ((Option Int))) (fun l => fun (_ : Unit) => (Q9 a.Ops (l : Int)).bind fun n =>
 (YU n.Name).bind <| fun (t : Bool) =>
 if !t then (some (Ctl.ret (some 8)))
 else (some (Ctl.next ()))) (a.Ops.length) 0 ()) (fun r => some r) (fun (_ : Unit) => some none)))))))
noncomputable def QX (fu : Nat) (a : Ground) (l : (List (List Int))) : Option ((Option Int) × Encoding) :=
 ((J0 fu a).bind <| fun (ak : Bool) =>
 if !ak then (some true)
 else ((Q6 fu l a).bind <| fun (al : Bool) =>
 some al)).bind (fun (ap : Bool) => if ap then (some (some 2, (⟨(⟨[], [], [], []⟩ : Task), [], [], []⟩ : Encoding)))
 else ((QU (⟨a, ([] : (List Int)), ([] : (List Fact)), ([] : (List Bool)), ([] : (List Int))⟩ : encode_encoder) l).bind <| un4 fun (c : (List Fact)) (j : (List Bool)) (d : (List Int)) (b : (List Int)) =>
 (Jo fu (⟨a, d, c, j, b⟩ : encode_encoder)).bind <| fun (am : Bool) =>
 if am then (some (some 5, (⟨(⟨[], [], [], []⟩ : Task), [], [], []⟩ : Encoding)))
 else ((K0 d).bind <| fun (s : (List Int)) =>
 (mk 8 0 (d.length : Int)).bind fun y =>
 (forS (fun w => fun (f : (List Int)) => (Q9 a.Init (w : Int)).bind fun aj =>
 (Q9 c aj).bind fun h =>
 (Q9 f h.Var).bind fun aq =>
 (QaP f h.Var h.Val).bind fun z =>
 some z) (a.Init.length) 0 y).bind (fun (f : (List Int)) => (forS (fun m => QO fun (g : (List Int)) (e : (List Int)) => (Q9 a.Fluents (m : Int)).bind fun i =>
 (app 8 g [i.Init]).bind fun aa =>
 (Q9 b (m : Int)).bind fun q =>
 (Q9 e q).bind fun ar =>
 (QaP e q (IntKind.i64.wrap (i.Init - i.Lo))).bind fun ab =>
 some (aa, ab)) (a.Fluents.length) 0 ([], f)).bind (QO fun (g : (List Int)) (e : (List Int)) => ctl (QW (R := ((Option Int) × Encoding)) (fun x => un3 fun (k : (List Int)) (ac : (List Op)) (ad : (List Int)) => (QV fu (⟨a, d, c, j, b⟩ : encode_encoder) (⟨(⟨s, e, ([] : (List Fact)), ac⟩ : Task), c, b, ad⟩ : Encoding) (x : Int) k).bind <| un3 fun (an : Bool) (ae : (List Op)) (af : (List Int)) =>
 if !an then (some (Ctl.ret (some 5, (⟨(⟨[], [], [], []⟩ : Task), [], [], []⟩ : Encoding))))
 else (some (Ctl.next (k, ae, af)))) (a.Ops.length) 0 (g, ([] : (List Op)), ([] : (List Int)))) (fun r => some r) (un3 fun (v : (List Int)) (ag : (List Op)) (ah : (List Int)) => (Jx fu (⟨a, d, c, j, b⟩ : encode_encoder) (⟨(⟨s, e, ([] : (List Fact)), ag⟩ : Task), c, b, ah⟩ : Encoding) v).bind <| un6 fun (ao : Bool) (u : (List Fact)) (n : (List Int)) (o : (List Int)) (p : (List Op)) (ai : (List Int)) =>
 if !ao then (some (some 5, (⟨(⟨[], [], [], []⟩ : Task), [], [], []⟩ : Encoding)))
 else ((KT (⟨n, o, u, p⟩ : Task)).bind <| fun (t : (Option Int)) =>
 if t.isSome then (some (t, (⟨(⟨[], [], [], []⟩ : Task), [], [], []⟩ : Encoding)))
 else (some (none, (⟨(⟨n, o, u, p⟩ : Task), c, b, ai⟩ : Encoding))))))))))
noncomputable def Qb0 (fu : Nat) (b : Ground) (a : Encoding) : Option (Bool) :=
 ((J0 fu b).bind <| fun (i : Bool) =>
 if !i then (some true)
 else ((KT a.Task).bind <| fun (j : (Option Int)) =>
 if j.isSome then (some true)
 else (if !decide ((a.Atoms.length : Int) = (b.Atoms.length : Int)) then (some true)
 else (some (!decide ((a.Fluents.length : Int) = (b.Fluents.length : Int))))))).bind (fun (l : Bool) => if l then (some false)
 else (ctl (QW (R := (Bool)) (fun f => fun (_ : Unit) => (Q9 a.Atoms (f : Int)).bind fun g =>
 (KS a.Task.Vars [g]).bind <| fun (k : Bool) =>
 if !k then (some (Ctl.ret false))
 else (some (Ctl.next ()))) (a.Atoms.length) 0 ()) (fun r => some r) (fun (_ : Unit) => ctl (QW (R := (Bool)) (fun d => fun (_ : Unit) => (Q9 a.Fluents (d : Int)).bind fun c =>
 (if decide (c < 0) then (some true)
 else (if decide ((a.Task.Vars.length : Int) ≤ c) then (some true)
 else ((Q9 a.Task.Vars c).bind fun h =>
 (Q9 b.Fluents (d : Int)).bind fun e =>
 some (!decide (h = (IntKind.i64.wrap ((IntKind.i64.wrap (e.Hi - e.Lo)) + 1))))))).bind (fun (m : Bool) => if m then (some (Ctl.ret false))
 else (some (Ctl.next ())))) (a.Fluents.length) 0 ()) (fun r => some r) (fun (_ : Unit) => some true))))
noncomputable def Yn (b : Int) (a : GState) : Option (Bool) :=
 (Q4 a.True b).bind <| QO fun (d : Int) (c : Bool) =>
 some c
noncomputable def Qai (b : Int) (a : GState) : Option (Bool) :=
 (Yn b a).bind <| fun (c : Bool) =>
 some (!c)
noncomputable def JL (b : (List Int)) (c : GState) : Option (Int) :=
 ctl (QW (R := (Int)) (fun a => fun (_ : Unit) => (Q9 b (a : Int)).bind fun d =>
 (Qai d c).bind <| fun (e : Bool) =>
 if e then (some (Ctl.ret (a : Int)))
 else (some (Ctl.next ()))) (b.length) 0 ()) (fun r => some r) (fun (_ : Unit) => some (-1))
noncomputable def JB (b : (List Int)) (a : GState) : Option (Bool) :=
 (JL b a).bind <| fun (c : Int) =>
 some (decide (0 ≤ c))
noncomputable def JM (b : (List Int)) (c : GState) : Option (Int) :=
 ctl (QW (R := (Int)) (fun a => fun (_ : Unit) => (Q9 b (a : Int)).bind fun d =>
 (Yn d c).bind <| fun (e : Bool) =>
 if e then (some (Ctl.ret (a : Int)))
 else (some (Ctl.next ()))) (b.length) 0 ()) (fun r => some r) (fun (_ : Unit) => some (-1))
noncomputable def JC (b : (List Int)) (a : GState) : Option (Bool) :=
 (JM b a).bind <| fun (c : Int) =>
 some (decide (0 ≤ c))
noncomputable def Qbz (fu : Nat) (d : GState) (a : GTest) : Option (Bool) :=
 (Jr fu d a.A).bind <| QO fun (b : Int) (e : Bool) =>
 (Jr fu d a.B).bind <| QO fun (c : Int) (f : Bool) =>
 some (e && (f && (bif (decide (a.Op = (⟨#[60]⟩))) then ((decide (b < c)) || (bif (decide (a.Op = (⟨#[60, 61]⟩))) then ((decide (b ≤ c)) || ((decide (a.Op = (⟨#[61]⟩))) && decide (b = c))) else ((decide (a.Op = (⟨#[61]⟩))) && decide (b = c)))) else (bif (decide (a.Op = (⟨#[60, 61]⟩))) then ((decide (b ≤ c)) || ((decide (a.Op = (⟨#[61]⟩))) && decide (b = c))) else ((decide (a.Op = (⟨#[61]⟩))) && decide (b = c))))))
noncomputable def Qah (fu : Nat) (b : GTest) (a : GState) : Option (Bool) :=
 (Qbz fu a b).bind <| fun (c : Bool) =>
 some (!c)
noncomputable def J4 (fu : Nat) (b : (List GTest)) (c : GState) : Option (Int) :=
 ctl (QW (R := (Int)) (fun a => fun (_ : Unit) => (Q9 b (a : Int)).bind fun d =>
 (Qah fu d c).bind <| fun (e : Bool) =>
 if e then (some (Ctl.ret (a : Int)))
 else (some (Ctl.next ()))) (b.length) 0 ()) (fun r => some r) (fun (_ : Unit) => some (-1))
noncomputable def Jz (fu : Nat) (b : (List GTest)) (a : GState) : Option (Bool) :=
 (J4 fu b a).bind <| fun (c : Int) =>
 some (decide (0 ≤ c))
noncomputable def Qbc (fu : Nat) (b : GState) (a : Cond) : Option (Bool) :=
 ((JB a.Pos b).bind <| fun (c : Bool) =>
 if !c then ((JC a.Neg b).bind <| fun (d : Bool) =>
 if !d then ((Jz fu a.Tests b).bind <| fun (e : Bool) =>
 some (!e))
 else (some false))
 else (some false)).bind (fun (f : Bool) => some f)
noncomputable def Qbd (fu : Nat) (a : Ground) (c : GState) (b : Cond) : Option (Bool) :=
 ((J0 fu a).bind <| fun (d : Bool) =>
 if d then ((JZ a c).bind <| fun (e : Bool) =>
 if e then ((Jn fu a b).bind <| fun (f : Bool) =>
 if f then ((Qbc fu c b).bind <| fun (g : Bool) =>
 some g)
 else (some false))
 else (some false))
 else (some false)).bind (fun (h : Bool) => some h)
noncomputable def Qa9 (fu : Nat) (a : Ground) (b : GState) : Option (Bool) :=
 (Qbd fu a b (⟨[], [], []⟩ : Cond)).bind <| fun (c : Bool) =>
 some c
noncomputable def Qac (fu : Nat) (e : Ground) (a : Encoding) (d : GState) : Option ((List Int) × (Option Int)) :=
 ((Qb0 fu e a).bind <| fun (u : Bool) =>
 if !u then (some true)
 else ((Qa9 fu e d).bind <| fun (v : Bool) =>
 some (!v))).bind (fun (w : Bool) => if w then (some ([], some 2))
 else ((mk 8 0 (a.Task.Vars.length : Int)).bind fun k =>
 ctl (QW (R := ((List Int) × (Option Int))) (fun j => QO fun (g : (List Int)) (h : Q0) => (Q9 d.True (j : Int)).bind fun q =>
 (Q9 a.Atoms q).bind fun b =>
 (KP h b.Var).bind fun p =>
 if p then (some (Ctl.ret ([], some 2)))
 else ((Q9 g b.Var).bind fun y =>
 (QaP g b.Var b.Val).bind fun l =>
 (JN h b.Var true).bind fun o =>
 some (Ctl.next (l, o)))) (d.True.length) 0 (k, ([] : Q0))) (fun r => some r) (QO fun (m : (List Int)) (x : Q0) => (forS (fun f => fun (c : (List Int)) => (Q9 a.Fluents (f : Int)).bind fun i =>
 (Q9 d.Values (f : Int)).bind fun s =>
 (Q9 e.Fluents (f : Int)).bind fun t =>
 (Q9 c i).bind fun z =>
 (QaP c i (IntKind.i64.wrap (s - t.Lo))).bind fun n =>
 some n) (a.Fluents.length) 0 m).bind (fun (c : (List Int)) => some (c, none)))))
noncomputable def Qcq (a : (List Int)) (b : (List Int)) : Option (Bool) :=
 if !decide ((a.length : Int) = (b.length : Int)) then (some false)
 else (ctl (QW (R := (Bool)) (fun c => fun (_ : Unit) => (Q9 a (c : Int)).bind fun d =>
 (Q9 b (c : Int)).bind fun e =>
 if !decide (d = e) then (some (Ctl.ret false))
 else (some (Ctl.next ()))) (a.length) 0 ()) (fun r => some r) (fun (_ : Unit) => some true))
noncomputable def K3 (fu : Nat) : Option (Bool) :=
 (QX fu KA ([[0, 1]])).bind <| QO fun (f : (Option Int)) (a : Encoding) =>
 (if f.isSome then (some true)
 else (if !decide ((a.Task.Vars.length : Int) = 2) then (some true)
 else ((Q9 a.Task.Vars 0).bind fun b =>
 if !decide (b = 3) then (some true)
 else (if !decide ((a.Task.Ops.length : Int) = 1) then (some true)
 else ((Q9 a.Task.Ops 0).bind fun c =>
 if !decide ((c.Effs.length : Int) = 2) then (some true)
 else (some (!decide ((a.Atoms.length : Int) = 3)))))))).bind (fun (j : Bool) => if j then (some false)
 else ((Qac fu KA a (⟨[1, 2], []⟩ : GState)).bind <| QO fun (g : (List Int)) (h : (Option Int)) =>
 (if h.isNone then ((Qcq g [2, 1]).bind <| fun (i : Bool) =>
 if i then ((Q9 a.Task.Ops 0).bind fun d =>
 (Q9 d.Effs 1).bind fun e =>
 some (decide (e.Val = 2)))
 else (some false))
 else (some false)).bind (fun (k : Bool) => some k)))
noncomputable def KI (a : (List Int)) (c : Int) : Option (Bool) :=
 ctl (QW (R := (Bool)) (fun b => fun (_ : Unit) => (Q9 a (b : Int)).bind fun d =>
 if decide (d = c) then (some (Ctl.ret true))
 else (some (Ctl.next ()))) (a.length) 0 ()) (fun r => some r) (fun (_ : Unit) => some false)
noncomputable def Qay (a : (List Int)) (c : Int) : Option (Bool) :=
 ctl (QW (R := (Bool)) (fun b => fun (_ : Unit) => (Q9 a (b : Int)).bind fun d =>
 if decide (d = c) then (some (Ctl.ret true))
 else (some (Ctl.next ()))) (a.length) 0 ()) (fun r => some r) (fun (_ : Unit) => some false)
noncomputable def J6 (h : GOp) (f : (List GChange)) (j : Int) (g : (List Int)) : Option ((List Int) × (List Int) × Bool) :=
 (app 8 [] h.Pre.Pos).bind fun n =>
 (app 8 [] h.Pre.Neg).bind fun o =>
 (forS (fun k => QO fun (c : (List Int)) (d : (List Int)) => (Q9 f (k : Int)).bind fun i =>
 (app 8 c i.When.Pos).bind fun p =>
 (app 8 d i.When.Neg).bind fun q =>
 some (p, q)) (f.length) 0 (n, o)).bind (QO fun (c : (List Int)) (d : (List Int)) => (forS (fun l => QO fun (a : (List Int)) (b : (List Int)) => (Q9 g (l : Int)).bind fun e =>
 (if decide (e = j) then ((app 8 a [e]).bind fun s =>
 some (s, b))
 else ((app 8 b [e]).bind fun t =>
 some (a, t))).bind (QO fun (u : (List Int)) (v : (List Int)) => some (u, v))) (g.length) 0 (c, d)).bind (QO fun (a : (List Int)) (b : (List Int)) => ctl (QW (R := ((List Int) × (List Int) × Bool)) (fun m => fun (_ : Unit) => (Q9 a (m : Int)).bind fun w =>
 (Qay b w).bind <| fun (x : Bool) =>
 if x then (some (Ctl.ret (a, b, false)))
 else (some (Ctl.next ()))) (a.length) 0 ()) (fun r => some r) (fun (_ : Unit) => some (a, b, true))))
noncomputable def K9 (a : (List Int)) (b : (List Int)) : Option (Bool) :=
 ctl (QW (R := (Bool)) (fun c => fun (_ : Unit) => (Q9 a (c : Int)).bind fun d =>
 (KI b d).bind <| fun (e : Bool) =>
 if !e then (some (Ctl.ret false))
 else (some (Ctl.next ()))) (a.length) 0 ()) (fun r => some r) (fun (_ : Unit) => some true)
noncomputable def Yb (b : GOp) (f : Int) (e : (List Int)) (d : (List Int)) : Option (Bool) :=
 ctl (QW (R := (Bool)) (fun c => fun (_ : Unit) => (Q9 b.Changes (c : Int)).bind fun a =>
 (if !a.Add then (if decide (a.Atom = f) then (if decide ((a.When.Tests.length : Int) = 0) then ((K9 a.When.Pos e).bind <| fun (g : Bool) =>
 if g then ((K9 a.When.Neg d).bind <| fun (h : Bool) =>
 some h)
 else (some false))
 else (some false))
 else (some false))
 else (some false)).bind (fun (i : Bool) => if i then (some (Ctl.ret true))
 else (some (Ctl.next ())))) (b.Changes.length) 0 ()) (fun r => some r) (fun (_ : Unit) => some false)
noncomputable def KB (b : GOp) (a : (List Int)) : Option (Bool) :=
 ctl (QW (R := (Bool)) (fun g => fun (_ : Unit) => (Q9 b.Changes (g : Int)).bind fun c =>
 (if !c.Add then (some true)
 else ((KI a c.Atom).bind <| fun (l : Bool) =>
 some (!l))).bind (fun (t : Bool) => if t then (some (Ctl.next ()))
 else (ctl (QW (R := (Bool)) (fun h => fun (_ : Unit) => (Q9 b.Changes (h : Int)).bind fun d =>
 (if !d.Add then (some true)
 else ((KI a d.Atom).bind <| fun (m : Bool) =>
 if !m then (some true)
 else (some (decide (d.Atom = c.Atom))))).bind (fun (u : Bool) => if u then (some (Ctl.next ()))
 else ((app 8 [(-1)] a).bind fun f =>
 ctl (QW (R := (Bool)) (fun i => fun (_ : Unit) => (Q9 f (i : Int)).bind fun k =>
 (J6 b [c, d] k a).bind <| un3 fun (w : (List Int)) (x : (List Int)) (n : Bool) =>
 if n then (some (Ctl.ret false))
 else (some (Ctl.next ()))) (f.length) 0 ()) (fun r => some (Ctl.ret r)) (fun (_ : Unit) => some (Ctl.next ()))))) (b.Changes.length) 0 ()) (fun r => some (Ctl.ret r)) (fun (_ : Unit) => ctl (QW (R := (Bool)) (fun j => fun (_ : Unit) => (Q9 a (j : Int)).bind fun e =>
 if decide (e = c.Atom) then (some (Ctl.next ()))
 else ((J6 b [c] e a).bind <| un3 fun (o : (List Int)) (p : (List Int)) (q : Bool) =>
 (if q then ((Yb b e o p).bind <| fun (s : Bool) =>
 some (!s))
 else (some false)).bind (fun (v : Bool) => if v then (some (Ctl.ret false))
 else (some (Ctl.next ()))))) (a.length) 0 ()) (fun r => some (Ctl.ret r)) (fun (_ : Unit) => some (Ctl.next ())))))) (b.Changes.length) 0 ()) (fun r => some r) (fun (_ : Unit) => some true)
noncomputable def JQ (a : Ground) (b : (List Int)) : Option (Bool) :=
 ctl (QW (R := (Bool)) (fun d => fun (e : Int) => (Q9 b (d : Int)).bind fun c =>
 (if decide (c < 0) then (some true)
 else (if decide ((a.Atoms.length : Int) ≤ c) then (some true)
 else (if decide (0 < (d : Int)) then ((Q9 b (IntKind.i64.wrap ((d : Int) - 1))).bind fun i =>
 some (decide (c ≤ i)))
 else (some false)))).bind (fun (m : Bool) => if m then (some (Ctl.ret false))
 else ((KI a.Init c).bind <| fun (k : Bool) =>
 (if k then (some (IntKind.i64.wrap (e + 1)))
 else (some e)).bind (fun (g : Int) => some (Ctl.next g))))) (b.length) 0 0) (fun r => some r) (fun (h : Int) => if decide (1 < h) then (some false)
 else (ctl (QW (R := (Bool)) (fun f => fun (_ : Unit) => (Q9 a.Ops (f : Int)).bind fun j =>
 (KB j b).bind <| fun (l : Bool) =>
 if !l then (some (Ctl.ret false))
 else (some (Ctl.next ()))) (a.Ops.length) 0 ()) (fun r => some r) (fun (_ : Unit) => some true)))
noncomputable def QaX (a : (Option Int)) : Option (Int) :=
 if a.isNone then (some 0)
 else (if a.isSome then (some (a.getD 0))
 else (some (-1)))
def YJ (a : (Option Int)) : Int :=
 if a.isNone then (0)
 else (if a.isSome then ((a.getD 0))
 else ((-1)))
theorem Qd7 (a : (Option Int)) : QaX a = some (YJ a) := by
 unfold QaX YJ
 (repeat' split) <;> rfl
attribute [irreducible] YJ
noncomputable def QbF (a : (Option Int)) (b : Int) : Option (Bool) :=
 some (a.isSome && decide ((YJ a) = b))
def YM (a : (Option Int)) (b : Int) : Bool :=
 (a.isSome && decide ((YJ a) = b))
theorem Qbp (b : (Option Int)) (a : Int) : QbF b a = some (YM b a) := by
 unfold QbF YM
 (repeat' split) <;> rfl
attribute [irreducible] YM
noncomputable def JW (fu : Nat) (g1 : Ground) (group12 : (List Int)) : Option (Bool) :=
 ((YC fu g1).bind <| fun (g : Bool) =>
 if g then (some true)
 else (if decide (100 < (group12.length : Int)) then (some true)
 else ((K3 fu).bind <| fun (h : Bool) =>
 some (!h)))).bind (fun (l : Bool) => if l then ((K3 fu).bind <| fun (i : Bool) =>
 some i)
 else ((QX fu g1 [group12]).bind <| QO fun (c : (Option Int)) (p : Encoding) =>
 ((J0 fu g1).bind <| fun (j : Bool) =>
 if !j then (some true)
 else ((JQ g1 group12).bind <| fun (k : Bool) =>
 some (!k))).bind (fun (m : Bool) => if m then (some (YM c 2))
 else ((QX fu g1 ([] : (List (List Int)))).bind <| QO fun (e : (Option Int)) (b : Encoding) =>
 if e.isSome then (some (YM e 5))
 else (ctl (JA (R := (Bool)) (fun (a : Int) => if decide (a < (b.Atoms.length : Int)) then (((Q9 b.Atoms a).bind fun d =>
 if !(eqs [d.Var, d.Val] [a, 1]) then (some true)
 else (if decide ((b.Task.Vars.length : Int) ≤ a) then (some true)
 else ((Q9 b.Task.Vars a).bind fun f =>
 some (!decide (f = 2))))).bind (fun (n : Bool) => if n then (some (Ctl.ret false))
 else (some (Ctl.next (IntKind.i64.wrap (a + 1))))))
 else (some (Ctl.brk a))) 0) (fun r => some r) (fun (o : Int) => some ((decide ((b.Atoms.length : Int) = (g1.Atoms.length : Int))) && (c.isNone || (YM c 5)))))))))
end Go.Pw
