/-
  What the functions compute, in plain Lean (printed by my generator).
-/
import Derived.Test.YtkfcbmecmdpilaaL6
import Derived.Test.YtkfcbmecmdpilaaL11
import Derived.Test.YtkfcbmecmdpilaaL14
import Derived.Test.YtkfcbmecmdpilaaL16
import Derived.Test.YtkfcbmecmdpilaaL30
import Derived.Test.YtkfcbmecmdpilaaL31
import Derived.Test.YtkfcbmecmdpilaaL34
set_option maxRecDepth 100000
set_option maxHeartbeats 4000000
set_option linter.unusedVariables false
namespace Go.Pw
structure Atom where
  Name : ByteArray
  Args : (List ByteArray)
def encAtom : Enc Atom := Enc.iso (encStr.pair (encSlice encStr)) (fun b => (b.Name, b.Args))
theorem encAtom_val {s : PHeap} {v : Value} {b : Atom} : encAtom.val s v b ↔ ∃ u1, v = .agg #[.string (b.Name), u1] ∧ SliceRep encStr s u1 (b.Args) := by
  simp only [Enc.iso, Enc.pair, Enc.val, encAtom, encSlice, encStr, if_true, oneCell]
  constructor
  · rintro ⟨cs, rfl, h⟩
    obtain ⟨cs⟩ := cs
    simp only [] at h
    obtain ⟨_, _, rfl, rfl, ⟨w1, rfl, h1⟩⟩ := h
    exact ⟨w1, rfl, h1⟩
  · rintro ⟨w1, rfl, h1⟩
    exact ⟨_, rfl, ⟨[.string (b.Name)], [w1], rfl, rfl, ⟨w1, rfl, h1⟩⟩⟩
structure GFluent where
  Fluent : Atom
  Lo : Int
  Hi : Int
  Init : Int
def encGFluent : Enc GFluent := Enc.iso (encAtom.pair ((encInt .i64).pair ((encInt .i64).pair (encInt .i64)))) (fun b => (b.Fluent, b.Lo, b.Hi, b.Init))
theorem encGFluent_val {s : PHeap} {v : Value} {b : GFluent} : encGFluent.val s v b ↔ ∃ u1, v = .agg #[.string (b.Fluent.Name), u1, .int .i64 (b.Lo), .int .i64 (b.Hi), .int .i64 (b.Init)] ∧ SliceRep encStr s u1 (b.Fluent.Args) := by
  simp only [Enc.iso, Enc.pair, Enc.val, encAtom, encGFluent, encInt, encSlice, encStr, if_true, oneCell]
  constructor
  · rintro ⟨cs, rfl, h⟩
    obtain ⟨cs⟩ := cs
    simp only [] at h
    obtain ⟨_, _, rfl, ⟨_, _, rfl, rfl, ⟨w1, rfl, h1⟩⟩, ⟨_, _, rfl, rfl, ⟨_, _, rfl, rfl, rfl⟩⟩⟩ := h
    exact ⟨w1, rfl, h1⟩
  · rintro ⟨w1, rfl, h1⟩
    exact ⟨_, rfl, ⟨[.string (b.Fluent.Name), w1], [.int .i64 (b.Lo), .int .i64 (b.Hi), .int .i64 (b.Init)], rfl, ⟨[.string (b.Fluent.Name)], [w1], rfl, rfl, ⟨w1, rfl, h1⟩⟩, ⟨[.int .i64 (b.Lo)], [.int .i64 (b.Hi), .int .i64 (b.Init)], rfl, rfl, ⟨[.int .i64 (b.Hi)], [.int .i64 (b.Init)], rfl, rfl, rfl⟩⟩⟩⟩
structure GExpr where
  Op : ByteArray
  N : Int
  Kids : (List GExpr)
def encGExprF (E : Enc GExpr) : Enc GExpr := Enc.iso (encStr.pair ((encInt .i64).pair (encSlice E))) (fun b => (b.Op, b.N, b.Kids))
theorem encGExprF_sup (G : Nat → Enc GExpr) (L : Enc GExpr) (h : Enc.Sup G L) : Enc.Sup (fun n => encGExprF (G n)) (encGExprF L) := Enc.Sup.iso _ (Enc.Sup.snd _ (Enc.Sup.snd _ (Enc.Sup.slice h)))
def encGExpr : Enc GExpr := Enc.fix encGExprF 3 (by decide) (fun _ _ => rfl)
theorem encGExpr_iff (s : PHeap) (cs : List Value) (a : GExpr) : encGExpr.rep s cs a ↔ (encGExprF encGExpr).rep s cs a := Enc.fix_iff (fun _ _ => Enc.le_of_sup encGExprF_sup) encGExprF_sup s cs a
theorem encGExpr_val {s : PHeap} {v : Value} {b : GExpr} : encGExpr.val s v b ↔ ∃ u1, v = .agg #[.string (b.Op), .int .i64 (b.N), u1] ∧ SliceRep encGExpr s u1 (b.Kids) := by
  refine (Enc.val_iff (E := encGExpr) (E' := encGExprF encGExpr) rfl encGExpr_iff s v b).trans ?_
  simp only [Enc.iso, Enc.pair, Enc.val, encGExprF, encGExpr_iff, encInt, encSlice, encStr, if_true, oneCell]
  constructor
  · rintro ⟨cs, rfl, h⟩
    obtain ⟨cs⟩ := cs
    simp only [] at h
    obtain ⟨_, _, rfl, rfl, ⟨_, _, rfl, rfl, ⟨w1, rfl, h1⟩⟩⟩ := h
    exact ⟨w1, rfl, h1⟩
  · rintro ⟨w1, rfl, h1⟩
    exact ⟨_, rfl, ⟨[.string (b.Op)], [.int .i64 (b.N), w1], rfl, rfl, ⟨[.int .i64 (b.N)], [w1], rfl, rfl, ⟨w1, rfl, h1⟩⟩⟩⟩
structure GTest where
  Op : ByteArray
  A : GExpr
  B : GExpr
def encGTest : Enc GTest := Enc.iso (encStr.pair (encGExpr.pair encGExpr)) (fun b => (b.Op, b.A, b.B))
theorem encGTest_val {s : PHeap} {v : Value} {b : GTest} : encGTest.val s v b ↔ ∃ u1, ∃ u2, v = .agg #[.string (b.Op), .string (b.A.Op), .int .i64 (b.A.N), u1, .string (b.B.Op), .int .i64 (b.B.N), u2] ∧ SliceRep encGExpr s u1 (b.A.Kids) ∧ SliceRep encGExpr s u2 (b.B.Kids) := by
  simp only [Enc.iso, Enc.pair, Enc.val, encGExprF, encGExpr_iff, encGTest, encInt, encSlice, encStr, if_true, oneCell]
  constructor
  · rintro ⟨cs, rfl, h⟩
    obtain ⟨cs⟩ := cs
    simp only [] at h
    obtain ⟨_, _, rfl, rfl, ⟨_, _, rfl, ⟨_, _, rfl, rfl, ⟨_, _, rfl, rfl, ⟨w1, rfl, h1⟩⟩⟩, ⟨_, _, rfl, rfl, ⟨_, _, rfl, rfl, ⟨w2, rfl, h2⟩⟩⟩⟩⟩ := h
    exact ⟨w1, w2, rfl, h1, h2⟩
  · rintro ⟨w1, w2, rfl, h1, h2⟩
    exact ⟨_, rfl, ⟨[.string (b.Op)], [.string (b.A.Op), .int .i64 (b.A.N), w1, .string (b.B.Op), .int .i64 (b.B.N), w2], rfl, rfl, ⟨[.string (b.A.Op), .int .i64 (b.A.N), w1], [.string (b.B.Op), .int .i64 (b.B.N), w2], rfl, ⟨[.string (b.A.Op)], [.int .i64 (b.A.N), w1], rfl, rfl, ⟨[.int .i64 (b.A.N)], [w1], rfl, rfl, ⟨w1, rfl, h1⟩⟩⟩, ⟨[.string (b.B.Op)], [.int .i64 (b.B.N), w2], rfl, rfl, ⟨[.int .i64 (b.B.N)], [w2], rfl, rfl, ⟨w2, rfl, h2⟩⟩⟩⟩⟩⟩
structure Cond where
  Pos : (List Int)
  Neg : (List Int)
  Tests : (List GTest)
def encCond : Enc Cond := Enc.iso ((encSlice (encInt .i64)).pair ((encSlice (encInt .i64)).pair (encSlice encGTest))) (fun b => (b.Pos, b.Neg, b.Tests))
theorem encCond_val {s : PHeap} {v : Value} {b : Cond} : encCond.val s v b ↔ ∃ u1, ∃ u2, ∃ u3, v = .agg #[u1, u2, u3] ∧ SliceRep (encInt .i64) s u1 (b.Pos) ∧ SliceRep (encInt .i64) s u2 (b.Neg) ∧ SliceRep encGTest s u3 (b.Tests) := by
  simp only [Enc.iso, Enc.pair, Enc.val, encCond, encSlice, if_true]
  constructor
  · rintro ⟨cs, rfl, h⟩
    obtain ⟨cs⟩ := cs
    simp only [] at h
    obtain ⟨_, _, rfl, ⟨w1, rfl, h1⟩, ⟨_, _, rfl, ⟨w2, rfl, h2⟩, ⟨w3, rfl, h3⟩⟩⟩ := h
    exact ⟨w1, w2, w3, rfl, h1, h2, h3⟩
  · rintro ⟨w1, w2, w3, rfl, h1, h2, h3⟩
    exact ⟨_, rfl, ⟨[w1], [w2, w3], rfl, ⟨w1, rfl, h1⟩, ⟨[w2], [w3], rfl, ⟨w2, rfl, h2⟩, ⟨w3, rfl, h3⟩⟩⟩⟩
structure GChange where
  When : Cond
  Atom : Int
  Add : Bool
def encGChange : Enc GChange := Enc.iso (encCond.pair ((encInt .i64).pair encBool)) (fun b => (b.When, b.Atom, b.Add))
theorem encGChange_val {s : PHeap} {v : Value} {b : GChange} : encGChange.val s v b ↔ ∃ u1, ∃ u2, ∃ u3, v = .agg #[u1, u2, u3, .int .i64 (b.Atom), .bool (b.Add)] ∧ SliceRep (encInt .i64) s u1 (b.When.Pos) ∧ SliceRep (encInt .i64) s u2 (b.When.Neg) ∧ SliceRep encGTest s u3 (b.When.Tests) := by
  simp only [Enc.iso, Enc.pair, Enc.val, encBool, encCond, encGChange, encInt, encSlice, if_true, oneCell]
  constructor
  · rintro ⟨cs, rfl, h⟩
    obtain ⟨cs⟩ := cs
    simp only [] at h
    obtain ⟨_, _, rfl, ⟨_, _, rfl, ⟨w1, rfl, h1⟩, ⟨_, _, rfl, ⟨w2, rfl, h2⟩, ⟨w3, rfl, h3⟩⟩⟩, ⟨_, _, rfl, rfl, rfl⟩⟩ := h
    exact ⟨w1, w2, w3, rfl, h1, h2, h3⟩
  · rintro ⟨w1, w2, w3, rfl, h1, h2, h3⟩
    exact ⟨_, rfl, ⟨[w1, w2, w3], [.int .i64 (b.Atom), .bool (b.Add)], rfl, ⟨[w1], [w2, w3], rfl, ⟨w1, rfl, h1⟩, ⟨[w2], [w3], rfl, ⟨w2, rfl, h2⟩, ⟨w3, rfl, h3⟩⟩⟩, ⟨[.int .i64 (b.Atom)], [.bool (b.Add)], rfl, rfl, rfl⟩⟩⟩
structure GAssign where
  Fluent : Int
  Value : GExpr
def encGAssign : Enc GAssign := Enc.iso ((encInt .i64).pair encGExpr) (fun b => (b.Fluent, b.Value))
theorem encGAssign_val {s : PHeap} {v : Value} {b : GAssign} : encGAssign.val s v b ↔ ∃ u1, v = .agg #[.int .i64 (b.Fluent), .string (b.Value.Op), .int .i64 (b.Value.N), u1] ∧ SliceRep encGExpr s u1 (b.Value.Kids) := by
  simp only [Enc.iso, Enc.pair, Enc.val, encGAssign, encGExprF, encGExpr_iff, encInt, encSlice, encStr, if_true, oneCell]
  constructor
  · rintro ⟨cs, rfl, h⟩
    obtain ⟨cs⟩ := cs
    simp only [] at h
    obtain ⟨_, _, rfl, rfl, ⟨_, _, rfl, rfl, ⟨_, _, rfl, rfl, ⟨w1, rfl, h1⟩⟩⟩⟩ := h
    exact ⟨w1, rfl, h1⟩
  · rintro ⟨w1, rfl, h1⟩
    exact ⟨_, rfl, ⟨[.int .i64 (b.Fluent)], [.string (b.Value.Op), .int .i64 (b.Value.N), w1], rfl, rfl, ⟨[.string (b.Value.Op)], [.int .i64 (b.Value.N), w1], rfl, rfl, ⟨[.int .i64 (b.Value.N)], [w1], rfl, rfl, ⟨w1, rfl, h1⟩⟩⟩⟩⟩
structure GOp where
  Name : ByteArray
  Cost : Int
  Pre : Cond
  Changes : (List GChange)
  Assigns : (List GAssign)
def encGOp : Enc GOp := Enc.iso (encStr.pair ((encInt .i64).pair (encCond.pair ((encSlice encGChange).pair (encSlice encGAssign))))) (fun b => (b.Name, b.Cost, b.Pre, b.Changes, b.Assigns))
theorem encGOp_val {s : PHeap} {v : Value} {b : GOp} : encGOp.val s v b ↔ ∃ u1, ∃ u2, ∃ u3, ∃ u4, ∃ u5, v = .agg #[.string (b.Name), .int .i64 (b.Cost), u1, u2, u3, u4, u5] ∧ SliceRep (encInt .i64) s u1 (b.Pre.Pos) ∧ SliceRep (encInt .i64) s u2 (b.Pre.Neg) ∧ SliceRep encGTest s u3 (b.Pre.Tests) ∧ SliceRep encGChange s u4 (b.Changes) ∧ SliceRep encGAssign s u5 (b.Assigns) := by
  simp only [Enc.iso, Enc.pair, Enc.val, encCond, encGOp, encInt, encSlice, encStr, if_true, oneCell]
  constructor
  · rintro ⟨cs, rfl, h⟩
    obtain ⟨cs⟩ := cs
    simp only [] at h
    obtain ⟨_, _, rfl, rfl, ⟨_, _, rfl, rfl, ⟨_, _, rfl, ⟨_, _, rfl, ⟨w1, rfl, h1⟩, ⟨_, _, rfl, ⟨w2, rfl, h2⟩, ⟨w3, rfl, h3⟩⟩⟩, ⟨_, _, rfl, ⟨w4, rfl, h4⟩, ⟨w5, rfl, h5⟩⟩⟩⟩⟩ := h
    exact ⟨w1, w2, w3, w4, w5, rfl, h1, h2, h3, h4, h5⟩
  · rintro ⟨w1, w2, w3, w4, w5, rfl, h1, h2, h3, h4, h5⟩
    exact ⟨_, rfl, ⟨[.string (b.Name)], [.int .i64 (b.Cost), w1, w2, w3, w4, w5], rfl, rfl, ⟨[.int .i64 (b.Cost)], [w1, w2, w3, w4, w5], rfl, rfl, ⟨[w1, w2, w3], [w4, w5], rfl, ⟨[w1], [w2, w3], rfl, ⟨w1, rfl, h1⟩, ⟨[w2], [w3], rfl, ⟨w2, rfl, h2⟩, ⟨w3, rfl, h3⟩⟩⟩, ⟨[w4], [w5], rfl, ⟨w4, rfl, h4⟩, ⟨w5, rfl, h5⟩⟩⟩⟩⟩⟩
structure Ground where
  Atoms : (List Atom)
  Fluents : (List GFluent)
  Init : (List Int)
  Goal : (List Cond)
  Ops : (List GOp)
def encGround : Enc Ground := Enc.iso ((encSlice encAtom).pair ((encSlice encGFluent).pair ((encSlice (encInt .i64)).pair ((encSlice encCond).pair (encSlice encGOp))))) (fun b => (b.Atoms, b.Fluents, b.Init, b.Goal, b.Ops))
theorem encGround_val {s : PHeap} {v : Value} {b : Ground} : encGround.val s v b ↔ ∃ u1, ∃ u2, ∃ u3, ∃ u4, ∃ u5, v = .agg #[u1, u2, u3, u4, u5] ∧ SliceRep encAtom s u1 (b.Atoms) ∧ SliceRep encGFluent s u2 (b.Fluents) ∧ SliceRep (encInt .i64) s u3 (b.Init) ∧ SliceRep encCond s u4 (b.Goal) ∧ SliceRep encGOp s u5 (b.Ops) := by
  simp only [Enc.iso, Enc.pair, Enc.val, encGround, encSlice, if_true]
  constructor
  · rintro ⟨cs, rfl, h⟩
    obtain ⟨cs⟩ := cs
    simp only [] at h
    obtain ⟨_, _, rfl, ⟨w1, rfl, h1⟩, ⟨_, _, rfl, ⟨w2, rfl, h2⟩, ⟨_, _, rfl, ⟨w3, rfl, h3⟩, ⟨_, _, rfl, ⟨w4, rfl, h4⟩, ⟨w5, rfl, h5⟩⟩⟩⟩⟩ := h
    exact ⟨w1, w2, w3, w4, w5, rfl, h1, h2, h3, h4, h5⟩
  · rintro ⟨w1, w2, w3, w4, w5, rfl, h1, h2, h3, h4, h5⟩
    exact ⟨_, rfl, ⟨[w1], [w2, w3, w4, w5], rfl, ⟨w1, rfl, h1⟩, ⟨[w2], [w3, w4, w5], rfl, ⟨w2, rfl, h2⟩, ⟨[w3], [w4, w5], rfl, ⟨w3, rfl, h3⟩, ⟨[w4], [w5], rfl, ⟨w4, rfl, h4⟩, ⟨w5, rfl, h5⟩⟩⟩⟩⟩⟩
noncomputable def law18_size_p : Nat → GExpr → Option (Int)
  | 0, _ => none
  | fu + 1, e91 =>
  ctl (whileC (R := (Int)) (un2 fun (b : Int) (a : Int) => if ((decide (a < (e91.Kids.length : Int))) && decide (b < 2000)) then ((idx e91.Kids a).bind fun d =>
  (law18_size_p fu d).bind <| fun (e : Int) =>
  some (Ctl.next (IntKind.i64.wrap (b + e), IntKind.i64.wrap (a + 1))))
  else (some (Ctl.brk (b, a)))) (1, 0)) (fun r => some r) (un2 fun (c : Int) (f : Int) => some c)
noncomputable def law18_heavy_p (fu : Nat) (c54 : Cond) : Option (Int) :=
  ctl (whileC (R := (Int)) (un2 fun (b : Int) (a : Int) => if decide (a < (c54.Tests.length : Int)) then ((idx c54.Tests a).bind fun c =>
  (law18_size_p fu c.A).bind <| fun (e : Int) =>
  (law18_size_p fu c.B).bind <| fun (f : Int) =>
  some (Ctl.next (IntKind.i64.wrap (b + (IntKind.i64.wrap (e + f))), IntKind.i64.wrap (a + 1))))
  else (some (Ctl.brk (b, a)))) (IntKind.i64.wrap ((c54.Pos.length : Int) + (c54.Neg.length : Int)), 0)) (fun r => some r) (un2 fun (d : Int) (g : Int) => some d)
noncomputable def law18_Large_p (fu : Nat) (g20 : Ground) : Option (Bool) :=
  ctl (whileC (R := (Bool)) (un2 fun (f : Int) (b : Int) => if decide (b < (g20.Goal.length : Int)) then ((idx g20.Goal b).bind fun n =>
  (law18_heavy_p fu n).bind <| fun (q : Int) =>
  some (Ctl.next (IntKind.i64.wrap (f + (IntKind.i64.wrap (1 + q))), IntKind.i64.wrap (b + 1))))
  else (some (Ctl.brk (f, b)))) (IntKind.i64.wrap ((IntKind.i64.wrap ((g20.Atoms.length : Int) + (g20.Fluents.length : Int))) + (g20.Init.length : Int)), 0)) (fun r => some r) (un2 fun (j : Int) (v : Int) => ctl (whileC (R := (Bool)) (un2 fun (g : Int) (c : Int) => if decide (c < (g20.Ops.length : Int)) then ((idx g20.Ops c).bind fun a =>
  (law18_heavy_p fu a.Pre).bind <| fun (s : Int) =>
  ctl (whileC (R := (Bool)) (un2 fun (h : Int) (d : Int) => if decide (d < (a.Changes.length : Int)) then ((idx a.Changes d).bind fun o =>
  (law18_heavy_p fu o.When).bind <| fun (t : Int) =>
  some (Ctl.next (IntKind.i64.wrap (h + (IntKind.i64.wrap (1 + t))), IntKind.i64.wrap (d + 1))))
  else (some (Ctl.brk (h, d)))) (IntKind.i64.wrap (g + (IntKind.i64.wrap ((IntKind.i64.wrap (1 + s)) + (IntKind.i64.wrap ((a.Name.size : Int).tdiv 100))))), 0)) (fun r => some (Ctl.ret r)) (un2 fun (k : Int) (x : Int) => ctl (whileC (R := (Bool)) (un2 fun (i : Int) (e : Int) => if decide (e < (a.Assigns.length : Int)) then ((idx a.Assigns e).bind fun p =>
  (law18_size_p fu p.Value).bind <| fun (u : Int) =>
  some (Ctl.next (IntKind.i64.wrap (i + u), IntKind.i64.wrap (e + 1))))
  else (some (Ctl.brk (i, e)))) (k, 0)) (fun r => some (Ctl.ret r)) (un2 fun (l : Int) (y : Int) => some (Ctl.next (l, IntKind.i64.wrap (c + 1))))))
  else (some (Ctl.brk (g, c)))) (j, 0)) (fun r => some r) (un2 fun (m : Int) (w : Int) => some (decide (3000 < m))))
noncomputable def law19_sample_p  : Option (Ground) :=
  some (⟨[(⟨⟨#[112]⟩, []⟩ : Atom), (⟨⟨#[113]⟩, []⟩ : Atom), (⟨⟨#[114]⟩, []⟩ : Atom)], [], [0, 2], [(⟨[1], [], []⟩ : Cond)], [(⟨⟨#[40, 97, 41]⟩, 2, (⟨[0], [], []⟩ : Cond), [(⟨(⟨[], [], []⟩ : Cond), 1, true⟩ : GChange), (⟨(⟨[], [], []⟩ : Cond), 2, true⟩ : GChange)], []⟩ : GOp), (⟨⟨#[40, 98, 41]⟩, 1, (⟨[], [], []⟩ : Cond), [(⟨(⟨[], [], []⟩ : Cond), 2, true⟩ : GChange)], []⟩ : GOp), (⟨⟨#[40, 99, 41]⟩, 1, (⟨[0], [], []⟩ : Cond), [(⟨(⟨[], [], []⟩ : Cond), 1, true⟩ : GChange), (⟨(⟨[], [], []⟩ : Cond), 2, false⟩ : GChange)], []⟩ : GOp)]⟩ : Ground)
def law19_sample_t  : Ground :=
  (⟨[(⟨⟨#[112]⟩, []⟩ : Atom), (⟨⟨#[113]⟩, []⟩ : Atom), (⟨⟨#[114]⟩, []⟩ : Atom)], [], [0, 2], [(⟨[1], [], []⟩ : Cond)], [(⟨⟨#[40, 97, 41]⟩, 2, (⟨[0], [], []⟩ : Cond), [(⟨(⟨[], [], []⟩ : Cond), 1, true⟩ : GChange), (⟨(⟨[], [], []⟩ : Cond), 2, true⟩ : GChange)], []⟩ : GOp), (⟨⟨#[40, 98, 41]⟩, 1, (⟨[], [], []⟩ : Cond), [(⟨(⟨[], [], []⟩ : Cond), 2, true⟩ : GChange)], []⟩ : GOp), (⟨⟨#[40, 99, 41]⟩, 1, (⟨[0], [], []⟩ : Cond), [(⟨(⟨[], [], []⟩ : Cond), 1, true⟩ : GChange), (⟨(⟨[], [], []⟩ : Cond), 2, false⟩ : GChange)], []⟩ : GOp)]⟩ : Ground)
theorem law19_sample_tot  : law19_sample_p  = some (law19_sample_t ) := by
  unfold law19_sample_p law19_sample_t
  (repeat' split) <;> rfl
attribute [irreducible] law19_sample_t
noncomputable def ground_fluent_p (a : GFluent) : Option (Bool) :=
  some ((decide ((-1099511627776) ≤ a.Lo)) && ((decide (a.Lo ≤ a.Init)) && ((decide (a.Init ≤ a.Hi)) && ((decide (a.Hi ≤ 1099511627776)) && decide ((IntKind.i64.wrap (a.Hi - a.Lo)) < 64)))))
def ground_fluent_t (a : GFluent) : Bool :=
  ((decide ((-1099511627776) ≤ a.Lo)) && ((decide (a.Lo ≤ a.Init)) && ((decide (a.Init ≤ a.Hi)) && ((decide (a.Hi ≤ 1099511627776)) && decide ((IntKind.i64.wrap (a.Hi - a.Lo)) < 64)))))
theorem ground_fluent_tot (a : GFluent) : ground_fluent_p a = some (ground_fluent_t a) := by
  unfold ground_fluent_p ground_fluent_t
  (repeat' split) <;> rfl
attribute [irreducible] ground_fluent_t
noncomputable def ground_Valid_c1_p (a : GFluent) : Option (Bool) :=
  some (!(ground_fluent_t a))
def ground_Valid_c1_t (a : GFluent) : Bool :=
  (!(ground_fluent_t a))
theorem ground_Valid_c1_tot (a : GFluent) : ground_Valid_c1_p a = some (ground_Valid_c1_t a) := by
  unfold ground_Valid_c1_p ground_Valid_c1_t
  (repeat' split) <;> rfl
attribute [irreducible] ground_Valid_c1_t
noncomputable def api_GFluent__f52_87_p (b : (List GFluent)) : Option (Int) :=
  ctl (forC (R := (Int)) (fun a => fun (_ : Unit) => (idx b (a : Int)).bind fun c =>
  if (ground_Valid_c1_t c) then (some (Ctl.ret (a : Int)))
  else (some (Ctl.next ()))) (b.length) 0 ()) (fun r => some r) (fun (_ : Unit) => some (-1))
noncomputable def api_GFluent__f52_p (a : (List GFluent)) : Option (Bool) :=
  (api_GFluent__f52_87_p a).bind <| fun (b : Int) =>
  some (decide (0 ≤ b))
noncomputable def ground_indices_p (b : (List Int)) (d : Int) : Option (Bool) :=
  ctl (forC (R := (Bool)) (fun a => fun (_ : Unit) => (idx b (a : Int)).bind fun c =>
  (if decide (c < 0) then (some true)
  else (if decide (d ≤ c) then (some true)
  else (if decide (0 < (a : Int)) then ((idx b (IntKind.i64.wrap ((a : Int) - 1))).bind fun e =>
  some (decide (c ≤ e)))
  else (some false)))).bind (fun (f : Bool) => if f then (some (Ctl.ret false))
  else (some (Ctl.next ())))) (b.length) 0 ()) (fun r => some r) (fun (_ : Unit) => some true)
noncomputable def ground_right_p : Nat → GExpr → Int → Option (Bool)
  | 0, _, _ => none
  | fu + 1, a, b =>
  if decide (a.Op = (⟨#[110, 117, 109, 98, 101, 114]⟩)) then (some ((decide ((a.Kids.length : Int) = 0)) && ((decide ((-1099511627776) ≤ a.N)) && decide (a.N ≤ 1099511627776))))
  else (if decide (a.Op = (⟨#[102, 108, 117, 101, 110, 116]⟩)) then (some ((decide ((a.Kids.length : Int) = 0)) && ((decide (0 ≤ a.N)) && decide (a.N < b))))
  else ((if decide (a.Op = (⟨#[43]⟩)) then (some (decide (a.Op = (⟨#[43]⟩))))
  else ((if decide (a.Op = (⟨#[45]⟩)) then (some (decide (a.Op = (⟨#[45]⟩))))
  else (some (decide (a.Op = (⟨#[42]⟩))))).bind (fun (g : Bool) => some g))).bind (fun (h : Bool) => if h then ((if decide (a.N = 0) then (if decide ((a.Kids.length : Int) = 2) then ((idx a.Kids 0).bind fun c =>
  (ground_right_p fu c b).bind <| fun (e : Bool) =>
  if e then ((idx a.Kids 1).bind fun d =>
  (ground_right_p fu d b).bind <| fun (f : Bool) =>
  some f)
  else (some false))
  else (some false))
  else (some false)).bind (fun (i : Bool) => some i))
  else (some false))))
noncomputable def ground_condition_p (fu : Nat) (b : Ground) (c : Cond) : Option (Bool) :=
  ctl (forC (R := (Bool)) (fun d => fun (_ : Unit) => (idx c.Tests (d : Int)).bind fun a =>
  (if !decide (a.Op = (⟨#[60]⟩)) then (if !decide (a.Op = (⟨#[60, 61]⟩)) then (if !decide (a.Op = (⟨#[61]⟩)) then (some true)
  else ((ground_right_p fu a.A (b.Fluents.length : Int)).bind <| fun (e : Bool) =>
  if !e then (some true)
  else ((ground_right_p fu a.B (b.Fluents.length : Int)).bind <| fun (f : Bool) =>
  some (!f))))
  else ((ground_right_p fu a.A (b.Fluents.length : Int)).bind <| fun (g : Bool) =>
  if !g then (some true)
  else ((ground_right_p fu a.B (b.Fluents.length : Int)).bind <| fun (h : Bool) =>
  some (!h))))
  else ((ground_right_p fu a.A (b.Fluents.length : Int)).bind <| fun (i : Bool) =>
  if !i then (some true)
  else ((ground_right_p fu a.B (b.Fluents.length : Int)).bind <| fun (j : Bool) =>
  some (!j)))).bind (fun (m : Bool) => if m then (some (Ctl.ret false))
  else (some (Ctl.next ())))) (c.Tests.length) 0 ()) (fun r => some r) (fun (_ : Unit) => ((ground_indices_p c.Pos (b.Atoms.length : Int)).bind <| fun (k : Bool) =>
  if k then ((ground_indices_p c.Neg (b.Atoms.length : Int)).bind <| fun (l : Bool) =>
  some l)
  else (some false)).bind (fun (n : Bool) => some n))
noncomputable def ground_Valid_c2_p (fu : Nat) (a : Cond) (b : Ground) : Option (Bool) :=
  (ground_condition_p fu b a).bind <| fun (c : Bool) =>
  some (!c)
noncomputable def api_Cond__f56_88_p (fu : Nat) (b : (List Cond)) (c : Ground) : Option (Int) :=
  ctl (forC (R := (Int)) (fun a => fun (_ : Unit) => (idx b (a : Int)).bind fun d =>
  (ground_Valid_c2_p fu d c).bind <| fun (e : Bool) =>
  if e then (some (Ctl.ret (a : Int)))
  else (some (Ctl.next ()))) (b.length) 0 ()) (fun r => some r) (fun (_ : Unit) => some (-1))
noncomputable def api_Cond__f56_p (fu : Nat) (b : (List Cond)) (a : Ground) : Option (Bool) :=
  (api_Cond__f56_88_p fu b a).bind <| fun (c : Int) =>
  some (decide (0 ≤ c))
noncomputable def ground_named_p (a : ByteArray) : Option (Bool) :=
  (must (decide ((a.size : Int) ≤ 9223372036854775807))).bind fun e =>
  ctl (forC (R := (Bool)) (fun c => fun (_ : Unit) => ((idx (bytesOf a) (c : Int)).bind fun b =>
  if decide (b < 32) then (some true)
  else (some (decide (126 < b)))).bind (fun (d : Bool) => if d then (some (Ctl.ret false))
  else (some (Ctl.next ())))) ((a.size : Int).toNat) 0 ()) (fun r => some r) (fun (_ : Unit) => some (decide ((a.size : Int) ≤ 256)))
noncomputable def ground_operator_p (fu : Nat) (b : Ground) (a : GOp) : Option (Bool) :=
  (if decide (256 < (a.Changes.length : Int)) then (some true)
  else (if decide (a.Cost < 0) then (some true)
  else (if decide (1048576 < a.Cost) then (some true)
  else ((ground_named_p a.Name).bind <| fun (j : Bool) =>
  if !j then (some true)
  else ((ground_condition_p fu b a.Pre).bind <| fun (k : Bool) =>
  some (!k)))))).bind (fun (n : Bool) => if n then (some false)
  else (ctl (forC (R := (Bool)) (fun f => fun (_ : Unit) => (idx a.Changes (f : Int)).bind fun d =>
  (if decide (d.Atom < 0) then (some true)
  else (if decide ((b.Atoms.length : Int) ≤ d.Atom) then (some true)
  else ((ground_condition_p fu b d.When).bind <| fun (l : Bool) =>
  some (!l)))).bind (fun (o : Bool) => if o then (some (Ctl.ret false))
  else (some (Ctl.next ())))) (a.Changes.length) 0 ()) (fun r => some r) (fun (_ : Unit) => ctl (forC (R := (Bool)) (fun g => fun (e : BMap) => (idx a.Assigns (g : Int)).bind fun c =>
  (if decide (c.Fluent < 0) then (some true)
  else (if decide ((b.Fluents.length : Int) ≤ c.Fluent) then (some true)
  else ((bmapGet e c.Fluent).bind fun i =>
  if i then (some true)
  else ((ground_right_p fu c.Value (b.Fluents.length : Int)).bind <| fun (m : Bool) =>
  some (!m))))).bind (fun (p : Bool) => if p then (some (Ctl.ret false))
  else ((bmapPut e c.Fluent true).bind fun h =>
  some (Ctl.next h)))) (a.Assigns.length) 0 ([] : BMap)) (fun r => some r) (fun (q : BMap) => some true))))
noncomputable def ground_Valid_c3_p (fu : Nat) (b : GOp) (a : Ground) : Option (Bool) :=
  (ground_operator_p fu a b).bind <| fun (c : Bool) =>
  some (!c)
noncomputable def api_GOp__f59_90_p (fu : Nat) (b : (List GOp)) (c : Ground) : Option (Int) :=
  ctl (forC (R := (Int)) (fun a => fun (_ : Unit) => (idx b (a : Int)).bind fun d =>
  (ground_Valid_c3_p fu d c).bind <| fun (e : Bool) =>
  if e then (some (Ctl.ret (a : Int)))
  else (some (Ctl.next ()))) (b.length) 0 ()) (fun r => some r) (fun (_ : Unit) => some (-1))
noncomputable def api_GOp__f59_p (fu : Nat) (b : (List GOp)) (a : Ground) : Option (Bool) :=
  (api_GOp__f59_90_p fu b a).bind <| fun (c : Int) =>
  some (decide (0 ≤ c))
noncomputable def ground_Valid_p (fu : Nat) (a : Ground) : Option (Bool) :=
  if ((decide (4096 < (a.Atoms.length : Int))) || ((decide (4096 < (a.Fluents.length : Int))) || ((decide (4096 < (a.Ops.length : Int))) || decide (64 < (a.Goal.length : Int))))) then (some false)
  else (((api_GFluent__f52_p a.Fluents).bind <| fun (b : Bool) =>
  if !b then ((ground_indices_p a.Init (a.Atoms.length : Int)).bind <| fun (c : Bool) =>
  if c then ((api_Cond__f56_p fu a.Goal a).bind <| fun (d : Bool) =>
  if !d then ((api_GOp__f59_p fu a.Ops a).bind <| fun (e : Bool) =>
  some (!e))
  else (some false))
  else (some false))
  else (some false)).bind (fun (f : Bool) => some f))
structure simplify_sets where
  atoms : (List Bool)
  fluents : (List Bool)
  changed : Bool
noncomputable def simplify_sets_mark_p (a : simplify_sets) (b : Int) : Option (Bool × (List Bool)) :=
  (idx a.atoms b).bind fun e =>
  (if !e then ((setI a.atoms b true).bind fun c =>
  some (true, c))
  else (some (a.changed, a.atoms))).bind (un2 fun (f : Bool) (d : (List Bool)) => some (f, d))
noncomputable def simplify_sets_mark_105_p (a : simplify_sets) (b : Int) : Option (Bool × (List Bool)) :=
  (idx a.fluents b).bind fun e =>
  (if !e then ((setI a.fluents b true).bind fun c =>
  some (true, c))
  else (some (a.changed, a.fluents))).bind (un2 fun (f : Bool) (d : (List Bool)) => some (f, d))
noncomputable def simplify_sets_expr_p : Nat → simplify_sets → GExpr → Option (Bool × (List Bool))
  | 0, _, _ => none
  | fu + 1, b, a =>
  (if decide (a.Op = (⟨#[102, 108, 117, 101, 110, 116]⟩)) then ((simplify_sets_mark_105_p b a.N).bind <| un2 fun (j : Bool) (f : (List Bool)) =>
  some (j, f))
  else (some (b.changed, b.fluents))).bind (un2 fun (k : Bool) (g : (List Bool)) => (forS (fun e => un2 fun (d : Bool) (c : (List Bool)) => (idx a.Kids (e : Int)).bind fun i =>
  (simplify_sets_expr_p fu (⟨b.atoms, c, d⟩ : simplify_sets) i).bind <| un2 fun (l : Bool) (h : (List Bool)) =>
  some (l, h)) (a.Kids.length) 0 (k, g)).bind (un2 fun (d : Bool) (c : (List Bool)) => some (d, c)))
noncomputable def simplify_sets_cond_p (fu : Nat) (c : simplify_sets) (a : Cond) : Option (Bool × (List Bool) × (List Bool)) :=
  (forS (fun j => un2 fun (f : Bool) (d : (List Bool)) => (idx a.Pos (j : Int)).bind fun q =>
  (simplify_sets_mark_p (⟨d, c.fluents, f⟩ : simplify_sets) q).bind <| un2 fun (s : Bool) (m : (List Bool)) =>
  some (s, m)) (a.Pos.length) 0 (c.changed, c.atoms)).bind (un2 fun (f : Bool) (d : (List Bool)) => (forS (fun k => un2 fun (g : Bool) (b : (List Bool)) => (idx a.Neg (k : Int)).bind fun r =>
  (simplify_sets_mark_p (⟨b, c.fluents, g⟩ : simplify_sets) r).bind <| un2 fun (t : Bool) (n : (List Bool)) =>
  some (t, n)) (a.Neg.length) 0 (f, d)).bind (un2 fun (g : Bool) (b : (List Bool)) => (forS (fun l => un2 fun (h : Bool) (e : (List Bool)) => (idx a.Tests (l : Int)).bind fun i =>
  (simplify_sets_expr_p fu (⟨b, e, h⟩ : simplify_sets) i.A).bind <| un2 fun (u : Bool) (o : (List Bool)) =>
  (simplify_sets_expr_p fu (⟨b, o, u⟩ : simplify_sets) i.B).bind <| un2 fun (v : Bool) (p : (List Bool)) =>
  some (v, p)) (a.Tests.length) 0 (g, c.fluents)).bind (un2 fun (h : Bool) (e : (List Bool)) => some (h, b, e))))
noncomputable def simplify_sets_touches_c1_p (a : GChange) (b : simplify_sets) : Option (Bool) :=
  (idx b.atoms a.Atom).bind fun c =>
  some c
noncomputable def api_GChange__f108_123_p (b : (List GChange)) (c : simplify_sets) : Option (Int) :=
  ctl (forC (R := (Int)) (fun a => fun (_ : Unit) => (idx b (a : Int)).bind fun d =>
  (simplify_sets_touches_c1_p d c).bind <| fun (e : Bool) =>
  if e then (some (Ctl.ret (a : Int)))
  else (some (Ctl.next ()))) (b.length) 0 ()) (fun r => some r) (fun (_ : Unit) => some (-1))
noncomputable def api_GChange__f108_p (b : (List GChange)) (a : simplify_sets) : Option (Bool) :=
  (api_GChange__f108_123_p b a).bind <| fun (c : Int) =>
  some (decide (0 ≤ c))
noncomputable def simplify_sets_touches_c2_p (a : GAssign) (b : simplify_sets) : Option (Bool) :=
  (idx b.fluents a.Fluent).bind fun c =>
  some c
noncomputable def api_GAssign__f110_124_p (b : (List GAssign)) (c : simplify_sets) : Option (Int) :=
  ctl (forC (R := (Int)) (fun a => fun (_ : Unit) => (idx b (a : Int)).bind fun d =>
  (simplify_sets_touches_c2_p d c).bind <| fun (e : Bool) =>
  if e then (some (Ctl.ret (a : Int)))
  else (some (Ctl.next ()))) (b.length) 0 ()) (fun r => some r) (fun (_ : Unit) => some (-1))
noncomputable def api_GAssign__f110_p (b : (List GAssign)) (a : simplify_sets) : Option (Bool) :=
  (api_GAssign__f110_124_p b a).bind <| fun (c : Int) =>
  some (decide (0 ≤ c))
noncomputable def simplify_sets_touches_p (b : simplify_sets) (a : GOp) : Option (Bool) :=
  ((api_GChange__f108_p a.Changes b).bind <| fun (c : Bool) =>
  if c then (some true)
  else ((api_GAssign__f110_p a.Assigns b).bind <| fun (d : Bool) =>
  some d)).bind (fun (e : Bool) => some e)
noncomputable def simplify_sets_operator_p (fu : Nat) (s : simplify_sets) (b : GOp) : Option (Bool × (List Bool) × (List Bool)) :=
  (simplify_sets_cond_p fu s b.Pre).bind <| un3 fun (u : Bool) (k : (List Bool)) (l : (List Bool)) =>
  (forS (fun i => un3 fun (d : Bool) (a : (List Bool)) (c : (List Bool)) => (idx b.Changes (i : Int)).bind fun g =>
  (idx a g.Atom).bind fun t =>
  (if t then ((simplify_sets_cond_p fu (⟨a, c, d⟩ : simplify_sets) g.When).bind <| un3 fun (v : Bool) (m : (List Bool)) (n : (List Bool)) =>
  some (v, m, n))
  else (some (d, a, c))).bind (un3 fun (w : Bool) (o : (List Bool)) (p : (List Bool)) => some (w, o, p))) (b.Changes.length) 0 (u, k, l)).bind (un3 fun (d : Bool) (a : (List Bool)) (c : (List Bool)) => (forS (fun j => un2 fun (f : Bool) (e : (List Bool)) => (idx b.Assigns (j : Int)).bind fun h =>
  (simplify_sets_mark_105_p (⟨a, e, f⟩ : simplify_sets) h.Fluent).bind <| un2 fun (x : Bool) (q : (List Bool)) =>
  (simplify_sets_expr_p fu (⟨a, q, x⟩ : simplify_sets) h.Value).bind <| un2 fun (y : Bool) (r : (List Bool)) =>
  some (y, r)) (b.Assigns.length) 0 (d, c)).bind (un2 fun (f : Bool) (e : (List Bool)) => some (f, a, e)))
noncomputable def simplify_relevant_p (fu : Nat) (a : Ground) : Option (simplify_sets) :=
  (mk 1 false (a.Atoms.length : Int)).bind fun n =>
  (mk 1 false (a.Fluents.length : Int)).bind fun o =>
  (forS (fun l => un3 fun (j : Bool) (e : (List Bool)) (f : (List Bool)) => (idx a.Goal (l : Int)).bind fun y =>
  (simplify_sets_cond_p fu (⟨e, f, j⟩ : simplify_sets) y).bind <| un3 fun (aa : Bool) (p : (List Bool)) (q : (List Bool)) =>
  some (aa, p, q)) (a.Goal.length) 0 (false, n, o)).bind (un3 fun (j : Bool) (e : (List Bool)) (f : (List Bool)) => ctl (whileC (R := (simplify_sets)) (un3 fun (k : Bool) (g : (List Bool)) (h : (List Bool)) => if k then ((forS (fun m => un3 fun (d : Bool) (b : (List Bool)) (c : (List Bool)) => (idx a.Ops (m : Int)).bind fun i =>
  (simplify_sets_touches_p (⟨b, c, d⟩ : simplify_sets) i).bind <| fun (z : Bool) =>
  (if z then ((simplify_sets_operator_p fu (⟨b, c, d⟩ : simplify_sets) i).bind <| un3 fun (ab : Bool) (s : (List Bool)) (t : (List Bool)) =>
  some (ab, s, t))
  else (some (d, b, c))).bind (un3 fun (ac : Bool) (u : (List Bool)) (v : (List Bool)) => some (ac, u, v))) (a.Ops.length) 0 (false, g, h)).bind (un3 fun (d : Bool) (b : (List Bool)) (c : (List Bool)) => some (Ctl.next (d, b, c))))
  else (some (Ctl.brk (k, g, h)))) (true, e, f)) (fun r => some r) (un3 fun (ad : Bool) (w : (List Bool)) (x : (List Bool)) => some (⟨w, x, ad⟩ : simplify_sets)))
noncomputable def simplify_numbers_o_p (e : (List Bool)) : Option ((List Int)) :=
  (mk 8 0 (e.length : Int)).bind fun f =>
  (forS (fun a => un2 fun (c : Int) (b : (List Int)) => (idx e (a : Int)).bind fun j =>
  (idx b (a : Int)).bind fun k =>
  (setI b (a : Int) (-1)).bind fun d =>
  (if j then ((idx d (a : Int)).bind fun l =>
  (setI d (a : Int) c).bind fun g =>
  some (IntKind.i64.wrap (c + 1), g))
  else (some (c, d))).bind (un2 fun (i : Int) (h : (List Int)) => some (i, h))) (e.length) 0 (0, f)).bind (un2 fun (c : Int) (b : (List Int)) => some b)
noncomputable def slices_Clone___string_string__p (b : (List ByteArray)) : Option ((List ByteArray)) :=
  (app 16 [] b).bind fun a =>
  some a
structure simplify_Map where
  Atoms : (List Int)
  Fluents : (List Int)
  Ops : (List Int)
noncomputable def simplify_along_p (b : (List Int)) (e : (List Int)) : Option ((List Int)) :=
  (forS (fun c => fun (a : (List Int)) => (idx b (c : Int)).bind fun f =>
  (idx e f).bind fun g =>
  (app 8 a [g]).bind fun d =>
  some d) (b.length) 0 []).bind (fun (a : (List Int)) => some a)
noncomputable def simplify_Map_expr_p : Nat → simplify_Map → GExpr → Option (GExpr)
  | 0, _, _ => none
  | fu + 1, c, a =>
  (if decide (a.Op = (⟨#[102, 108, 117, 101, 110, 116]⟩)) then ((idx c.Fluents a.N).bind fun f =>
  some f)
  else (some a.N)).bind (fun (i : Int) => (forS (fun d => fun (b : (List GExpr)) => (idx a.Kids (d : Int)).bind fun g =>
  (simplify_Map_expr_p fu c g).bind <| fun (h : GExpr) =>
  (app 48 b [h]).bind fun e =>
  some e) (a.Kids.length) 0 []).bind (fun (b : (List GExpr)) => some (⟨a.Op, i, b⟩ : GExpr)))
noncomputable def simplify_Map_cond_p (fu : Nat) (b : simplify_Map) (a : Cond) : Option (Cond) :=
  (simplify_along_p a.Pos b.Atoms).bind <| fun (g : (List Int)) =>
  (simplify_along_p a.Neg b.Atoms).bind <| fun (h : (List Int)) =>
  (forS (fun e => fun (d : (List GTest)) => (idx a.Tests (e : Int)).bind fun c =>
  (simplify_Map_expr_p fu b c.A).bind <| fun (i : GExpr) =>
  (simplify_Map_expr_p fu b c.B).bind <| fun (j : GExpr) =>
  (app 112 d [(⟨c.Op, i, j⟩ : GTest)]).bind fun f =>
  some f) (a.Tests.length) 0 []).bind (fun (d : (List GTest)) => some (⟨g, h, d⟩ : Cond))
noncomputable def simplify_Map_operator_p (fu : Nat) (b : simplify_Map) (a : GOp) : Option (GOp) :=
  (simplify_Map_cond_p fu b a.Pre).bind <| fun (n : Cond) =>
  (forS (fun h => fun (c : (List GChange)) => (idx a.Changes (h : Int)).bind fun d =>
  (idx b.Atoms d.Atom).bind fun f =>
  (if decide (0 ≤ f) then ((simplify_Map_cond_p fu b d.When).bind <| fun (o : Cond) =>
  (app 88 c [(⟨o, f, d.Add⟩ : GChange)]).bind fun j =>
  some j)
  else (some c)).bind (fun (k : (List GChange)) => some k)) (a.Changes.length) 0 []).bind (fun (c : (List GChange)) => (forS (fun i => fun (e : (List GAssign)) => (idx a.Assigns (i : Int)).bind fun g =>
  (idx b.Fluents g.Fluent).bind fun m =>
  (simplify_Map_expr_p fu b g.Value).bind <| fun (p : GExpr) =>
  (app 56 e [(⟨m, p⟩ : GAssign)]).bind fun l =>
  some l) (a.Assigns.length) 0 []).bind (fun (e : (List GAssign)) => some (⟨a.Name, a.Cost, n, c, e⟩ : GOp)))
noncomputable def slices_Equal___int_int__p (a : (List Int)) (c : (List Int)) : Option (Bool) :=
  if !decide ((a.length : Int) = (c.length : Int)) then (some false)
  else (ctl (forC (R := (Bool)) (fun b => fun (_ : Unit) => (idx a (b : Int)).bind fun d =>
  (idx c (b : Int)).bind fun e =>
  if !decide (d = e) then (some (Ctl.ret false))
  else (some (Ctl.next ()))) (a.length) 0 ()) (fun r => some r) (fun (_ : Unit) => some true))
noncomputable def api_GExpr__f116_p (a : (List GExpr)) (c : (List GExpr)) (F_simplify_sameExpr : GExpr → GExpr → Option (Bool)) : Option (Bool) :=
  if !decide ((a.length : Int) = (c.length : Int)) then (some false)
  else (ctl (forC (R := (Bool)) (fun b => fun (_ : Unit) => (idx a (b : Int)).bind fun d =>
  (idx c (b : Int)).bind fun e =>
  (F_simplify_sameExpr d e).bind <| fun (f : Bool) =>
  if !f then (some (Ctl.ret false))
  else (some (Ctl.next ()))) (a.length) 0 ()) (fun r => some r) (fun (_ : Unit) => some true))
noncomputable def simplify_sameExpr_p : Nat → GExpr → GExpr → Option (Bool)
  | 0, _, _ => none
  | fu + 1, a, b =>
  (if decide (a.Op = b.Op) then (if decide (a.N = b.N) then ((api_GExpr__f116_p a.Kids b.Kids (simplify_sameExpr_p fu)).bind <| fun (c : Bool) =>
  some c)
  else (some false))
  else (some false)).bind (fun (d : Bool) => some d)
noncomputable def simplify_sameCond_c1_p (fu : Nat) (a : GTest) (b : GTest) : Option (Bool) :=
  (if decide (a.Op = b.Op) then ((simplify_sameExpr_p fu a.A b.A).bind <| fun (c : Bool) =>
  if c then ((simplify_sameExpr_p fu a.B b.B).bind <| fun (d : Bool) =>
  some d)
  else (some false))
  else (some false)).bind (fun (e : Bool) => some e)
noncomputable def api_GTest__f127_p (fu : Nat) (a : (List GTest)) (c : (List GTest)) : Option (Bool) :=
  if !decide ((a.length : Int) = (c.length : Int)) then (some false)
  else (ctl (forC (R := (Bool)) (fun b => fun (_ : Unit) => (idx a (b : Int)).bind fun d =>
  (idx c (b : Int)).bind fun e =>
  (simplify_sameCond_c1_p fu d e).bind <| fun (f : Bool) =>
  if !f then (some (Ctl.ret false))
  else (some (Ctl.next ()))) (a.length) 0 ()) (fun r => some r) (fun (_ : Unit) => some true))
noncomputable def simplify_sameCond_p (fu : Nat) (a : Cond) (b : Cond) : Option (Bool) :=
  ((slices_Equal___int_int__p a.Pos b.Pos).bind <| fun (c : Bool) =>
  if c then ((slices_Equal___int_int__p a.Neg b.Neg).bind <| fun (d : Bool) =>
  if d then ((api_GTest__f127_p fu a.Tests b.Tests).bind <| fun (e : Bool) =>
  some e)
  else (some false))
  else (some false)).bind (fun (f : Bool) => some f)
noncomputable def simplify_alike_c1_p (fu : Nat) (a : GChange) (b : GChange) : Option (Bool) :=
  (if decide (a.Atom = b.Atom) then (if (a.Add == b.Add) then ((simplify_sameCond_p fu a.When b.When).bind <| fun (c : Bool) =>
  some c)
  else (some false))
  else (some false)).bind (fun (d : Bool) => some d)
noncomputable def api_GChange__f113_p (fu : Nat) (a : (List GChange)) (c : (List GChange)) : Option (Bool) :=
  if !decide ((a.length : Int) = (c.length : Int)) then (some false)
  else (ctl (forC (R := (Bool)) (fun b => fun (_ : Unit) => (idx a (b : Int)).bind fun d =>
  (idx c (b : Int)).bind fun e =>
  (simplify_alike_c1_p fu d e).bind <| fun (f : Bool) =>
  if !f then (some (Ctl.ret false))
  else (some (Ctl.next ()))) (a.length) 0 ()) (fun r => some r) (fun (_ : Unit) => some true))
noncomputable def simplify_alike_c2_p (fu : Nat) (a : GAssign) (b : GAssign) : Option (Bool) :=
  (if decide (a.Fluent = b.Fluent) then ((simplify_sameExpr_p fu a.Value b.Value).bind <| fun (c : Bool) =>
  some c)
  else (some false)).bind (fun (d : Bool) => some d)
noncomputable def api_GAssign__f115_p (fu : Nat) (a : (List GAssign)) (c : (List GAssign)) : Option (Bool) :=
  if !decide ((a.length : Int) = (c.length : Int)) then (some false)
  else (ctl (forC (R := (Bool)) (fun b => fun (_ : Unit) => (idx a (b : Int)).bind fun d =>
  (idx c (b : Int)).bind fun e =>
  (simplify_alike_c2_p fu d e).bind <| fun (f : Bool) =>
  if !f then (some (Ctl.ret false))
  else (some (Ctl.next ()))) (a.length) 0 ()) (fun r => some r) (fun (_ : Unit) => some true))
noncomputable def simplify_alike_p (fu : Nat) (a : GOp) (b : GOp) : Option (Bool) :=
  ((simplify_sameCond_p fu a.Pre b.Pre).bind <| fun (c : Bool) =>
  if c then ((api_GChange__f113_p fu a.Changes b.Changes).bind <| fun (d : Bool) =>
  if d then ((api_GAssign__f115_p fu a.Assigns b.Assigns).bind <| fun (e : Bool) =>
  some e)
  else (some false))
  else (some false)).bind (fun (f : Bool) => some f)
noncomputable def simplify_Map_operators_p (fu : Nat) (ab : simplify_Map) (i : Ground) (ac : simplify_sets) : Option ((List GOp) × (List Int)) :=
  (forS (fun k => un2 fun (a : (List GOp)) (g : (List Int)) => (idx i.Ops (k : Int)).bind fun n =>
  (simplify_sets_touches_p ac n).bind <| fun (ad : Bool) =>
  (if ad then ((simplify_Map_operator_p fu ab n).bind <| fun (ae : GOp) =>
  (app 144 a [ae]).bind fun s =>
  (app 8 g [(k : Int)]).bind fun t =>
  some (s, t))
  else (some (a, g))).bind (un2 fun (u : (List GOp)) (v : (List Int)) => some (u, v))) (i.Ops.length) 0 ([], [])).bind (un2 fun (a : (List GOp)) (g : (List Int)) => (mk 8 0 (i.Ops.length : Int)).bind fun m =>
  (forS (fun l => fun (f : (List Int)) => (idx f (l : Int)).bind fun ai =>
  (setI f (l : Int) (-1)).bind fun w =>
  some w) (m.length) 0 m).bind (fun (f : (List Int)) => (forS (fun e => un2 fun (c : (List GOp)) (b : (List Int)) => (idx a (e : Int)).bind fun d =>
  ctl (forC (R := ((List GOp) × (List Int))) (fun j => fun (p : Bool) => (idx a (j : Int)).bind fun h =>
  (if !decide ((e : Int) = (j : Int)) then (if decide (h.Cost < d.Cost) then ((simplify_alike_p fu d h).bind <| fun (af : Bool) =>
  some af)
  else (if decide (h.Cost = d.Cost) then (if decide ((j : Int) < (e : Int)) then ((simplify_alike_p fu d h).bind <| fun (ag : Bool) =>
  some ag)
  else (some false))
  else (some false)))
  else (some false)).bind (fun (ah : Bool) => if ah then (some (Ctl.brk true))
  else (some (Ctl.next p)))) (a.length) 0 false) (fun r => some r) (fun (q : Bool) => (if !q then ((idx g (e : Int)).bind fun o =>
  (idx b o).bind fun aj =>
  (setI b o (c.length : Int)).bind fun x =>
  (app 144 c [d]).bind fun y =>
  some (x, y))
  else (some (b, c))).bind (un2 fun (z : (List Int)) (aa : (List GOp)) => some (aa, z)))) (a.length) 0 ([], f)).bind (un2 fun (c : (List GOp)) (b : (List Int)) => some (c, b))))
noncomputable def simplify_Simplify_p (fu : Nat) (a : Ground) : Option ((Option Int) × Ground × simplify_Map) :=
  (ground_Valid_p fu a).bind <| fun (ab : Bool) =>
  if !ab then (some (some 2, (⟨[], [], [], [], []⟩ : Ground), (⟨[], [], []⟩ : simplify_Map)))
  else ((simplify_relevant_p fu a).bind <| fun (b : simplify_sets) =>
  (simplify_numbers_o_p b.atoms).bind <| fun (d : (List Int)) =>
  (simplify_numbers_o_p b.fluents).bind <| fun (h : (List Int)) =>
  (forS (fun j => fun (e : (List Atom)) => (idx a.Atoms (j : Int)).bind fun l =>
  (idx b.atoms (j : Int)).bind fun w =>
  (if w then ((slices_Clone___string_string__p l.Args).bind <| fun (ac : (List ByteArray)) =>
  (app 40 e [(⟨l.Name, ac⟩ : Atom)]).bind fun p =>
  some p)
  else (some e)).bind (fun (q : (List Atom)) => some q)) (a.Atoms.length) 0 []).bind (fun (e : (List Atom)) => (forS (fun k => fun (f : (List GFluent)) => (idx a.Fluents (k : Int)).bind fun c =>
  (idx b.fluents (k : Int)).bind fun x =>
  (if x then ((slices_Clone___string_string__p c.Fluent.Args).bind <| fun (ad : (List ByteArray)) =>
  (app 64 f [(⟨(⟨c.Fluent.Name, ad⟩ : Atom), c.Lo, c.Hi, c.Init⟩ : GFluent)]).bind fun r =>
  some r)
  else (some f)).bind (fun (s : (List GFluent)) => some s)) (a.Fluents.length) 0 []).bind (fun (f : (List GFluent)) => (forS (fun n => fun (g : (List Int)) => (idx a.Init (n : Int)).bind fun m =>
  (idx b.atoms m).bind fun y =>
  (if y then ((idx d m).bind fun z =>
  (app 8 g [z]).bind fun t =>
  some t)
  else (some g)).bind (fun (u : (List Int)) => some u)) (a.Init.length) 0 []).bind (fun (g : (List Int)) => (forS (fun o => fun (i : (List Cond)) => (idx a.Goal (o : Int)).bind fun aa =>
  (simplify_Map_cond_p fu (⟨d, h, []⟩ : simplify_Map) aa).bind <| fun (ae : Cond) =>
  (app 72 i [ae]).bind fun v =>
  some v) (a.Goal.length) 0 []).bind (fun (i : (List Cond)) => (simplify_Map_operators_p fu (⟨d, h, []⟩ : simplify_Map) a b).bind <| un2 fun (af : (List GOp)) (ag : (List Int)) =>
  some (none, (⟨e, f, g, i, af⟩ : Ground), (⟨d, h, ag⟩ : simplify_Map)))))))
noncomputable def base_Ints_p (a : (List Int)) (b : (List Int)) : Option (Bool) :=
  if !decide ((a.length : Int) = (b.length : Int)) then (some false)
  else (ctl (forC (R := (Bool)) (fun c => fun (_ : Unit) => (idx a (c : Int)).bind fun d =>
  (idx b (c : Int)).bind fun e =>
  if !decide (d = e) then (some (Ctl.ret false))
  else (some (Ctl.next ()))) (a.length) 0 ()) (fun r => some r) (fun (_ : Unit) => some true))
noncomputable def law19_awake_p (fu : Nat) : Option (Bool) :=
  (simplify_Simplify_p fu law19_sample_t).bind <| un3 fun (d : (Option Int)) (a : Ground) (c : simplify_Map) =>
  (if d.isNone then (if decide ((a.Atoms.length : Int) = 2) then (if decide ((a.Init.length : Int) = 1) then (if decide ((a.Ops.length : Int) = 1) then ((idx a.Ops 0).bind fun b =>
  if decide (b.Name = (⟨#[40, 99, 41]⟩)) then (if decide ((b.Changes.length : Int) = 1) then ((base_Ints_p c.Ops [(-1), (-1), 0]).bind <| fun (e : Bool) =>
  if e then ((base_Ints_p c.Atoms [0, 1, (-1)]).bind <| fun (f : Bool) =>
  some f)
  else (some false))
  else (some false))
  else (some false))
  else (some false))
  else (some false))
  else (some false))
  else (some false)).bind (fun (g : Bool) => some g)
structure ref19_Marks where
  Atoms : (List Bool)
  Fluents : (List Bool)
noncomputable def ref18_In_p (b : (List Int)) (c : Int) : Option (Bool) :=
  ctl (whileC (R := (Bool)) (fun (a : Int) => if decide (a < (b.length : Int)) then ((idx b a).bind fun d =>
  if decide (d = c) then (some (Ctl.ret true))
  else (some (Ctl.next (IntKind.i64.wrap (a + 1)))))
  else (some (Ctl.brk a))) 0) (fun r => some r) (fun (e : Int) => some false)
structure ref19_Map where
  Atoms : (List Int)
  Fluents : (List Int)
  Ops : (List Int)
noncomputable def ref18_ints_p (b : (List Int)) (c : (List Int)) : Option (Bool) :=
  if !decide ((b.length : Int) = (c.length : Int)) then (some false)
  else (ctl (whileC (R := (Bool)) (fun (a : Int) => if decide (a < (b.length : Int)) then ((idx b a).bind fun d =>
  (idx c a).bind fun e =>
  if !decide (d = e) then (some (Ctl.ret false))
  else (some (Ctl.next (IntKind.i64.wrap (a + 1)))))
  else (some (Ctl.brk a))) 0) (fun r => some r) (fun (f : Int) => some true))
structure GState where
  True : (List Int)
  Values : (List Int)
def encGState : Enc GState := Enc.iso ((encSlice (encInt .i64)).pair (encSlice (encInt .i64))) (fun b => (b.True, b.Values))
theorem encGState_val {s : PHeap} {v : Value} {b : GState} : encGState.val s v b ↔ ∃ u1, ∃ u2, v = .agg #[u1, u2] ∧ SliceRep (encInt .i64) s u1 (b.True) ∧ SliceRep (encInt .i64) s u2 (b.Values) := by
  simp only [Enc.iso, Enc.pair, Enc.val, encGState, encSlice, if_true]
  constructor
  · rintro ⟨cs, rfl, h⟩
    obtain ⟨cs⟩ := cs
    simp only [] at h
    obtain ⟨_, _, rfl, ⟨w1, rfl, h1⟩, ⟨w2, rfl, h2⟩⟩ := h
    exact ⟨w1, w2, rfl, h1, h2⟩
  · rintro ⟨w1, w2, rfl, h1, h2⟩
    exact ⟨_, rfl, ⟨[w1], [w2], rfl, ⟨w1, rfl, h1⟩, ⟨w2, rfl, h2⟩⟩⟩
structure law19_found where
  s : GState
  cost : Int
noncomputable def ref14_Combine_p (c : ByteArray) (a : Int) (b : Int) : Option (Int × Bool) :=
  if decide (c = (⟨#[45]⟩)) then (if ((decide ((IntKind.i64.wrap (a - b)) < (-1099511627776))) || decide (1099511627776 < (IntKind.i64.wrap (a - b)))) then (some (0, false))
  else (some (IntKind.i64.wrap (a - b), true)))
  else (if decide (c = (⟨#[42]⟩)) then ((if !decide ((max a (IntKind.i64.wrap (0 - a))) = 0) then ((must (!decide ((max a (IntKind.i64.wrap (0 - a))) = 0))).bind fun e =>
  some (decide ((IntKind.i64.wrap ((1099511627776 : Int).tdiv (max a (IntKind.i64.wrap (0 - a))))) < (max b (IntKind.i64.wrap (0 - b))))))
  else (some false)).bind (fun (d : Bool) => if d then (some (0, false))
  else (if ((decide ((IntKind.i64.wrap (a * b)) < (-1099511627776))) || decide (1099511627776 < (IntKind.i64.wrap (a * b)))) then (some (0, false))
  else (some (IntKind.i64.wrap (a * b), true)))))
  else (if ((decide ((IntKind.i64.wrap (a + b)) < (-1099511627776))) || decide (1099511627776 < (IntKind.i64.wrap (a + b)))) then (some (0, false))
  else (some (IntKind.i64.wrap (a + b), true))))
noncomputable def ref18_SameState_p (a : GState) (b : GState) : Option (Bool) :=
  ((ref18_ints_p a.True b.True).bind <| fun (c : Bool) =>
  if c then ((ref18_ints_p a.Values b.Values).bind <| fun (d : Bool) =>
  some d)
  else (some false)).bind (fun (e : Bool) => some e)
noncomputable def slices_Clone___int_int__p (b : (List Int)) : Option ((List Int)) :=
  (app 8 [] b).bind fun a =>
  some a
noncomputable def ground_Initial_p (fu : Nat) (a : Ground) : Option (GState) :=
  (ground_Valid_p fu a).bind <| fun (f : Bool) =>
  if !f then (some (⟨[], []⟩ : GState))
  else ((slices_Clone___int_int__p a.Init).bind <| fun (g : (List Int)) =>
  (forS (fun c => fun (b : (List Int)) => (idx a.Fluents (c : Int)).bind fun e =>
  (app 8 b [e.Init]).bind fun d =>
  some d) (a.Fluents.length) 0 []).bind (fun (b : (List Int)) => some (⟨g, b⟩ : GState)))
noncomputable def law19_project_p (d : GState) (c : simplify_Map) : Option (GState) :=
  ctl (whileC (R := (GState)) (un2 fun (a : Int) (e : (List Int)) => if decide (a < (c.Atoms.length : Int)) then (((idx c.Atoms a).bind fun k =>
  if decide (0 ≤ k) then ((ref18_In_p d.True a).bind <| fun (o : Bool) =>
  some o)
  else (some false)).bind (fun (p : Bool) => (if p then ((idx c.Atoms a).bind fun l =>
  (app 8 e [l]).bind fun g =>
  some g)
  else (some e)).bind (fun (h : (List Int)) => some (Ctl.next (IntKind.i64.wrap (a + 1), h)))))
  else (some (Ctl.brk (a, e)))) (0, [])) (fun r => some r) (un2 fun (t : Int) (q : (List Int)) => ctl (whileC (R := (GState)) (un2 fun (b : Int) (f : (List Int)) => if ((decide (b < (c.Fluents.length : Int))) && decide (b < (d.Values.length : Int))) then ((idx c.Fluents b).bind fun m =>
  (if decide (0 ≤ m) then ((idx d.Values b).bind fun n =>
  (app 8 f [n]).bind fun i =>
  some i)
  else (some f)).bind (fun (j : (List Int)) => some (Ctl.next (IntKind.i64.wrap (b + 1), j))))
  else (some (Ctl.brk (b, f)))) (0, [])) (fun r => some r) (un2 fun (u : Int) (s : (List Int)) => some (⟨q, s⟩ : GState)))
noncomputable def ground_proper_p (b : Ground) (a : GState) : Option (Bool) :=
  (if !decide ((a.Values.length : Int) = (b.Fluents.length : Int)) then (some true)
  else ((ground_indices_p a.True (b.Atoms.length : Int)).bind <| fun (f : Bool) =>
  some (!f))).bind (fun (g : Bool) => if g then (some false)
  else (ctl (forC (R := (Bool)) (fun c => fun (_ : Unit) => (idx a.Values (c : Int)).bind fun d =>
  ((idx b.Fluents (c : Int)).bind fun e =>
  if decide (d < e.Lo) then (some true)
  else (some (decide (e.Hi < d)))).bind (fun (h : Bool) => if h then (some (Ctl.ret false))
  else (some (Ctl.next ())))) (a.Values.length) 0 ()) (fun r => some r) (fun (_ : Unit) => some true)))
noncomputable def cmp_isNaN_int__p (a : Int) : Option (Bool) :=
  some (!decide (a = a))
def cmp_isNaN_int__t (a : Int) : Bool :=
  (!decide (a = a))
theorem cmp_isNaN_int__tot (a : Int) : cmp_isNaN_int__p a = some (cmp_isNaN_int__t a) := by
  unfold cmp_isNaN_int__p cmp_isNaN_int__t
  (repeat' split) <;> rfl
attribute [irreducible] cmp_isNaN_int__t
noncomputable def cmp_Less_int__p (a : Int) (b : Int) : Option (Bool) :=
  some (bif (cmp_isNaN_int__t a) then ((!(cmp_isNaN_int__t b)) || decide (a < b)) else decide (a < b))
def cmp_Less_int__t (a : Int) (b : Int) : Bool :=
  (bif (cmp_isNaN_int__t a) then ((!(cmp_isNaN_int__t b)) || decide (a < b)) else decide (a < b))
theorem cmp_Less_int__tot (a : Int) (b : Int) : cmp_Less_int__p a b = some (cmp_Less_int__t a b) := by
  unfold cmp_Less_int__p cmp_Less_int__t
  (repeat' split) <;> rfl
attribute [irreducible] cmp_Less_int__t
noncomputable def slices_isNaN_int__p (a : Int) : Option (Bool) :=
  some (!decide (a = a))
def slices_isNaN_int__t (a : Int) : Bool :=
  (!decide (a = a))
theorem slices_isNaN_int__tot (a : Int) : slices_isNaN_int__p a = some (slices_isNaN_int__t a) := by
  unfold slices_isNaN_int__p slices_isNaN_int__t
  (repeat' split) <;> rfl
attribute [irreducible] slices_isNaN_int__t
noncomputable def slices_BinarySearch___int_int__p (c : (List Int)) (e : Int) : Option (Int × Bool) :=
  ctl (whileC (R := (Int × Bool)) (un2 fun (a : Int) (b : Int) => if decide (a < b) then ((idx c (IntKind.i64.wrap ((IntKind.u64.wrap (IntKind.i64.wrap (a + b))).fdiv (2 ^ 1)))).bind fun i =>
  (if (cmp_Less_int__t i e) then (some (IntKind.i64.wrap ((IntKind.i64.wrap ((IntKind.u64.wrap (IntKind.i64.wrap (a + b))).fdiv (2 ^ 1))) + 1), b))
  else (some (a, IntKind.i64.wrap ((IntKind.u64.wrap (IntKind.i64.wrap (a + b))).fdiv (2 ^ 1))))).bind (un2 fun (g : Int) (h : Int) => some (Ctl.next (g, h))))
  else (some (Ctl.brk (a, b)))) (0, (c.length : Int))) (fun r => some r) (un2 fun (d : Int) (k : Int) => (if decide (d < (c.length : Int)) then ((idx c d).bind fun f =>
  if decide (f = e) then (some true)
  else (if (slices_isNaN_int__t f) then (some (slices_isNaN_int__t e))
  else (some false)))
  else (some false)).bind (fun (j : Bool) => some (d, j)))
noncomputable def ground_holds_c1_p (b : Int) (a : GState) : Option (Bool) :=
  (slices_BinarySearch___int_int__p a.True b).bind <| un2 fun (d : Int) (c : Bool) =>
  some c
noncomputable def ground_holds_c2_p (b : Int) (a : GState) : Option (Bool) :=
  (ground_holds_c1_p b a).bind <| fun (c : Bool) =>
  some (!c)
noncomputable def slices_IndexFunc___int_int__f98_p (b : (List Int)) (c : GState) : Option (Int) :=
  ctl (forC (R := (Int)) (fun a => fun (_ : Unit) => (idx b (a : Int)).bind fun d =>
  (ground_holds_c2_p d c).bind <| fun (e : Bool) =>
  if e then (some (Ctl.ret (a : Int)))
  else (some (Ctl.next ()))) (b.length) 0 ()) (fun r => some r) (fun (_ : Unit) => some (-1))
noncomputable def slices_ContainsFunc___int_int__f98_p (b : (List Int)) (a : GState) : Option (Bool) :=
  (slices_IndexFunc___int_int__f98_p b a).bind <| fun (c : Int) =>
  some (decide (0 ≤ c))
noncomputable def slices_IndexFunc___int_int__f96_p (b : (List Int)) (c : GState) : Option (Int) :=
  ctl (forC (R := (Int)) (fun a => fun (_ : Unit) => (idx b (a : Int)).bind fun d =>
  (ground_holds_c1_p d c).bind <| fun (e : Bool) =>
  if e then (some (Ctl.ret (a : Int)))
  else (some (Ctl.next ()))) (b.length) 0 ()) (fun r => some r) (fun (_ : Unit) => some (-1))
noncomputable def slices_ContainsFunc___int_int__f96_p (b : (List Int)) (a : GState) : Option (Bool) :=
  (slices_IndexFunc___int_int__f96_p b a).bind <| fun (c : Int) =>
  some (decide (0 ≤ c))
noncomputable def ground_combine_p (c : ByteArray) (a : Int) (b : Int) : Option (Int × Bool) :=
  if decide (c = (⟨#[43]⟩)) then ((if decide ((-1099511627776) ≤ (IntKind.i64.wrap (a + b))) then (some (decide ((IntKind.i64.wrap (a + b)) ≤ 1099511627776)))
  else (some false)).bind (fun (d : Bool) => some (IntKind.i64.wrap (a + b), d)))
  else (if decide (c = (⟨#[45]⟩)) then ((if decide ((-1099511627776) ≤ (IntKind.i64.wrap (a - b))) then (some (decide ((IntKind.i64.wrap (a - b)) ≤ 1099511627776)))
  else (some false)).bind (fun (e : Bool) => some (IntKind.i64.wrap (a - b), e)))
  else ((if !decide (a = 0) then ((must (!decide ((max a (IntKind.i64.wrap (0 - a))) = 0))).bind fun h =>
  some (decide ((IntKind.i64.wrap ((1099511627776 : Int).tdiv (max a (IntKind.i64.wrap (0 - a))))) < (max b (IntKind.i64.wrap (0 - b))))))
  else (some false)).bind (fun (f : Bool) => if f then (some (0, false))
  else ((if decide ((-1099511627776) ≤ (IntKind.i64.wrap (a * b))) then (some (decide ((IntKind.i64.wrap (a * b)) ≤ 1099511627776)))
  else (some false)).bind (fun (g : Bool) => some (IntKind.i64.wrap (a * b), g))))))
noncomputable def ground_value_p : Nat → GState → GExpr → Option (Int × Bool)
  | 0, _, _ => none
  | fu + 1, b, a =>
  if decide (a.Op = (⟨#[110, 117, 109, 98, 101, 114]⟩)) then (some (a.N, true))
  else (if decide (a.Op = (⟨#[102, 108, 117, 101, 110, 116]⟩)) then ((idx b.Values a.N).bind fun c =>
  some (c, true))
  else ((idx a.Kids 0).bind fun d =>
  (ground_value_p fu b d).bind <| un2 fun (f : Int) (g : Bool) =>
  if !g then (some (0, false))
  else ((idx a.Kids 1).bind fun e =>
  (ground_value_p fu b e).bind <| un2 fun (h : Int) (i : Bool) =>
  if !i then (some (0, false))
  else ((ground_combine_p a.Op f h).bind <| un2 fun (j : Int) (k : Bool) =>
  some (j, k)))))
noncomputable def ground_test_p (fu : Nat) (d : GState) (a : GTest) : Option (Bool) :=
  (ground_value_p fu d a.A).bind <| un2 fun (b : Int) (e : Bool) =>
  (ground_value_p fu d a.B).bind <| un2 fun (c : Int) (f : Bool) =>
  some (e && (f && (bif (decide (a.Op = (⟨#[60]⟩))) then ((decide (b < c)) || (bif (decide (a.Op = (⟨#[60, 61]⟩))) then ((decide (b ≤ c)) || ((decide (a.Op = (⟨#[61]⟩))) && decide (b = c))) else ((decide (a.Op = (⟨#[61]⟩))) && decide (b = c)))) else (bif (decide (a.Op = (⟨#[60, 61]⟩))) then ((decide (b ≤ c)) || ((decide (a.Op = (⟨#[61]⟩))) && decide (b = c))) else ((decide (a.Op = (⟨#[61]⟩))) && decide (b = c))))))
noncomputable def ground_holds_c3_p (fu : Nat) (b : GTest) (a : GState) : Option (Bool) :=
  (ground_test_p fu a b).bind <| fun (c : Bool) =>
  some (!c)
noncomputable def api_GTest__f100_120_p (fu : Nat) (b : (List GTest)) (c : GState) : Option (Int) :=
  ctl (forC (R := (Int)) (fun a => fun (_ : Unit) => (idx b (a : Int)).bind fun d =>
  (ground_holds_c3_p fu d c).bind <| fun (e : Bool) =>
  if e then (some (Ctl.ret (a : Int)))
  else (some (Ctl.next ()))) (b.length) 0 ()) (fun r => some r) (fun (_ : Unit) => some (-1))
noncomputable def api_GTest__f100_p (fu : Nat) (b : (List GTest)) (a : GState) : Option (Bool) :=
  (api_GTest__f100_120_p fu b a).bind <| fun (c : Int) =>
  some (decide (0 ≤ c))
noncomputable def ground_holds_p (fu : Nat) (b : GState) (a : Cond) : Option (Bool) :=
  ((slices_ContainsFunc___int_int__f98_p a.Pos b).bind <| fun (c : Bool) =>
  if !c then ((slices_ContainsFunc___int_int__f96_p a.Neg b).bind <| fun (d : Bool) =>
  if !d then ((api_GTest__f100_p fu a.Tests b).bind <| fun (e : Bool) =>
  some (!e))
  else (some false))
  else (some false)).bind (fun (f : Bool) => some f)
noncomputable def ground_Goal_c1_p (fu : Nat) (a : Cond) (b : GState) : Option (Bool) :=
  (ground_holds_p fu b a).bind <| fun (c : Bool) =>
  some c
noncomputable def api_Cond__f73_88_p (fu : Nat) (b : (List Cond)) (c : GState) : Option (Int) :=
  ctl (forC (R := (Int)) (fun a => fun (_ : Unit) => (idx b (a : Int)).bind fun d =>
  (ground_Goal_c1_p fu d c).bind <| fun (e : Bool) =>
  if e then (some (Ctl.ret (a : Int)))
  else (some (Ctl.next ()))) (b.length) 0 ()) (fun r => some r) (fun (_ : Unit) => some (-1))
noncomputable def api_Cond__f73_p (fu : Nat) (b : (List Cond)) (a : GState) : Option (Bool) :=
  (api_Cond__f73_88_p fu b a).bind <| fun (c : Int) =>
  some (decide (0 ≤ c))
noncomputable def ground_Goal_p (fu : Nat) (a : Ground) (b : GState) : Option (Bool) :=
  ((ground_Valid_p fu a).bind <| fun (c : Bool) =>
  if c then ((ground_proper_p a b).bind <| fun (d : Bool) =>
  if d then ((api_Cond__f73_p fu a.Goal b).bind <| fun (e : Bool) =>
  some e)
  else (some false))
  else (some false)).bind (fun (f : Bool) => some f)
noncomputable def ground_assigned_p (fu : Nat) (a : Ground) (b : GState) (d : Int) : Option ((List Int) × (Option Int)) :=
  (ground_Valid_p fu a).bind <| fun (l : Bool) =>
  if !l then (some ([], some 2))
  else (if ((decide (d < 0)) || decide ((a.Ops.length : Int) ≤ d)) then (some ([], some 1))
  else ((ground_proper_p a b).bind <| fun (m : Bool) =>
  if !m then (some ([], some 2))
  else ((idx a.Ops d).bind fun e =>
  (ground_holds_p fu b e.Pre).bind <| fun (n : Bool) =>
  if !n then (some ([], some 12))
  else ((slices_Clone___int_int__p b.Values).bind <| fun (o : (List Int)) =>
  ctl (forC (R := ((List Int) × (Option Int))) (fun i => fun (g : (List Int)) => (idx e.Assigns (i : Int)).bind fun c =>
  (ground_value_p fu b c.Value).bind <| un2 fun (f : Int) (p : Bool) =>
  (if !p then (some true)
  else ((idx a.Fluents c.Fluent).bind fun h =>
  if decide (f < h.Lo) then (some true)
  else (some (decide (h.Hi < f))))).bind (fun (q : Bool) => if q then (some (Ctl.ret ([], some 14)))
  else ((idx g c.Fluent).bind fun s =>
  (setI g c.Fluent f).bind fun j =>
  some (Ctl.next j)))) (e.Assigns.length) 0 o) (fun r => some r) (fun (k : (List Int)) => some (k, none))))))
noncomputable def ground_Apply_p (fu : Nat) (f : Ground) (g : GState) (h : Int) : Option ((Option Int) × GState) :=
  (ground_assigned_p fu f g h).bind <| un2 fun (t : (List Int)) (j : (Option Int)) =>
  if j.isSome then (some (j, (⟨[], []⟩ : GState)))
  else ((idx f.Ops h).bind fun i =>
  (forS (fun k => un2 fun (a : BMap) (b : BMap) => (idx i.Changes (k : Int)).bind fun d =>
  (ground_holds_p fu g d.When).bind <| fun (u : Bool) =>
  if !u then (some (a, b))
  else ((if d.Add then ((bmapPut a d.Atom true).bind fun p =>
  some (p, b))
  else ((bmapPut b d.Atom true).bind fun q =>
  some (a, q))).bind (un2 fun (l : BMap) (m : BMap) => some (l, m)))) (i.Changes.length) 0 (([] : BMap), ([] : BMap))).bind (un2 fun (a : BMap) (b : BMap) => (forS (fun c => fun (e : (List Int)) => (slices_BinarySearch___int_int__p g.True (c : Int)).bind <| un2 fun (x : Int) (v : Bool) =>
  ((bmapGet a (c : Int)).bind fun r =>
  if r then (some true)
  else (if v then ((bmapGet b (c : Int)).bind fun s =>
  some (!s))
  else (some false))).bind (fun (w : Bool) => (if w then ((app 8 e [(c : Int)]).bind fun n =>
  some n)
  else (some e)).bind (fun (o : (List Int)) => some o))) (f.Atoms.length) 0 []).bind (fun (e : (List Int)) => some (none, (⟨e, t⟩ : GState)))))
noncomputable def law19_replaced_p (fu : Nat) (b : Ground) (d : GState) (e : GState) (c : Int) : Option (Bool) :=
  ctl (whileC (R := (Bool)) (fun (a : Int) => if decide (a < (b.Ops.length : Int)) then ((ground_Apply_p fu b d a).bind <| un2 fun (g : (Option Int)) (h : GState) =>
  (if g.isNone then ((idx b.Ops a).bind fun f =>
  if decide (f.Cost ≤ c) then ((ref18_SameState_p h e).bind <| fun (i : Bool) =>
  some i)
  else (some false))
  else (some false)).bind (fun (j : Bool) => if j then (some (Ctl.ret true))
  else (some (Ctl.next (IntKind.i64.wrap (a + 1))))))
  else (some (Ctl.brk a))) 0) (fun r => some r) (fun (k : Int) => some false)
noncomputable def law19_SimplifyFollows_p (fu : Nat) (a : Ground) (i : (List Int)) : Option (Bool) :=
  ((law18_Large_p fu a).bind <| fun (z : Bool) =>
  if z then (some true)
  else (if decide (12 < (a.Ops.length : Int)) then (some true)
  else (if decide (20 < (i.length : Int)) then (some true)
  else ((law19_awake_p fu).bind <| fun (aa : Bool) =>
  some (!aa))))).bind (fun (aq : Bool) => if aq then ((law19_awake_p fu).bind <| fun (ab : Bool) =>
  some ab)
  else ((simplify_Simplify_p fu a).bind <| un3 fun (ac : (Option Int)) (e : Ground) (c : simplify_Map) =>
  if ac.isSome then ((ground_Valid_p fu a).bind <| fun (ad : Bool) =>
  some (!ad))
  else (if ((!decide ((c.Atoms.length : Int) = (a.Atoms.length : Int))) || ((!decide ((c.Fluents.length : Int) = (a.Fluents.length : Int))) || !decide ((c.Ops.length : Int) = (a.Ops.length : Int)))) then (some false)
  else ((ground_Initial_p fu a).bind <| fun (n : GState) =>
  (law19_project_p n c).bind <| fun (ae : GState) =>
  (ground_Initial_p fu e).bind <| fun (af : GState) =>
  (ref18_SameState_p ae af).bind <| fun (ag : Bool) =>
  if !ag then (some false)
  else (ctl (whileC (R := (Bool)) (un3 fun (d : Int) (f : (List Int)) (g : (List Int)) => if decide (d ≤ (i.length : Int)) then ((law19_project_p (⟨f, g⟩ : GState) c).bind <| fun (k : GState) =>
  (ground_Goal_p fu a (⟨f, g⟩ : GState)).bind <| fun (ah : Bool) =>
  (ground_Goal_p fu e k).bind <| fun (ai : Bool) =>
  if !(ah == ai) then (some (Ctl.ret false))
  else (ctl (whileC (R := (Bool)) (un2 fun (m : (List Int)) (b : Int) => if decide (b < (a.Ops.length : Int)) then ((ground_Apply_p fu a (⟨f, g⟩ : GState) b).bind <| un2 fun (l : (Option Int)) (s : GState) =>
  (if l.isNone then ((app 8 m [b]).bind fun v =>
  some v)
  else (some m)).bind (fun (o : (List Int)) => (idx c.Ops b).bind fun j =>
  if decide (0 ≤ j) then ((ground_Apply_p fu e k j).bind <| un2 fun (aj : (Option Int)) (ak : GState) =>
  (if decide ((e.Ops.length : Int) ≤ j) then (some true)
  else (if !(l.isNone == aj.isNone) then (some true)
  else (if l.isNone then ((law19_project_p s c).bind <| fun (al : GState) =>
  (ref18_SameState_p al ak).bind <| fun (am : Bool) =>
  if !am then (some true)
  else ((idx e.Ops j).bind fun p =>
  (idx a.Ops b).bind fun q =>
  if !decide (p.Cost = q.Cost) then (some true)
  else (some (!decide (p.Name = q.Name)))))
  else (some false)))).bind (fun (ar : Bool) => if ar then (some (Ctl.ret false))
  else (some (Ctl.next (o, IntKind.i64.wrap (b + 1))))))
  else ((if l.isNone then ((law19_project_p s c).bind <| fun (t : GState) =>
  (ref18_SameState_p t k).bind <| fun (an : Bool) =>
  if !an then ((idx a.Ops b).bind fun w =>
  (law19_replaced_p fu e k t w.Cost).bind <| fun (ao : Bool) =>
  some (!ao))
  else (some false))
  else (some false)).bind (fun (au : Bool) => if au then (some (Ctl.ret false))
  else (some (Ctl.next (o, IntKind.i64.wrap (b + 1))))))))
  else (some (Ctl.brk (m, b)))) ([], 0)) (fun r => some (Ctl.ret r)) (un2 fun (h : (List Int)) (aw : Int) => if ((decide ((h.length : Int) = 0)) || decide (d = (i.length : Int))) then (some (Ctl.brk (d, f, g)))
  else ((idx i d).bind fun x =>
  (must (!decide ((h.length : Int) = 0))).bind fun ax =>
  (idx h ((IntKind.i64.wrap x).tmod (h.length : Int))).bind fun y =>
  (ground_Apply_p fu a (⟨f, g⟩ : GState) y).bind <| un2 fun (ap : (Option Int)) (u : GState) =>
  if ap.isSome then (some (Ctl.ret false))
  else (some (Ctl.next (IntKind.i64.wrap (d + 1), u.True, u.Values)))))))
  else (some (Ctl.brk (d, f, g)))) (0, n.True, n.Values)) (fun r => some r) (un3 fun (av : Int) (ay : (List Int)) (az : (List Int)) => some true))))))
end Go.Pw
