/-
  What the functions compute, in plain Lean (printed by my generator).
-/
import Derived.Test.YtcabhickgjhkhaaGreatDoorL6
import Derived.Test.YtcabhickgjhkhaaGreatDoorL21
import Derived.Test.YtcabhickgjhkhaaGreatDoorL11
import Derived.Test.YtcabhickgjhkhaaGreatDoorLC
import Derived.Test.YtcabhickgjhkhaaGreatDoorL30
import Derived.Test.YtcabhickgjhkhaaGreatDoorLD
import Derived.Test.YtcabhickgjhkhaaGreatDoorLE
import Derived.Test.YtcabhickgjhkhaaGreatDoorL47
import Derived.Lib.QuoteLoop
import Derived.Test.YtcabhickgjhkhaaGreatDoorL48
import Derived.Test.YtcabhickgjhkhaaGreatDoorL51
set_option maxRecDepth 100000
set_option maxHeartbeats 4000000
set_option linter.unusedVariables false
namespace Go.Pw
structure Atom where
  Name : ByteArray
  Args : (List ByteArray)
def encAtom : Enc Atom := Enc.iso (encStr.pair (encSlice encStr)) (fun b => (b.Name, b.Args))
theorem encAtom_val {s : PHeap} {v : Value} {b : Atom} : encAtom.val s v b ↔ ∃ u1, v = .agg #[.string (b.Name), u1] ∧ SliceRep encStr s u1 (b.Args) := by
  simp only [Enc.iso, Enc.pair, Enc.val, encAtom, encSlice, encStr, if_true, oneCell]
  constructor
  · rintro ⟨cs, rfl, h⟩
    obtain ⟨cs⟩ := cs
    simp only [] at h
    obtain ⟨_, _, rfl, rfl, ⟨w1, rfl, h1⟩⟩ := h
    exact ⟨w1, rfl, h1⟩
  · rintro ⟨w1, rfl, h1⟩
    exact ⟨_, rfl, ⟨[.string (b.Name)], [w1], rfl, rfl, ⟨w1, rfl, h1⟩⟩⟩
structure GFluent where
  Fluent : Atom
  Lo : Int
  Hi : Int
  Init : Int
def encGFluent : Enc GFluent := Enc.iso (encAtom.pair ((encInt .i64).pair ((encInt .i64).pair (encInt .i64)))) (fun b => (b.Fluent, b.Lo, b.Hi, b.Init))
theorem encGFluent_val {s : PHeap} {v : Value} {b : GFluent} : encGFluent.val s v b ↔ ∃ u1, v = .agg #[.string (b.Fluent.Name), u1, .int .i64 (b.Lo), .int .i64 (b.Hi), .int .i64 (b.Init)] ∧ SliceRep encStr s u1 (b.Fluent.Args) := by
  simp only [Enc.iso, Enc.pair, Enc.val, encAtom, encGFluent, encInt, encSlice, encStr, if_true, oneCell]
  constructor
  · rintro ⟨cs, rfl, h⟩
    obtain ⟨cs⟩ := cs
    simp only [] at h
    obtain ⟨_, _, rfl, ⟨_, _, rfl, rfl, ⟨w1, rfl, h1⟩⟩, ⟨_, _, rfl, rfl, ⟨_, _, rfl, rfl, rfl⟩⟩⟩ := h
    exact ⟨w1, rfl, h1⟩
  · rintro ⟨w1, rfl, h1⟩
    exact ⟨_, rfl, ⟨[.string (b.Fluent.Name), w1], [.int .i64 (b.Lo), .int .i64 (b.Hi), .int .i64 (b.Init)], rfl, ⟨[.string (b.Fluent.Name)], [w1], rfl, rfl, ⟨w1, rfl, h1⟩⟩, ⟨[.int .i64 (b.Lo)], [.int .i64 (b.Hi), .int .i64 (b.Init)], rfl, rfl, ⟨[.int .i64 (b.Hi)], [.int .i64 (b.Init)], rfl, rfl, rfl⟩⟩⟩⟩
structure GExpr where
  Op : ByteArray
  N : Int
  Kids : (List GExpr)
def encGExprF (E : Enc GExpr) : Enc GExpr := Enc.iso (encStr.pair ((encInt .i64).pair (encSlice E))) (fun b => (b.Op, b.N, b.Kids))
theorem encGExprF_sup (G : Nat → Enc GExpr) (L : Enc GExpr) (h : Enc.Sup G L) : Enc.Sup (fun n => encGExprF (G n)) (encGExprF L) := Enc.Sup.iso _ (Enc.Sup.snd _ (Enc.Sup.snd _ (Enc.Sup.slice h)))
def encGExpr : Enc GExpr := Enc.fix encGExprF 3 (by decide) (fun _ _ => rfl)
theorem encGExpr_iff (s : PHeap) (cs : List Value) (a : GExpr) : encGExpr.rep s cs a ↔ (encGExprF encGExpr).rep s cs a := Enc.fix_iff (fun _ _ => Enc.le_of_sup encGExprF_sup) encGExprF_sup s cs a
theorem encGExpr_val {s : PHeap} {v : Value} {b : GExpr} : encGExpr.val s v b ↔ ∃ u1, v = .agg #[.string (b.Op), .int .i64 (b.N), u1] ∧ SliceRep encGExpr s u1 (b.Kids) := by
  refine (Enc.val_iff (E := encGExpr) (E' := encGExprF encGExpr) rfl encGExpr_iff s v b).trans ?_
  simp only [Enc.iso, Enc.pair, Enc.val, encGExprF, encGExpr_iff, encInt, encSlice, encStr, if_true, oneCell]
  constructor
  · rintro ⟨cs, rfl, h⟩
    obtain ⟨cs⟩ := cs
    simp only [] at h
    obtain ⟨_, _, rfl, rfl, ⟨_, _, rfl, rfl, ⟨w1, rfl, h1⟩⟩⟩ := h
    exact ⟨w1, rfl, h1⟩
  · rintro ⟨w1, rfl, h1⟩
    exact ⟨_, rfl, ⟨[.string (b.Op)], [.int .i64 (b.N), w1], rfl, rfl, ⟨[.int .i64 (b.N)], [w1], rfl, rfl, ⟨w1, rfl, h1⟩⟩⟩⟩
structure GTest where
  Op : ByteArray
  A : GExpr
  B : GExpr
def encGTest : Enc GTest := Enc.iso (encStr.pair (encGExpr.pair encGExpr)) (fun b => (b.Op, b.A, b.B))
theorem encGTest_val {s : PHeap} {v : Value} {b : GTest} : encGTest.val s v b ↔ ∃ u1, ∃ u2, v = .agg #[.string (b.Op), .string (b.A.Op), .int .i64 (b.A.N), u1, .string (b.B.Op), .int .i64 (b.B.N), u2] ∧ SliceRep encGExpr s u1 (b.A.Kids) ∧ SliceRep encGExpr s u2 (b.B.Kids) := by
  simp only [Enc.iso, Enc.pair, Enc.val, encGExprF, encGExpr_iff, encGTest, encInt, encSlice, encStr, if_true, oneCell]
  constructor
  · rintro ⟨cs, rfl, h⟩
    obtain ⟨cs⟩ := cs
    simp only [] at h
    obtain ⟨_, _, rfl, rfl, ⟨_, _, rfl, ⟨_, _, rfl, rfl, ⟨_, _, rfl, rfl, ⟨w1, rfl, h1⟩⟩⟩, ⟨_, _, rfl, rfl, ⟨_, _, rfl, rfl, ⟨w2, rfl, h2⟩⟩⟩⟩⟩ := h
    exact ⟨w1, w2, rfl, h1, h2⟩
  · rintro ⟨w1, w2, rfl, h1, h2⟩
    exact ⟨_, rfl, ⟨[.string (b.Op)], [.string (b.A.Op), .int .i64 (b.A.N), w1, .string (b.B.Op), .int .i64 (b.B.N), w2], rfl, rfl, ⟨[.string (b.A.Op), .int .i64 (b.A.N), w1], [.string (b.B.Op), .int .i64 (b.B.N), w2], rfl, ⟨[.string (b.A.Op)], [.int .i64 (b.A.N), w1], rfl, rfl, ⟨[.int .i64 (b.A.N)], [w1], rfl, rfl, ⟨w1, rfl, h1⟩⟩⟩, ⟨[.string (b.B.Op)], [.int .i64 (b.B.N), w2], rfl, rfl, ⟨[.int .i64 (b.B.N)], [w2], rfl, rfl, ⟨w2, rfl, h2⟩⟩⟩⟩⟩⟩
structure Cond where
  Pos : (List Int)
  Neg : (List Int)
  Tests : (List GTest)
def encCond : Enc Cond := Enc.iso ((encSlice (encInt .i64)).pair ((encSlice (encInt .i64)).pair (encSlice encGTest))) (fun b => (b.Pos, b.Neg, b.Tests))
theorem encCond_val {s : PHeap} {v : Value} {b : Cond} : encCond.val s v b ↔ ∃ u1, ∃ u2, ∃ u3, v = .agg #[u1, u2, u3] ∧ SliceRep (encInt .i64) s u1 (b.Pos) ∧ SliceRep (encInt .i64) s u2 (b.Neg) ∧ SliceRep encGTest s u3 (b.Tests) := by
  simp only [Enc.iso, Enc.pair, Enc.val, encCond, encSlice, if_true]
  constructor
  · rintro ⟨cs, rfl, h⟩
    obtain ⟨cs⟩ := cs
    simp only [] at h
    obtain ⟨_, _, rfl, ⟨w1, rfl, h1⟩, ⟨_, _, rfl, ⟨w2, rfl, h2⟩, ⟨w3, rfl, h3⟩⟩⟩ := h
    exact ⟨w1, w2, w3, rfl, h1, h2, h3⟩
  · rintro ⟨w1, w2, w3, rfl, h1, h2, h3⟩
    exact ⟨_, rfl, ⟨[w1], [w2, w3], rfl, ⟨w1, rfl, h1⟩, ⟨[w2], [w3], rfl, ⟨w2, rfl, h2⟩, ⟨w3, rfl, h3⟩⟩⟩⟩
structure GChange where
  When : Cond
  Atom : Int
  Add : Bool
def encGChange : Enc GChange := Enc.iso (encCond.pair ((encInt .i64).pair encBool)) (fun b => (b.When, b.Atom, b.Add))
theorem encGChange_val {s : PHeap} {v : Value} {b : GChange} : encGChange.val s v b ↔ ∃ u1, ∃ u2, ∃ u3, v = .agg #[u1, u2, u3, .int .i64 (b.Atom), .bool (b.Add)] ∧ SliceRep (encInt .i64) s u1 (b.When.Pos) ∧ SliceRep (encInt .i64) s u2 (b.When.Neg) ∧ SliceRep encGTest s u3 (b.When.Tests) := by
  simp only [Enc.iso, Enc.pair, Enc.val, encBool, encCond, encGChange, encInt, encSlice, if_true, oneCell]
  constructor
  · rintro ⟨cs, rfl, h⟩
    obtain ⟨cs⟩ := cs
    simp only [] at h
    obtain ⟨_, _, rfl, ⟨_, _, rfl, ⟨w1, rfl, h1⟩, ⟨_, _, rfl, ⟨w2, rfl, h2⟩, ⟨w3, rfl, h3⟩⟩⟩, ⟨_, _, rfl, rfl, rfl⟩⟩ := h
    exact ⟨w1, w2, w3, rfl, h1, h2, h3⟩
  · rintro ⟨w1, w2, w3, rfl, h1, h2, h3⟩
    exact ⟨_, rfl, ⟨[w1, w2, w3], [.int .i64 (b.Atom), .bool (b.Add)], rfl, ⟨[w1], [w2, w3], rfl, ⟨w1, rfl, h1⟩, ⟨[w2], [w3], rfl, ⟨w2, rfl, h2⟩, ⟨w3, rfl, h3⟩⟩⟩, ⟨[.int .i64 (b.Atom)], [.bool (b.Add)], rfl, rfl, rfl⟩⟩⟩
structure GAssign where
  Fluent : Int
  Value : GExpr
def encGAssign : Enc GAssign := Enc.iso ((encInt .i64).pair encGExpr) (fun b => (b.Fluent, b.Value))
theorem encGAssign_val {s : PHeap} {v : Value} {b : GAssign} : encGAssign.val s v b ↔ ∃ u1, v = .agg #[.int .i64 (b.Fluent), .string (b.Value.Op), .int .i64 (b.Value.N), u1] ∧ SliceRep encGExpr s u1 (b.Value.Kids) := by
  simp only [Enc.iso, Enc.pair, Enc.val, encGAssign, encGExprF, encGExpr_iff, encInt, encSlice, encStr, if_true, oneCell]
  constructor
  · rintro ⟨cs, rfl, h⟩
    obtain ⟨cs⟩ := cs
    simp only [] at h
    obtain ⟨_, _, rfl, rfl, ⟨_, _, rfl, rfl, ⟨_, _, rfl, rfl, ⟨w1, rfl, h1⟩⟩⟩⟩ := h
    exact ⟨w1, rfl, h1⟩
  · rintro ⟨w1, rfl, h1⟩
    exact ⟨_, rfl, ⟨[.int .i64 (b.Fluent)], [.string (b.Value.Op), .int .i64 (b.Value.N), w1], rfl, rfl, ⟨[.string (b.Value.Op)], [.int .i64 (b.Value.N), w1], rfl, rfl, ⟨[.int .i64 (b.Value.N)], [w1], rfl, rfl, ⟨w1, rfl, h1⟩⟩⟩⟩⟩
structure GOp where
  Name : ByteArray
  Cost : Int
  Pre : Cond
  Changes : (List GChange)
  Assigns : (List GAssign)
def encGOp : Enc GOp := Enc.iso (encStr.pair ((encInt .i64).pair (encCond.pair ((encSlice encGChange).pair (encSlice encGAssign))))) (fun b => (b.Name, b.Cost, b.Pre, b.Changes, b.Assigns))
theorem encGOp_val {s : PHeap} {v : Value} {b : GOp} : encGOp.val s v b ↔ ∃ u1, ∃ u2, ∃ u3, ∃ u4, ∃ u5, v = .agg #[.string (b.Name), .int .i64 (b.Cost), u1, u2, u3, u4, u5] ∧ SliceRep (encInt .i64) s u1 (b.Pre.Pos) ∧ SliceRep (encInt .i64) s u2 (b.Pre.Neg) ∧ SliceRep encGTest s u3 (b.Pre.Tests) ∧ SliceRep encGChange s u4 (b.Changes) ∧ SliceRep encGAssign s u5 (b.Assigns) := by
  simp only [Enc.iso, Enc.pair, Enc.val, encCond, encGOp, encInt, encSlice, encStr, if_true, oneCell]
  constructor
  · rintro ⟨cs, rfl, h⟩
    obtain ⟨cs⟩ := cs
    simp only [] at h
    obtain ⟨_, _, rfl, rfl, ⟨_, _, rfl, rfl, ⟨_, _, rfl, ⟨_, _, rfl, ⟨w1, rfl, h1⟩, ⟨_, _, rfl, ⟨w2, rfl, h2⟩, ⟨w3, rfl, h3⟩⟩⟩, ⟨_, _, rfl, ⟨w4, rfl, h4⟩, ⟨w5, rfl, h5⟩⟩⟩⟩⟩ := h
    exact ⟨w1, w2, w3, w4, w5, rfl, h1, h2, h3, h4, h5⟩
  · rintro ⟨w1, w2, w3, w4, w5, rfl, h1, h2, h3, h4, h5⟩
    exact ⟨_, rfl, ⟨[.string (b.Name)], [.int .i64 (b.Cost), w1, w2, w3, w4, w5], rfl, rfl, ⟨[.int .i64 (b.Cost)], [w1, w2, w3, w4, w5], rfl, rfl, ⟨[w1, w2, w3], [w4, w5], rfl, ⟨[w1], [w2, w3], rfl, ⟨w1, rfl, h1⟩, ⟨[w2], [w3], rfl, ⟨w2, rfl, h2⟩, ⟨w3, rfl, h3⟩⟩⟩, ⟨[w4], [w5], rfl, ⟨w4, rfl, h4⟩, ⟨w5, rfl, h5⟩⟩⟩⟩⟩⟩
structure Ground where
  Atoms : (List Atom)
  Fluents : (List GFluent)
  Init : (List Int)
  Goal : (List Cond)
  Ops : (List GOp)
def encGround : Enc Ground := Enc.iso ((encSlice encAtom).pair ((encSlice encGFluent).pair ((encSlice (encInt .i64)).pair ((encSlice encCond).pair (encSlice encGOp))))) (fun b => (b.Atoms, b.Fluents, b.Init, b.Goal, b.Ops))
theorem encGround_val {s : PHeap} {v : Value} {b : Ground} : encGround.val s v b ↔ ∃ u1, ∃ u2, ∃ u3, ∃ u4, ∃ u5, v = .agg #[u1, u2, u3, u4, u5] ∧ SliceRep encAtom s u1 (b.Atoms) ∧ SliceRep encGFluent s u2 (b.Fluents) ∧ SliceRep (encInt .i64) s u3 (b.Init) ∧ SliceRep encCond s u4 (b.Goal) ∧ SliceRep encGOp s u5 (b.Ops) := by
  simp only [Enc.iso, Enc.pair, Enc.val, encGround, encSlice, if_true]
  constructor
  · rintro ⟨cs, rfl, h⟩
    obtain ⟨cs⟩ := cs
    simp only [] at h
    obtain ⟨_, _, rfl, ⟨w1, rfl, h1⟩, ⟨_, _, rfl, ⟨w2, rfl, h2⟩, ⟨_, _, rfl, ⟨w3, rfl, h3⟩, ⟨_, _, rfl, ⟨w4, rfl, h4⟩, ⟨w5, rfl, h5⟩⟩⟩⟩⟩ := h
    exact ⟨w1, w2, w3, w4, w5, rfl, h1, h2, h3, h4, h5⟩
  · rintro ⟨w1, w2, w3, w4, w5, rfl, h1, h2, h3, h4, h5⟩
    exact ⟨_, rfl, ⟨[w1], [w2, w3, w4, w5], rfl, ⟨w1, rfl, h1⟩, ⟨[w2], [w3, w4, w5], rfl, ⟨w2, rfl, h2⟩, ⟨[w3], [w4, w5], rfl, ⟨w3, rfl, h3⟩, ⟨[w4], [w5], rfl, ⟨w4, rfl, h4⟩, ⟨w5, rfl, h5⟩⟩⟩⟩⟩⟩
noncomputable def law20_move_p (a : Int) (b : Int) : Option (GOp) :=
  some (⟨⟨#[40, 109, 111, 118, 101, 41]⟩, 0, (⟨[a], [], []⟩ : Cond), [(⟨(⟨[], [], []⟩ : Cond), a, false⟩ : GChange), (⟨(⟨[], [], []⟩ : Cond), b, true⟩ : GChange)], []⟩ : GOp)
def law20_move_t (a : Int) (b : Int) : GOp :=
  (⟨⟨#[40, 109, 111, 118, 101, 41]⟩, 0, (⟨[a], [], []⟩ : Cond), [(⟨(⟨[], [], []⟩ : Cond), a, false⟩ : GChange), (⟨(⟨[], [], []⟩ : Cond), b, true⟩ : GChange)], []⟩ : GOp)
theorem law20_move_tot (a : Int) (b : Int) : law20_move_p a b = some (law20_move_t a b) := by
  unfold law20_move_p law20_move_t
  (repeat' split) <;> rfl
attribute [irreducible] law20_move_t
noncomputable def law20_example_p  : Option (Ground) :=
  (forS (fun c => fun (a : (List Atom)) => (idx ([⟨#[97]⟩, ⟨#[98]⟩] : List ByteArray) (c : Int)).bind fun b =>
  (app 40 a ([(⟨⟨#[97, 116]⟩, ([b, ⟨#[112]⟩] : List ByteArray)⟩ : Atom), (⟨⟨#[97, 116]⟩, ([b, ⟨#[113]⟩] : List ByteArray)⟩ : Atom)])).bind fun d =>
  some d) (([⟨#[97]⟩, ⟨#[98]⟩] : List ByteArray).length) 0 []).bind (fun (a : (List Atom)) => some (⟨a, [], [0, 2], [(⟨[1], [], []⟩ : Cond)], [(law20_move_t 0 1), (law20_move_t 1 0), (law20_move_t 2 3), (law20_move_t 3 2)]⟩ : Ground))
noncomputable def ground_fluent_p (a : GFluent) : Option (Bool) :=
  some ((decide ((-1099511627776) ≤ a.Lo)) && ((decide (a.Lo ≤ a.Init)) && ((decide (a.Init ≤ a.Hi)) && ((decide (a.Hi ≤ 1099511627776)) && decide ((IntKind.i64.wrap (a.Hi - a.Lo)) < 64)))))
def ground_fluent_t (a : GFluent) : Bool :=
  ((decide ((-1099511627776) ≤ a.Lo)) && ((decide (a.Lo ≤ a.Init)) && ((decide (a.Init ≤ a.Hi)) && ((decide (a.Hi ≤ 1099511627776)) && decide ((IntKind.i64.wrap (a.Hi - a.Lo)) < 64)))))
theorem ground_fluent_tot (a : GFluent) : ground_fluent_p a = some (ground_fluent_t a) := by
  unfold ground_fluent_p ground_fluent_t
  (repeat' split) <;> rfl
attribute [irreducible] ground_fluent_t
noncomputable def ground_Valid_c1_p (a : GFluent) : Option (Bool) :=
  some (!(ground_fluent_t a))
def ground_Valid_c1_t (a : GFluent) : Bool :=
  (!(ground_fluent_t a))
theorem ground_Valid_c1_tot (a : GFluent) : ground_Valid_c1_p a = some (ground_Valid_c1_t a) := by
  unfold ground_Valid_c1_p ground_Valid_c1_t
  (repeat' split) <;> rfl
attribute [irreducible] ground_Valid_c1_t
noncomputable def slices_IndexFunc_apiGFluent_Valid_c1_p (b : (List GFluent)) : Option (Int) :=
  ctl (forC (R := (Int)) (fun a => fun (_ : Unit) => (idx b (a : Int)).bind fun c =>
  if (ground_Valid_c1_t c) then (some (Ctl.ret (a : Int)))
  else (some (Ctl.next ()))) (b.length) 0 ()) (fun r => some r) (fun (_ : Unit) => some (-1))
noncomputable def slices_ContainsFunc_apiGFluent_Valid_c1_p (a : (List GFluent)) : Option (Bool) :=
  (slices_IndexFunc_apiGFluent_Valid_c1_p a).bind <| fun (b : Int) =>
  some (decide (0 ≤ b))
noncomputable def ground_indices_p (b : (List Int)) (d : Int) : Option (Bool) :=
  ctl (forC (R := (Bool)) (fun a => fun (_ : Unit) => (idx b (a : Int)).bind fun c =>
  (if decide (c < 0) then (some true)
  else (if decide (d ≤ c) then (some true)
  else (if decide (0 < (a : Int)) then ((idx b (IntKind.i64.wrap ((a : Int) - 1))).bind fun e =>
  some (decide (c ≤ e)))
  else (some false)))).bind (fun (f : Bool) => if f then (some (Ctl.ret false))
  else (some (Ctl.next ())))) (b.length) 0 ()) (fun r => some r) (fun (_ : Unit) => some true)
noncomputable def ground_right_p : Nat → GExpr → Int → Option (Bool)
  | 0, _, _ => none
  | fu + 1, a, b =>
  if decide (a.Op = (⟨#[110, 117, 109, 98, 101, 114]⟩)) then (some ((decide ((a.Kids.length : Int) = 0)) && ((decide ((-1099511627776) ≤ a.N)) && decide (a.N ≤ 1099511627776))))
  else (if decide (a.Op = (⟨#[102, 108, 117, 101, 110, 116]⟩)) then (some ((decide ((a.Kids.length : Int) = 0)) && ((decide (0 ≤ a.N)) && decide (a.N < b))))
  else ((if decide (a.Op = (⟨#[43]⟩)) then (some (decide (a.Op = (⟨#[43]⟩))))
  else ((if decide (a.Op = (⟨#[45]⟩)) then (some (decide (a.Op = (⟨#[45]⟩))))
  else (some (decide (a.Op = (⟨#[42]⟩))))).bind (fun (g : Bool) => some g))).bind (fun (h : Bool) => if h then ((if decide (a.N = 0) then (if decide ((a.Kids.length : Int) = 2) then ((idx a.Kids 0).bind fun c =>
  (ground_right_p fu c b).bind <| fun (e : Bool) =>
  if e then ((idx a.Kids 1).bind fun d =>
  (ground_right_p fu d b).bind <| fun (f : Bool) =>
  some f)
  else (some false))
  else (some false))
  else (some false)).bind (fun (i : Bool) => some i))
  else (some false))))
noncomputable def ground_condition_p (fu : Nat) (b : Ground) (c : Cond) : Option (Bool) :=
  ctl (forC (R := (Bool)) (fun d => fun (_ : Unit) => (idx c.Tests (d : Int)).bind fun a =>
  (if !decide (a.Op = (⟨#[60]⟩)) then (if !decide (a.Op = (⟨#[60, 61]⟩)) then (if !decide (a.Op = (⟨#[61]⟩)) then (some true)
  else ((ground_right_p fu a.A (b.Fluents.length : Int)).bind <| fun (e : Bool) =>
  if !e then (some true)
  else ((ground_right_p fu a.B (b.Fluents.length : Int)).bind <| fun (f : Bool) =>
  some (!f))))
  else ((ground_right_p fu a.A (b.Fluents.length : Int)).bind <| fun (g : Bool) =>
  if !g then (some true)
  else ((ground_right_p fu a.B (b.Fluents.length : Int)).bind <| fun (h : Bool) =>
  some (!h))))
  else ((ground_right_p fu a.A (b.Fluents.length : Int)).bind <| fun (i : Bool) =>
  if !i then (some true)
  else ((ground_right_p fu a.B (b.Fluents.length : Int)).bind <| fun (j : Bool) =>
  some (!j)))).bind (fun (m : Bool) => if m then (some (Ctl.ret false))
  else (some (Ctl.next ())))) (c.Tests.length) 0 ()) (fun r => some r) (fun (_ : Unit) => ((ground_indices_p c.Pos (b.Atoms.length : Int)).bind <| fun (k : Bool) =>
  if k then ((ground_indices_p c.Neg (b.Atoms.length : Int)).bind <| fun (l : Bool) =>
  some l)
  else (some false)).bind (fun (n : Bool) => some n))
noncomputable def ground_Valid_c2_p (fu : Nat) (a : Cond) (b : Ground) : Option (Bool) :=
  (ground_condition_p fu b a).bind <| fun (c : Bool) =>
  some (!c)
noncomputable def slices_IndexFunc_apiCond_Valid_c2_p (fu : Nat) (b : (List Cond)) (c : Ground) : Option (Int) :=
  ctl (forC (R := (Int)) (fun a => fun (_ : Unit) => (idx b (a : Int)).bind fun d =>
  (ground_Valid_c2_p fu d c).bind <| fun (e : Bool) =>
  if e then (some (Ctl.ret (a : Int)))
  else (some (Ctl.next ()))) (b.length) 0 ()) (fun r => some r) (fun (_ : Unit) => some (-1))
noncomputable def slices_ContainsFunc_apiCond_Valid_c2_p (fu : Nat) (b : (List Cond)) (a : Ground) : Option (Bool) :=
  (slices_IndexFunc_apiCond_Valid_c2_p fu b a).bind <| fun (c : Int) =>
  some (decide (0 ≤ c))
noncomputable def ground_named_p (a : ByteArray) : Option (Bool) :=
  (must (decide ((a.size : Int) ≤ 9223372036854775807))).bind fun e =>
  ctl (forC (R := (Bool)) (fun c => fun (_ : Unit) => ((idx (bytesOf a) (c : Int)).bind fun b =>
  if decide (b < 32) then (some true)
  else (some (decide (126 < b)))).bind (fun (d : Bool) => if d then (some (Ctl.ret false))
  else (some (Ctl.next ())))) ((a.size : Int).toNat) 0 ()) (fun r => some r) (fun (_ : Unit) => some (decide ((a.size : Int) ≤ 256)))
noncomputable def ground_operator_p (fu : Nat) (b : Ground) (a : GOp) : Option (Bool) :=
  (if decide (256 < (a.Changes.length : Int)) then (some true)
  else (if decide (a.Cost < 0) then (some true)
  else (if decide (1048576 < a.Cost) then (some true)
  else ((ground_named_p a.Name).bind <| fun (j : Bool) =>
  if !j then (some true)
  else ((ground_condition_p fu b a.Pre).bind <| fun (k : Bool) =>
  some (!k)))))).bind (fun (n : Bool) => if n then (some false)
  else (ctl (forC (R := (Bool)) (fun f => fun (_ : Unit) => (idx a.Changes (f : Int)).bind fun d =>
  (if decide (d.Atom < 0) then (some true)
  else (if decide ((b.Atoms.length : Int) ≤ d.Atom) then (some true)
  else ((ground_condition_p fu b d.When).bind <| fun (l : Bool) =>
  some (!l)))).bind (fun (o : Bool) => if o then (some (Ctl.ret false))
  else (some (Ctl.next ())))) (a.Changes.length) 0 ()) (fun r => some r) (fun (_ : Unit) => ctl (forC (R := (Bool)) (fun g => fun (e : BMap) => (idx a.Assigns (g : Int)).bind fun c =>
  (if decide (c.Fluent < 0) then (some true)
  else (if decide ((b.Fluents.length : Int) ≤ c.Fluent) then (some true)
  else ((bmapGet e c.Fluent).bind fun i =>
  if i then (some true)
  else ((ground_right_p fu c.Value (b.Fluents.length : Int)).bind <| fun (m : Bool) =>
  some (!m))))).bind (fun (p : Bool) => if p then (some (Ctl.ret false))
  else ((bmapPut e c.Fluent true).bind fun h =>
  some (Ctl.next h)))) (a.Assigns.length) 0 ([] : BMap)) (fun r => some r) (fun (q : BMap) => some true))))
noncomputable def ground_Valid_c3_p (fu : Nat) (b : GOp) (a : Ground) : Option (Bool) :=
  (ground_operator_p fu a b).bind <| fun (c : Bool) =>
  some (!c)
noncomputable def slices_IndexFunc_apiGOp_Valid_c3_p (fu : Nat) (b : (List GOp)) (c : Ground) : Option (Int) :=
  ctl (forC (R := (Int)) (fun a => fun (_ : Unit) => (idx b (a : Int)).bind fun d =>
  (ground_Valid_c3_p fu d c).bind <| fun (e : Bool) =>
  if e then (some (Ctl.ret (a : Int)))
  else (some (Ctl.next ()))) (b.length) 0 ()) (fun r => some r) (fun (_ : Unit) => some (-1))
noncomputable def slices_ContainsFunc_apiGOp_Valid_c3_p (fu : Nat) (b : (List GOp)) (a : Ground) : Option (Bool) :=
  (slices_IndexFunc_apiGOp_Valid_c3_p fu b a).bind <| fun (c : Int) =>
  some (decide (0 ≤ c))
noncomputable def ground_Valid_p (fu : Nat) (a : Ground) : Option (Bool) :=
  if ((decide (4096 < (a.Atoms.length : Int))) || ((decide (4096 < (a.Fluents.length : Int))) || ((decide (4096 < (a.Ops.length : Int))) || decide (64 < (a.Goal.length : Int))))) then (some false)
  else (((slices_ContainsFunc_apiGFluent_Valid_c1_p a.Fluents).bind <| fun (b : Bool) =>
  if !b then ((ground_indices_p a.Init (a.Atoms.length : Int)).bind <| fun (c : Bool) =>
  if c then ((slices_ContainsFunc_apiCond_Valid_c2_p fu a.Goal a).bind <| fun (d : Bool) =>
  if !d then ((slices_ContainsFunc_apiGOp_Valid_c3_p fu a.Ops a).bind <| fun (e : Bool) =>
  some (!e))
  else (some false))
  else (some false))
  else (some false)).bind (fun (f : Bool) => some f))
noncomputable def slices_Clone_string_p (b : (List ByteArray)) : Option ((List ByteArray)) :=
  (app 16 [] b).bind fun a =>
  some a
def delS_p (xs : List ByteArray) (i j : Int) : Option (List ByteArray) := if 0 ≤ i ∧ i ≤ j ∧ j ≤ xs.length ∧ 0 < xs.length then some (xs.take i.toNat ++ xs.drop j.toNat) else none
def strconv_Itoa_p (n : Int) : Option ByteArray := if -9223372036854775808 ≤ n ∧ n ≤ 9223372036854775807 then some ⟨(Lib.itoa n).toArray⟩ else none
noncomputable def strconv_Quote_p (s : ByteArray) : Option ByteArray := if 10 * s.size + 12 ≤ 140737488355328 then some (Go.strOfNums (Go.Lib.quoteZ Go.Lib.goPrintTabs s)) else none
noncomputable def invariant_quoted_o_p (b : (List ByteArray)) : Option (ByteArray) :=
  (forS (fun d => fun (a : (List Int)) => (idx b (d : Int)).bind fun g =>
  (strconv_Quote_p g).bind <| fun (h : ByteArray) =>
  (cat h (⟨#[32]⟩)).bind fun c =>
  (appS a c).bind fun e =>
  some e) (b.length) 0 ([] : List Int)).bind (fun (a : (List Int)) => (strOfE a).bind fun f =>
  some f)
structure invariant_simple where
  atoms : (List Int)
  name : ByteArray
  rest : ByteArray
  position : Bool
def encinvariant_simple : Enc invariant_simple := Enc.iso ((encSlice (encInt .i64)).pair (encStr.pair (encStr.pair encBool))) (fun b => (b.atoms, b.name, b.rest, b.position))
theorem encinvariant_simple_val {s : PHeap} {v : Value} {b : invariant_simple} : encinvariant_simple.val s v b ↔ ∃ u1, v = .agg #[u1, .string (b.name), .string (b.rest), .bool (b.position)] ∧ SliceRep (encInt .i64) s u1 (b.atoms) := by
  simp only [Enc.iso, Enc.pair, Enc.val, encBool, encSlice, encStr, encinvariant_simple, if_true, oneCell]
  constructor
  · rintro ⟨cs, rfl, h⟩
    obtain ⟨cs⟩ := cs
    simp only [] at h
    obtain ⟨_, _, rfl, ⟨w1, rfl, h1⟩, ⟨_, _, rfl, rfl, ⟨_, _, rfl, rfl, rfl⟩⟩⟩ := h
    exact ⟨w1, rfl, h1⟩
  · rintro ⟨w1, rfl, h1⟩
    exact ⟨_, rfl, ⟨[w1], [.string (b.name), .string (b.rest), .bool (b.position)], rfl, ⟨w1, rfl, h1⟩, ⟨[.string (b.name)], [.string (b.rest), .bool (b.position)], rfl, rfl, ⟨[.string (b.rest)], [.bool (b.position)], rfl, rfl, rfl⟩⟩⟩⟩
noncomputable def invariant_simples_p (g : Ground) : Option ((List invariant_simple)) :=
  (forS (fun h => un2 fun (e : (List invariant_simple)) (i : SMap) => (idx g.Atoms (h : Int)).bind fun c =>
  ctl (whileC (R := ((List invariant_simple))) (un3 fun (a : Int) (d : SMap) (b : (List invariant_simple)) => if decide (a < (c.Args.length : Int)) then ((slices_Clone_string_p c.Args).bind <| fun (o : (List ByteArray)) =>
  (if decide (0 ≤ a) then ((delS_p o a (IntKind.i64.wrap (a + 1))).bind <| fun (t : (List ByteArray)) =>
  some t)
  else (some o)).bind (fun (j : (List ByteArray)) => (strconv_Itoa_p a).bind <| fun (ac : ByteArray) =>
  (cat ac (⟨#[32]⟩)).bind fun p =>
  (strconv_Itoa_p (c.Args.length : Int)).bind <| fun (ad : ByteArray) =>
  (cat p ad).bind fun q =>
  (cat q (⟨#[32]⟩)).bind fun s =>
  (app 16 [c.Name] j).bind fun u =>
  (invariant_quoted_o_p u).bind <| fun (ae : ByteArray) =>
  (cat s ae).bind fun f =>
  (mapGet d f).bind fun m =>
  (if !m.2 then ((mapPut d f (b.length : Int)).bind fun ab =>
  (invariant_quoted_o_p j).bind <| fun (af : ByteArray) =>
  (app 64 b ([(⟨[], c.Name, af, decide (0 ≤ a)⟩ : invariant_simple)])).bind fun v =>
  some ((b.length : Int), ab, v))
  else (some (m.1, d, b))).bind (un3 fun (l : Int) (w : SMap) (k : (List invariant_simple)) => (idx k l).bind fun n =>
  (app 8 n.atoms [(h : Int)]).bind fun x =>
  (setI k l ({ n with atoms := x } : invariant_simple)).bind fun y =>
  some (Ctl.next (IntKind.i64.wrap (a + 1), w, y)))))
  else (some (Ctl.brk (a, d, b)))) ((-1), i, e)) (fun r => none) (un3 fun (ag : Int) (z : SMap) (aa : (List invariant_simple)) => some (aa, z))) (g.Atoms.length) 0 ([], ([] : SMap))).bind (un2 fun (e : (List invariant_simple)) (i : SMap) => some e)
noncomputable def slices_Clone_int_p (b : (List Int)) : Option ((List Int)) :=
  (app 8 [] b).bind fun a =>
  some a
noncomputable def sortInts_p (xs : List Int) : Option (List Int) := if xs.length < 4611686018427387904 then some (xs.mergeSort fun x y => decide (x ≤ y)) else none
noncomputable def slices_Compact_int_o_p (a : (List Int)) : Option (Nat × (List Int)) :=
  if decide ((a.length : Int) < 2) then (some ((a).length, a))
  else (ctl (whileC (R := (Nat × (List Int))) (fun (b : Int) => if decide (b < (a.length : Int)) then ((idx a b).bind fun n =>
  (idx a (IntKind.i64.wrap (b - 1))).bind fun o =>
  if decide (n = o) then ((view a b (a.length : Int)).bind fun h =>
  ctl (whileC (R := (Nat × (List Int))) (un3 fun (g : Int) (d : Int) (c : (List Int)) => if decide (d < (h : Int)) then ((idxV c b h d).bind fun p =>
  (idxV c b h (IntKind.i64.wrap (d - 1))).bind fun q =>
  (if !decide (p = q) then ((idxV c b h d).bind fun s =>
  (idx c g).bind fun v =>
  (setI c g s).bind fun k =>
  some (IntKind.i64.wrap (g + 1), k))
  else (some (g, c))).bind (un2 fun (j : Int) (l : (List Int)) => some (Ctl.next (j, IntKind.i64.wrap (d + 1), l))))
  else (some (Ctl.brk (g, d, c)))) (b, 1, a)) (fun r => some (Ctl.ret r)) (un3 fun (e : Int) (t : Int) (f : (List Int)) => (view f e (f.length : Int)).bind fun i =>
  (view ((f).take (e).toNat ++ List.replicate i 0 ++ (f).drop ((e).toNat + i)) 0 e).bind fun m =>
  some (Ctl.ret (m, (f).take (e).toNat ++ List.replicate i 0 ++ (f).drop ((e).toNat + i)))))
  else (some (Ctl.next (IntKind.i64.wrap (b + 1)))))
  else (some (Ctl.brk b))) 1) (fun r => some r) (fun (u : Int) => some ((a).length, a)))
noncomputable def cmp_isNaN_int_p (a : Int) : Option (Bool) :=
  some (!decide (a = a))
def cmp_isNaN_int_t (a : Int) : Bool :=
  (!decide (a = a))
theorem cmp_isNaN_int_tot (a : Int) : cmp_isNaN_int_p a = some (cmp_isNaN_int_t a) := by
  unfold cmp_isNaN_int_p cmp_isNaN_int_t
  (repeat' split) <;> rfl
attribute [irreducible] cmp_isNaN_int_t
noncomputable def cmp_Compare_int_p (b : Int) (a : Int) : Option (Int) :=
  if (cmp_isNaN_int_t b) then (if (cmp_isNaN_int_t a) then (some 0)
  else (some (-1)))
  else (if (cmp_isNaN_int_t a) then (some 1)
  else (if decide (b < a) then (some (-1))
  else (if decide (a < b) then (some 1)
  else (some 0))))
def cmp_Compare_int_t (b : Int) (a : Int) : Int :=
  if (cmp_isNaN_int_t b) then (if (cmp_isNaN_int_t a) then (0)
  else ((-1)))
  else (if (cmp_isNaN_int_t a) then (1)
  else (if decide (b < a) then ((-1))
  else (if decide (a < b) then (1)
  else (0))))
theorem cmp_Compare_int_tot (a : Int) (b : Int) : cmp_Compare_int_p a b = some (cmp_Compare_int_t a b) := by
  unfold cmp_Compare_int_p cmp_Compare_int_t
  (repeat' split) <;> rfl
attribute [irreducible] cmp_Compare_int_t
noncomputable def slices_Compare_int_p (b : (List Int)) (c : (List Int)) : Option (Int) :=
  ctl (forC (R := (Int)) (fun a => fun (_ : Unit) => (idx b (a : Int)).bind fun d =>
  if decide ((c.length : Int) ≤ (a : Int)) then (some (Ctl.ret 1))
  else ((idx c (a : Int)).bind fun e =>
  if !decide ((cmp_Compare_int_t d e) = 0) then (some (Ctl.ret (cmp_Compare_int_t d e)))
  else (some (Ctl.next ())))) (b.length) 0 ()) (fun r => some r) (fun (_ : Unit) => if decide ((b.length : Int) < (c.length : Int)) then (some (-1))
  else (some 0))
def cmpL : List Int → List Int → Int
  | [], [] => 0
  | [], _ :: _ => -1
  | _ :: _, [] => 1
  | x :: xs, y :: ys => if x < y then -1 else if y < x then 1 else cmpL xs ys
noncomputable def sortLists_p (xs : List (List Int)) : Option (List (List Int)) := if xs.length < 4611686018427387904 then some (xs.mergeSort fun x y => !decide (cmpL y x < 0)) else none
noncomputable def slices_Equal_int_p (a : (List Int)) (c : (List Int)) : Option (Bool) :=
  if !decide ((a.length : Int) = (c.length : Int)) then (some false)
  else (ctl (forC (R := (Bool)) (fun b => fun (_ : Unit) => (idx a (b : Int)).bind fun d =>
  (idx c (b : Int)).bind fun e =>
  if !decide (d = e) then (some (Ctl.ret false))
  else (some (Ctl.next ()))) (a.length) 0 ()) (fun r => some r) (fun (_ : Unit) => some true))
noncomputable def slices_CompactFunc_int_o_Equal_p (a : (List (List Int))) : Option (Nat × (List (List Int))) :=
  if decide ((a.length : Int) < 2) then (some ((a).length, a))
  else (ctl (whileC (R := (Nat × (List (List Int)))) (fun (b : Int) => if decide (b < (a.length : Int)) then ((idx a b).bind fun n =>
  (idx a (IntKind.i64.wrap (b - 1))).bind fun o =>
  (slices_Equal_int_p n o).bind <| fun (t : Bool) =>
  if t then ((view a b (a.length : Int)).bind fun h =>
  ctl (whileC (R := (Nat × (List (List Int)))) (un3 fun (g : Int) (d : Int) (c : (List (List Int))) => if decide (d < (h : Int)) then ((idxV c b h d).bind fun p =>
  (idxV c b h (IntKind.i64.wrap (d - 1))).bind fun q =>
  (slices_Equal_int_p p q).bind <| fun (u : Bool) =>
  (if !u then ((idxV c b h d).bind fun s =>
  (idx c g).bind fun x =>
  (setI c g s).bind fun k =>
  some (IntKind.i64.wrap (g + 1), k))
  else (some (g, c))).bind (un2 fun (j : Int) (l : (List (List Int))) => some (Ctl.next (j, IntKind.i64.wrap (d + 1), l))))
  else (some (Ctl.brk (g, d, c)))) (b, 1, a)) (fun r => some (Ctl.ret r)) (un3 fun (e : Int) (v : Int) (f : (List (List Int))) => (view f e (f.length : Int)).bind fun i =>
  (view ((f).take (e).toNat ++ List.replicate i [] ++ (f).drop ((e).toNat + i)) 0 e).bind fun m =>
  some (Ctl.ret (m, (f).take (e).toNat ++ List.replicate i [] ++ (f).drop ((e).toNat + i)))))
  else (some (Ctl.next (IntKind.i64.wrap (b + 1)))))
  else (some (Ctl.brk b))) 1) (fun r => some r) (fun (w : Int) => some ((a).length, a)))
noncomputable def invariant_candidates_p (m : Ground) : Option ((List (List Int))) :=
  (invariant_simples_p m).bind <| fun (g : (List invariant_simple)) =>
  (forS (fun h => un2 fun (e : (List (List Int))) (d : (List (ByteArray × (List Int)))) => (idx g (h : Int)).bind fun a =>
  (slices_Clone_int_p a.atoms).bind <| fun (x : (List Int)) =>
  (app 24 e [x]).bind fun o =>
  (thGet d a.rest).bind fun c =>
  (must (decide (c.length ≤ 9223372036854775807))).bind fun z =>
  (forS (fun n => fun (b : (List (List Int))) => (idx c (n : Int)).bind fun w =>
  (idx g w).bind fun f =>
  (if ((!decide (a.name = f.name)) && (a.position || f.position)) then ((slices_Clone_int_p a.atoms).bind <| fun (y : (List Int)) =>
  (app 8 y f.atoms).bind fun p =>
  (sortInts_p p).bind <| fun (q : (List Int)) =>
  (slices_Compact_int_o_p q).bind <| un2 fun (k : Nat) (i : (List Int)) =>
  (must (decide (k ≤ i.length))).bind fun aa =>
  (app 24 b [(i).take k]).bind fun r =>
  some r)
  else (some b)).bind (fun (s : (List (List Int))) => some s)) (c.length) 0 o).bind (fun (b : (List (List Int))) => (app 8 c [(h : Int)]).bind fun t =>
  (thPut d a.rest t).bind fun v =>
  some (b, v))) (g.length) 0 ([], ([] : (List (ByteArray × (List Int)))))).bind (un2 fun (e : (List (List Int))) (d : (List (ByteArray × (List Int)))) => (sortLists_p e).bind <| fun (u : (List (List Int))) =>
  (slices_CompactFunc_int_o_Equal_p u).bind <| un2 fun (l : Nat) (j : (List (List Int))) =>
  (must (decide (l ≤ j.length))).bind fun ab =>
  some ((j).take l))
structure GState where
  True : (List Int)
  Values : (List Int)
noncomputable def slices_Index_int_p (b : (List Int)) (c : Int) : Option (Int) :=
  ctl (forC (R := (Int)) (fun a => fun (_ : Unit) => (idx b (a : Int)).bind fun d =>
  if decide (c = d) then (some (Ctl.ret (a : Int)))
  else (some (Ctl.next ()))) (b.length) 0 ()) (fun r => some r) (fun (_ : Unit) => some (-1))
noncomputable def slices_Contains_int_p (a : (List Int)) (b : Int) : Option (Bool) :=
  (slices_Index_int_p a b).bind <| fun (c : Int) =>
  some (decide (0 ≤ c))
noncomputable def invariant_Holds_p (g : GState) (b : (List Int)) : Option (Bool) :=
  (forS (fun d => fun (a : BMap) => (idx b (d : Int)).bind fun c =>
  (slices_Contains_int_p g.True c).bind <| fun (h : Bool) =>
  (if h then ((bmapPut a c true).bind fun f =>
  some f)
  else (some a)).bind (fun (e : BMap) => some e)) (b.length) 0 ([] : BMap)).bind (fun (a : BMap) => some (decide ((a.length : Int) ≤ 1)))
noncomputable def cmp_Less_int_p (a : Int) (b : Int) : Option (Bool) :=
  some (bif (cmp_isNaN_int_t a) then ((!(cmp_isNaN_int_t b)) || decide (a < b)) else decide (a < b))
def cmp_Less_int_t (a : Int) (b : Int) : Bool :=
  (bif (cmp_isNaN_int_t a) then ((!(cmp_isNaN_int_t b)) || decide (a < b)) else decide (a < b))
theorem cmp_Less_int_tot (a : Int) (b : Int) : cmp_Less_int_p a b = some (cmp_Less_int_t a b) := by
  unfold cmp_Less_int_p cmp_Less_int_t
  (repeat' split) <;> rfl
attribute [irreducible] cmp_Less_int_t
noncomputable def slices_isNaN_int_p (a : Int) : Option (Bool) :=
  some (!decide (a = a))
def slices_isNaN_int_t (a : Int) : Bool :=
  (!decide (a = a))
theorem slices_isNaN_int_tot (a : Int) : slices_isNaN_int_p a = some (slices_isNaN_int_t a) := by
  unfold slices_isNaN_int_p slices_isNaN_int_t
  (repeat' split) <;> rfl
attribute [irreducible] slices_isNaN_int_t
noncomputable def slices_BinarySearch_int_p (c : (List Int)) (e : Int) : Option (Int × Bool) :=
  ctl (whileC (R := (Int × Bool)) (un2 fun (a : Int) (b : Int) => if decide (a < b) then ((idx c (IntKind.i64.wrap ((IntKind.u64.wrap (IntKind.i64.wrap (a + b))).fdiv (2 ^ 1)))).bind fun i =>
  (if (cmp_Less_int_t i e) then (some (IntKind.i64.wrap ((IntKind.i64.wrap ((IntKind.u64.wrap (IntKind.i64.wrap (a + b))).fdiv (2 ^ 1))) + 1), b))
  else (some (a, IntKind.i64.wrap ((IntKind.u64.wrap (IntKind.i64.wrap (a + b))).fdiv (2 ^ 1))))).bind (un2 fun (g : Int) (h : Int) => some (Ctl.next (g, h))))
  else (some (Ctl.brk (a, b)))) (0, (c.length : Int))) (fun r => some r) (un2 fun (d : Int) (k : Int) => (if decide (d < (c.length : Int)) then ((idx c d).bind fun f =>
  if decide (f = e) then (some true)
  else (if (slices_isNaN_int_t f) then (some (slices_isNaN_int_t e))
  else (some false)))
  else (some false)).bind (fun (j : Bool) => some (d, j)))
structure invariant_literals where
  pos : BMap
  neg : BMap
noncomputable def invariant_situation_c1_p (a : Cond) (d : invariant_literals) : Option (BMap × BMap) :=
  (forS (fun e => fun (b : BMap) => (idx a.Pos (e : Int)).bind fun i =>
  (bmapPut b i true).bind fun g =>
  some g) (a.Pos.length) 0 d.pos).bind (fun (b : BMap) => (forS (fun f => fun (c : BMap) => (idx a.Neg (f : Int)).bind fun j =>
  (bmapPut c j true).bind fun h =>
  some h) (a.Neg.length) 0 d.neg).bind (fun (c : BMap) => some (b, c)))
noncomputable def invariant_situation_p (s : GOp) (f : (List GChange)) (c : Int) (g : (List Int)) : Option (Bool × invariant_literals) :=
  (invariant_situation_c1_p s.Pre (⟨([] : BMap), ([] : BMap)⟩ : invariant_literals)).bind <| un2 fun (k : BMap) (l : BMap) =>
  (forS (fun i => un2 fun (b : BMap) (d : BMap) => (idx f (i : Int)).bind fun v =>
  (invariant_situation_c1_p v.When (⟨b, d⟩ : invariant_literals)).bind <| un2 fun (m : BMap) (n : BMap) =>
  some (m, n)) (f.length) 0 (k, l)).bind (un2 fun (b : BMap) (d : BMap) => (if decide (0 ≤ c) then ((bmapPut b c true).bind fun p =>
  some p)
  else (some b)).bind (fun (e : BMap) => (forS (fun j => fun (a : BMap) => (idx g (j : Int)).bind fun h =>
  (if !decide (h = c) then ((bmapPut a h true).bind fun q =>
  some q)
  else (some a)).bind (fun (o : BMap) => some o)) (g.length) 0 d).bind (fun (a : BMap) => rangeC (e.map Prod.fst) fun t => ctl (foldC (R := (Bool × invariant_literals)) (fun w => fun (_ : Unit) => (bmapGet a w).bind fun u =>
  if u then (some (Ctl.ret (false, (⟨e, a⟩ : invariant_literals))))
  else (some (Ctl.next ()))) t ()) (fun r => some r) (fun (_ : Unit) => some (true, (⟨e, a⟩ : invariant_literals))))))
noncomputable def invariant_literals_deletes_o_p (d : invariant_literals) (e : GOp) (o : Int) : Option (Bool) :=
  ctl (forC (R := (Bool)) (fun h => fun (_ : Unit) => (idx e.Changes (h : Int)).bind fun a =>
  if (a.Add || ((!decide (a.Atom = o)) || decide (0 < (a.When.Tests.length : Int)))) then (some (Ctl.next ()))
  else ((forS (fun i => fun (b : Bool) => (idx a.When.Pos (i : Int)).bind fun m =>
  (if b then ((bmapGet d.pos m).bind fun k =>
  some k)
  else (some false)).bind (fun (f : Bool) => some f)) (a.When.Pos.length) 0 true).bind (fun (b : Bool) => (forS (fun j => fun (c : Bool) => (idx a.When.Neg (j : Int)).bind fun n =>
  (if c then ((bmapGet d.neg n).bind fun l =>
  some l)
  else (some false)).bind (fun (g : Bool) => some g)) (a.When.Neg.length) 0 b).bind (fun (c : Bool) => if c then (some (Ctl.ret true))
  else (some (Ctl.next ())))))) (e.Changes.length) 0 ()) (fun r => some r) (fun (_ : Unit) => some false)
noncomputable def invariant_keeps_p (c : GOp) (b : (List Int)) : Option (Bool) :=
  (forS (fun m => fun (a : (List GChange)) => (idx c.Changes (m : Int)).bind fun e =>
  (slices_BinarySearch_int_p b e.Atom).bind <| un2 fun (ab : Int) (u : Bool) =>
  (if (u && e.Add) then ((app 88 a [e]).bind fun q =>
  some q)
  else (some a)).bind (fun (s : (List GChange)) => some s)) (c.Changes.length) 0 []).bind (fun (a : (List GChange)) => ctl (forC (R := (Bool)) (fun i => un2 fun (g : (List GChange)) (l : (List GChange)) => (idx l (i : Int)).bind fun d =>
  (cut g 0 (i : Int)).bind fun h =>
  ctl (forC (R := (Bool)) (fun n => fun (_ : Unit) => (idx h (n : Int)).bind fun k =>
  if decide (d.Atom = k.Atom) then (some (Ctl.next ()))
  else ((app 8 [(-1)] b).bind fun j =>
  ctl (forC (R := (Bool)) (fun o => fun (_ : Unit) => (idx j (o : Int)).bind fun t =>
  (invariant_situation_p c [d, k] t b).bind <| un2 fun (v : Bool) (ac : invariant_literals) =>
  if v then (some (Ctl.ret false))
  else (some (Ctl.next ()))) (j.length) 0 ()) (fun r => some (Ctl.ret r)) (fun (_ : Unit) => some (Ctl.next ())))) (h.length) 0 ()) (fun r => some (Ctl.ret r)) (fun (_ : Unit) => ctl (forC (R := (Bool)) (fun p => fun (_ : Unit) => (idx b (p : Int)).bind fun f =>
  if decide (f = d.Atom) then (some (Ctl.next ()))
  else ((invariant_situation_p c [d] f b).bind <| un2 fun (w : Bool) (x : invariant_literals) =>
  (if w then ((invariant_literals_deletes_o_p x c f).bind <| fun (y : Bool) =>
  some (!y))
  else (some false)).bind (fun (z : Bool) => if z then (some (Ctl.ret false))
  else (some (Ctl.next ()))))) (b.length) 0 ()) (fun r => some (Ctl.ret r)) (fun (_ : Unit) => some (Ctl.next (g, l))))) (a.length) 0 (a, a)) (fun r => some r) (un2 fun (aa : (List GChange)) (ad : (List GChange)) => some true))
noncomputable def invariant_balanced_p (b : Ground) (a : (List Int)) : Option (Bool) :=
  ctl (forC (R := (Bool)) (fun c => fun (_ : Unit) => (idx a (c : Int)).bind fun d =>
  (if decide (d < 0) then (some true)
  else (if decide ((b.Atoms.length : Int) ≤ d) then (some true)
  else (if decide (0 < (c : Int)) then ((idx a (IntKind.i64.wrap ((c : Int) - 1))).bind fun f =>
  some (decide (d ≤ f)))
  else (some false)))).bind (fun (j : Bool) => if j then (some (Ctl.ret false))
  else (some (Ctl.next ())))) (a.length) 0 ()) (fun r => some r) (fun (_ : Unit) => (invariant_Holds_p (⟨b.Init, []⟩ : GState) a).bind <| fun (h : Bool) =>
  if !h then (some false)
  else (ctl (forC (R := (Bool)) (fun e => fun (_ : Unit) => (idx b.Ops (e : Int)).bind fun g =>
  (invariant_keeps_p g a).bind <| fun (i : Bool) =>
  if !i then (some (Ctl.ret false))
  else (some (Ctl.next ()))) (b.Ops.length) 0 ()) (fun r => some r) (fun (_ : Unit) => some true)))
noncomputable def invariant_inside_p (a : (List Int)) (b : (List Int)) : Option (Bool) :=
  if decide ((b.length : Int) < (a.length : Int)) then (some false)
  else (ctl (forC (R := (Bool)) (fun c => fun (_ : Unit) => (idx a (c : Int)).bind fun d =>
  (slices_BinarySearch_int_p b d).bind <| un2 fun (f : Int) (e : Bool) =>
  if !e then (some (Ctl.ret false))
  else (some (Ctl.next ()))) (a.length) 0 ()) (fun r => some r) (fun (_ : Unit) => some true))
noncomputable def invariant_Groups_p (fu : Nat) (d : Ground) : Option ((List (List Int)) × (Option Int)) :=
  (ground_Valid_p fu d).bind <| fun (q : Bool) =>
  if !q then (some ([], some 2))
  else ((invariant_candidates_p d).bind <| fun (i : (List (List Int))) =>
  (forS (fun k => fun (a : (List (List Int))) => (idx i (k : Int)).bind fun e =>
  (if decide (2 ≤ (e.length : Int)) then ((invariant_balanced_p d e).bind <| fun (r : Bool) =>
  some r)
  else (some false)).bind (fun (u : Bool) => (if u then ((app 24 a [e]).bind fun l =>
  some l)
  else (some a)).bind (fun (m : (List (List Int))) => some m))) (i.length) 0 []).bind (fun (a : (List (List Int))) => (forS (fun f => fun (b : (List (List Int))) => (idx a (f : Int)).bind fun h =>
  (forS (fun g => fun (c : Bool) => (idx a (g : Int)).bind fun p =>
  (if c then (some true)
  else (if !decide ((f : Int) = (g : Int)) then ((invariant_inside_p h p).bind <| fun (s : Bool) =>
  some s)
  else (some false))).bind (fun (j : Bool) => some j)) (a.length) 0 false).bind (fun (c : Bool) => (if !c then ((slices_Clone_int_p h).bind <| fun (t : (List Int)) =>
  (app 24 b [t]).bind fun n =>
  some n)
  else (some b)).bind (fun (o : (List (List Int))) => some o))) (a.length) 0 []).bind (fun (b : (List (List Int))) => some (b, none))))
noncomputable def base_Ints_p (a : (List Int)) (b : (List Int)) : Option (Bool) :=
  if !decide ((a.length : Int) = (b.length : Int)) then (some false)
  else (ctl (forC (R := (Bool)) (fun c => fun (_ : Unit) => (idx a (c : Int)).bind fun d =>
  (idx b (c : Int)).bind fun e =>
  if !decide (d = e) then (some (Ctl.ret false))
  else (some (Ctl.next ()))) (a.length) 0 ()) (fun r => some r) (fun (_ : Unit) => some true))
noncomputable def invariant_Balanced_p (fu : Nat) (a : Ground) (b : (List Int)) : Option (Bool) :=
  ((ground_Valid_p fu a).bind <| fun (c : Bool) =>
  if c then ((invariant_balanced_p a b).bind <| fun (d : Bool) =>
  some d)
  else (some false)).bind (fun (e : Bool) => some e)
noncomputable def law20_awake_p (fu : Nat) : Option (Bool) :=
  (law20_example_p).bind <| fun (d : Ground) =>
  (invariant_Groups_p fu d).bind <| un2 fun (a : (List (List Int))) (e : (Option Int)) =>
  (if e.isNone then (if decide ((a.length : Int) = 2) then ((idx a 0).bind fun b =>
  (base_Ints_p b [0, 1]).bind <| fun (f : Bool) =>
  if f then ((idx a 1).bind fun c =>
  (base_Ints_p c [2, 3]).bind <| fun (g : Bool) =>
  if g then ((law20_example_p).bind <| fun (h : Ground) =>
  (invariant_Balanced_p fu h [0, 2]).bind <| fun (i : Bool) =>
  some (!i))
  else (some false))
  else (some false))
  else (some false))
  else (some false)).bind (fun (j : Bool) => some j)
noncomputable def law20_few_p (fu : Nat) (a : Ground) : Option (Bool) :=
  if ((decide (14 < (a.Atoms.length : Int))) || ((decide (8 < (a.Ops.length : Int))) || ((decide (3 < (a.Fluents.length : Int))) || decide (4 < (a.Goal.length : Int))))) then (some false)
  else (ctl (forC (R := (Bool)) (fun b => fun (_ : Unit) => (idx a.Atoms (b : Int)).bind fun d =>
  if decide (20 < (d.Args.length : Int)) then (some (Ctl.ret false))
  else (some (Ctl.next ()))) (a.Atoms.length) 0 ()) (fun r => some r) (fun (_ : Unit) => ctl (forC (R := (Bool)) (fun c => fun (_ : Unit) => (idx a.Ops (c : Int)).bind fun e =>
  if decide (10 < (e.Changes.length : Int)) then (some (Ctl.ret false))
  else (some (Ctl.next ()))) (a.Ops.length) 0 ()) (fun r => some r) (fun (_ : Unit) => (ground_Valid_p fu a).bind <| fun (f : Bool) =>
  some f)))
noncomputable def invariant_Candidates_p (fu : Nat) (a : Ground) : Option ((List (List Int))) :=
  (ground_Valid_p fu a).bind <| fun (b : Bool) =>
  if !b then (some [])
  else ((invariant_candidates_p a).bind <| fun (c : (List (List Int))) =>
  some c)
noncomputable def law20_covered_p (f : (List (List Int))) (b : (List Int)) : Option (Int × Bool) :=
  ctl (forC (R := (Int × Bool)) (fun e => fun (_ : Unit) => (idx f (e : Int)).bind fun d =>
  (forS (fun h => fun (c : BMap) => (idx d (h : Int)).bind fun l =>
  (bmapPut c l true).bind fun j =>
  some j) (d.length) 0 ([] : BMap)).bind (fun (c : BMap) => (forS (fun i => fun (a : Bool) => (idx b (i : Int)).bind fun m =>
  (if a then ((bmapGet c m).bind fun k =>
  some k)
  else (some false)).bind (fun (g : Bool) => some g)) (b.length) 0 true).bind (fun (a : Bool) => if a then (some (Ctl.ret ((e : Int), decide ((d.length : Int) = (b.length : Int)))))
  else (some (Ctl.next ()))))) (f.length) 0 ()) (fun r => some r) (fun (_ : Unit) => some ((-1), false))
noncomputable def law20_InvariantMaximal_p (fu : Nat) (a : Ground) : Option (Bool) :=
  ((law20_awake_p fu).bind <| fun (i : Bool) =>
  if !i then (some true)
  else ((law20_few_p fu a).bind <| fun (j : Bool) =>
  some (!j))).bind (fun (o : Bool) => if o then ((law20_awake_p fu).bind <| fun (k : Bool) =>
  some k)
  else ((invariant_Groups_p fu a).bind <| un2 fun (d : (List (List Int))) (l : (Option Int)) =>
  if l.isSome then (some false)
  else ((invariant_Candidates_p fu a).bind <| fun (e : (List (List Int))) =>
  ctl (forC (R := (Bool)) (fun g => fun (b : Int) => (idx e (g : Int)).bind fun c =>
  (if decide ((c.length : Int) < 2) then (some true)
  else ((invariant_Balanced_p fu a c).bind <| fun (m : Bool) =>
  some (!m))).bind (fun (p : Bool) => if p then (some (Ctl.next b))
  else ((law20_covered_p d c).bind <| un2 fun (f : Int) (n : Bool) =>
  if decide (f < 0) then (some (Ctl.ret false))
  else (if n then (if !decide (f = b) then (some (Ctl.ret false))
  else (some (Ctl.next (IntKind.i64.wrap (b + 1)))))
  else (some (Ctl.next b)))))) (e.length) 0 0) (fun r => some r) (fun (h : Int) => some (decide (h = (d.length : Int)))))))
end Go.Pw
