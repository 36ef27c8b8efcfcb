/-
  What the functions compute, in plain Lean (printed by my generator).
-/
import Derived.Test.YtjmapcjjkaffoaaGreatL6
import Derived.Test.YtjmapcjjkaffoaaGreatL21
import Derived.Test.YtjmapcjjkaffoaaGreatL11
import Derived.Test.YtjmapcjjkaffoaaGreatL14
import Derived.Test.YtjmapcjjkaffoaaGreatL16
import Derived.Test.YtjmapcjjkaffoaaGreatL18
import Derived.Test.YtjmapcjjkaffoaaGreatL30
import Derived.Test.YtjmapcjjkaffoaaGreatL31
import Derived.Test.YtjmapcjjkaffoaaGreatL34
import Derived.Test.YtjmapcjjkaffoaaGreatL41
import Derived.Test.YtjmapcjjkaffoaaGreatL43
import Derived.Test.YtjmapcjjkaffoaaGreatL44
set_option maxRecDepth 100000
set_option maxHeartbeats 4000000
set_option linter.unusedVariables false
namespace Go.Pw
structure Atom where
  Name : ByteArray
  Args : (List ByteArray)
def encAtom : Enc Atom := Enc.iso (encStr.pair (encSlice encStr)) (fun b => (b.Name, b.Args))
structure GExpr where
  Op : ByteArray
  N : Int
  Kids : (List GExpr)
def encGExprF (E : Enc GExpr) : Enc GExpr := Enc.iso (encStr.pair ((encInt .i64).pair (encSlice E))) (fun b => (b.Op, b.N, b.Kids))
theorem encGExprF_sup (G : Nat → Enc GExpr) (L : Enc GExpr) (h : Enc.Sup G L) : Enc.Sup (fun n => encGExprF (G n)) (encGExprF L) := Enc.Sup.iso _ (Enc.Sup.snd _ (Enc.Sup.snd _ (Enc.Sup.slice h)))
def encGExpr : Enc GExpr := Enc.fix encGExprF 3 (by decide) (fun _ _ => rfl)
theorem encGExpr_iff (s : PHeap) (cs : List Value) (a : GExpr) : encGExpr.rep s cs a ↔ (encGExprF encGExpr).rep s cs a := Enc.fix_iff (fun _ _ => Enc.le_of_sup encGExprF_sup) encGExprF_sup s cs a
theorem encGExpr_val {s : PHeap} {v : Value} {b : GExpr} : encGExpr.val s v b ↔ ∃ u1, v = .agg #[.string (b.Op), .int .i64 (b.N), u1] ∧ SliceRep encGExpr s u1 (b.Kids) := by
  refine (Enc.val_iff (E := encGExpr) (E' := encGExprF encGExpr) rfl encGExpr_iff s v b).trans ?_
  simp only [Enc.iso, Enc.pair, Enc.val, encGExprF, encGExpr_iff, encInt, encSlice, encStr, if_true, oneCell]
  constructor
  · rintro ⟨cs, rfl, h⟩
    obtain ⟨cs⟩ := cs
    simp only [] at h
    obtain ⟨_, _, rfl, rfl, ⟨_, _, rfl, rfl, ⟨w1, rfl, h1⟩⟩⟩ := h
    exact ⟨w1, rfl, h1⟩
  · rintro ⟨w1, rfl, h1⟩
    exact ⟨_, rfl, ⟨[.string (b.Op)], [.int .i64 (b.N), w1], rfl, rfl, ⟨[.int .i64 (b.N)], [w1], rfl, rfl, ⟨w1, rfl, h1⟩⟩⟩⟩
structure GTest where
  Op : ByteArray
  A : GExpr
  B : GExpr
def encGTest : Enc GTest := Enc.iso (encStr.pair (encGExpr.pair encGExpr)) (fun b => (b.Op, b.A, b.B))
theorem encGTest_val {s : PHeap} {v : Value} {b : GTest} : encGTest.val s v b ↔ ∃ u1, ∃ u2, v = .agg #[.string (b.Op), .string (b.A.Op), .int .i64 (b.A.N), u1, .string (b.B.Op), .int .i64 (b.B.N), u2] ∧ SliceRep encGExpr s u1 (b.A.Kids) ∧ SliceRep encGExpr s u2 (b.B.Kids) := by
  simp only [Enc.iso, Enc.pair, Enc.val, encGExprF, encGExpr_iff, encGTest, encInt, encSlice, encStr, if_true, oneCell]
  constructor
  · rintro ⟨cs, rfl, h⟩
    obtain ⟨cs⟩ := cs
    simp only [] at h
    obtain ⟨_, _, rfl, rfl, ⟨_, _, rfl, ⟨_, _, rfl, rfl, ⟨_, _, rfl, rfl, ⟨w1, rfl, h1⟩⟩⟩, ⟨_, _, rfl, rfl, ⟨_, _, rfl, rfl, ⟨w2, rfl, h2⟩⟩⟩⟩⟩ := h
    exact ⟨w1, w2, rfl, h1, h2⟩
  · rintro ⟨w1, w2, rfl, h1, h2⟩
    exact ⟨_, rfl, ⟨[.string (b.Op)], [.string (b.A.Op), .int .i64 (b.A.N), w1, .string (b.B.Op), .int .i64 (b.B.N), w2], rfl, rfl, ⟨[.string (b.A.Op), .int .i64 (b.A.N), w1], [.string (b.B.Op), .int .i64 (b.B.N), w2], rfl, ⟨[.string (b.A.Op)], [.int .i64 (b.A.N), w1], rfl, rfl, ⟨[.int .i64 (b.A.N)], [w1], rfl, rfl, ⟨w1, rfl, h1⟩⟩⟩, ⟨[.string (b.B.Op)], [.int .i64 (b.B.N), w2], rfl, rfl, ⟨[.int .i64 (b.B.N)], [w2], rfl, rfl, ⟨w2, rfl, h2⟩⟩⟩⟩⟩⟩
structure Cond where
  Pos : (List Int)
  Neg : (List Int)
  Tests : (List GTest)
def encCond : Enc Cond := Enc.iso ((encSlice (encInt .i64)).pair ((encSlice (encInt .i64)).pair (encSlice encGTest))) (fun b => (b.Pos, b.Neg, b.Tests))
theorem encCond_val {s : PHeap} {v : Value} {b : Cond} : encCond.val s v b ↔ ∃ u1, ∃ u2, ∃ u3, v = .agg #[u1, u2, u3] ∧ SliceRep (encInt .i64) s u1 (b.Pos) ∧ SliceRep (encInt .i64) s u2 (b.Neg) ∧ SliceRep encGTest s u3 (b.Tests) := by
  simp only [Enc.iso, Enc.pair, Enc.val, encCond, encSlice, if_true]
  constructor
  · rintro ⟨cs, rfl, h⟩
    obtain ⟨cs⟩ := cs
    simp only [] at h
    obtain ⟨_, _, rfl, ⟨w1, rfl, h1⟩, ⟨_, _, rfl, ⟨w2, rfl, h2⟩, ⟨w3, rfl, h3⟩⟩⟩ := h
    exact ⟨w1, w2, w3, rfl, h1, h2, h3⟩
  · rintro ⟨w1, w2, w3, rfl, h1, h2, h3⟩
    exact ⟨_, rfl, ⟨[w1], [w2, w3], rfl, ⟨w1, rfl, h1⟩, ⟨[w2], [w3], rfl, ⟨w2, rfl, h2⟩, ⟨w3, rfl, h3⟩⟩⟩⟩
structure GChange where
  When : Cond
  Atom : Int
  Add : Bool
def encGChange : Enc GChange := Enc.iso (encCond.pair ((encInt .i64).pair encBool)) (fun b => (b.When, b.Atom, b.Add))
theorem encGChange_val {s : PHeap} {v : Value} {b : GChange} : encGChange.val s v b ↔ ∃ u1, ∃ u2, ∃ u3, v = .agg #[u1, u2, u3, .int .i64 (b.Atom), .bool (b.Add)] ∧ SliceRep (encInt .i64) s u1 (b.When.Pos) ∧ SliceRep (encInt .i64) s u2 (b.When.Neg) ∧ SliceRep encGTest s u3 (b.When.Tests) := by
  simp only [Enc.iso, Enc.pair, Enc.val, encBool, encCond, encGChange, encInt, encSlice, if_true, oneCell]
  constructor
  · rintro ⟨cs, rfl, h⟩
    obtain ⟨cs⟩ := cs
    simp only [] at h
    obtain ⟨_, _, rfl, ⟨_, _, rfl, ⟨w1, rfl, h1⟩, ⟨_, _, rfl, ⟨w2, rfl, h2⟩, ⟨w3, rfl, h3⟩⟩⟩, ⟨_, _, rfl, rfl, rfl⟩⟩ := h
    exact ⟨w1, w2, w3, rfl, h1, h2, h3⟩
  · rintro ⟨w1, w2, w3, rfl, h1, h2, h3⟩
    exact ⟨_, rfl, ⟨[w1, w2, w3], [.int .i64 (b.Atom), .bool (b.Add)], rfl, ⟨[w1], [w2, w3], rfl, ⟨w1, rfl, h1⟩, ⟨[w2], [w3], rfl, ⟨w2, rfl, h2⟩, ⟨w3, rfl, h3⟩⟩⟩, ⟨[.int .i64 (b.Atom)], [.bool (b.Add)], rfl, rfl, rfl⟩⟩⟩
structure GAssign where
  Fluent : Int
  Value : GExpr
def encGAssign : Enc GAssign := Enc.iso ((encInt .i64).pair encGExpr) (fun b => (b.Fluent, b.Value))
theorem encGAssign_val {s : PHeap} {v : Value} {b : GAssign} : encGAssign.val s v b ↔ ∃ u1, v = .agg #[.int .i64 (b.Fluent), .string (b.Value.Op), .int .i64 (b.Value.N), u1] ∧ SliceRep encGExpr s u1 (b.Value.Kids) := by
  simp only [Enc.iso, Enc.pair, Enc.val, encGAssign, encGExprF, encGExpr_iff, encInt, encSlice, encStr, if_true, oneCell]
  constructor
  · rintro ⟨cs, rfl, h⟩
    obtain ⟨cs⟩ := cs
    simp only [] at h
    obtain ⟨_, _, rfl, rfl, ⟨_, _, rfl, rfl, ⟨_, _, rfl, rfl, ⟨w1, rfl, h1⟩⟩⟩⟩ := h
    exact ⟨w1, rfl, h1⟩
  · rintro ⟨w1, rfl, h1⟩
    exact ⟨_, rfl, ⟨[.int .i64 (b.Fluent)], [.string (b.Value.Op), .int .i64 (b.Value.N), w1], rfl, rfl, ⟨[.string (b.Value.Op)], [.int .i64 (b.Value.N), w1], rfl, rfl, ⟨[.int .i64 (b.Value.N)], [w1], rfl, rfl, ⟨w1, rfl, h1⟩⟩⟩⟩⟩
structure GOp where
  Name : ByteArray
  Cost : Int
  Pre : Cond
  Changes : (List GChange)
  Assigns : (List GAssign)
def encGOp : Enc GOp := Enc.iso (encStr.pair ((encInt .i64).pair (encCond.pair ((encSlice encGChange).pair (encSlice encGAssign))))) (fun b => (b.Name, b.Cost, b.Pre, b.Changes, b.Assigns))
theorem encGOp_val {s : PHeap} {v : Value} {b : GOp} : encGOp.val s v b ↔ ∃ u1, ∃ u2, ∃ u3, ∃ u4, ∃ u5, v = .agg #[.string (b.Name), .int .i64 (b.Cost), u1, u2, u3, u4, u5] ∧ SliceRep (encInt .i64) s u1 (b.Pre.Pos) ∧ SliceRep (encInt .i64) s u2 (b.Pre.Neg) ∧ SliceRep encGTest s u3 (b.Pre.Tests) ∧ SliceRep encGChange s u4 (b.Changes) ∧ SliceRep encGAssign s u5 (b.Assigns) := by
  simp only [Enc.iso, Enc.pair, Enc.val, encCond, encGOp, encInt, encSlice, encStr, if_true, oneCell]
  constructor
  · rintro ⟨cs, rfl, h⟩
    obtain ⟨cs⟩ := cs
    simp only [] at h
    obtain ⟨_, _, rfl, rfl, ⟨_, _, rfl, rfl, ⟨_, _, rfl, ⟨_, _, rfl, ⟨w1, rfl, h1⟩, ⟨_, _, rfl, ⟨w2, rfl, h2⟩, ⟨w3, rfl, h3⟩⟩⟩, ⟨_, _, rfl, ⟨w4, rfl, h4⟩, ⟨w5, rfl, h5⟩⟩⟩⟩⟩ := h
    exact ⟨w1, w2, w3, w4, w5, rfl, h1, h2, h3, h4, h5⟩
  · rintro ⟨w1, w2, w3, w4, w5, rfl, h1, h2, h3, h4, h5⟩
    exact ⟨_, rfl, ⟨[.string (b.Name)], [.int .i64 (b.Cost), w1, w2, w3, w4, w5], rfl, rfl, ⟨[.int .i64 (b.Cost)], [w1, w2, w3, w4, w5], rfl, rfl, ⟨[w1, w2, w3], [w4, w5], rfl, ⟨[w1], [w2, w3], rfl, ⟨w1, rfl, h1⟩, ⟨[w2], [w3], rfl, ⟨w2, rfl, h2⟩, ⟨w3, rfl, h3⟩⟩⟩, ⟨[w4], [w5], rfl, ⟨w4, rfl, h4⟩, ⟨w5, rfl, h5⟩⟩⟩⟩⟩⟩
structure GFluent where
  Fluent : Atom
  Lo : Int
  Hi : Int
  Init : Int
def encGFluent : Enc GFluent := Enc.iso (encAtom.pair ((encInt .i64).pair ((encInt .i64).pair (encInt .i64)))) (fun b => (b.Fluent, b.Lo, b.Hi, b.Init))
theorem encGFluent_val {s : PHeap} {v : Value} {b : GFluent} : encGFluent.val s v b ↔ ∃ u1, v = .agg #[.string (b.Fluent.Name), u1, .int .i64 (b.Lo), .int .i64 (b.Hi), .int .i64 (b.Init)] ∧ SliceRep encStr s u1 (b.Fluent.Args) := by
  simp only [Enc.iso, Enc.pair, Enc.val, encAtom, encGFluent, encInt, encSlice, encStr, if_true, oneCell]
  constructor
  · rintro ⟨cs, rfl, h⟩
    obtain ⟨cs⟩ := cs
    simp only [] at h
    obtain ⟨_, _, rfl, ⟨_, _, rfl, rfl, ⟨w1, rfl, h1⟩⟩, ⟨_, _, rfl, rfl, ⟨_, _, rfl, rfl, rfl⟩⟩⟩ := h
    exact ⟨w1, rfl, h1⟩
  · rintro ⟨w1, rfl, h1⟩
    exact ⟨_, rfl, ⟨[.string (b.Fluent.Name), w1], [.int .i64 (b.Lo), .int .i64 (b.Hi), .int .i64 (b.Init)], rfl, ⟨[.string (b.Fluent.Name)], [w1], rfl, rfl, ⟨w1, rfl, h1⟩⟩, ⟨[.int .i64 (b.Lo)], [.int .i64 (b.Hi), .int .i64 (b.Init)], rfl, rfl, ⟨[.int .i64 (b.Hi)], [.int .i64 (b.Init)], rfl, rfl, rfl⟩⟩⟩⟩
structure Ground where
  Atoms : (List Atom)
  Fluents : (List GFluent)
  Init : (List Int)
  Goal : (List Cond)
  Ops : (List GOp)
def encGround : Enc Ground := Enc.iso ((encSlice encAtom).pair ((encSlice encGFluent).pair ((encSlice (encInt .i64)).pair ((encSlice encCond).pair (encSlice encGOp))))) (fun b => (b.Atoms, b.Fluents, b.Init, b.Goal, b.Ops))
theorem encGround_val {s : PHeap} {v : Value} {b : Ground} : encGround.val s v b ↔ ∃ u1, ∃ u2, ∃ u3, ∃ u4, ∃ u5, v = .agg #[u1, u2, u3, u4, u5] ∧ SliceRep encAtom s u1 (b.Atoms) ∧ SliceRep encGFluent s u2 (b.Fluents) ∧ SliceRep (encInt .i64) s u3 (b.Init) ∧ SliceRep encCond s u4 (b.Goal) ∧ SliceRep encGOp s u5 (b.Ops) := by
  simp only [Enc.iso, Enc.pair, Enc.val, encGround, encSlice, if_true]
  constructor
  · rintro ⟨cs, rfl, h⟩
    obtain ⟨cs⟩ := cs
    simp only [] at h
    obtain ⟨_, _, rfl, ⟨w1, rfl, h1⟩, ⟨_, _, rfl, ⟨w2, rfl, h2⟩, ⟨_, _, rfl, ⟨w3, rfl, h3⟩, ⟨_, _, rfl, ⟨w4, rfl, h4⟩, ⟨w5, rfl, h5⟩⟩⟩⟩⟩ := h
    exact ⟨w1, w2, w3, w4, w5, rfl, h1, h2, h3, h4, h5⟩
  · rintro ⟨w1, w2, w3, w4, w5, rfl, h1, h2, h3, h4, h5⟩
    exact ⟨_, rfl, ⟨[w1], [w2, w3, w4, w5], rfl, ⟨w1, rfl, h1⟩, ⟨[w2], [w3, w4, w5], rfl, ⟨w2, rfl, h2⟩, ⟨[w3], [w4, w5], rfl, ⟨w3, rfl, h3⟩, ⟨[w4], [w5], rfl, ⟨w4, rfl, h4⟩, ⟨w5, rfl, h5⟩⟩⟩⟩⟩⟩
noncomputable def law21_sample_p  : Option (Ground) :=
  some (⟨[(⟨⟨#[97, 116]⟩, [⟨#[97]⟩]⟩ : Atom), (⟨⟨#[97, 116]⟩, [⟨#[98]⟩]⟩ : Atom), (⟨⟨#[112]⟩, []⟩ : Atom)], [], [0], [(⟨[1], [], []⟩ : Cond)], [(⟨⟨#[40, 109, 111, 118, 101, 41]⟩, 3, (⟨[0], [2], []⟩ : Cond), [(⟨(⟨[], [], []⟩ : Cond), 0, false⟩ : GChange), (⟨(⟨[], [], []⟩ : Cond), 1, true⟩ : GChange)], []⟩ : GOp)]⟩ : Ground)
def law21_sample_t  : Ground :=
  (⟨[(⟨⟨#[97, 116]⟩, [⟨#[97]⟩]⟩ : Atom), (⟨⟨#[97, 116]⟩, [⟨#[98]⟩]⟩ : Atom), (⟨⟨#[112]⟩, []⟩ : Atom)], [], [0], [(⟨[1], [], []⟩ : Cond)], [(⟨⟨#[40, 109, 111, 118, 101, 41]⟩, 3, (⟨[0], [2], []⟩ : Cond), [(⟨(⟨[], [], []⟩ : Cond), 0, false⟩ : GChange), (⟨(⟨[], [], []⟩ : Cond), 1, true⟩ : GChange)], []⟩ : GOp)]⟩ : Ground)
theorem law21_sample_tot  : law21_sample_p  = some (law21_sample_t ) := by
  unfold law21_sample_p law21_sample_t
  (repeat' split) <;> rfl
attribute [irreducible] law21_sample_t
noncomputable def slices_IndexFunc_apiGFluent_Valid_c1_p (a : (List GFluent)) : Option (Int) :=
  ctl (forC (R := (Int)) (fun b => fun (_ : Unit) => none) (a.length) 0 ()) (fun r => some r) (fun (_ : Unit) => some (-1))
noncomputable def slices_ContainsFunc_apiGFluent_Valid_c1_p (a : (List GFluent)) : Option (Bool) :=
  (slices_IndexFunc_apiGFluent_Valid_c1_p a).bind <| fun (b : Int) =>
  some (decide (0 ≤ b))
noncomputable def ground_indices_p (b : (List Int)) (d : Int) : Option (Bool) :=
  ctl (forC (R := (Bool)) (fun a => fun (_ : Unit) => (idx b (a : Int)).bind fun c =>
  (if decide (c < 0) then (some true)
  else (if decide (d ≤ c) then (some true)
  else (if decide (0 < (a : Int)) then ((idx b (IntKind.i64.wrap ((a : Int) - 1))).bind fun e =>
  some (decide (c ≤ e)))
  else (some false)))).bind (fun (f : Bool) => if f then (some (Ctl.ret false))
  else (some (Ctl.next ())))) (b.length) 0 ()) (fun r => some r) (fun (_ : Unit) => some true)
noncomputable def ground_condition_p (b : Ground) (a : Cond) : Option (Bool) :=
  ctl (forC (R := (Bool)) (fun c => fun (_ : Unit) => (idx a.Tests (c : Int)).bind fun g =>
  none) (a.Tests.length) 0 ()) (fun r => some r) (fun (_ : Unit) => ((ground_indices_p a.Pos (b.Atoms.length : Int)).bind <| fun (d : Bool) =>
  if d then ((ground_indices_p a.Neg (b.Atoms.length : Int)).bind <| fun (e : Bool) =>
  some e)
  else (some false)).bind (fun (f : Bool) => some f))
noncomputable def ground_Valid_c2_p (a : Cond) (b : Ground) : Option (Bool) :=
  (ground_condition_p b a).bind <| fun (c : Bool) =>
  some (!c)
noncomputable def slices_IndexFunc_apiCond_Valid_c2_p (b : (List Cond)) (c : Ground) : Option (Int) :=
  ctl (forC (R := (Int)) (fun a => fun (_ : Unit) => (idx b (a : Int)).bind fun d =>
  (ground_Valid_c2_p d c).bind <| fun (e : Bool) =>
  if e then (some (Ctl.ret (a : Int)))
  else (some (Ctl.next ()))) (b.length) 0 ()) (fun r => some r) (fun (_ : Unit) => some (-1))
noncomputable def slices_ContainsFunc_apiCond_Valid_c2_p (b : (List Cond)) (a : Ground) : Option (Bool) :=
  (slices_IndexFunc_apiCond_Valid_c2_p b a).bind <| fun (c : Int) =>
  some (decide (0 ≤ c))
noncomputable def ground_named_p (a : ByteArray) : Option (Bool) :=
  (must (decide ((a.size : Int) ≤ 9223372036854775807))).bind fun e =>
  ctl (forC (R := (Bool)) (fun c => fun (_ : Unit) => ((idx (bytesOf a) (c : Int)).bind fun b =>
  if decide (b < 32) then (some true)
  else (some (decide (126 < b)))).bind (fun (d : Bool) => if d then (some (Ctl.ret false))
  else (some (Ctl.next ())))) ((a.size : Int).toNat) 0 ()) (fun r => some r) (fun (_ : Unit) => some (decide ((a.size : Int) ≤ 256)))
noncomputable def ground_operator_p (b : Ground) (a : GOp) : Option (Bool) :=
  (if decide (256 < (a.Changes.length : Int)) then (some true)
  else (if decide (a.Cost < 0) then (some true)
  else (if decide (1048576 < a.Cost) then (some true)
  else ((ground_named_p a.Name).bind <| fun (f : Bool) =>
  if !f then (some true)
  else ((ground_condition_p b a.Pre).bind <| fun (g : Bool) =>
  some (!g)))))).bind (fun (i : Bool) => if i then (none)
  else (ctl (forC (R := (Bool)) (fun d => fun (_ : Unit) => (idx a.Changes (d : Int)).bind fun c =>
  (if decide (c.Atom < 0) then (some true)
  else (if decide ((b.Atoms.length : Int) ≤ c.Atom) then (some true)
  else ((ground_condition_p b c.When).bind <| fun (h : Bool) =>
  some (!h)))).bind (fun (j : Bool) => if j then (none)
  else (some (Ctl.next ())))) (a.Changes.length) 0 ()) (fun r => some r) (fun (_ : Unit) => ctl (forC (R := (Bool)) (fun e => fun (_ : Unit) => (idx a.Assigns (e : Int)).bind fun k =>
  none) (a.Assigns.length) 0 ()) (fun r => some r) (fun (_ : Unit) => some true))))
noncomputable def ground_Valid_c3_p (b : GOp) (a : Ground) : Option (Bool) :=
  (ground_operator_p a b).bind <| fun (c : Bool) =>
  some (!c)
noncomputable def slices_IndexFunc_apiGOp_Valid_c3_p (b : (List GOp)) (c : Ground) : Option (Int) :=
  ctl (forC (R := (Int)) (fun a => fun (_ : Unit) => (idx b (a : Int)).bind fun d =>
  (ground_Valid_c3_p d c).bind <| fun (e : Bool) =>
  if e then (some (Ctl.ret (a : Int)))
  else (some (Ctl.next ()))) (b.length) 0 ()) (fun r => some r) (fun (_ : Unit) => some (-1))
noncomputable def slices_ContainsFunc_apiGOp_Valid_c3_p (b : (List GOp)) (a : Ground) : Option (Bool) :=
  (slices_IndexFunc_apiGOp_Valid_c3_p b a).bind <| fun (c : Int) =>
  some (decide (0 ≤ c))
noncomputable def ground_Valid_p (a : Ground) : Option (Bool) :=
  if ((decide (4096 < (a.Atoms.length : Int))) || ((decide (4096 < (a.Fluents.length : Int))) || ((decide (4096 < (a.Ops.length : Int))) || decide (64 < (a.Goal.length : Int))))) then (none)
  else (((slices_ContainsFunc_apiGFluent_Valid_c1_p a.Fluents).bind <| fun (b : Bool) =>
  if !b then ((ground_indices_p a.Init (a.Atoms.length : Int)).bind <| fun (c : Bool) =>
  if c then ((slices_ContainsFunc_apiCond_Valid_c2_p a.Goal a).bind <| fun (d : Bool) =>
  if !d then ((slices_ContainsFunc_apiGOp_Valid_c3_p a.Ops a).bind <| fun (e : Bool) =>
  some (!e))
  else (some false))
  else (some false))
  else (some false)).bind (fun (f : Bool) => some f))
structure GState where
  True : (List Int)
  Values : (List Int)
def encGState : Enc GState := Enc.iso ((encSlice (encInt .i64)).pair (encSlice (encInt .i64))) (fun b => (b.True, b.Values))
theorem encGState_val {s : PHeap} {v : Value} {b : GState} : encGState.val s v b ↔ ∃ u1, ∃ u2, v = .agg #[u1, u2] ∧ SliceRep (encInt .i64) s u1 (b.True) ∧ SliceRep (encInt .i64) s u2 (b.Values) := by
  simp only [Enc.iso, Enc.pair, Enc.val, encGState, encSlice, if_true]
  constructor
  · rintro ⟨cs, rfl, h⟩
    obtain ⟨cs⟩ := cs
    simp only [] at h
    obtain ⟨_, _, rfl, ⟨w1, rfl, h1⟩, ⟨w2, rfl, h2⟩⟩ := h
    exact ⟨w1, w2, rfl, h1, h2⟩
  · rintro ⟨w1, w2, rfl, h1, h2⟩
    exact ⟨_, rfl, ⟨[w1], [w2], rfl, ⟨w1, rfl, h1⟩, ⟨w2, rfl, h2⟩⟩⟩
noncomputable def slices_Index_int_p (b : (List Int)) (c : Int) : Option (Int) :=
  ctl (forC (R := (Int)) (fun a => fun (_ : Unit) => (idx b (a : Int)).bind fun d =>
  if decide (c = d) then (some (Ctl.ret (a : Int)))
  else (some (Ctl.next ()))) (b.length) 0 ()) (fun r => some r) (fun (_ : Unit) => some (-1))
noncomputable def slices_Contains_int_p (a : (List Int)) (b : Int) : Option (Bool) :=
  (slices_Index_int_p a b).bind <| fun (c : Int) =>
  some (decide (0 ≤ c))
noncomputable def invariant_Holds_p (g : GState) (b : (List Int)) : Option (Bool) :=
  (forS (fun d => fun (a : BMap) => (idx b (d : Int)).bind fun c =>
  (slices_Contains_int_p g.True c).bind <| fun (h : Bool) =>
  (if h then ((bmapPut a c true).bind fun f =>
  some f)
  else (some a)).bind (fun (e : BMap) => some e)) (b.length) 0 ([] : BMap)).bind (fun (a : BMap) => some (decide ((a.length : Int) ≤ 1)))
noncomputable def cmp_isNaN_int_p (a : Int) : Option (Bool) :=
  some (!decide (a = a))
def cmp_isNaN_int_t (a : Int) : Bool :=
  (!decide (a = a))
theorem cmp_isNaN_int_tot (a : Int) : cmp_isNaN_int_p a = some (cmp_isNaN_int_t a) := by
  unfold cmp_isNaN_int_p cmp_isNaN_int_t
  (repeat' split) <;> rfl
attribute [irreducible] cmp_isNaN_int_t
noncomputable def cmp_Less_int_p (a : Int) (b : Int) : Option (Bool) :=
  some (bif (cmp_isNaN_int_t a) then ((!(cmp_isNaN_int_t b)) || decide (a < b)) else decide (a < b))
def cmp_Less_int_t (a : Int) (b : Int) : Bool :=
  (bif (cmp_isNaN_int_t a) then ((!(cmp_isNaN_int_t b)) || decide (a < b)) else decide (a < b))
theorem cmp_Less_int_tot (a : Int) (b : Int) : cmp_Less_int_p a b = some (cmp_Less_int_t a b) := by
  unfold cmp_Less_int_p cmp_Less_int_t
  (repeat' split) <;> rfl
attribute [irreducible] cmp_Less_int_t
noncomputable def slices_isNaN_int_p (a : Int) : Option (Bool) :=
  some (!decide (a = a))
def slices_isNaN_int_t (a : Int) : Bool :=
  (!decide (a = a))
theorem slices_isNaN_int_tot (a : Int) : slices_isNaN_int_p a = some (slices_isNaN_int_t a) := by
  unfold slices_isNaN_int_p slices_isNaN_int_t
  (repeat' split) <;> rfl
attribute [irreducible] slices_isNaN_int_t
noncomputable def slices_BinarySearch_int_p (c : (List Int)) (e : Int) : Option (Int × Bool) :=
  ctl (whileC (R := (Int × Bool)) (un2 fun (a : Int) (b : Int) => if decide (a < b) then ((idx c (IntKind.i64.wrap ((IntKind.u64.wrap (IntKind.i64.wrap (a + b))).fdiv (2 ^ 1)))).bind fun i =>
  (if (cmp_Less_int_t i e) then (some (IntKind.i64.wrap ((IntKind.i64.wrap ((IntKind.u64.wrap (IntKind.i64.wrap (a + b))).fdiv (2 ^ 1))) + 1), b))
  else (some (a, IntKind.i64.wrap ((IntKind.u64.wrap (IntKind.i64.wrap (a + b))).fdiv (2 ^ 1))))).bind (un2 fun (g : Int) (h : Int) => some (Ctl.next (g, h))))
  else (some (Ctl.brk (a, b)))) (0, (c.length : Int))) (fun r => some r) (un2 fun (d : Int) (k : Int) => (if decide (d < (c.length : Int)) then ((idx c d).bind fun f =>
  if decide (f = e) then (some true)
  else (if (slices_isNaN_int_t f) then (some (slices_isNaN_int_t e))
  else (some false)))
  else (some false)).bind (fun (j : Bool) => some (d, j)))
structure invariant_literals where
  pos : BMap
  neg : BMap
noncomputable def invariant_situation_c1_p (a : Cond) (d : invariant_literals) : Option (BMap × BMap) :=
  (forS (fun e => fun (b : BMap) => (idx a.Pos (e : Int)).bind fun i =>
  (bmapPut b i true).bind fun g =>
  some g) (a.Pos.length) 0 d.pos).bind (fun (b : BMap) => (forS (fun f => fun (c : BMap) => (idx a.Neg (f : Int)).bind fun j =>
  (bmapPut c j true).bind fun h =>
  some h) (a.Neg.length) 0 d.neg).bind (fun (c : BMap) => some (b, c)))
noncomputable def invariant_situation_p (s : GOp) (e : (List GChange)) (c : Int) (f : (List Int)) : Option (Bool × invariant_literals) :=
  (invariant_situation_c1_p s.Pre (⟨([] : BMap), ([] : BMap)⟩ : invariant_literals)).bind <| un2 fun (k : BMap) (l : BMap) =>
  (forS (fun i => un2 fun (b : BMap) (d : BMap) => (idx e (i : Int)).bind fun v =>
  (invariant_situation_c1_p v.When (⟨b, d⟩ : invariant_literals)).bind <| un2 fun (m : BMap) (n : BMap) =>
  some (m, n)) (e.length) 0 (k, l)).bind (un2 fun (b : BMap) (d : BMap) => (if decide (0 ≤ c) then ((bmapPut b c true).bind fun p =>
  some p)
  else (some b)).bind (fun (g : BMap) => (forS (fun j => fun (a : BMap) => (idx f (j : Int)).bind fun h =>
  (if !decide (h = c) then ((bmapPut a h true).bind fun q =>
  some q)
  else (some a)).bind (fun (o : BMap) => some o)) (f.length) 0 d).bind (fun (a : BMap) => rangeC (g.map Prod.fst) fun t => ctl (foldC (R := (Bool × invariant_literals)) (fun w => fun (_ : Unit) => (bmapGet a w).bind fun u =>
  if u then (none)
  else (some (Ctl.next ()))) t ()) (fun r => some r) (fun (_ : Unit) => some (true, (⟨g, a⟩ : invariant_literals))))))
noncomputable def invariant_literals_deletes_o_p (g : invariant_literals) (b : GOp) (f : Int) : Option (Bool) :=
  ctl (forC (R := (Bool)) (fun c => fun (_ : Unit) => (idx b.Changes (c : Int)).bind fun a =>
  if (a.Add || ((!decide (a.Atom = f)) || decide (0 < (a.When.Tests.length : Int)))) then (some (Ctl.next ()))
  else ((forS (fun d => fun (_ : Unit) => (idx a.When.Pos (d : Int)).bind fun h =>
  none) (a.When.Pos.length) 0 ()).bind (fun (_ : Unit) => (forS (fun e => fun (_ : Unit) => (idx a.When.Neg (e : Int)).bind fun i =>
  none) (a.When.Neg.length) 0 ()).bind (fun (_ : Unit) => some (Ctl.ret true))))) (b.Changes.length) 0 ()) (fun r => some r) (fun (_ : Unit) => some false)
noncomputable def invariant_keeps_p (c : GOp) (b : (List Int)) : Option (Bool) :=
  (forS (fun k => fun (a : (List GChange)) => (idx c.Changes (k : Int)).bind fun d =>
  (slices_BinarySearch_int_p b d.Atom).bind <| un2 fun (x : Int) (p : Bool) =>
  (if (p && d.Add) then ((app 88 a [d]).bind fun n =>
  some n)
  else (some a)).bind (fun (o : (List GChange)) => some o)) (c.Changes.length) 0 []).bind (fun (a : (List GChange)) => ctl (forC (R := (Bool)) (fun h => un2 fun (f : (List GChange)) (j : (List GChange)) => (idx j (h : Int)).bind fun i =>
  (cut f 0 (h : Int)).bind fun g =>
  ctl (forC (R := (Bool)) (fun l => fun (_ : Unit) => (idx g (l : Int)).bind fun w =>
  none) (g.length) 0 ()) (fun r => some (Ctl.ret r)) (fun (_ : Unit) => ctl (forC (R := (Bool)) (fun m => fun (_ : Unit) => (idx b (m : Int)).bind fun e =>
  if decide (e = i.Atom) then (some (Ctl.next ()))
  else ((invariant_situation_p c [i] e b).bind <| un2 fun (q : Bool) (s : invariant_literals) =>
  (if q then ((invariant_literals_deletes_o_p s c e).bind <| fun (t : Bool) =>
  some (!t))
  else (some false)).bind (fun (u : Bool) => if u then (none)
  else (some (Ctl.next ()))))) (b.length) 0 ()) (fun r => some (Ctl.ret r)) (fun (_ : Unit) => some (Ctl.next (f, j))))) (a.length) 0 (a, a)) (fun r => some r) (un2 fun (v : (List GChange)) (y : (List GChange)) => some true))
noncomputable def invariant_balanced_p (b : Ground) (a : (List Int)) : Option (Bool) :=
  ctl (forC (R := (Bool)) (fun c => fun (_ : Unit) => (idx a (c : Int)).bind fun d =>
  (if decide (d < 0) then (some true)
  else (if decide ((b.Atoms.length : Int) ≤ d) then (some true)
  else (if decide (0 < (c : Int)) then ((idx a (IntKind.i64.wrap ((c : Int) - 1))).bind fun f =>
  some (decide (d ≤ f)))
  else (some false)))).bind (fun (j : Bool) => if j then (none)
  else (some (Ctl.next ())))) (a.length) 0 ()) (fun r => some r) (fun (_ : Unit) => (invariant_Holds_p (⟨b.Init, []⟩ : GState) a).bind <| fun (h : Bool) =>
  if !h then (none)
  else (ctl (forC (R := (Bool)) (fun e => fun (_ : Unit) => (idx b.Ops (e : Int)).bind fun g =>
  (invariant_keeps_p g a).bind <| fun (i : Bool) =>
  if !i then (none)
  else (some (Ctl.next ()))) (b.Ops.length) 0 ()) (fun r => some r) (fun (_ : Unit) => some true)))
noncomputable def invariant_Balanced_p (a : Ground) (b : (List Int)) : Option (Bool) :=
  ((ground_Valid_p a).bind <| fun (c : Bool) =>
  if c then ((invariant_balanced_p a b).bind <| fun (d : Bool) =>
  some d)
  else (some false)).bind (fun (e : Bool) => some e)
noncomputable def encode_Encode_c1_p (b : (List Int)) (a : Ground) : Option (Bool) :=
  (invariant_Balanced_p a b).bind <| fun (c : Bool) =>
  some (!c)
noncomputable def slices_IndexFunc_int_Encode_c1_p (b : (List (List Int))) (c : Ground) : Option (Int) :=
  ctl (forC (R := (Int)) (fun a => fun (_ : Unit) => (idx b (a : Int)).bind fun d =>
  (encode_Encode_c1_p d c).bind <| fun (e : Bool) =>
  if e then (some (Ctl.ret (a : Int)))
  else (some (Ctl.next ()))) (b.length) 0 ()) (fun r => some r) (fun (_ : Unit) => some (-1))
noncomputable def slices_ContainsFunc_int_Encode_c1_p (b : (List (List Int))) (a : Ground) : Option (Bool) :=
  (slices_IndexFunc_int_Encode_c1_p b a).bind <| fun (c : Int) =>
  some (decide (0 ≤ c))
structure Fact where
  Var : Int
  Val : Int
def encFact : Enc Fact := Enc.iso ((encInt .i64).pair (encInt .i64)) (fun b => (b.Var, b.Val))
theorem encFact_val {s : PHeap} {v : Value} {b : Fact} : encFact.val s v b ↔ v = .agg #[.int .i64 (b.Var), .int .i64 (b.Val)] := by
  simp only [Enc.iso, Enc.pair, Enc.val, encFact, encInt, if_true, oneCell]
  constructor
  · rintro ⟨cs, rfl, h⟩
    obtain ⟨cs⟩ := cs
    simp only [] at h
    obtain ⟨_, _, rfl, rfl, rfl⟩ := h
    rfl
  · rintro rfl
    exact ⟨_, rfl, ⟨[.int .i64 (b.Var)], [.int .i64 (b.Val)], rfl, rfl, rfl⟩⟩
structure encode_encoder where
  g : Ground
  vars : (List Int)
  atoms : (List Fact)
  grouped : (List Bool)
  fluents : (List Int)
noncomputable def slices_Clone_apiCond_p (b : (List Cond)) : Option ((List Cond)) :=
  (app 72 [] b).bind fun a =>
  some a
noncomputable def encode_conditions_p (a : Ground) : Option ((List Cond)) :=
  (slices_Clone_apiCond_p a.Goal).bind <| fun (j : (List Cond)) =>
  (forS (fun e => fun (b : (List Cond)) => (idx a.Ops (e : Int)).bind fun d =>
  (app 72 b [d.Pre]).bind fun g =>
  (forS (fun f => fun (c : (List Cond)) => (idx d.Changes (f : Int)).bind fun i =>
  (app 72 c [i.When]).bind fun h =>
  some h) (d.Changes.length) 0 g).bind (fun (c : (List Cond)) => some c)) (a.Ops.length) 0 j).bind (fun (b : (List Cond)) => some b)
noncomputable def encode_largest_o_p (c : (List (List Int))) (g : (List Bool)) : Option ((List Int)) :=
  (forS (fun h => fun (b : (List Int)) => (idx c (h : Int)).bind fun d =>
  (forS (fun i => fun (a : (List Int)) => (idx d (i : Int)).bind fun e =>
  (idx g e).bind fun l =>
  (if l then ((app 8 a [e]).bind fun j =>
  some j)
  else (some a)).bind (fun (k : (List Int)) => some k)) (d.length) 0 []).bind (fun (a : (List Int)) => (if decide ((b.length : Int) < (a.length : Int)) then (some a)
  else (some b)).bind (fun (f : (List Int)) => some f))) (c.length) 0 []).bind (fun (b : (List Int)) => some b)
noncomputable def encode_encoder_variables_p (e : encode_encoder) (ab : (List (List Int))) : Option ((List Fact) × (List Bool) × (List Int)) :=
  (mk 1 false (e.g.Atoms.length : Int)).bind fun t =>
  (forS (fun q => fun (f : (List Bool)) => (idx f (q : Int)).bind fun aw =>
  (setI f (q : Int) true).bind fun af =>
  some af) (t.length) 0 t).bind (fun (f : (List Bool)) => (encode_conditions_p e.g).bind <| fun (aa : (List Cond)) =>
  (forS (fun ac => fun (b : (List Bool)) => (idx aa (ac : Int)).bind fun y =>
  (forS (fun ad => fun (h : (List Bool)) => (idx y.Neg (ad : Int)).bind fun z =>
  (idx h z).bind fun ax =>
  (setI h z false).bind fun ag =>
  some ag) (y.Neg.length) 0 b).bind (fun (h : (List Bool)) => some h)) (aa.length) 0 f).bind (fun (b : (List Bool)) => (mk 16 (⟨0, 0⟩ : Fact) (b.length : Int)).bind fun ah =>
  (mk 1 false (b.length : Int)).bind fun ai =>
  ctl (whileC (R := ((List Fact) × (List Bool) × (List Int))) (un4 fun (n : (List Int)) (o : (List Bool)) (u : (List Fact)) (v : (List Bool)) => (encode_largest_o_p ab o).bind <| fun (p : (List Int)) =>
  if decide ((p.length : Int) < 2) then (some (Ctl.brk (n, o, u, v)))
  else ((cut p 0 (min (p.length : Int) 63)).bind fun l =>
  (forS (fun s => un3 fun (i : (List Bool)) (j : (List Fact)) (k : (List Bool)) => (idx l (s : Int)).bind fun a =>
  (idx j a).bind fun ay =>
  (setI j a (⟨(n.length : Int), IntKind.i64.wrap ((s : Int) + 1)⟩ : Fact)).bind fun aj =>
  (idx k a).bind fun az =>
  (setI k a true).bind fun ak =>
  (idx i a).bind fun a0 =>
  (setI i a false).bind fun al =>
  some (al, aj, ak)) (l.length) 0 (o, u, v)).bind (un3 fun (i : (List Bool)) (j : (List Fact)) (k : (List Bool)) => (app 8 n [IntKind.i64.wrap ((l.length : Int) + 1)]).bind fun am =>
  some (Ctl.next (am, i, j, k))))) (e.vars, b, ah, ai)) (fun r => some r) (un4 fun (an : (List Int)) (av : (List Bool)) (w : (List Fact)) (x : (List Bool)) => (forS (fun m => un2 fun (c : (List Int)) (d : (List Fact)) => (idx x (m : Int)).bind fun au =>
  (if !au then ((idx d (m : Int)).bind fun a1 =>
  (setI d (m : Int) (⟨(c.length : Int), 1⟩ : Fact)).bind fun ao =>
  (app 8 c [2]).bind fun ap =>
  some (ap, ao))
  else (some (c, d))).bind (un2 fun (aq : (List Int)) (ar : (List Fact)) => some (aq, ar))) (w.length) 0 (an, w)).bind (un2 fun (c : (List Int)) (d : (List Fact)) => (forS (fun ae => fun (_ : Unit) => (idx e.g.Fluents (ae : Int)).bind fun a2 =>
  none) (e.g.Fluents.length) 0 ()).bind (fun (_ : Unit) => some (d, x, c))))))
noncomputable def sortInts_p (xs : List Int) : Option (List Int) := if xs.length < 4611686018427387904 then some (xs.mergeSort fun x y => decide (x ≤ y)) else none
noncomputable def encode_sorted_p (e : BMap) : Option ((List Int)) :=
  rangeC (e.map Prod.fst) fun d => ctl (foldC (R := ((List Int))) (fun f => fun (a : (List Int)) => (app 8 a [f]).bind fun b =>
  some (Ctl.next b)) d []) (fun r => some r) (fun (a : (List Int)) => (sortInts_p a).bind <| fun (c : (List Int)) =>
  some c)
noncomputable def encode_tested_p (a : (List GTest)) (b : (List Int)) : Option ((List Int)) :=
  (forS (fun c => fun (_ : Unit) => (idx a (c : Int)).bind fun f =>
  none) (a.length) 0 ()).bind (fun (_ : Unit) => (forS (fun d => fun (_ : Unit) => (idx b (d : Int)).bind fun g =>
  none) (b.length) 0 ()).bind (fun (_ : Unit) => (encode_sorted_p ([] : BMap)).bind <| fun (e : (List Int)) =>
  some e))
noncomputable def encode_encoder_many_p (c : encode_encoder) (a : (List Int)) : Option (Int) :=
  (forS (fun b => fun (_ : Unit) => (idx a (b : Int)).bind fun d =>
  none) (a.length) 0 ()).bind (fun (_ : Unit) => some 1)
noncomputable def encode_given_p (a : GOp) : Option ((List Int)) :=
  (forS (fun b => fun (_ : Unit) => (idx a.Pre.Tests (b : Int)).bind fun e =>
  none) (a.Pre.Tests.length) 0 ()).bind (fun (_ : Unit) => (forS (fun c => fun (_ : Unit) => (idx a.Assigns (c : Int)).bind fun f =>
  none) (a.Assigns.length) 0 ()).bind (fun (_ : Unit) => (encode_sorted_p ([] : BMap)).bind <| fun (d : (List Int)) =>
  some d))
noncomputable def encode_encoder_large_p (a : encode_encoder) : Option (Bool) :=
  ctl (forC (R := (Bool)) (fun d => fun (_ : Unit) => (idx a.g.Goal (d : Int)).bind fun h =>
  (encode_tested_p h.Tests ([] : (List Int))).bind <| fun (j : (List Int)) =>
  (encode_encoder_many_p a j).bind <| fun (k : Int) =>
  if decide (256 < k) then (none)
  else (some (Ctl.next ()))) (a.g.Goal.length) 0 ()) (fun r => some r) (fun (_ : Unit) => ctl (forC (R := (Bool)) (fun e => fun (_ : Unit) => (idx a.g.Ops (e : Int)).bind fun b =>
  (encode_given_p b).bind <| fun (c : (List Int)) =>
  (encode_encoder_many_p a c).bind <| fun (l : Int) =>
  if decide (256 < l) then (none)
  else (ctl (forC (R := (Bool)) (fun f => fun (_ : Unit) => (idx b.Changes (f : Int)).bind fun i =>
  (encode_tested_p i.When.Tests c).bind <| fun (m : (List Int)) =>
  (encode_encoder_many_p a m).bind <| fun (n : Int) =>
  if decide (256 < n) then (none)
  else (some (Ctl.next ()))) (b.Changes.length) 0 ()) (fun r => some (Ctl.ret r)) (fun (_ : Unit) => some (Ctl.next ())))) (a.g.Ops.length) 0 ()) (fun r => some r) (fun (_ : Unit) => some false))
structure Effect where
  When : (List Fact)
  Var : Int
  Val : Int
def encEffect : Enc Effect := Enc.iso ((encSlice encFact).pair ((encInt .i64).pair (encInt .i64))) (fun b => (b.When, b.Var, b.Val))
theorem encEffect_val {s : PHeap} {v : Value} {b : Effect} : encEffect.val s v b ↔ ∃ u1, v = .agg #[u1, .int .i64 (b.Var), .int .i64 (b.Val)] ∧ SliceRep encFact s u1 (b.When) := by
  simp only [Enc.iso, Enc.pair, Enc.val, encEffect, encInt, encSlice, if_true, oneCell]
  constructor
  · rintro ⟨cs, rfl, h⟩
    obtain ⟨cs⟩ := cs
    simp only [] at h
    obtain ⟨_, _, rfl, ⟨w1, rfl, h1⟩, ⟨_, _, rfl, rfl, rfl⟩⟩ := h
    exact ⟨w1, rfl, h1⟩
  · rintro ⟨w1, rfl, h1⟩
    exact ⟨_, rfl, ⟨[w1], [.int .i64 (b.Var), .int .i64 (b.Val)], rfl, ⟨w1, rfl, h1⟩, ⟨[.int .i64 (b.Var)], [.int .i64 (b.Val)], rfl, rfl, rfl⟩⟩⟩
structure Op where
  Name : ByteArray
  Cost : Int
  Pre : (List Fact)
  Effs : (List Effect)
def encOp : Enc Op := Enc.iso (encStr.pair ((encInt .i64).pair ((encSlice encFact).pair (encSlice encEffect)))) (fun b => (b.Name, b.Cost, b.Pre, b.Effs))
theorem encOp_val {s : PHeap} {v : Value} {b : Op} : encOp.val s v b ↔ ∃ u1, ∃ u2, v = .agg #[.string (b.Name), .int .i64 (b.Cost), u1, u2] ∧ SliceRep encFact s u1 (b.Pre) ∧ SliceRep encEffect s u2 (b.Effs) := by
  simp only [Enc.iso, Enc.pair, Enc.val, encInt, encOp, encSlice, encStr, if_true, oneCell]
  constructor
  · rintro ⟨cs, rfl, h⟩
    obtain ⟨cs⟩ := cs
    simp only [] at h
    obtain ⟨_, _, rfl, rfl, ⟨_, _, rfl, rfl, ⟨_, _, rfl, ⟨w1, rfl, h1⟩, ⟨w2, rfl, h2⟩⟩⟩⟩ := h
    exact ⟨w1, w2, rfl, h1, h2⟩
  · rintro ⟨w1, w2, rfl, h1, h2⟩
    exact ⟨_, rfl, ⟨[.string (b.Name)], [.int .i64 (b.Cost), w1, w2], rfl, rfl, ⟨[.int .i64 (b.Cost)], [w1, w2], rfl, rfl, ⟨[w1], [w2], rfl, ⟨w1, rfl, h1⟩, ⟨w2, rfl, h2⟩⟩⟩⟩⟩
noncomputable def slices_Clone_int_o_p (b : (List Int)) : Option ((List Int)) :=
  (app 8 [] b).bind fun a =>
  some a
structure Task where
  Vars : (List Int)
  Init : (List Int)
  Goal : (List Fact)
  Ops : (List Op)
structure Encoding where
  Task : Task
  Atoms : (List Fact)
  Fluents : (List Int)
  Ops : (List Int)
noncomputable def encode_encoder_assignments_p (d : encode_encoder) (a : (List Int)) (b : (List Int)) : Option ((List (List Int))) :=
  (forS (fun c => fun (_ : Unit) => (idx a (c : Int)).bind fun e =>
  none) (a.length) 0 ()).bind (fun (_ : Unit) => some [b])
noncomputable def encode_encoder_hold_p (d : encode_encoder) (a : (List GTest)) (c : (List Int)) : Option (Bool) :=
  ctl (forC (R := (Bool)) (fun b => fun (_ : Unit) => (idx a (b : Int)).bind fun e =>
  none) (a.length) 0 ()) (fun r => some r) (fun (_ : Unit) => some true)
noncomputable def encode_encoder_possible_p (d : encode_encoder) (a : GOp) (c : (List Int)) : Option (Bool) :=
  (encode_encoder_hold_p d a.Pre.Tests c).bind <| fun (e : Bool) =>
  if !e then (none)
  else (ctl (forC (R := (Bool)) (fun b => fun (_ : Unit) => (idx a.Assigns (b : Int)).bind fun f =>
  none) (a.Assigns.length) 0 ()) (fun r => some r) (fun (_ : Unit) => some true))
noncomputable def slices_Clone_apiFact_p (b : (List Fact)) : Option ((List Fact)) :=
  (app 16 [] b).bind fun a =>
  some a
noncomputable def encode_encoder_facts_c1_p (a : Fact) (b : Fact) : Option (Int) :=
  if !decide (a.Var = b.Var) then (some (IntKind.i64.wrap (a.Var - b.Var)))
  else (some (IntKind.i64.wrap (a.Val - b.Val)))
def RF (f : Fact) : Prop := -1000000000000 ≤ f.Var ∧ f.Var ≤ 1000000000000 ∧ -1000000000000 ≤ f.Val ∧ f.Val ≤ 1000000000000
instance (f : Fact) : Decidable (RF f) := by unfold RF; infer_instance
def cmpF (a b : Fact) : Int := if a.Var ≠ b.Var then a.Var - b.Var else a.Val - b.Val
noncomputable def sortFacts_p (xs : List Fact) : Option (List Fact) := if xs.length < 4611686018427387904 ∧ ∀ x ∈ xs, RF x then some (xs.mergeSort fun x y => !decide (cmpF y x < 0)) else none
noncomputable def slices_Compact_apiFact_o_p (a : (List Fact)) : Option (Nat × (List Fact)) :=
  if decide ((a.length : Int) < 2) then (some ((a).length, a))
  else (ctl (whileC (R := (Nat × (List Fact))) (fun (b : Int) => if decide (b < (a.length : Int)) then ((idx a b).bind fun j =>
  (idx a (IntKind.i64.wrap (b - 1))).bind fun k =>
  if eqs [j.Var, j.Val] [k.Var, k.Val] then ((view a b (a.length : Int)).bind fun h =>
  ctl (whileC (R := (Nat × (List Fact))) (un3 fun (g : Int) (d : Int) (c : (List Fact)) => if decide (d < (h : Int)) then ((idxV c b h d).bind fun l =>
  (idxV c b h (IntKind.i64.wrap (d - 1))).bind fun m =>
  (if !(eqs [l.Var, l.Val] [m.Var, m.Val]) then ((idxV c b h d).bind fun s =>
  (idx c g).bind fun v =>
  (setI c g s).bind fun o =>
  some (IntKind.i64.wrap (g + 1), o))
  else (some (g, c))).bind (un2 fun (n : Int) (p : (List Fact)) => some (Ctl.next (n, IntKind.i64.wrap (d + 1), p))))
  else (some (Ctl.brk (g, d, c)))) (b, 1, a)) (fun r => some (Ctl.ret r)) (un3 fun (e : Int) (t : Int) (f : (List Fact)) => (view f e (f.length : Int)).bind fun i =>
  (view ((f).take (e).toNat ++ List.replicate i (⟨0, 0⟩ : Fact) ++ (f).drop ((e).toNat + i)) 0 e).bind fun q =>
  some (Ctl.ret (q, (f).take (e).toNat ++ List.replicate i (⟨0, 0⟩ : Fact) ++ (f).drop ((e).toNat + i)))))
  else (some (Ctl.next (IntKind.i64.wrap (b + 1)))))
  else (some (Ctl.brk b))) 1) (fun r => some r) (fun (u : Int) => some ((a).length, a)))
noncomputable def encode_encoder_facts_p (h : encode_encoder) (d : Cond) (g : (List Int)) (z : (List Int)) (o : (List Fact)) : Option ((List Fact) × Bool) :=
  (slices_Clone_apiFact_p o).bind <| fun (w : (List Fact)) =>
  (forS (fun i => fun (e : (List Fact)) => (idx d.Pos (i : Int)).bind fun p =>
  (idx h.atoms p).bind fun q =>
  (app 16 e [q]).bind fun l =>
  some l) (d.Pos.length) 0 w).bind (fun (e : (List Fact)) => (forS (fun j => fun (f : (List Fact)) => (idx d.Neg (j : Int)).bind fun s =>
  (idx h.atoms s).bind fun t =>
  (app 16 f [(⟨t.Var, 0⟩ : Fact)]).bind fun m =>
  some m) (d.Neg.length) 0 e).bind (fun (f : (List Fact)) => (forS (fun k => fun (_ : Unit) => (idx g (k : Int)).bind fun aa =>
  none) (g.length) 0 ()).bind (fun (_ : Unit) => (sortFacts_p f).bind <| fun (n : (List Fact)) =>
  (slices_Compact_apiFact_o_p n).bind <| un2 fun (c : Nat) (b : (List Fact)) =>
  (must (decide (c ≤ b.length))).bind fun y =>
  ctl (whileC (R := ((List Fact) × Bool)) (fun (a : Int) => if decide (a < (((b).take c).length : Int)) then ((idx ((b).take c) a).bind fun u =>
  (idx ((b).take c) (IntKind.i64.wrap (a - 1))).bind fun v =>
  if decide (u.Var = v.Var) then (none)
  else (some (Ctl.next (IntKind.i64.wrap (a + 1)))))
  else (some (Ctl.brk a))) 1) (fun r => some r) (fun (x : Int) => some ((b).take c, true)))))
noncomputable def slices_Clone_apiFact_o_p (b : (List Fact)) : Option ((List Fact)) :=
  (app 16 [] b).bind fun a =>
  some a
noncomputable def encode_encoder_facts_o_p (h : encode_encoder) (d : Cond) (g : (List Int)) (z : (List Int)) (o : (List Fact)) : Option ((List Fact) × Bool) :=
  (slices_Clone_apiFact_o_p o).bind <| fun (w : (List Fact)) =>
  (forS (fun i => fun (e : (List Fact)) => (idx d.Pos (i : Int)).bind fun p =>
  (idx h.atoms p).bind fun q =>
  (app 16 e [q]).bind fun l =>
  some l) (d.Pos.length) 0 w).bind (fun (e : (List Fact)) => (forS (fun j => fun (f : (List Fact)) => (idx d.Neg (j : Int)).bind fun s =>
  (idx h.atoms s).bind fun t =>
  (app 16 f [(⟨t.Var, 0⟩ : Fact)]).bind fun m =>
  some m) (d.Neg.length) 0 e).bind (fun (f : (List Fact)) => (forS (fun k => fun (_ : Unit) => (idx g (k : Int)).bind fun aa =>
  none) (g.length) 0 ()).bind (fun (_ : Unit) => (sortFacts_p f).bind <| fun (n : (List Fact)) =>
  (slices_Compact_apiFact_o_p n).bind <| un2 fun (c : Nat) (b : (List Fact)) =>
  (must (decide (c ≤ b.length))).bind fun y =>
  ctl (whileC (R := ((List Fact) × Bool)) (fun (a : Int) => if decide (a < (((b).take c).length : Int)) then ((idx ((b).take c) a).bind fun u =>
  (idx ((b).take c) (IntKind.i64.wrap (a - 1))).bind fun v =>
  if decide (u.Var = v.Var) then (none)
  else (some (Ctl.next (IntKind.i64.wrap (a + 1)))))
  else (some (Ctl.brk a))) 1) (fun r => some r) (fun (x : Int) => some ((b).take c, true)))))
noncomputable def encode_encoder_cases_o_p (c : encode_encoder) (b : Cond) (g : (List Int)) (l : (List Int)) (k : (List Fact)) : Option ((List (List Fact))) :=
  (encode_tested_p b.Tests g).bind <| fun (e : (List Int)) =>
  (encode_encoder_assignments_p c e l).bind <| fun (f : (List (List Int))) =>
  (forS (fun h => fun (a : (List (List Fact))) => (idx f (h : Int)).bind fun d =>
  (encode_encoder_hold_p c b.Tests d).bind <| fun (m : Bool) =>
  if !m then (some a)
  else ((encode_encoder_facts_o_p c b e d k).bind <| un2 fun (n : (List Fact)) (o : Bool) =>
  (if o then ((app 24 a [n]).bind fun i =>
  some i)
  else (some a)).bind (fun (j : (List (List Fact))) => some j))) (f.length) 0 []).bind (fun (a : (List (List Fact))) => some a)
noncomputable def encode_encoder_effects_p (f : encode_encoder) (b : GOp) (j : (List Int)) (s : (List Int)) : Option ((List Effect)) :=
  (forS (fun k => fun (e : (List Effect)) => (idx [false, true] (k : Int)).bind fun h =>
  (forS (fun l => fun (a : (List Effect)) => (idx b.Changes (l : Int)).bind fun c =>
  if !(c.Add == h) then (some a)
  else ((idx f.atoms c.Atom).bind fun g =>
  (if !h then ((idx f.grouped c.Atom).bind fun t =>
  (if t then ((app 16 ([] : (List Fact)) [g]).bind fun o =>
  some o)
  else (some [])).bind (fun (q : (List Fact)) => some (q, 0)))
  else (some ([], g.Val))).bind (un2 fun (r : (List Fact)) (v : Int) => (encode_encoder_cases_o_p f c.When j s r).bind <| fun (i : (List (List Fact))) =>
  (forS (fun m => fun (d : (List Effect)) => (idx i (m : Int)).bind fun u =>
  (app 40 d [(⟨u, g.Var, v⟩ : Effect)]).bind fun p =>
  some p) (i.length) 0 a).bind (fun (d : (List Effect)) => some d)))) (b.Changes.length) 0 e).bind (fun (a : (List Effect)) => some a)) ([false, true].length) 0 []).bind (fun (e : (List Effect)) => (forS (fun n => fun (_ : Unit) => (idx b.Assigns (n : Int)).bind fun w =>
  none) (b.Assigns.length) 0 ()).bind (fun (_ : Unit) => some e))
noncomputable def encode_encoder_operators_p (b : encode_encoder) (i : Encoding) (f : Int) (l : (List Int)) : Option (Bool × (List Op) × (List Int)) :=
  (idx b.g.Ops f).bind fun a =>
  (encode_given_p a).bind <| fun (e : (List Int)) =>
  (encode_encoder_assignments_p b e l).bind <| fun (j : (List (List Int))) =>
  ctl (forC (R := (Bool × (List Op) × (List Int))) (fun m => un2 fun (h : (List Op)) (c : (List Int)) => (idx j (m : Int)).bind fun d =>
  (encode_encoder_possible_p b a d).bind <| fun (s : Bool) =>
  if !s then (some (Ctl.next (h, c)))
  else ((encode_encoder_facts_p b a.Pre e d ([] : (List Fact))).bind <| un2 fun (t : (List Fact)) (u : Bool) =>
  if !u then (none)
  else ((encode_encoder_effects_p b a e d).bind <| fun (k : (List Effect)) =>
  if ((decide (64 < (k.length : Int))) || decide ((c.length : Int) = 4096)) then (none)
  else ((app 72 h [(⟨a.Name, a.Cost, t, k⟩ : Op)]).bind fun n =>
  (app 8 c [f]).bind fun o =>
  some (Ctl.next (n, o)))))) (j.length) 0 (i.Task.Ops, i.Ops)) (fun r => some r) (un2 fun (p : (List Op)) (q : (List Int)) => some (true, p, q))
noncomputable def encode_encoder_goal_p (a : encode_encoder) (i : Encoding) (b : (List Int)) : Option (Bool × (List Fact)) :=
  (if decide ((a.g.Goal.length : Int) = 1) then ((idx a.g.Goal 0).bind fun c =>
  some (decide ((c.Tests.length : Int) = 0)))
  else (some false)).bind (fun (h : Bool) => if h then ((idx a.g.Goal 0).bind fun d =>
  (encode_encoder_facts_p a d ([] : (List Int)) b ([] : (List Fact))).bind <| un2 fun (e : (List Fact)) (f : Bool) =>
  if f then (some (true, e))
  else (none))
  else (none))
noncomputable def task_conditions_p (c : Task) : Option ((List (List Fact))) :=
  (forS (fun e => fun (b : (List (List Fact))) => (idx c.Ops (e : Int)).bind fun d =>
  (app 24 b [d.Pre]).bind fun g =>
  (forS (fun f => fun (a : (List (List Fact))) => (idx d.Effs (f : Int)).bind fun i =>
  (app 24 a [i.When]).bind fun h =>
  some h) (d.Effs.length) 0 g).bind (fun (a : (List (List Fact))) => some a)) (c.Ops.length) 0 [c.Goal]).bind (fun (b : (List (List Fact))) => some b)
noncomputable def task_large_c1_p (a : (List Fact)) : Option (Bool) :=
  some (decide (64 < (a.length : Int)))
def task_large_c1_t (a : (List Fact)) : Bool :=
  (decide (64 < (a.length : Int)))
theorem task_large_c1_tot (a : (List Fact)) : task_large_c1_p a = some (task_large_c1_t a) := by
  unfold task_large_c1_p task_large_c1_t
  (repeat' split) <;> rfl
attribute [irreducible] task_large_c1_t
noncomputable def slices_IndexFunc_apiFact_large_c1_p (b : (List (List Fact))) : Option (Int) :=
  ctl (forC (R := (Int)) (fun a => fun (_ : Unit) => (idx b (a : Int)).bind fun c =>
  if (task_large_c1_t c) then (some (Ctl.ret (a : Int)))
  else (some (Ctl.next ()))) (b.length) 0 ()) (fun r => some r) (fun (_ : Unit) => some (-1))
noncomputable def slices_ContainsFunc_apiFact_large_c1_p (a : (List (List Fact))) : Option (Bool) :=
  (slices_IndexFunc_apiFact_large_c1_p a).bind <| fun (b : Int) =>
  some (decide (0 ≤ b))
noncomputable def task_large_p (a : Task) : Option (Bool) :=
  if ((decide (64 < (a.Vars.length : Int))) || decide (4096 < (a.Ops.length : Int))) then (none)
  else (ctl (forC (R := (Bool)) (fun b => fun (_ : Unit) => (idx a.Ops (b : Int)).bind fun c =>
  if decide (64 < (c.Effs.length : Int)) then (none)
  else (some (Ctl.next ()))) (a.Ops.length) 0 ()) (fun r => some r) (fun (_ : Unit) => (task_conditions_p a).bind <| fun (d : (List (List Fact))) =>
  (slices_ContainsFunc_apiFact_large_c1_p d).bind <| fun (e : Bool) =>
  some e))
noncomputable def task_Proper_p (c : (List Int)) (a : (List Int)) : Option (Bool) :=
  if !decide ((a.length : Int) = (c.length : Int)) then (none)
  else (ctl (forC (R := (Bool)) (fun b => fun (_ : Unit) => (idx a (b : Int)).bind fun d =>
  (if decide (d < 0) then (some true)
  else ((idx c (b : Int)).bind fun e =>
  some (decide (e ≤ d)))).bind (fun (f : Bool) => if f then (none)
  else (some (Ctl.next ())))) (a.length) 0 ()) (fun r => some r) (fun (_ : Unit) => some true))
noncomputable def task_Facts_p (c : (List Int)) (b : (List Fact)) : Option (Bool) :=
  ctl (forC (R := (Bool)) (fun d => fun (e : Int) => (idx b (d : Int)).bind fun a =>
  (if decide (a.Var ≤ e) then (some true)
  else (if decide ((c.length : Int) ≤ a.Var) then (some true)
  else (if decide (a.Val < 0) then (some true)
  else ((idx c a.Var).bind fun f =>
  some (decide (f ≤ a.Val)))))).bind (fun (g : Bool) => if g then (none)
  else (some (Ctl.next a.Var)))) (b.length) 0 (-1)) (fun r => some r) (fun (h : Int) => some true)
noncomputable def task_named_p (a : ByteArray) : Option (Bool) :=
  (must (decide ((a.size : Int) ≤ 9223372036854775807))).bind fun e =>
  ctl (forC (R := (Bool)) (fun c => fun (_ : Unit) => ((idx (bytesOf a) (c : Int)).bind fun b =>
  if decide (b < 32) then (some true)
  else (some (decide (126 < b)))).bind (fun (d : Bool) => if d then (some (Ctl.ret false))
  else (some (Ctl.next ())))) ((a.size : Int).toNat) 0 ()) (fun r => some r) (fun (_ : Unit) => some (decide ((a.size : Int) ≤ 256)))
noncomputable def task_Check_p (a : Task) : Option ((Option Int)) :=
  (task_large_p a).bind <| fun (o : Bool) =>
  if o then (none)
  else (ctl (forC (R := ((Option Int))) (fun g => fun (_ : Unit) => (idx a.Vars (g : Int)).bind fun b =>
  if ((decide (b < 1)) || decide (64 < b)) then (none)
  else (some (Ctl.next ()))) (a.Vars.length) 0 ()) (fun r => some r) (fun (_ : Unit) => ctl (forC (R := ((Option Int))) (fun h => fun (_ : Unit) => (idx a.Ops (h : Int)).bind fun c =>
  if ((decide (c.Cost < 0)) || decide (1048576 < c.Cost)) then (none)
  else (some (Ctl.next ()))) (a.Ops.length) 0 ()) (fun r => some r) (fun (_ : Unit) => (task_Proper_p a.Vars a.Init).bind <| fun (p : Bool) =>
  if !p then (none)
  else ((task_conditions_p a).bind <| fun (f : (List (List Fact))) =>
  ctl (forC (R := ((Option Int))) (fun i => fun (_ : Unit) => (idx f (i : Int)).bind fun m =>
  (task_Facts_p a.Vars m).bind <| fun (q : Bool) =>
  if !q then (none)
  else (some (Ctl.next ()))) (f.length) 0 ()) (fun r => some r) (fun (_ : Unit) => ctl (forC (R := ((Option Int))) (fun j => fun (_ : Unit) => (idx a.Ops (j : Int)).bind fun d =>
  ctl (forC (R := ((Option Int))) (fun k => fun (_ : Unit) => (idx d.Effs (k : Int)).bind fun e =>
  (task_Facts_p a.Vars [(⟨e.Var, e.Val⟩ : Fact)]).bind <| fun (s : Bool) =>
  if !s then (none)
  else (some (Ctl.next ()))) (d.Effs.length) 0 ()) (fun r => some (Ctl.ret r)) (fun (_ : Unit) => some (Ctl.next ()))) (a.Ops.length) 0 ()) (fun r => some r) (fun (_ : Unit) => ctl (forC (R := ((Option Int))) (fun l => fun (_ : Unit) => (idx a.Ops (l : Int)).bind fun n =>
  (task_named_p n.Name).bind <| fun (t : Bool) =>
  if !t then (none)
  else (some (Ctl.next ()))) (a.Ops.length) 0 ()) (fun r => some r) (fun (_ : Unit) => some none)))))))
noncomputable def encode_Encode_p (a : Ground) (i : (List (List Int))) : Option ((Option Int) × Encoding) :=
  ((ground_Valid_p a).bind <| fun (w : Bool) =>
  if !w then (some true)
  else ((slices_ContainsFunc_int_Encode_c1_p i a).bind <| fun (x : Bool) =>
  some x)).bind (fun (ac : Bool) => if ac then (none)
  else ((encode_encoder_variables_p (⟨a, ([] : (List Int)), ([] : (List Fact)), ([] : (List Bool)), ([] : (List Int))⟩ : encode_encoder) i).bind <| un3 fun (c : (List Fact)) (h : (List Bool)) (d : (List Int)) =>
  (encode_encoder_large_p (⟨a, d, c, h, ([] : (List Int))⟩ : encode_encoder)).bind <| fun (y : Bool) =>
  if y then (none)
  else ((slices_Clone_int_o_p d).bind <| fun (e : (List Int)) =>
  (mk 8 0 (d.length : Int)).bind fun o =>
  (forS (fun l => fun (b : (List Int)) => (idx a.Init (l : Int)).bind fun v =>
  (idx c v).bind fun g =>
  (idx b g.Var).bind fun ad =>
  (setI b g.Var g.Val).bind fun p =>
  some p) (a.Init.length) 0 o).bind (fun (b : (List Int)) => (forS (fun m => fun (_ : Unit) => (idx a.Fluents (m : Int)).bind fun ae =>
  none) (a.Fluents.length) 0 ()).bind (fun (_ : Unit) => ctl (forC (R := ((Option Int) × Encoding)) (fun n => un2 fun (q : (List Op)) (s : (List Int)) => (encode_encoder_operators_p (⟨a, d, c, h, ([] : (List Int))⟩ : encode_encoder) (⟨(⟨e, b, ([] : (List Fact)), q⟩ : Task), c, ([] : (List Int)), s⟩ : Encoding) (n : Int) ([] : (List Int))).bind <| un3 fun (z : Bool) (t : (List Op)) (u : (List Int)) =>
  if !z then (none)
  else (some (Ctl.next (t, u)))) (a.Ops.length) 0 (([] : (List Op)), ([] : (List Int)))) (fun r => some r) (un2 fun (f : (List Op)) (j : (List Int)) => (encode_encoder_goal_p (⟨a, d, c, h, ([] : (List Int))⟩ : encode_encoder) (⟨(⟨e, b, ([] : (List Fact)), f⟩ : Task), c, ([] : (List Int)), j⟩ : Encoding) ([] : (List Int))).bind <| un2 fun (aa : Bool) (k : (List Fact)) =>
  if !aa then (none)
  else ((task_Check_p (⟨e, b, k, f⟩ : Task)).bind <| fun (ab : (Option Int)) =>
  if ab.isSome then (none)
  else (some (none, (⟨(⟨e, b, k, f⟩ : Task), c, ([] : (List Int)), j⟩ : Encoding))))))))))
noncomputable def encode_fits_p (b : Ground) (a : Encoding) : Option (Bool) :=
  ((ground_Valid_p b).bind <| fun (f : Bool) =>
  if !f then (some true)
  else ((task_Check_p a.Task).bind <| fun (g : (Option Int)) =>
  if g.isSome then (some true)
  else (if !decide ((a.Atoms.length : Int) = (b.Atoms.length : Int)) then (some true)
  else (some (!decide ((a.Fluents.length : Int) = (b.Fluents.length : Int))))))).bind (fun (i : Bool) => if i then (none)
  else (ctl (forC (R := (Bool)) (fun c => fun (_ : Unit) => (idx a.Atoms (c : Int)).bind fun e =>
  (task_Facts_p a.Task.Vars [e]).bind <| fun (h : Bool) =>
  if !h then (none)
  else (some (Ctl.next ()))) (a.Atoms.length) 0 ()) (fun r => some r) (fun (_ : Unit) => ctl (forC (R := (Bool)) (fun d => fun (_ : Unit) => (idx a.Fluents (d : Int)).bind fun j =>
  none) (a.Fluents.length) 0 ()) (fun r => some r) (fun (_ : Unit) => some true))))
noncomputable def ground_proper_p (b : Ground) (a : GState) : Option (Bool) :=
  (if !decide ((a.Values.length : Int) = (b.Fluents.length : Int)) then (some true)
  else ((ground_indices_p a.True (b.Atoms.length : Int)).bind <| fun (d : Bool) =>
  some (!d))).bind (fun (e : Bool) => if e then (some false)
  else (ctl (forC (R := (Bool)) (fun c => fun (_ : Unit) => (idx a.Values (c : Int)).bind fun f =>
  none) (a.Values.length) 0 ()) (fun r => some r) (fun (_ : Unit) => some true)))
noncomputable def ground_holds_c1_p (b : Int) (a : GState) : Option (Bool) :=
  (slices_BinarySearch_int_p a.True b).bind <| un2 fun (d : Int) (c : Bool) =>
  some c
noncomputable def ground_holds_c2_p (b : Int) (a : GState) : Option (Bool) :=
  (ground_holds_c1_p b a).bind <| fun (c : Bool) =>
  some (!c)
noncomputable def slices_IndexFunc_int_holds_c2_p (b : (List Int)) (c : GState) : Option (Int) :=
  ctl (forC (R := (Int)) (fun a => fun (_ : Unit) => (idx b (a : Int)).bind fun d =>
  (ground_holds_c2_p d c).bind <| fun (e : Bool) =>
  if e then (some (Ctl.ret (a : Int)))
  else (some (Ctl.next ()))) (b.length) 0 ()) (fun r => some r) (fun (_ : Unit) => some (-1))
noncomputable def slices_ContainsFunc_int_holds_c2_p (b : (List Int)) (a : GState) : Option (Bool) :=
  (slices_IndexFunc_int_holds_c2_p b a).bind <| fun (c : Int) =>
  some (decide (0 ≤ c))
noncomputable def slices_IndexFunc_int_holds_c1_p (b : (List Int)) (c : GState) : Option (Int) :=
  ctl (forC (R := (Int)) (fun a => fun (_ : Unit) => (idx b (a : Int)).bind fun d =>
  (ground_holds_c1_p d c).bind <| fun (e : Bool) =>
  if e then (some (Ctl.ret (a : Int)))
  else (some (Ctl.next ()))) (b.length) 0 ()) (fun r => some r) (fun (_ : Unit) => some (-1))
noncomputable def slices_ContainsFunc_int_holds_c1_p (b : (List Int)) (a : GState) : Option (Bool) :=
  (slices_IndexFunc_int_holds_c1_p b a).bind <| fun (c : Int) =>
  some (decide (0 ≤ c))
noncomputable def ground_combine_p (c : ByteArray) (a : Int) (b : Int) : Option (Int × Bool) :=
  if decide (c = (⟨#[43]⟩)) then ((if decide ((-1099511627776) ≤ (IntKind.i64.wrap (a + b))) then (some (decide ((IntKind.i64.wrap (a + b)) ≤ 1099511627776)))
  else (some false)).bind (fun (d : Bool) => some (IntKind.i64.wrap (a + b), d)))
  else (if decide (c = (⟨#[45]⟩)) then ((if decide ((-1099511627776) ≤ (IntKind.i64.wrap (a - b))) then (some (decide ((IntKind.i64.wrap (a - b)) ≤ 1099511627776)))
  else (some false)).bind (fun (e : Bool) => some (IntKind.i64.wrap (a - b), e)))
  else ((if !decide (a = 0) then ((must (!decide ((max a (IntKind.i64.wrap (0 - a))) = 0))).bind fun h =>
  some (decide ((IntKind.i64.wrap ((1099511627776 : Int).tdiv (max a (IntKind.i64.wrap (0 - a))))) < (max b (IntKind.i64.wrap (0 - b))))))
  else (some false)).bind (fun (f : Bool) => if f then (some (0, false))
  else ((if decide ((-1099511627776) ≤ (IntKind.i64.wrap (a * b))) then (some (decide ((IntKind.i64.wrap (a * b)) ≤ 1099511627776)))
  else (some false)).bind (fun (g : Bool) => some (IntKind.i64.wrap (a * b), g))))))
noncomputable def ground_value_p : Nat → GState → GExpr → Option (Int × Bool)
  | 0, _, _ => none
  | fu + 1, b, a =>
  if decide (a.Op = (⟨#[110, 117, 109, 98, 101, 114]⟩)) then (some (a.N, true))
  else (if decide (a.Op = (⟨#[102, 108, 117, 101, 110, 116]⟩)) then ((idx b.Values a.N).bind fun c =>
  some (c, true))
  else ((idx a.Kids 0).bind fun d =>
  (ground_value_p fu b d).bind <| un2 fun (f : Int) (g : Bool) =>
  if !g then (some (0, false))
  else ((idx a.Kids 1).bind fun e =>
  (ground_value_p fu b e).bind <| un2 fun (h : Int) (i : Bool) =>
  if !i then (some (0, false))
  else ((ground_combine_p a.Op f h).bind <| un2 fun (j : Int) (k : Bool) =>
  some (j, k)))))
noncomputable def ground_test_p (fu : Nat) (d : GState) (a : GTest) : Option (Bool) :=
  (ground_value_p fu d a.A).bind <| un2 fun (b : Int) (e : Bool) =>
  (ground_value_p fu d a.B).bind <| un2 fun (c : Int) (f : Bool) =>
  some (e && (f && (bif (decide (a.Op = (⟨#[60]⟩))) then ((decide (b < c)) || (bif (decide (a.Op = (⟨#[60, 61]⟩))) then ((decide (b ≤ c)) || ((decide (a.Op = (⟨#[61]⟩))) && decide (b = c))) else ((decide (a.Op = (⟨#[61]⟩))) && decide (b = c)))) else (bif (decide (a.Op = (⟨#[60, 61]⟩))) then ((decide (b ≤ c)) || ((decide (a.Op = (⟨#[61]⟩))) && decide (b = c))) else ((decide (a.Op = (⟨#[61]⟩))) && decide (b = c))))))
noncomputable def ground_holds_c3_p (fu : Nat) (b : GTest) (a : GState) : Option (Bool) :=
  (ground_test_p fu a b).bind <| fun (c : Bool) =>
  some (!c)
noncomputable def slices_IndexFunc_apiGTest_holds_c3_p (fu : Nat) (b : (List GTest)) (c : GState) : Option (Int) :=
  ctl (forC (R := (Int)) (fun a => fun (_ : Unit) => (idx b (a : Int)).bind fun d =>
  (ground_holds_c3_p fu d c).bind <| fun (e : Bool) =>
  if e then (some (Ctl.ret (a : Int)))
  else (some (Ctl.next ()))) (b.length) 0 ()) (fun r => some r) (fun (_ : Unit) => some (-1))
noncomputable def slices_ContainsFunc_apiGTest_holds_c3_p (fu : Nat) (b : (List GTest)) (a : GState) : Option (Bool) :=
  (slices_IndexFunc_apiGTest_holds_c3_p fu b a).bind <| fun (c : Int) =>
  some (decide (0 ≤ c))
noncomputable def ground_holds_p (fu : Nat) (b : GState) (a : Cond) : Option (Bool) :=
  ((slices_ContainsFunc_int_holds_c2_p a.Pos b).bind <| fun (c : Bool) =>
  if !c then ((slices_ContainsFunc_int_holds_c1_p a.Neg b).bind <| fun (d : Bool) =>
  if !d then ((slices_ContainsFunc_apiGTest_holds_c3_p fu a.Tests b).bind <| fun (e : Bool) =>
  some (!e))
  else (some false))
  else (some false)).bind (fun (f : Bool) => some f)
noncomputable def ground_Holds_p (fu : Nat) (a : Ground) (c : GState) (b : Cond) : Option (Bool) :=
  ((ground_Valid_p a).bind <| fun (d : Bool) =>
  if d then ((ground_proper_p a c).bind <| fun (e : Bool) =>
  if e then ((ground_condition_p a b).bind <| fun (f : Bool) =>
  if f then ((ground_holds_p fu c b).bind <| fun (g : Bool) =>
  some g)
  else (some false))
  else (some false))
  else (some false)).bind (fun (h : Bool) => some h)
noncomputable def encode_proper_p (fu : Nat) (a : Ground) (b : GState) : Option (Bool) :=
  (ground_Holds_p fu a b (⟨[], [], []⟩ : Cond)).bind <| fun (c : Bool) =>
  some c
noncomputable def encode_State_p (fu : Nat) (d : Ground) (a : Encoding) (c : GState) : Option ((List Int) × (Option Int)) :=
  ((encode_fits_p d a).bind <| fun (o : Bool) =>
  if !o then (some true)
  else ((encode_proper_p fu d c).bind <| fun (p : Bool) =>
  some (!p))).bind (fun (q : Bool) => if q then (none)
  else ((mk 8 0 (a.Task.Vars.length : Int)).bind fun i =>
  ctl (forC (R := ((List Int) × (Option Int))) (fun g => un2 fun (e : (List Int)) (f : BMap) => (idx c.True (g : Int)).bind fun n =>
  (idx a.Atoms n).bind fun b =>
  (bmapGet f b.Var).bind fun m =>
  if m then (none)
  else ((idx e b.Var).bind fun t =>
  (setI e b.Var b.Val).bind fun j =>
  (bmapPut f b.Var true).bind fun l =>
  some (Ctl.next (j, l)))) (c.True.length) 0 (i, ([] : BMap))) (fun r => some r) (un2 fun (k : (List Int)) (s : BMap) => (forS (fun h => fun (_ : Unit) => (idx a.Fluents (h : Int)).bind fun u =>
  none) (a.Fluents.length) 0 ()).bind (fun (_ : Unit) => some (k, none)))))
noncomputable def base_Ints_p (a : (List Int)) (b : (List Int)) : Option (Bool) :=
  if !decide ((a.length : Int) = (b.length : Int)) then (some false)
  else (ctl (forC (R := (Bool)) (fun c => fun (_ : Unit) => (idx a (c : Int)).bind fun d =>
  (idx b (c : Int)).bind fun e =>
  if !decide (d = e) then (some (Ctl.ret false))
  else (some (Ctl.next ()))) (a.length) 0 ()) (fun r => some r) (fun (_ : Unit) => some true))
noncomputable def law21_awake_p (fu : Nat) : Option (Bool) :=
  (encode_Encode_p law21_sample_t ([[0, 1]])).bind <| un2 fun (f : (Option Int)) (a : Encoding) =>
  (if f.isSome then (some true)
  else (if !decide ((a.Task.Vars.length : Int) = 2) then (some true)
  else ((idx a.Task.Vars 0).bind fun b =>
  if !decide (b = 3) then (some true)
  else (if !decide ((a.Task.Ops.length : Int) = 1) then (some true)
  else ((idx a.Task.Ops 0).bind fun c =>
  if !decide ((c.Effs.length : Int) = 2) then (some true)
  else (some (!decide ((a.Atoms.length : Int) = 3)))))))).bind (fun (j : Bool) => if j then (some false)
  else ((encode_State_p fu law21_sample_t a (⟨[1, 2], []⟩ : GState)).bind <| un2 fun (g : (List Int)) (h : (Option Int)) =>
  (if h.isNone then ((base_Ints_p g [2, 1]).bind <| fun (i : Bool) =>
  if i then ((idx a.Task.Ops 0).bind fun d =>
  (idx d.Effs 1).bind fun e =>
  some (decide (e.Val = 2)))
  else (some false))
  else (some false)).bind (fun (k : Bool) => some k)))
noncomputable def encode_Plan_p (b : Encoding) (d : (List Int)) : Option ((List Int) × (Option Int)) :=
  ctl (forC (R := ((List Int) × (Option Int))) (fun f => fun (c : (List Int)) => (idx d (f : Int)).bind fun a =>
  if ((decide (a < 0)) || decide ((b.Ops.length : Int) ≤ a)) then (some (Ctl.ret ([], some 1)))
  else ((idx b.Ops a).bind fun e =>
  (if decide (0 ≤ e) then ((app 8 c [e]).bind fun g =>
  some g)
  else (some c)).bind (fun (h : (List Int)) => some (Ctl.next h)))) (d.length) 0 []) (fun r => some r) (fun (i : (List Int)) => some (i, none))
noncomputable def ref21_Plan_p (d : Encoding) (c : (List Int)) : Option ((List Int) × Bool) :=
  ctl (whileC (R := ((List Int) × Bool)) (un2 fun (b : (List Int)) (a : Int) => if decide (a < (c.length : Int)) then (((idx c a).bind fun e =>
  if decide (e < 0) then (some true)
  else (some (decide ((d.Ops.length : Int) ≤ e)))).bind (fun (k : Bool) => if k then (some (Ctl.ret ([], false)))
  else ((idx c a).bind fun j =>
  (idx d.Ops j).bind fun f =>
  (if decide (0 ≤ f) then ((app 8 b [f]).bind fun g =>
  some g)
  else (some b)).bind (fun (h : (List Int)) => some (Ctl.next (h, IntKind.i64.wrap (a + 1)))))))
  else (some (Ctl.brk (b, a)))) ([], 0)) (fun r => some r) (un2 fun (i : (List Int)) (l : Int) => some (i, true))
noncomputable def base_Num_p (a : (Option Int)) : Option (Int) :=
  if a.isNone then (some 0)
  else (if a.isSome then (some (a.getD 0))
  else (some (-1)))
def base_Num_t (a : (Option Int)) : Int :=
  if a.isNone then (0)
  else (if a.isSome then ((a.getD 0))
  else ((-1)))
theorem base_Num_tot (a : (Option Int)) : base_Num_p a = some (base_Num_t a) := by
  unfold base_Num_p base_Num_t
  (repeat' split) <;> rfl
attribute [irreducible] base_Num_t
noncomputable def base_Is_p (a : (Option Int)) (b : Int) : Option (Bool) :=
  some (a.isSome && decide ((base_Num_t a) = b))
def base_Is_t (a : (Option Int)) (b : Int) : Bool :=
  (a.isSome && decide ((base_Num_t a) = b))
theorem base_Is_tot (b : (Option Int)) (a : Int) : base_Is_p b a = some (base_Is_t b a) := by
  unfold base_Is_p base_Is_t
  (repeat' split) <;> rfl
attribute [irreducible] base_Is_t
noncomputable def law21_EncodePlan_p (fu : Nat) (ops1 : (List Int)) (plan4 : (List Int)) : Option (Bool) :=
  (if decide (500 < (ops1.length : Int)) then (some true)
  else (if decide (500 < (plan4.length : Int)) then (some true)
  else ((law21_awake_p fu).bind <| fun (c : Bool) =>
  some (!c)))).bind (fun (h : Bool) => if h then ((law21_awake_p fu).bind <| fun (d : Bool) =>
  some d)
  else ((encode_Plan_p (⟨(⟨[], [], [], []⟩ : Task), [], [], ops1⟩ : Encoding) plan4).bind <| un2 fun (e : (List Int)) (a : (Option Int)) =>
  (ref21_Plan_p (⟨(⟨[], [], [], []⟩ : Task), [], [], ops1⟩ : Encoding) plan4).bind <| un2 fun (f : (List Int)) (b : Bool) =>
  ((base_Ints_p e f).bind <| fun (g : Bool) =>
  if g then (if (b == a.isNone) then (if b then (some true)
  else (some (base_Is_t a 1)))
  else (some false))
  else (some false)).bind (fun (i : Bool) => some i)))
end Go.Pw
