/-
  What the functions compute, in plain Lean (printed by my generator).
-/
import Derived.Test.YtdhfofhginfdnaaLA
import Derived.Test.YtdhfofhginfdnaaL11
import Derived.Test.YtdhfofhginfdnaaLB
set_option maxRecDepth 100000
set_option maxHeartbeats 4000000
set_option linter.unusedVariables false
namespace Go.Pw
structure Fact where
  Var : Int
  Val : Int
def encFact : Enc Fact := Enc.iso ((encInt .i64).pair (encInt .i64)) (fun b => (b.Var, b.Val))
theorem encFact_val {s : PHeap} {v : Value} {b : Fact} : encFact.val s v b ↔ v = .agg #[.int .i64 (b.Var), .int .i64 (b.Val)] := by
  simp only [Enc.iso, Enc.pair, Enc.val, encFact, encInt, if_true, oneCell]
  constructor
  · rintro ⟨cs, rfl, h⟩
    obtain ⟨cs⟩ := cs
    simp only [] at h
    obtain ⟨_, _, rfl, rfl, rfl⟩ := h
    rfl
  · rintro rfl
    exact ⟨_, rfl, ⟨[.int .i64 (b.Var)], [.int .i64 (b.Val)], rfl, rfl, rfl⟩⟩
structure Effect where
  When : (List Fact)
  Var : Int
  Val : Int
def encEffect : Enc Effect := Enc.iso ((encSlice encFact).pair ((encInt .i64).pair (encInt .i64))) (fun b => (b.When, b.Var, b.Val))
theorem encEffect_val {s : PHeap} {v : Value} {b : Effect} : encEffect.val s v b ↔ ∃ u1, v = .agg #[u1, .int .i64 (b.Var), .int .i64 (b.Val)] ∧ SliceRep encFact s u1 (b.When) := by
  simp only [Enc.iso, Enc.pair, Enc.val, encEffect, encInt, encSlice, if_true, oneCell]
  constructor
  · rintro ⟨cs, rfl, h⟩
    obtain ⟨cs⟩ := cs
    simp only [] at h
    obtain ⟨_, _, rfl, ⟨w1, rfl, h1⟩, ⟨_, _, rfl, rfl, rfl⟩⟩ := h
    exact ⟨w1, rfl, h1⟩
  · rintro ⟨w1, rfl, h1⟩
    exact ⟨_, rfl, ⟨[w1], [.int .i64 (b.Var), .int .i64 (b.Val)], rfl, ⟨w1, rfl, h1⟩, ⟨[.int .i64 (b.Var)], [.int .i64 (b.Val)], rfl, rfl, rfl⟩⟩⟩
structure Op where
  Name : ByteArray
  Cost : Int
  Pre : (List Fact)
  Effs : (List Effect)
def encOp : Enc Op := Enc.iso (encStr.pair ((encInt .i64).pair ((encSlice encFact).pair (encSlice encEffect)))) (fun b => (b.Name, b.Cost, b.Pre, b.Effs))
theorem encOp_val {s : PHeap} {v : Value} {b : Op} : encOp.val s v b ↔ ∃ u1, ∃ u2, v = .agg #[.string (b.Name), .int .i64 (b.Cost), u1, u2] ∧ SliceRep encFact s u1 (b.Pre) ∧ SliceRep encEffect s u2 (b.Effs) := by
  simp only [Enc.iso, Enc.pair, Enc.val, encInt, encOp, encSlice, encStr, if_true, oneCell]
  constructor
  · rintro ⟨cs, rfl, h⟩
    obtain ⟨cs⟩ := cs
    simp only [] at h
    obtain ⟨_, _, rfl, rfl, ⟨_, _, rfl, rfl, ⟨_, _, rfl, ⟨w1, rfl, h1⟩, ⟨w2, rfl, h2⟩⟩⟩⟩ := h
    exact ⟨w1, w2, rfl, h1, h2⟩
  · rintro ⟨w1, w2, rfl, h1, h2⟩
    exact ⟨_, rfl, ⟨[.string (b.Name)], [.int .i64 (b.Cost), w1, w2], rfl, rfl, ⟨[.int .i64 (b.Cost)], [w1, w2], rfl, rfl, ⟨[w1], [w2], rfl, ⟨w1, rfl, h1⟩, ⟨w2, rfl, h2⟩⟩⟩⟩⟩
structure Task where
  Vars : (List Int)
  Init : (List Int)
  Goal : (List Fact)
  Ops : (List Op)
def encTask : Enc Task := Enc.iso ((encSlice (encInt .i64)).pair ((encSlice (encInt .i64)).pair ((encSlice encFact).pair (encSlice encOp)))) (fun b => (b.Vars, b.Init, b.Goal, b.Ops))
theorem encTask_val {s : PHeap} {v : Value} {b : Task} : encTask.val s v b ↔ ∃ u1, ∃ u2, ∃ u3, ∃ u4, v = .agg #[u1, u2, u3, u4] ∧ SliceRep (encInt .i64) s u1 (b.Vars) ∧ SliceRep (encInt .i64) s u2 (b.Init) ∧ SliceRep encFact s u3 (b.Goal) ∧ SliceRep encOp s u4 (b.Ops) := by
  simp only [Enc.iso, Enc.pair, Enc.val, encSlice, encTask, if_true]
  constructor
  · rintro ⟨cs, rfl, h⟩
    obtain ⟨cs⟩ := cs
    simp only [] at h
    obtain ⟨_, _, rfl, ⟨w1, rfl, h1⟩, ⟨_, _, rfl, ⟨w2, rfl, h2⟩, ⟨_, _, rfl, ⟨w3, rfl, h3⟩, ⟨w4, rfl, h4⟩⟩⟩⟩ := h
    exact ⟨w1, w2, w3, w4, rfl, h1, h2, h3, h4⟩
  · rintro ⟨w1, w2, w3, w4, rfl, h1, h2, h3, h4⟩
    exact ⟨_, rfl, ⟨[w1], [w2, w3, w4], rfl, ⟨w1, rfl, h1⟩, ⟨[w2], [w3, w4], rfl, ⟨w2, rfl, h2⟩, ⟨[w3], [w4], rfl, ⟨w3, rfl, h3⟩, ⟨w4, rfl, h4⟩⟩⟩⟩⟩
structure Edge where
  From : Int
  Label : Int
  To : Int
def encEdge : Enc Edge := Enc.iso ((encInt .i64).pair ((encInt .i64).pair (encInt .i64))) (fun b => (b.From, b.Label, b.To))
theorem encEdge_val {s : PHeap} {v : Value} {b : Edge} : encEdge.val s v b ↔ v = .agg #[.int .i64 (b.From), .int .i64 (b.Label), .int .i64 (b.To)] := by
  simp only [Enc.iso, Enc.pair, Enc.val, encEdge, encInt, if_true, oneCell]
  constructor
  · rintro ⟨cs, rfl, h⟩
    obtain ⟨cs⟩ := cs
    simp only [] at h
    obtain ⟨_, _, rfl, rfl, ⟨_, _, rfl, rfl, rfl⟩⟩ := h
    rfl
  · rintro rfl
    exact ⟨_, rfl, ⟨[.int .i64 (b.From)], [.int .i64 (b.Label), .int .i64 (b.To)], rfl, rfl, ⟨[.int .i64 (b.Label)], [.int .i64 (b.To)], rfl, rfl, rfl⟩⟩⟩
structure System where
  States : Int
  Init : Int
  Costs : (List Int)
  Edges : (List Edge)
  Goals : (List Bool)
noncomputable def law44_example_p  : Option (System) :=
  some (⟨2, 0, [2, 0], [(⟨0, 0, 1⟩ : Edge), (⟨1, 1, 1⟩ : Edge)], [false, true]⟩ : System)
def law44_example_t  : System :=
  (⟨2, 0, [2, 0], [(⟨0, 0, 1⟩ : Edge), (⟨1, 1, 1⟩ : Edge)], [false, true]⟩ : System)
theorem law44_example_tot  : law44_example_p  = some (law44_example_t ) := by
  unfold law44_example_p law44_example_t
  (repeat' split) <;> rfl
attribute [irreducible] law44_example_t
noncomputable def cmp_isNaN_int__p (x404 : Int) : Option (Bool) :=
  some (!decide (x404 = x404))
def cmp_isNaN_int__t (x404 : Int) : Bool :=
  (!decide (x404 = x404))
theorem cmp_isNaN_int__tot (x404 : Int) : cmp_isNaN_int__p x404 = some (cmp_isNaN_int__t x404) := by
  unfold cmp_isNaN_int__p cmp_isNaN_int__t
  (repeat' split) <;> rfl
attribute [irreducible] cmp_isNaN_int__t
noncomputable def cmp_Compare_int__p (x402 : Int) (y403 : Int) : Option (Int) :=
  if (cmp_isNaN_int__t x402) then (if (cmp_isNaN_int__t y403) then (some 0)
  else (some (-1)))
  else (if (cmp_isNaN_int__t y403) then (some 1)
  else (if decide (x402 < y403) then (some (-1))
  else (if decide (y403 < x402) then (some 1)
  else (some 0))))
def cmp_Compare_int__t (x402 : Int) (y403 : Int) : Int :=
  if (cmp_isNaN_int__t x402) then (if (cmp_isNaN_int__t y403) then (0)
  else ((-1)))
  else (if (cmp_isNaN_int__t y403) then (1)
  else (if decide (x402 < y403) then ((-1))
  else (if decide (y403 < x402) then (1)
  else (0))))
theorem cmp_Compare_int__tot (x402 : Int) (y403 : Int) : cmp_Compare_int__p x402 y403 = some (cmp_Compare_int__t x402 y403) := by
  unfold cmp_Compare_int__p cmp_Compare_int__t
  (repeat' split) <;> rfl
attribute [irreducible] cmp_Compare_int__t
noncomputable def cmp_Or_int__p (vals487 : (List Int)) : Option (Int) :=
  ctl (forC (R := (Int)) (fun i588 => fun (_ : Unit) => (idx vals487 (i588 : Int)).bind fun x651 =>
  if !decide (x651 = 0) then (some (Ctl.ret x651))
  else (some (Ctl.next ()))) (vals487.length) 0 ()) (fun r => some r) (fun (_ : Unit) => some 0)
noncomputable def transys_compare_p (a387 : Edge) (b388 : Edge) : Option (Int) :=
  (cmp_Or_int__p [(cmp_Compare_int__t a387.From b388.From), (cmp_Compare_int__t a387.Label b388.Label), (cmp_Compare_int__t a387.To b388.To)]).bind <| fun (y901 : Int) =>
  some y901
noncomputable def transys_Valid_p (x173 : System) : Option (Bool) :=
  if ((decide (x173.States < 1)) || ((decide (4096 < x173.States)) || ((decide (x173.Init < 0)) || ((decide (x173.States ≤ x173.Init)) || ((!decide ((x173.Goals.length : Int) = x173.States)) || ((decide (4096 < (x173.Costs.length : Int))) || decide (65536 < (x173.Edges.length : Int)))))))) then (some false)
  else (ctl (forC (R := (Bool)) (fun i100 => fun (_ : Unit) => (idx x173.Costs (i100 : Int)).bind fun x100 =>
  if ((decide (x100 < 0)) || decide (1048576 < x100)) then (some (Ctl.ret false))
  else (some (Ctl.next ()))) (x173.Costs.length) 0 ()) (fun r => some r) (fun (_ : Unit) => ctl (forC (R := (Bool)) (fun i101 => fun (_ : Unit) => (idx x173.Edges (i101 : Int)).bind fun x101 =>
  (if decide (x101.From < 0) then (some true)
  else (if decide (x173.States ≤ x101.From) then (some true)
  else (if decide (x101.To < 0) then (some true)
  else (if decide (x173.States ≤ x101.To) then (some true)
  else (if decide (x101.Label < 0) then (some true)
  else (if decide ((x173.Costs.length : Int) ≤ x101.Label) then (some true)
  else (if decide (0 < (i101 : Int)) then ((idx x173.Edges (IntKind.i64.wrap ((i101 : Int) - 1))).bind fun x102 =>
  (transys_compare_p x102 x101).bind <| fun (y100 : Int) =>
  some (decide (0 ≤ y100)))
  else (some false)))))))).bind (fun (z100 : Bool) => if z100 then (some (Ctl.ret false))
  else (some (Ctl.next ())))) (x173.Edges.length) 0 ()) (fun r => some r) (fun (_ : Unit) => some true)))
noncomputable def slices_Equal___int_int__p (s100 : (List Int)) (s101 : (List Int)) : Option (Bool) :=
  if !decide ((s100.length : Int) = (s101.length : Int)) then (some false)
  else (ctl (forC (R := (Bool)) (fun i100 => fun (_ : Unit) => (idx s100 (i100 : Int)).bind fun x100 =>
  (idx s101 (i100 : Int)).bind fun x101 =>
  if !decide (x100 = x101) then (some (Ctl.ret false))
  else (some (Ctl.next ()))) (s100.length) 0 ()) (fun r => some r) (fun (_ : Unit) => some true))
noncomputable def slices_Clone___int_int__p (s_100 : (List Int)) : Option ((List Int)) :=
  (app 8 [] s_100).bind fun l100 =>
  some l100
noncomputable def transys_labelled_p (x100 : System) : Option ((List (List Edge))) :=
  (mk 24 ([] : (List Edge)) (x100.Costs.length : Int)).bind fun l100 =>
  (forS (fun i100 => fun (l101 : (List (List Edge))) => (idx x100.Edges (i100 : Int)).bind fun x101 =>
  (idx l101 x101.Label).bind fun row100 =>
  (app 24 row100 [x101]).bind fun l102 =>
  (setI l101 x101.Label l102).bind fun l103 =>
  some l103) (x100.Edges.length) 0 l100).bind (fun (l101 : (List (List Edge))) => some l101)
def cmpI (a b : Int) : Int := if a < b then -1 else if b < a then 1 else 0
def cmpE (a b : Edge) : Int := if cmpI a.From b.From ≠ 0 then cmpI a.From b.From else if cmpI a.Label b.Label ≠ 0 then cmpI a.Label b.Label else cmpI a.To b.To
noncomputable def sortEdges_p (xs : List Edge) : Option (List Edge) := if xs.length < 4611686018427387904 then some (xs.mergeSort fun x y => !decide (cmpE y x < 0)) else none
noncomputable def transys_Product_p (a141 : System) (b148 : System) : Option ((Option Int) × System) :=
  ((transys_Valid_p a141).bind <| fun (y100 : Bool) =>
  if !y100 then (some true)
  else ((transys_Valid_p b148).bind <| fun (y101 : Bool) =>
  if !y101 then (some true)
  else ((slices_Equal___int_int__p a141.Costs b148.Costs).bind <| fun (y102 : Bool) =>
  some (!y102)))).bind (fun (z100 : Bool) => if z100 then (some (some 2, (⟨0, 0, [], [], []⟩ : System)))
  else (if decide (4096 < (IntKind.i64.wrap (a141.States * b148.States))) then (some (some 5, (⟨0, 0, [], [], []⟩ : System)))
  else ((slices_Clone___int_int__p a141.Costs).bind <| fun (y103 : (List Int)) =>
  (must (decide (a141.States ≤ 9223372036854775807))).bind fun u100 =>
  (forS (fun i100 => fun (z101 : (List Bool)) => (must (decide (b148.States ≤ 9223372036854775807))).bind fun u101 =>
  (forS (fun i101 => fun (l100 : (List Bool)) => ((idx a141.Goals (i100 : Int)).bind fun x100 =>
  if x100 then ((idx b148.Goals (i101 : Int)).bind fun x101 =>
  (app 1 l100 [x101]).bind fun l101 =>
  some l101)
  else ((app 1 l100 [false]).bind fun l102 =>
  some l102)).bind (fun (l103 : (List Bool)) => some l103)) (b148.States.toNat) 0 z101).bind (fun (l100 : (List Bool)) => some l100)) (a141.States.toNat) 0 []).bind (fun (z101 : (List Bool)) => (transys_labelled_p a141).bind <| fun (y104 : (List (List Edge))) =>
  (transys_labelled_p b148).bind <| fun (y105 : (List (List Edge))) =>
  (forS (fun i102 => fun (many100 : Int) => (idx y104 (i102 : Int)).bind fun x102 =>
  (idx y105 (i102 : Int)).bind fun x103 =>
  some (IntKind.i64.wrap (many100 + (IntKind.i64.wrap ((x102.length : Int) * (x103.length : Int)))))) (y104.length) 0 0).bind (fun (many100 : Int) => if decide (65536 < many100) then (some (some 5, (⟨0, 0, [], [], []⟩ : System)))
  else ((forS (fun i103 => fun (z102 : (List Edge)) => (idx y104 (i103 : Int)).bind fun x104 =>
  (forS (fun i104 => fun (l104 : (List Edge)) => (idx x104 (i104 : Int)).bind fun x105 =>
  (idx y105 (i103 : Int)).bind fun x106 =>
  (forS (fun i105 => fun (l105 : (List Edge)) => (idx x106 (i105 : Int)).bind fun x107 =>
  (app 24 l105 [(⟨IntKind.i64.wrap ((IntKind.i64.wrap (x105.From * b148.States)) + x107.From), (i103 : Int), IntKind.i64.wrap ((IntKind.i64.wrap (x105.To * b148.States)) + x107.To)⟩ : Edge)]).bind fun l106 =>
  some l106) (x106.length) 0 l104).bind (fun (l105 : (List Edge)) => some l105)) (x104.length) 0 z102).bind (fun (l104 : (List Edge)) => some l104)) (y104.length) 0 []).bind (fun (z102 : (List Edge)) => (sortEdges_p z102).bind <| fun (l107 : (List Edge)) =>
  some (none, (⟨IntKind.i64.wrap (a141.States * b148.States), IntKind.i64.wrap ((IntKind.i64.wrap (a141.Init * b148.States)) + b148.Init), y103, l107, z101⟩ : System)))))))))
noncomputable def transys_goals_p (x100 : System) : Option ((List Int)) :=
  (forS (fun i100 => fun (out100 : (List Int)) => (idx x100.Goals (i100 : Int)).bind fun x101 =>
  (if x101 then ((app 8 out100 [(i100 : Int)]).bind fun l100 =>
  some l100)
  else (some out100)).bind (fun (l101 : (List Int)) => some l101)) (x100.Goals.length) 0 []).bind (fun (out100 : (List Int)) => some out100)
structure Arc where
  From : Int
  To : Int
  Weight : Int
def encArc : Enc Arc := Enc.iso ((encInt .i64).pair ((encInt .i64).pair (encInt .i64))) (fun b => (b.From, b.To, b.Weight))
theorem encArc_val {s : PHeap} {v : Value} {b : Arc} : encArc.val s v b ↔ v = .agg #[.int .i64 (b.From), .int .i64 (b.To), .int .i64 (b.Weight)] := by
  simp only [Enc.iso, Enc.pair, Enc.val, encArc, encInt, if_true, oneCell]
  constructor
  · rintro ⟨cs, rfl, h⟩
    obtain ⟨cs⟩ := cs
    simp only [] at h
    obtain ⟨_, _, rfl, rfl, ⟨_, _, rfl, rfl, rfl⟩⟩ := h
    rfl
  · rintro rfl
    exact ⟨_, rfl, ⟨[.int .i64 (b.From)], [.int .i64 (b.To), .int .i64 (b.Weight)], rfl, rfl, ⟨[.int .i64 (b.To)], [.int .i64 (b.Weight)], rfl, rfl, rfl⟩⟩⟩
noncomputable def transys_shortest_p (x100 : System) (from_100 : (List Int)) (back100 : Bool) : Option ((List Int)) :=
  (mk 24 ([] : (List Arc)) x100.States).bind fun l100 =>
  (forS (fun i100 => fun (l101 : (List (List Arc))) => (idx x100.Edges (i100 : Int)).bind fun x101 =>
  (idx x100.Costs x101.Label).bind fun x102 =>
  (if back100 then (some (x101.To, x101.From))
  else (some (x101.From, x101.To))).bind (un2 fun (z100 : Int) (z101 : Int) => (idx l101 z100).bind fun row100 =>
  (app 24 row100 [(⟨z100, z101, x102⟩ : Arc)]).bind fun l102 =>
  (setI l101 z100 l102).bind fun l103 =>
  some l103)) (x100.Edges.length) 0 l100).bind (fun (l101 : (List (List Arc))) => (mk 8 0 x100.States).bind fun l104 =>
  (forS (fun i101 => fun (l105 : (List Int)) => (idx l105 (i101 : Int)).bind fun x103 =>
  (setI l105 (i101 : Int) 1125899906842624).bind fun l106 =>
  some l106) (l104.length) 0 l104).bind (fun (l105 : (List Int)) => (mk 1 false x100.States).bind fun l107 =>
  (slices_Clone___int_int__p from_100).bind <| fun (y100 : (List Int)) =>
  (forS (fun i102 => un2 fun (l108 : (List Int)) (l109 : (List Bool)) => (idx from_100 (i102 : Int)).bind fun x104 =>
  (idx l108 x104).bind fun x105 =>
  (setI l108 x104 0).bind fun l110 =>
  (idx l109 x104).bind fun x106 =>
  (setI l109 x104 true).bind fun l111 =>
  some (l110, l111)) (from_100.length) 0 (l105, l107)).bind (un2 fun (l108 : (List Int)) (l109 : (List Bool)) => ctl (whileC (R := ((List Int))) (un3 fun (l112 : (List Int)) (l113 : (List Bool)) (l114 : (List Int)) => if decide (0 < (l114.length : Int)) then ((idx l114 0).bind fun x107 =>
  (cut l114 1 (l114.length : Int)).bind fun c100 =>
  (idx l113 x107).bind fun x108 =>
  (setI l113 x107 false).bind fun l115 =>
  (idx l101 x107).bind fun row101 =>
  (must (decide (row101.length ≤ 9223372036854775807))).bind fun u100 =>
  (forS (fun i103 => un3 fun (l116 : (List Int)) (l117 : (List Bool)) (l118 : (List Int)) => (idx row101 (i103 : Int)).bind fun x109 =>
  (idx l116 x107).bind fun x110 =>
  (idx l116 x109.To).bind fun x111 =>
  if decide (x111 ≤ (IntKind.i64.wrap (x110 + x109.Weight))) then (some (l116, l117, l118))
  else ((setI l116 x109.To (IntKind.i64.wrap (x110 + x109.Weight))).bind fun l119 =>
  (idx l117 x109.To).bind fun x112 =>
  (if !x112 then ((app 8 l118 [x109.To]).bind fun l120 =>
  (setI l117 x109.To true).bind fun l121 =>
  some (l121, l120))
  else (some (l117, l118))).bind (un2 fun (l122 : (List Bool)) (l123 : (List Int)) => some (l119, l122, l123)))) (row101.length) 0 (l112, l115, c100)).bind (un3 fun (l116 : (List Int)) (l117 : (List Bool)) (l118 : (List Int)) => some (Ctl.next (l116, l117, l118))))
  else (some (Ctl.brk (l112, l113, l114)))) (l108, l109, y100)) (fun r => some r) (un3 fun (l124 : (List Int)) (l125 : (List Bool)) (l126 : (List Int)) => some l124))))
noncomputable def transys_Distances_p (x100 : System) : Option ((List Int) × (Option Int)) :=
  (transys_Valid_p x100).bind <| fun (y100 : Bool) =>
  if !y100 then (some ([], some 2))
  else ((transys_goals_p x100).bind <| fun (y101 : (List Int)) =>
  (transys_shortest_p x100 y101 true).bind <| fun (y102 : (List Int)) =>
  some (y102, none))
noncomputable def base_Ints_p (a100 : (List Int)) (b100 : (List Int)) : Option (Bool) :=
  if !decide ((a100.length : Int) = (b100.length : Int)) then (some false)
  else (ctl (forC (R := (Bool)) (fun i100 => fun (_ : Unit) => (idx a100 (i100 : Int)).bind fun x100 =>
  (idx b100 (i100 : Int)).bind fun x101 =>
  if !decide (x100 = x101) then (some (Ctl.ret false))
  else (some (Ctl.next ()))) (a100.length) 0 ()) (fun r => some r) (fun (_ : Unit) => some true))
noncomputable def law44_awake_p  : Option (Bool) :=
  (transys_Product_p law44_example_t law44_example_t).bind <| un2 fun (y100 : (Option Int)) (y101 : System) =>
  if (y100.isSome || ((!decide (y101.States = 4)) || !decide ((y101.Edges.length : Int) = 2))) then (some false)
  else ((transys_Distances_p y101).bind <| un2 fun (y102 : (List Int)) (y103 : (Option Int)) =>
  (if y103.isNone then ((base_Ints_p y102 [2, 1125899906842624, 1125899906842624, 0]).bind <| fun (y104 : Bool) =>
  some y104)
  else (some false)).bind (fun (z100 : Bool) => some z100))
noncomputable def base_State_p (vars100 : (List Int)) (s_100 : (List Int)) : Option (Bool) :=
  if !decide ((s_100.length : Int) = (vars100.length : Int)) then (some false)
  else (ctl (forC (R := (Bool)) (fun i100 => fun (_ : Unit) => ((idx s_100 (i100 : Int)).bind fun x100 =>
  if decide (x100 < 0) then (some true)
  else ((idx vars100 (i100 : Int)).bind fun x101 =>
  some (decide (x101 ≤ x100)))).bind (fun (z100 : Bool) => if z100 then (some (Ctl.ret false))
  else (some (Ctl.next ())))) (s_100.length) 0 ()) (fun r => some r) (fun (_ : Unit) => some true))
noncomputable def base_Proper_p (vars100 : (List Int)) (f_100 : (List Fact)) : Option (Bool) :=
  ctl (forC (R := (Bool)) (fun i100 => fun (_ : Unit) => (idx f_100 (i100 : Int)).bind fun x100 =>
  (if decide (x100.Var < 0) then (some true)
  else (if decide ((vars100.length : Int) ≤ x100.Var) then (some true)
  else (if decide (x100.Val < 0) then (some true)
  else ((idx vars100 x100.Var).bind fun x101 =>
  if decide (x101 ≤ x100.Val) then (some true)
  else (if decide (0 < (i100 : Int)) then ((idx f_100 (IntKind.i64.wrap ((i100 : Int) - 1))).bind fun x102 =>
  some (decide (x100.Var ≤ x102.Var)))
  else (some false)))))).bind (fun (z100 : Bool) => if z100 then (some (Ctl.ret false))
  else (some (Ctl.next ())))) (f_100.length) 0 ()) (fun r => some r) (fun (_ : Unit) => some true)
noncomputable def base_operator_p (vars100 : (List Int)) (o100 : Op) : Option (Bool) :=
  (if decide (o100.Cost < 0) then (some true)
  else (if decide (1048576 < o100.Cost) then (some true)
  else (if decide (64 < (o100.Effs.length : Int)) then (some true)
  else (if decide (256 < (o100.Name.size : Int)) then (some true)
  else ((base_Proper_p vars100 o100.Pre).bind <| fun (y100 : Bool) =>
  some (!y100)))))).bind (fun (z100 : Bool) => if z100 then (some false)
  else ((must (decide ((o100.Name.size : Int) ≤ 9223372036854775807))).bind fun u100 =>
  ctl (forC (R := (Bool)) (fun i100 => fun (_ : Unit) => ((idx (bytesOf o100.Name) (i100 : Int)).bind fun x100 =>
  if decide (x100 < 32) then (some true)
  else (some (decide (126 < x100)))).bind (fun (z101 : Bool) => if z101 then (some (Ctl.ret false))
  else (some (Ctl.next ())))) ((o100.Name.size : Int).toNat) 0 ()) (fun r => some r) (fun (_ : Unit) => ctl (forC (R := (Bool)) (fun i101 => fun (_ : Unit) => (idx o100.Effs (i101 : Int)).bind fun x101 =>
  ((base_Proper_p vars100 x101.When).bind <| fun (y101 : Bool) =>
  if !y101 then (some true)
  else ((base_Proper_p vars100 [(⟨x101.Var, x101.Val⟩ : Fact)]).bind <| fun (y102 : Bool) =>
  some (!y102))).bind (fun (z102 : Bool) => if z102 then (some (Ctl.ret false))
  else (some (Ctl.next ())))) (o100.Effs.length) 0 ()) (fun r => some r) (fun (_ : Unit) => some true))))
noncomputable def base_Good_p (t100 : Task) : Option (Bool) :=
  if ((decide (64 < (t100.Vars.length : Int))) || decide (4096 < (t100.Ops.length : Int))) then (some false)
  else (ctl (forC (R := (Bool)) (fun i100 => fun (_ : Unit) => (idx t100.Vars (i100 : Int)).bind fun x100 =>
  if ((decide (x100 < 1)) || decide (64 < x100)) then (some (Ctl.ret false))
  else (some (Ctl.next ()))) (t100.Vars.length) 0 ()) (fun r => some r) (fun (_ : Unit) => ((base_State_p t100.Vars t100.Init).bind <| fun (y100 : Bool) =>
  if !y100 then (some true)
  else ((base_Proper_p t100.Vars t100.Goal).bind <| fun (y101 : Bool) =>
  some (!y101))).bind (fun (z100 : Bool) => if z100 then (some false)
  else (ctl (forC (R := (Bool)) (fun i101 => fun (_ : Unit) => (idx t100.Ops (i101 : Int)).bind fun x101 =>
  (base_operator_p t100.Vars x101).bind <| fun (y102 : Bool) =>
  if !y102 then (some (Ctl.ret false))
  else (some (Ctl.next ()))) (t100.Ops.length) 0 ()) (fun r => some r) (fun (_ : Unit) => some true)))))
noncomputable def base_Many_p (vars100 : (List Int)) (most100 : Int) : Option (Int) :=
  ctl (forC (R := (Int)) (fun i100 => fun (n100 : Int) => (idx vars100 (i100 : Int)).bind fun x100 =>
  if decide (most100 < (IntKind.i64.wrap (n100 * (min (max x100 0) (IntKind.i64.wrap (most100 + 1)))))) then (some (Ctl.ret (IntKind.i64.wrap (most100 + 1))))
  else (some (Ctl.next (IntKind.i64.wrap (n100 * (min (max x100 0) (IntKind.i64.wrap (most100 + 1)))))))) (vars100.length) 0 1) (fun r => some r) (fun (n101 : Int) => some n101)
noncomputable def base_Small_p (t100 : Task) : Option (Bool) :=
  if ((decide (12 < (t100.Vars.length : Int))) || decide (20 < (t100.Ops.length : Int))) then (some false)
  else (ctl (forC (R := (Bool)) (fun i100 => fun (_ : Unit) => (idx t100.Ops (i100 : Int)).bind fun x100 =>
  if decide (8 < (x100.Effs.length : Int)) then (some (Ctl.ret false))
  else (some (Ctl.next ()))) (t100.Ops.length) 0 ()) (fun r => some r) (fun (_ : Unit) => ((base_Good_p t100).bind <| fun (y100 : Bool) =>
  if y100 then ((base_Many_p t100.Vars 512).bind <| fun (y101 : Int) =>
  some (decide (y101 ≤ 512)))
  else (some false)).bind (fun (z100 : Bool) => some z100)))
noncomputable def task_conditions_p (t100 : Task) : Option ((List (List Fact))) :=
  (forS (fun i100 => fun (out100 : (List (List Fact))) => (idx t100.Ops (i100 : Int)).bind fun x100 =>
  (app 24 out100 [x100.Pre]).bind fun l100 =>
  (forS (fun i101 => fun (l101 : (List (List Fact))) => (idx x100.Effs (i101 : Int)).bind fun x101 =>
  (app 24 l101 [x101.When]).bind fun l102 =>
  some l102) (x100.Effs.length) 0 l100).bind (fun (l101 : (List (List Fact))) => some l101)) (t100.Ops.length) 0 [t100.Goal]).bind (fun (out100 : (List (List Fact))) => some out100)
noncomputable def task_large_c1_p (l100 : (List Fact)) : Option (Bool) :=
  some (decide (64 < (l100.length : Int)))
def task_large_c1_t (l100 : (List Fact)) : Bool :=
  (decide (64 < (l100.length : Int)))
theorem task_large_c1_tot (l100 : (List Fact)) : task_large_c1_p l100 = some (task_large_c1_t l100) := by
  unfold task_large_c1_p task_large_c1_t
  (repeat' split) <;> rfl
attribute [irreducible] task_large_c1_t
noncomputable def api_Fact__f99_110_p (s_100 : (List (List Fact))) : Option (Int) :=
  ctl (forC (R := (Int)) (fun i100 => fun (_ : Unit) => (idx s_100 (i100 : Int)).bind fun x100 =>
  if (task_large_c1_t x100) then (some (Ctl.ret (i100 : Int)))
  else (some (Ctl.next ()))) (s_100.length) 0 ()) (fun r => some r) (fun (_ : Unit) => some (-1))
noncomputable def api_Fact__f99_p (s_100 : (List (List Fact))) : Option (Bool) :=
  (api_Fact__f99_110_p s_100).bind <| fun (y100 : Int) =>
  some (decide (0 ≤ y100))
noncomputable def task_large_p (t100 : Task) : Option (Bool) :=
  if ((decide (64 < (t100.Vars.length : Int))) || decide (4096 < (t100.Ops.length : Int))) then (some true)
  else (ctl (forC (R := (Bool)) (fun i100 => fun (_ : Unit) => (idx t100.Ops (i100 : Int)).bind fun x100 =>
  if decide (64 < (x100.Effs.length : Int)) then (some (Ctl.ret true))
  else (some (Ctl.next ()))) (t100.Ops.length) 0 ()) (fun r => some r) (fun (_ : Unit) => (task_conditions_p t100).bind <| fun (y100 : (List (List Fact))) =>
  (api_Fact__f99_p y100).bind <| fun (y101 : Bool) =>
  some y101))
noncomputable def task_Proper_p (vars100 : (List Int)) (s_100 : (List Int)) : Option (Bool) :=
  if !decide ((s_100.length : Int) = (vars100.length : Int)) then (some false)
  else (ctl (forC (R := (Bool)) (fun i100 => fun (_ : Unit) => (idx s_100 (i100 : Int)).bind fun x100 =>
  (if decide (x100 < 0) then (some true)
  else ((idx vars100 (i100 : Int)).bind fun x101 =>
  some (decide (x101 ≤ x100)))).bind (fun (z100 : Bool) => if z100 then (some (Ctl.ret false))
  else (some (Ctl.next ())))) (s_100.length) 0 ()) (fun r => some r) (fun (_ : Unit) => some true))
noncomputable def task_Facts_p (vars100 : (List Int)) (f_100 : (List Fact)) : Option (Bool) :=
  ctl (forC (R := (Bool)) (fun i100 => fun (last100 : Int) => (idx f_100 (i100 : Int)).bind fun x100 =>
  (if decide (x100.Var ≤ last100) then (some true)
  else (if decide ((vars100.length : Int) ≤ x100.Var) then (some true)
  else (if decide (x100.Val < 0) then (some true)
  else ((idx vars100 x100.Var).bind fun x101 =>
  some (decide (x101 ≤ x100.Val)))))).bind (fun (z100 : Bool) => if z100 then (some (Ctl.ret false))
  else (some (Ctl.next x100.Var)))) (f_100.length) 0 (-1)) (fun r => some r) (fun (last101 : Int) => some true)
noncomputable def task_named_p (s_100 : ByteArray) : Option (Bool) :=
  (must (decide ((s_100.size : Int) ≤ 9223372036854775807))).bind fun u100 =>
  ctl (forC (R := (Bool)) (fun i100 => fun (_ : Unit) => ((idx (bytesOf s_100) (i100 : Int)).bind fun x100 =>
  if decide (x100 < 32) then (some true)
  else (some (decide (126 < x100)))).bind (fun (z100 : Bool) => if z100 then (some (Ctl.ret false))
  else (some (Ctl.next ())))) ((s_100.size : Int).toNat) 0 ()) (fun r => some r) (fun (_ : Unit) => some (decide ((s_100.size : Int) ≤ 256)))
noncomputable def task_Check_p (t100 : Task) : Option ((Option Int)) :=
  (task_large_p t100).bind <| fun (y100 : Bool) =>
  if y100 then (some (some 5))
  else (ctl (forC (R := ((Option Int))) (fun i100 => fun (_ : Unit) => (idx t100.Vars (i100 : Int)).bind fun x100 =>
  if ((decide (x100 < 1)) || decide (64 < x100)) then (some (Ctl.ret (some 1)))
  else (some (Ctl.next ()))) (t100.Vars.length) 0 ()) (fun r => some r) (fun (_ : Unit) => ctl (forC (R := ((Option Int))) (fun i101 => fun (_ : Unit) => (idx t100.Ops (i101 : Int)).bind fun x101 =>
  if ((decide (x101.Cost < 0)) || decide (1048576 < x101.Cost)) then (some (Ctl.ret (some 1)))
  else (some (Ctl.next ()))) (t100.Ops.length) 0 ()) (fun r => some r) (fun (_ : Unit) => (task_Proper_p t100.Vars t100.Init).bind <| fun (y101 : Bool) =>
  if !y101 then (some (some 2))
  else ((task_conditions_p t100).bind <| fun (y102 : (List (List Fact))) =>
  ctl (forC (R := ((Option Int))) (fun i102 => fun (_ : Unit) => (idx y102 (i102 : Int)).bind fun x102 =>
  (task_Facts_p t100.Vars x102).bind <| fun (y103 : Bool) =>
  if !y103 then (some (Ctl.ret (some 2)))
  else (some (Ctl.next ()))) (y102.length) 0 ()) (fun r => some r) (fun (_ : Unit) => ctl (forC (R := ((Option Int))) (fun i103 => fun (_ : Unit) => (idx t100.Ops (i103 : Int)).bind fun x103 =>
  ctl (forC (R := ((Option Int))) (fun i104 => fun (_ : Unit) => (idx x103.Effs (i104 : Int)).bind fun x104 =>
  (task_Facts_p t100.Vars [(⟨x104.Var, x104.Val⟩ : Fact)]).bind <| fun (y104 : Bool) =>
  if !y104 then (some (Ctl.ret (some 2)))
  else (some (Ctl.next ()))) (x103.Effs.length) 0 ()) (fun r => some (Ctl.ret r)) (fun (_ : Unit) => some (Ctl.next ()))) (t100.Ops.length) 0 ()) (fun r => some r) (fun (_ : Unit) => ctl (forC (R := ((Option Int))) (fun i105 => fun (_ : Unit) => (idx t100.Ops (i105 : Int)).bind fun x105 =>
  (task_named_p x105.Name).bind <| fun (y105 : Bool) =>
  if !y105 then (some (Ctl.ret (some 8)))
  else (some (Ctl.next ()))) (t100.Ops.length) 0 ()) (fun r => some r) (fun (_ : Unit) => some none)))))))
noncomputable def project_check_p (t100 : Task) (pattern100 : (List Int)) : Option ((Option Int)) :=
  (task_Check_p t100).bind <| fun (y100 : (Option Int)) =>
  if y100.isSome then (some y100)
  else (ctl (forC (R := ((Option Int))) (fun i100 => fun (_ : Unit) => (idx pattern100 (i100 : Int)).bind fun x100 =>
  (if decide (x100 < 0) then (some true)
  else (if decide ((t100.Vars.length : Int) ≤ x100) then (some true)
  else (if decide (0 < (i100 : Int)) then ((idx pattern100 (IntKind.i64.wrap ((i100 : Int) - 1))).bind fun x101 =>
  some (decide (x100 ≤ x101)))
  else (some false)))).bind (fun (z100 : Bool) => if z100 then (some (Ctl.ret (some 2)))
  else (some (Ctl.next ())))) (pattern100.length) 0 ()) (fun r => some r) (fun (_ : Unit) => some none))
noncomputable def project_count_p (t100 : Task) (vars100 : (List Int)) : Option (Int × Bool) :=
  ctl (forC (R := (Int × Bool)) (fun i100 => fun (n100 : Int) => (idx vars100 (i100 : Int)).bind fun x100 =>
  (idx t100.Vars x100).bind fun x101 =>
  if decide (4096 < (IntKind.i64.wrap (n100 * x101))) then (some (Ctl.ret (0, false)))
  else (some (Ctl.next (IntKind.i64.wrap (n100 * x101))))) (vars100.length) 0 1) (fun r => some r) (fun (n101 : Int) => some (n101, true))
noncomputable def project_number_p (t100 : Task) (vars100 : (List Int)) (s_100 : (List Int)) : Option (Int) :=
  (forS (fun i100 => fun (n100 : Int) => (idx vars100 (i100 : Int)).bind fun x100 =>
  (idx t100.Vars x100).bind fun x101 =>
  (idx s_100 x100).bind fun x102 =>
  some (IntKind.i64.wrap ((IntKind.i64.wrap (n100 * x101)) + x102))) (vars100.length) 0 0).bind (fun (n100 : Int) => some n100)
noncomputable def slices_Index___int_int__p (s_100 : (List Int)) (v100 : Int) : Option (Int) :=
  ctl (forC (R := (Int)) (fun i100 => fun (_ : Unit) => (idx s_100 (i100 : Int)).bind fun x100 =>
  if decide (v100 = x100) then (some (Ctl.ret (i100 : Int)))
  else (some (Ctl.next ()))) (s_100.length) 0 ()) (fun r => some r) (fun (_ : Unit) => some (-1))
noncomputable def slices_Contains___int_int__p (s_100 : (List Int)) (v100 : Int) : Option (Bool) :=
  (slices_Index___int_int__p s_100 v100).bind <| fun (y100 : Int) =>
  some (decide (0 ≤ y100))
noncomputable def project_has_c1_p (x100 : Fact) (c100 : Int) : Option (Bool) :=
  some (decide (x100.Var = c100))
def project_has_c1_t (x100 : Fact) (c100 : Int) : Bool :=
  (decide (x100.Var = c100))
theorem project_has_c1_tot (x100 : Fact) (c100 : Int) : project_has_c1_p x100 c100 = some (project_has_c1_t x100 c100) := by
  unfold project_has_c1_p project_has_c1_t
  (repeat' split) <;> rfl
attribute [irreducible] project_has_c1_t
noncomputable def api_Fact__f94_100_p (s_100 : (List Fact)) (c100 : Int) : Option (Int) :=
  ctl (forC (R := (Int)) (fun i100 => fun (_ : Unit) => (idx s_100 (i100 : Int)).bind fun x100 =>
  if (project_has_c1_t x100 c100) then (some (Ctl.ret (i100 : Int)))
  else (some (Ctl.next ()))) (s_100.length) 0 ()) (fun r => some r) (fun (_ : Unit) => some (-1))
noncomputable def api_Fact__f94_p (s_100 : (List Fact)) (c100 : Int) : Option (Bool) :=
  (api_Fact__f94_100_p s_100 c100).bind <| fun (y100 : Int) =>
  some (decide (0 ≤ y100))
noncomputable def project_has_p (f_100 : (List Fact)) (v100 : Int) : Option (Bool) :=
  (api_Fact__f94_p f_100 v100).bind <| fun (y100 : Bool) =>
  some y100
noncomputable def slices_Index___int_int__o_p (s_100 : (List Int)) (v100 : Int) : Option (Int) :=
  ctl (forC (R := (Int)) (fun i100 => fun (_ : Unit) => (idx s_100 (i100 : Int)).bind fun x100 =>
  if decide (v100 = x100) then (some (Ctl.ret (i100 : Int)))
  else (some (Ctl.next ()))) (s_100.length) 0 ()) (fun r => some r) (fun (_ : Unit) => some (-1))
noncomputable def slices_Contains___int_int__o_p (s_100 : (List Int)) (v100 : Int) : Option (Bool) :=
  (slices_Index___int_int__o_p s_100 v100).bind <| fun (y100 : Int) =>
  some (decide (0 ≤ y100))
noncomputable def sortInts_p (xs : List Int) : Option (List Int) := if xs.length < 4611686018427387904 then some (xs.mergeSort fun x y => decide (x ≤ y)) else none
noncomputable def project_outside_p (o100 : Op) (pattern100 : (List Int)) : Option ((List Int)) :=
  (forS (fun i100 => fun (out100 : (List Int)) => (idx o100.Effs (i100 : Int)).bind fun x100 =>
  (slices_Contains___int_int__p pattern100 x100.Var).bind <| fun (y100 : Bool) =>
  if !y100 then (some out100)
  else ((forS (fun i101 => fun (l100 : (List Int)) => (idx x100.When (i101 : Int)).bind fun x101 =>
  ((slices_Contains___int_int__p pattern100 x101.Var).bind <| fun (y101 : Bool) =>
  if !y101 then ((project_has_p o100.Pre x101.Var).bind <| fun (y102 : Bool) =>
  if !y102 then ((slices_Contains___int_int__o_p l100 x101.Var).bind <| fun (y103 : Bool) =>
  some (!y103))
  else (some false))
  else (some false)).bind (fun (z100 : Bool) => (if z100 then ((app 8 l100 [x101.Var]).bind fun l101 =>
  some l101)
  else (some l100)).bind (fun (l102 : (List Int)) => some l102))) (x100.When.length) 0 out100).bind (fun (l100 : (List Int)) => some l100))) (o100.Effs.length) 0 []).bind (fun (out100 : (List Int)) => (sortInts_p out100).bind <| fun (l103 : (List Int)) =>
  some l103)
noncomputable def put_p (t : Task) (vars s : List Int) (n : Int) : Option (List Int) := (must (decide (vars.length ≤ 17592186044415))).bind fun _ => (forS (fun i => un2 fun (s : List Int) (n : Int) => (idx vars ((vars.length - 1 - i : Nat) : Int)).bind fun v => (idx t.Vars v).bind fun d => (must (!decide (d = 0))).bind fun _ => (setI s v (n.tmod d)).bind fun s' => some (s', IntKind.i64.wrap (n.tdiv d))) vars.length 0 (s, n)).bind (un2 fun (s : List Int) (_ : Int) => some s)
noncomputable def slices_Clone___int_int__o_p (s_100 : (List Int)) : Option ((List Int)) :=
  (app 8 [] s_100).bind fun l100 =>
  some l100
noncomputable def task_Holds_o_p (f_100 : (List Fact)) (s_100 : (List Int)) : Option (Bool) :=
  ctl (forC (R := (Bool)) (fun i100 => fun (_ : Unit) => (idx f_100 (i100 : Int)).bind fun x100 =>
  (if decide (x100.Var < 0) then (some true)
  else (if decide ((s_100.length : Int) ≤ x100.Var) then (some true)
  else ((idx s_100 x100.Var).bind fun x101 =>
  some (!decide (x101 = x100.Val))))).bind (fun (z100 : Bool) => if z100 then (some (Ctl.ret false))
  else (some (Ctl.next ())))) (f_100.length) 0 ()) (fun r => some r) (fun (_ : Unit) => some true)
noncomputable def project_number_o_p (t100 : Task) (vars100 : (List Int)) (s_100 : (List Int)) : Option (Int) :=
  (forS (fun i100 => fun (n100 : Int) => (idx vars100 (i100 : Int)).bind fun x100 =>
  (idx t100.Vars x100).bind fun x101 =>
  (idx s_100 x100).bind fun x102 =>
  some (IntKind.i64.wrap ((IntKind.i64.wrap (n100 * x101)) + x102))) (vars100.length) 0 0).bind (fun (n100 : Int) => some n100)
noncomputable def slices_Compact___int_int__o_p (s_100 : (List Int)) : Option (Nat × (List Int)) :=
  if decide ((s_100.length : Int) < 2) then (some ((s_100).length, s_100))
  else (ctl (whileC (R := (Nat × (List Int))) (fun (k100 : Int) => if decide (k100 < (s_100.length : Int)) then ((idx s_100 k100).bind fun x100 =>
  (idx s_100 (IntKind.i64.wrap (k100 - 1))).bind fun x101 =>
  if decide (x100 = x101) then ((view s_100 k100 (s_100.length : Int)).bind fun n100 =>
  ctl (whileC (R := (Nat × (List Int))) (un3 fun (k101 : Int) (k102 : Int) (l100 : (List Int)) => if decide (k102 < (n100 : Int)) then ((idxV l100 k100 n100 k102).bind fun x102 =>
  (idxV l100 k100 n100 (IntKind.i64.wrap (k102 - 1))).bind fun x103 =>
  (if !decide (x102 = x103) then ((idxV l100 k100 n100 k102).bind fun x104 =>
  (idx l100 k101).bind fun x105 =>
  (setI l100 k101 x104).bind fun l101 =>
  some (IntKind.i64.wrap (k101 + 1), l101))
  else (some (k101, l100))).bind (un2 fun (k103 : Int) (l102 : (List Int)) => some (Ctl.next (k103, IntKind.i64.wrap (k102 + 1), l102))))
  else (some (Ctl.brk (k101, k102, l100)))) (k100, 1, s_100)) (fun r => some (Ctl.ret r)) (un3 fun (k104 : Int) (k105 : Int) (l103 : (List Int)) => (view l103 k104 (l103.length : Int)).bind fun n101 =>
  (view ((l103).take (k104).toNat ++ List.replicate n101 0 ++ (l103).drop ((k104).toNat + n101)) 0 k104).bind fun n102 =>
  some (Ctl.ret (n102, (l103).take (k104).toNat ++ List.replicate n101 0 ++ (l103).drop ((k104).toNat + n101)))))
  else (some (Ctl.next (IntKind.i64.wrap (k100 + 1)))))
  else (some (Ctl.brk k100))) 1) (fun r => some r) (fun (k106 : Int) => some ((s_100).length, s_100)))
noncomputable def project_targets_p (t100 : Task) (op100 : Int) (pattern100 : (List Int)) (free100 : (List Int)) (from_100 : Int) : Option ((List Int)) :=
  (idx t100.Ops op100).bind fun x100 =>
  (mk 8 0 (t100.Vars.length : Int)).bind fun l100 =>
  (put_p t100 pattern100 l100 from_100).bind <| fun (l101 : (List Int)) =>
  ctl (forC (R := ((List Int))) (fun i100 => fun (l102 : (List Int)) => (idx x100.Pre (i100 : Int)).bind fun x101 =>
  (slices_Contains___int_int__p pattern100 x101.Var).bind <| fun (y100 : Bool) =>
  if y100 then ((idx l102 x101.Var).bind fun x102 =>
  if !decide (x102 = x101.Val) then (some (Ctl.ret []))
  else (some (Ctl.next l102)))
  else ((idx l102 x101.Var).bind fun x103 =>
  (setI l102 x101.Var x101.Val).bind fun l103 =>
  some (Ctl.next l103))) (x100.Pre.length) 0 l101) (fun r => some r) (fun (l104 : (List Int)) => (project_count_p t100 free100).bind <| un2 fun (y101 : Int) (y102 : Bool) =>
  (must (decide (y101 ≤ 9223372036854775807))).bind fun u100 =>
  (forS (fun i101 => un2 fun (out100 : (List Int)) (l105 : (List Int)) => (put_p t100 free100 l105 (i101 : Int)).bind <| fun (l106 : (List Int)) =>
  (slices_Clone___int_int__o_p l106).bind <| fun (y103 : (List Int)) =>
  (forS (fun i102 => fun (l107 : (List Int)) => (idx x100.Effs (i102 : Int)).bind fun x104 =>
  ((slices_Contains___int_int__p pattern100 x104.Var).bind <| fun (y104 : Bool) =>
  if y104 then ((task_Holds_o_p x104.When l106).bind <| fun (y105 : Bool) =>
  some y105)
  else (some false)).bind (fun (z100 : Bool) => (if z100 then ((idx l107 x104.Var).bind fun x105 =>
  (setI l107 x104.Var x104.Val).bind fun l108 =>
  some l108)
  else (some l107)).bind (fun (l109 : (List Int)) => some l109))) (x100.Effs.length) 0 y103).bind (fun (l107 : (List Int)) => (project_number_o_p t100 pattern100 l107).bind <| fun (y106 : Int) =>
  (app 8 out100 [y106]).bind fun l110 =>
  some (l110, l106))) (y101.toNat) 0 ([], l104)).bind (un2 fun (out100 : (List Int)) (l105 : (List Int)) => (sortInts_p out100).bind <| fun (l111 : (List Int)) =>
  (slices_Compact___int_int__o_p l111).bind <| un2 fun (y107 : Nat) (l112 : (List Int)) =>
  (must (decide (y107 ≤ l112.length))).bind fun u101 =>
  some ((l112).take y107)))
noncomputable def project_Project_p (t100 : Task) (pattern100 : (List Int)) : Option ((Option Int) × System) :=
  (project_check_p t100 pattern100).bind <| fun (y100 : (Option Int)) =>
  if y100.isSome then (some (y100, (⟨0, 0, [], [], []⟩ : System)))
  else ((project_count_p t100 pattern100).bind <| un2 fun (y101 : Int) (y102 : Bool) =>
  if !y102 then (some (some 5, (⟨0, 0, [], [], []⟩ : System)))
  else ((project_number_p t100 pattern100 t100.Init).bind <| fun (y103 : Int) =>
  (mk 24 [] (t100.Ops.length : Int)).bind fun l100 =>
  ctl (forC (R := ((Option Int) × System)) (fun i100 => un2 fun (z100 : (List Int)) (l101 : (List (List Int))) => (idx t100.Ops (i100 : Int)).bind fun x100 =>
  (app 8 z100 [x100.Cost]).bind fun l102 =>
  (project_outside_p x100 pattern100).bind <| fun (y104 : (List Int)) =>
  (idx l101 (i100 : Int)).bind fun x101 =>
  (setI l101 (i100 : Int) y104).bind fun l103 =>
  (idx l103 (i100 : Int)).bind fun x102 =>
  (project_count_p t100 x102).bind <| un2 fun (y105 : Int) (y106 : Bool) =>
  if !y106 then (some (Ctl.ret (some 5, (⟨0, 0, [], [], []⟩ : System))))
  else (some (Ctl.next (l102, l103)))) (t100.Ops.length) 0 ([], l100)) (fun r => some r) (un2 fun (z101 : (List Int)) (l104 : (List (List Int))) => (mk 8 0 (t100.Vars.length : Int)).bind fun l105 =>
  (must (decide (y101 ≤ 9223372036854775807))).bind fun u100 =>
  ctl (forC (R := ((Option Int) × System)) (fun i101 => un3 fun (z102 : (List Edge)) (z103 : (List Bool)) (l106 : (List Int)) => (put_p t100 pattern100 l106 (i101 : Int)).bind <| fun (l107 : (List Int)) =>
  (forS (fun i102 => fun (goal100 : Bool) => (idx t100.Goal (i102 : Int)).bind fun x103 =>
  (if goal100 then ((slices_Contains___int_int__p pattern100 x103.Var).bind <| fun (y107 : Bool) =>
  if !y107 then (some true)
  else ((idx l107 x103.Var).bind fun x104 =>
  some (decide (x104 = x103.Val))))
  else (some false)).bind (fun (goal101 : Bool) => some goal101)) (t100.Goal.length) 0 true).bind (fun (goal100 : Bool) => (app 1 z103 [goal100]).bind fun l108 =>
  ctl (forC (R := ((Option Int) × System)) (fun i103 => fun (l109 : (List Edge)) => (idx l104 (i103 : Int)).bind fun x105 =>
  (project_targets_p t100 (i103 : Int) pattern100 x105 (i101 : Int)).bind <| fun (y108 : (List Int)) =>
  ctl (forC (R := ((Option Int) × System)) (fun i104 => fun (l110 : (List Edge)) => (idx y108 (i104 : Int)).bind fun x106 =>
  if decide ((l110.length : Int) = 65536) then (some (Ctl.ret (some 5, (⟨0, 0, [], [], []⟩ : System))))
  else ((app 24 l110 [(⟨(i101 : Int), (i103 : Int), x106⟩ : Edge)]).bind fun l111 =>
  some (Ctl.next l111))) (y108.length) 0 l109) (fun r => some (Ctl.ret r)) (fun (l112 : (List Edge)) => some (Ctl.next l112))) (t100.Ops.length) 0 z102) (fun r => some (Ctl.ret r)) (fun (l113 : (List Edge)) => some (Ctl.next (l113, l108, l107))))) (y101.toNat) 0 ([], [], l105)) (fun r => some r) (un3 fun (z104 : (List Edge)) (z105 : (List Bool)) (l114 : (List Int)) => some (none, (⟨y101, y103, z101, z104, z105⟩ : System))))))
noncomputable def transys_Atomic_p (t100 : Task) (v100 : Int) : Option ((Option Int) × System) :=
  (project_Project_p t100 [v100]).bind <| un2 fun (y100 : (Option Int)) (y101 : System) =>
  some (y100, y101)
noncomputable def base_States_p (vars100 : (List Int)) : Option ((List (List Int))) :=
  (forS (fun i100 => fun (out100 : (List (List Int))) => (idx vars100 (i100 : Int)).bind fun x100 =>
  (forS (fun i101 => fun (next100 : (List (List Int))) => (idx out100 (i101 : Int)).bind fun x101 =>
  (must (decide (x100 ≤ 9223372036854775807))).bind fun u100 =>
  (forS (fun i102 => fun (l100 : (List (List Int))) => (app 8 [] x101).bind fun l101 =>
  (app 8 l101 [(i102 : Int)]).bind fun l102 =>
  (app 24 l100 [l102]).bind fun l103 =>
  some l103) (x100.toNat) 0 next100).bind (fun (l100 : (List (List Int))) => some l100)) (out100.length) 0 []).bind (fun (next100 : (List (List Int))) => some next100)) (vars100.length) 0 ([[]])).bind (fun (out100 : (List (List Int))) => some out100)
noncomputable def base_Holds_p (f_100 : (List Fact)) (s_100 : (List Int)) : Option (Bool) :=
  ctl (forC (R := (Bool)) (fun i100 => fun (_ : Unit) => (idx f_100 (i100 : Int)).bind fun x100 =>
  (if decide (x100.Var < 0) then (some true)
  else (if decide ((s_100.length : Int) ≤ x100.Var) then (some true)
  else ((idx s_100 x100.Var).bind fun x101 =>
  some (!decide (x101 = x100.Val))))).bind (fun (z100 : Bool) => if z100 then (some (Ctl.ret false))
  else (some (Ctl.next ())))) (f_100.length) 0 ()) (fun r => some r) (fun (_ : Unit) => some true)
noncomputable def base_Apply_p (t100 : Task) (s_100 : (List Int)) (op100 : Int) : Option ((List Int) × Bool) :=
  (if decide (op100 < 0) then (some true)
  else (if decide ((t100.Ops.length : Int) ≤ op100) then (some true)
  else ((idx t100.Ops op100).bind fun x100 =>
  (base_Holds_p x100.Pre s_100).bind <| fun (y100 : Bool) =>
  some (!y100)))).bind (fun (z100 : Bool) => if z100 then (some ([], false))
  else ((app 8 [] s_100).bind fun l100 =>
  (idx t100.Ops op100).bind fun x101 =>
  (forS (fun i100 => fun (l101 : (List Int)) => (idx x101.Effs (i100 : Int)).bind fun x102 =>
  (base_Holds_p x102.When s_100).bind <| fun (y101 : Bool) =>
  (if y101 then ((idx l101 x102.Var).bind fun x103 =>
  (setI l101 x102.Var x102.Val).bind fun l102 =>
  some l102)
  else (some l101)).bind (fun (l103 : (List Int)) => some l103)) (x101.Effs.length) 0 l100).bind (fun (l101 : (List Int)) => some (l101, true))))
noncomputable def base_Rank_p (vars100 : (List Int)) (s_100 : (List Int)) : Option (Int) :=
  (forS (fun i100 => fun (n100 : Int) => (idx vars100 (i100 : Int)).bind fun x100 =>
  (idx s_100 (i100 : Int)).bind fun x101 =>
  some (IntKind.i64.wrap ((IntKind.i64.wrap (n100 * x100)) + x101))) (s_100.length) 0 0).bind (fun (n100 : Int) => some n100)
structure base_Edge where
  From : Int
  Op : Int
  To : Int
def encbase_Edge : Enc base_Edge := Enc.iso ((encInt .i64).pair ((encInt .i64).pair (encInt .i64))) (fun b => (b.From, b.Op, b.To))
theorem encbase_Edge_val {s : PHeap} {v : Value} {b : base_Edge} : encbase_Edge.val s v b ↔ v = .agg #[.int .i64 (b.From), .int .i64 (b.Op), .int .i64 (b.To)] := by
  simp only [Enc.iso, Enc.pair, Enc.val, encInt, encbase_Edge, if_true, oneCell]
  constructor
  · rintro ⟨cs, rfl, h⟩
    obtain ⟨cs⟩ := cs
    simp only [] at h
    obtain ⟨_, _, rfl, rfl, ⟨_, _, rfl, rfl, rfl⟩⟩ := h
    rfl
  · rintro rfl
    exact ⟨_, rfl, ⟨[.int .i64 (b.From)], [.int .i64 (b.Op), .int .i64 (b.To)], rfl, rfl, ⟨[.int .i64 (b.Op)], [.int .i64 (b.To)], rfl, rfl, rfl⟩⟩⟩
noncomputable def base_Edges_p (t100 : Task) : Option ((List base_Edge)) :=
  (base_States_p t100.Vars).bind <| fun (y100 : (List (List Int))) =>
  (forS (fun i100 => fun (out100 : (List base_Edge)) => (idx y100 (i100 : Int)).bind fun x100 =>
  (forS (fun i101 => fun (l100 : (List base_Edge)) => (base_Apply_p t100 x100 (i101 : Int)).bind <| un2 fun (y101 : (List Int)) (y102 : Bool) =>
  (if y102 then ((base_Rank_p t100.Vars y101).bind <| fun (y103 : Int) =>
  (app 24 l100 [(⟨(i100 : Int), (i101 : Int), y103⟩ : base_Edge)]).bind fun l101 =>
  some l101)
  else (some l100)).bind (fun (l102 : (List base_Edge)) => some l102)) (t100.Ops.length) 0 out100).bind (fun (l100 : (List base_Edge)) => some l100)) (y100.length) 0 []).bind (fun (out100 : (List base_Edge)) => some out100)
noncomputable def base_Distances_nil_p (t100 : Task) : Option ((List Int)) :=
  (base_States_p t100.Vars).bind <| fun (y100 : (List (List Int))) =>
  (mk 8 0 (y100.length : Int)).bind fun l100 =>
  (forS (fun i100 => fun (l101 : (List Int)) => (idx y100 (i100 : Int)).bind fun x100 =>
  (idx l101 (i100 : Int)).bind fun x101 =>
  (setI l101 (i100 : Int) 1125899906842624).bind fun l102 =>
  (base_Holds_p t100.Goal x100).bind <| fun (y101 : Bool) =>
  (if y101 then ((idx l102 (i100 : Int)).bind fun x102 =>
  (setI l102 (i100 : Int) 0).bind fun l103 =>
  some l103)
  else (some l102)).bind (fun (l104 : (List Int)) => some l104)) (y100.length) 0 l100).bind (fun (l101 : (List Int)) => (base_Edges_p t100).bind <| fun (y102 : (List base_Edge)) =>
  ctl (whileC (R := ((List Int))) (un2 fun (changed100 : Bool) (l105 : (List Int)) => if changed100 then ((forS (fun i101 => un2 fun (changed101 : Bool) (l106 : (List Int)) => (idx y102 (i101 : Int)).bind fun x103 =>
  (idx t100.Ops x103.Op).bind fun x104 =>
  ((idx l106 x103.To).bind fun x105 =>
  if decide (x105 < 1125899906842624) then ((idx l106 x103.From).bind fun x106 =>
  some (decide ((IntKind.i64.wrap (x105 + x104.Cost)) < x106)))
  else (some false)).bind (fun (z100 : Bool) => (if z100 then ((idx l106 x103.To).bind fun x107 =>
  (idx l106 x103.From).bind fun x108 =>
  (setI l106 x103.From (IntKind.i64.wrap (x107 + x104.Cost))).bind fun l107 =>
  some (true, l107))
  else (some (changed101, l106))).bind (un2 fun (changed102 : Bool) (l108 : (List Int)) => some (changed102, l108)))) (y102.length) 0 (false, l105)).bind (un2 fun (changed101 : Bool) (l106 : (List Int)) => some (Ctl.next (changed101, l106))))
  else (some (Ctl.brk (changed100, l105)))) (true, l101)) (fun r => some r) (un2 fun (changed103 : Bool) (l109 : (List Int)) => some l109))
noncomputable def law44_Own_p (t100 : Task) : Option (Bool) :=
  ctl (forC (R := (Bool)) (fun i100 => fun (_ : Unit) => (idx t100.Ops (i100 : Int)).bind fun x100 =>
  ctl (forC (R := (Bool)) (fun i101 => fun (_ : Unit) => (idx x100.Effs (i101 : Int)).bind fun x101 =>
  ctl (forC (R := (Bool)) (fun i102 => fun (_ : Unit) => (idx x101.When (i102 : Int)).bind fun x102 =>
  if !decide (x102.Var = x101.Var) then (some (Ctl.ret false))
  else (some (Ctl.next ()))) (x101.When.length) 0 ()) (fun r => some (Ctl.ret r)) (fun (_ : Unit) => some (Ctl.next ()))) (x100.Effs.length) 0 ()) (fun r => some (Ctl.ret r)) (fun (_ : Unit) => some (Ctl.next ()))) (t100.Ops.length) 0 ()) (fun r => some r) (fun (_ : Unit) => some true)
noncomputable def law44_TransysWhole_p (t1 : Task) : Option (Bool) :=
  ((law44_awake_p).bind <| fun (y100 : Bool) =>
  if !y100 then (some true)
  else ((base_Small_p t1).bind <| fun (y101 : Bool) =>
  if !y101 then (some true)
  else (if decide ((t1.Vars.length : Int) = 0) then (some true)
  else ((base_Many_p t1.Vars 100).bind <| fun (y102 : Int) =>
  if decide (100 < y102) then (some true)
  else (some (decide (8 < (t1.Ops.length : Int)))))))).bind (fun (z100 : Bool) => if z100 then ((law44_awake_p).bind <| fun (y103 : Bool) =>
  some y103)
  else ((transys_Atomic_p t1 0).bind <| un2 fun (y104 : (Option Int)) (y105 : System) =>
  ctl (whileC (R := (Bool)) (un7 fun (e100 : (Option Int)) (v100 : Int) (z101 : Int) (z102 : Int) (z103 : (List Int)) (z104 : (List Edge)) (z105 : (List Bool)) => if ((decide (v100 < (t1.Vars.length : Int))) && e100.isNone) then ((transys_Atomic_p t1 v100).bind <| un2 fun (y106 : (Option Int)) (y107 : System) =>
  (if y106.isNone then ((transys_Product_p (⟨z101, z102, z103, z104, z105⟩ : System) y107).bind <| un2 fun (y108 : (Option Int)) (y109 : System) =>
  some (y108, y109.States, y109.Init, y109.Costs, y109.Edges, y109.Goals))
  else (some (y106, z101, z102, z103, z104, z105))).bind (un6 fun (e101 : (Option Int)) (z106 : Int) (z107 : Int) (z108 : (List Int)) (z109 : (List Edge)) (z110 : (List Bool)) => some (Ctl.next (e101, IntKind.i64.wrap (v100 + 1), z106, z107, z108, z109, z110))))
  else (some (Ctl.brk (e100, v100, z101, z102, z103, z104, z105)))) (y104, 1, y105.States, y105.Init, y105.Costs, y105.Edges, y105.Goals)) (fun r => some r) (un7 fun (e102 : (Option Int)) (v101 : Int) (z111 : Int) (z112 : Int) (z113 : (List Int)) (z114 : (List Edge)) (z115 : (List Bool)) => if e102.isSome then (some false)
  else ((transys_Distances_p (⟨z111, z112, z113, z114, z115⟩ : System)).bind <| un2 fun (y110 : (List Int)) (y111 : (Option Int)) =>
  (base_Distances_nil_p t1).bind <| fun (y112 : (List Int)) =>
  if (y111.isSome || !decide ((y110.length : Int) = (y112.length : Int))) then (some false)
  else (ctl (forC (R := (Bool)) (fun i100 => fun (_ : Unit) => ((idx y110 (i100 : Int)).bind fun x100 =>
  (idx y112 (i100 : Int)).bind fun x101 =>
  if decide (x101 < x100) then (some true)
  else ((law44_Own_p t1).bind <| fun (y113 : Bool) =>
  if y113 then (some (!decide (x100 = x101)))
  else (some false))).bind (fun (z116 : Bool) => if z116 then (some (Ctl.ret false))
  else (some (Ctl.next ())))) (y110.length) 0 ()) (fun r => some r) (fun (_ : Unit) => some true))))))
end Go.Pw
