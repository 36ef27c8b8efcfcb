/-
  What the functions compute, in plain Lean (printed by my generator).
-/
import Derived.Test.YtdhfofhginfdnaaL6
import Derived.Test.YtdhfofhginfdnaaL11
set_option maxRecDepth 100000
set_option maxHeartbeats 4000000
set_option linter.unusedVariables false
namespace Go.Pw
structure Edge where
  From : Int
  Label : Int
  To : Int
def encEdge : Enc Edge := Enc.iso ((encInt .i64).pair ((encInt .i64).pair (encInt .i64))) (fun b => (b.From, b.Label, b.To))
theorem encEdge_val {s : PHeap} {v : Value} {b : Edge} : encEdge.val s v b ↔ v = .agg #[.int .i64 (b.From), .int .i64 (b.Label), .int .i64 (b.To)] := by
  simp only [Enc.iso, Enc.pair, Enc.val, encEdge, encInt, if_true, oneCell]
  constructor
  · rintro ⟨cs, rfl, h⟩
    obtain ⟨cs⟩ := cs
    simp only [] at h
    obtain ⟨_, _, rfl, rfl, ⟨_, _, rfl, rfl, rfl⟩⟩ := h
    rfl
  · rintro rfl
    exact ⟨_, rfl, ⟨[.int .i64 (b.From)], [.int .i64 (b.Label), .int .i64 (b.To)], rfl, rfl, ⟨[.int .i64 (b.Label)], [.int .i64 (b.To)], rfl, rfl, rfl⟩⟩⟩

structure System where
  States : Int
  Init : Int
  Costs : (List Int)
  Edges : (List Edge)
  Goals : (List Bool)
def encSystem : Enc System := Enc.iso ((encInt .i64).pair ((encInt .i64).pair ((encSlice (encInt .i64)).pair ((encSlice encEdge).pair (encSlice encBool))))) (fun b => (b.States, b.Init, b.Costs, b.Edges, b.Goals))
theorem encSystem_val {s : PHeap} {v : Value} {b : System} : encSystem.val s v b ↔ ∃ u1, ∃ u2, ∃ u3, v = .agg #[.int .i64 (b.States), .int .i64 (b.Init), u1, u2, u3] ∧ SliceRep (encInt .i64) s u1 (b.Costs) ∧ SliceRep encEdge s u2 (b.Edges) ∧ SliceRep encBool s u3 (b.Goals) := by
  simp only [Enc.iso, Enc.pair, Enc.val, encInt, encSlice, encSystem, if_true, oneCell]
  constructor
  · rintro ⟨cs, rfl, h⟩
    obtain ⟨cs⟩ := cs
    simp only [] at h
    obtain ⟨_, _, rfl, rfl, ⟨_, _, rfl, rfl, ⟨_, _, rfl, ⟨w1, rfl, h1⟩, ⟨_, _, rfl, ⟨w2, rfl, h2⟩, ⟨w3, rfl, h3⟩⟩⟩⟩⟩ := h
    exact ⟨w1, w2, w3, rfl, h1, h2, h3⟩
  · rintro ⟨w1, w2, w3, rfl, h1, h2, h3⟩
    exact ⟨_, rfl, ⟨[.int .i64 (b.States)], [.int .i64 (b.Init), w1, w2, w3], rfl, rfl, ⟨[.int .i64 (b.Init)], [w1, w2, w3], rfl, rfl, ⟨[w1], [w2, w3], rfl, ⟨w1, rfl, h1⟩, ⟨[w2], [w3], rfl, ⟨w2, rfl, h2⟩, ⟨w3, rfl, h3⟩⟩⟩⟩⟩⟩

noncomputable def law44_example_p  : Option (System) :=
  some (⟨2, 0, [2, 0], [(⟨0, 0, 1⟩ : Edge), (⟨1, 1, 1⟩ : Edge)], [false, true]⟩ : System)
def law44_example_t  : System :=
  (⟨2, 0, [2, 0], [(⟨0, 0, 1⟩ : Edge), (⟨1, 1, 1⟩ : Edge)], [false, true]⟩ : System)
theorem law44_example_tot  : law44_example_p  = some (law44_example_t ) := by
  unfold law44_example_p law44_example_t
  (repeat' split) <;> rfl
attribute [irreducible] law44_example_t

noncomputable def cmp_isNaN_int__p (x415 : Int) : Option (Bool) :=
  some (!decide (x415 = x415))
def cmp_isNaN_int__t (x415 : Int) : Bool :=
  (!decide (x415 = x415))
theorem cmp_isNaN_int__tot (x415 : Int) : cmp_isNaN_int__p x415 = some (cmp_isNaN_int__t x415) := by
  unfold cmp_isNaN_int__p cmp_isNaN_int__t
  (repeat' split) <;> rfl
attribute [irreducible] cmp_isNaN_int__t

noncomputable def cmp_Compare_int__p (x413 : Int) (y414 : Int) : Option (Int) :=
  if (cmp_isNaN_int__t x413) then (if (cmp_isNaN_int__t y414) then (some 0)
  else (some (-1)))
  else (if (cmp_isNaN_int__t y414) then (some 1)
  else (if decide (x413 < y414) then (some (-1))
  else (if decide (y414 < x413) then (some 1)
  else (some 0))))
def cmp_Compare_int__t (x413 : Int) (y414 : Int) : Int :=
  if (cmp_isNaN_int__t x413) then (if (cmp_isNaN_int__t y414) then (0)
  else ((-1)))
  else (if (cmp_isNaN_int__t y414) then (1)
  else (if decide (x413 < y414) then ((-1))
  else (if decide (y414 < x413) then (1)
  else (0))))
theorem cmp_Compare_int__tot (x413 : Int) (y414 : Int) : cmp_Compare_int__p x413 y414 = some (cmp_Compare_int__t x413 y414) := by
  unfold cmp_Compare_int__p cmp_Compare_int__t
  (repeat' split) <;> rfl
attribute [irreducible] cmp_Compare_int__t

noncomputable def cmp_Or_int__p (vals498 : (List Int)) : Option (Int) :=
  ctl (forC (R := (Int)) (fun i599 => fun (_ : Unit) => (idx vals498 (i599 : Int)).bind fun x662 =>
  if !decide (x662 = 0) then (some (Ctl.ret x662))
  else (some (Ctl.next ()))) (vals498.length) 0 ()) (fun r => some r) (fun (_ : Unit) => some 0)

noncomputable def transys_compare_p (a398 : Edge) (b399 : Edge) : Option (Int) :=
  (cmp_Or_int__p [(cmp_Compare_int__t a398.From b399.From), (cmp_Compare_int__t a398.Label b399.Label), (cmp_Compare_int__t a398.To b399.To)]).bind <| fun (y912 : Int) =>
  some y912

noncomputable def transys_Valid_p (x184 : System) : Option (Bool) :=
  if ((decide (x184.States < 1)) || ((decide (4096 < x184.States)) || ((decide (x184.Init < 0)) || ((decide (x184.States ≤ x184.Init)) || ((!decide ((x184.Goals.length : Int) = x184.States)) || ((decide (4096 < (x184.Costs.length : Int))) || decide (65536 < (x184.Edges.length : Int)))))))) then (some false)
  else (ctl (forC (R := (Bool)) (fun i1404 => fun (_ : Unit) => (idx x184.Costs (i1404 : Int)).bind fun x1495 =>
  if ((decide (x1495 < 0)) || decide (1048576 < x1495)) then (some (Ctl.ret false))
  else (some (Ctl.next ()))) (x184.Costs.length) 0 ()) (fun r => some r) (fun (_ : Unit) => ctl (forC (R := (Bool)) (fun i1545 => fun (_ : Unit) => (idx x184.Edges (i1545 : Int)).bind fun x1877 =>
  (if decide (x1877.From < 0) then (some true)
  else (if decide (x184.States ≤ x1877.From) then (some true)
  else (if decide (x1877.To < 0) then (some true)
  else (if decide (x184.States ≤ x1877.To) then (some true)
  else (if decide (x1877.Label < 0) then (some true)
  else (if decide ((x184.Costs.length : Int) ≤ x1877.Label) then (some true)
  else (if decide (0 < (i1545 : Int)) then ((idx x184.Edges (IntKind.i64.wrap ((i1545 : Int) - 1))).bind fun x1981 =>
  (transys_compare_p x1981 x1877).bind <| fun (y1991 : Int) =>
  some (decide (0 ≤ y1991)))
  else (some false)))))))).bind (fun (z1935 : Bool) => if z1935 then (some (Ctl.ret false))
  else (some (Ctl.next ())))) (x184.Edges.length) 0 ()) (fun r => some r) (fun (_ : Unit) => some true)))

noncomputable def slices_Equal___int_int__p (s12059 : (List Int)) (s22062 : (List Int)) : Option (Bool) :=
  if !decide ((s12059.length : Int) = (s22062.length : Int)) then (some false)
  else (ctl (forC (R := (Bool)) (fun i2329 => fun (_ : Unit) => (idx s12059 (i2329 : Int)).bind fun x2545 =>
  (idx s22062 (i2329 : Int)).bind fun x2553 =>
  if !decide (x2545 = x2553) then (some (Ctl.ret false))
  else (some (Ctl.next ()))) (s12059.length) 0 ()) (fun r => some r) (fun (_ : Unit) => some true))

noncomputable def slices_Clone___int_int__p (s_2658 : (List Int)) : Option ((List Int)) :=
  (app 8 [] s_2658).bind fun l2723 =>
  some l2723

noncomputable def transys_labelled_p (x4821 : System) : Option ((List (List Edge))) :=
  (mk 24 ([] : (List Edge)) (x4821.Costs.length : Int)).bind fun l5280 =>
  (forS (fun i5286 => fun (l5414 : (List (List Edge))) => (idx x4821.Edges (i5286 : Int)).bind fun x5574 =>
  (idx l5414 x5574.Label).bind fun row5660 =>
  (app 24 row5660 [x5574]).bind fun l5674 =>
  (setI l5414 x5574.Label l5674).bind fun l5681 =>
  some l5681) (x4821.Edges.length) 0 l5280).bind (fun (l5414 : (List (List Edge))) => some l5414)

def cmpI (a b : Int) : Int := if a < b then -1 else if b < a then 1 else 0
def cmpE (a b : Edge) : Int := if cmpI a.From b.From ≠ 0 then cmpI a.From b.From else if cmpI a.Label b.Label ≠ 0 then cmpI a.Label b.Label else cmpI a.To b.To
noncomputable def sortEdges_p (xs : List Edge) : Option (List Edge) := if xs.length < 4611686018427387904 then some (xs.mergeSort fun x y => !decide (cmpE y x < 0)) else none

noncomputable def transys_Product_p (a152 : System) (b159 : System) : Option ((Option Int) × System) :=
  ((transys_Valid_p a152).bind <| fun (y8745 : Bool) =>
  if !y8745 then (some true)
  else ((transys_Valid_p b159).bind <| fun (y8756 : Bool) =>
  if !y8756 then (some true)
  else ((slices_Equal___int_int__p a152.Costs b159.Costs).bind <| fun (y8767 : Bool) =>
  some (!y8767)))).bind (fun (z8740 : Bool) => if z8740 then (some (some 2, (⟨0, 0, [], [], []⟩ : System)))
  else (if decide (4096 < (IntKind.i64.wrap (a152.States * b159.States))) then (some (some 5, (⟨0, 0, [], [], []⟩ : System)))
  else ((slices_Clone___int_int__p a152.Costs).bind <| fun (y8812 : (List Int)) =>
  (must (decide (a152.States ≤ 9223372036854775807))).bind fun u8881 =>
  (forS (fun i8883 => fun (z9562 : (List Bool)) => (must (decide (b159.States ≤ 9223372036854775807))).bind fun u10252 =>
  (forS (fun i10254 => fun (l10457 : (List Bool)) => ((idx a152.Goals (i8883 : Int)).bind fun x10821 =>
  if x10821 then ((idx b159.Goals (i10254 : Int)).bind fun x10830 =>
  (app 1 l10457 [x10830]).bind fun l10841 =>
  some l10841)
  else ((app 1 l10457 [false]).bind fun l10860 =>
  some l10860)).bind (fun (l10774 : (List Bool)) => some l10774)) (b159.States.toNat) 0 z9562).bind (fun (l10457 : (List Bool)) => some l10457)) (a152.States.toNat) 0 []).bind (fun (z9562 : (List Bool)) => (transys_labelled_p a152).bind <| fun (y10992 : (List (List Edge))) =>
  (transys_labelled_p b159).bind <| fun (y11001 : (List (List Edge))) =>
  (forS (fun i11008 => fun (many11086 : Int) => (idx y10992 (i11008 : Int)).bind fun x11249 =>
  (idx y11001 (i11008 : Int)).bind fun x11258 =>
  some (IntKind.i64.wrap (many11086 + (IntKind.i64.wrap ((x11249.length : Int) * (x11258.length : Int)))))) (y10992.length) 0 0).bind (fun (many11086 : Int) => if decide (65536 < many11086) then (some (some 5, (⟨0, 0, [], [], []⟩ : System)))
  else ((forS (fun i11301 => fun (z12151 : (List Edge)) => (idx y10992 (i11301 : Int)).bind fun x13032 =>
  (forS (fun i13040 => fun (l13297 : (List Edge)) => (idx x13032 (i13040 : Int)).bind fun x13598 =>
  (idx y11001 (i11301 : Int)).bind fun x13618 =>
  (forS (fun i13626 => fun (l13676 : (List Edge)) => (idx x13618 (i13626 : Int)).bind fun x13775 =>
  (app 24 l13676 [(⟨IntKind.i64.wrap ((IntKind.i64.wrap (x13598.From * b159.States)) + x13775.From), (i11301 : Int), IntKind.i64.wrap ((IntKind.i64.wrap (x13598.To * b159.States)) + x13775.To)⟩ : Edge)]).bind fun l13802 =>
  some l13802) (x13618.length) 0 l13297).bind (fun (l13676 : (List Edge)) => some l13676)) (x13032.length) 0 z12151).bind (fun (l13297 : (List Edge)) => some l13297)) (y10992.length) 0 []).bind (fun (z12151 : (List Edge)) => (sortEdges_p z12151).bind <| fun (l13896 : (List Edge)) =>
  some (none, (⟨IntKind.i64.wrap (a152.States * b159.States), IntKind.i64.wrap ((IntKind.i64.wrap (a152.Init * b159.States)) + b159.Init), y8812, l13896, z9562⟩ : System)))))))))

noncomputable def transys_goals_p (x14029 : System) : Option ((List Int)) :=
  (forS (fun i14302 => fun (out14380 : (List Int)) => (idx x14029.Goals (i14302 : Int)).bind fun x14477 =>
  (if x14477 then ((app 8 out14380 [(i14302 : Int)]).bind fun l14519 =>
  some l14519)
  else (some out14380)).bind (fun (l14502 : (List Int)) => some l14502)) (x14029.Goals.length) 0 []).bind (fun (out14380 : (List Int)) => some out14380)

structure Arc where
  From : Int
  To : Int
  Weight : Int
def encArc : Enc Arc := Enc.iso ((encInt .i64).pair ((encInt .i64).pair (encInt .i64))) (fun b => (b.From, b.To, b.Weight))
theorem encArc_val {s : PHeap} {v : Value} {b : Arc} : encArc.val s v b ↔ v = .agg #[.int .i64 (b.From), .int .i64 (b.To), .int .i64 (b.Weight)] := by
  simp only [Enc.iso, Enc.pair, Enc.val, encArc, encInt, if_true, oneCell]
  constructor
  · rintro ⟨cs, rfl, h⟩
    obtain ⟨cs⟩ := cs
    simp only [] at h
    obtain ⟨_, _, rfl, rfl, ⟨_, _, rfl, rfl, rfl⟩⟩ := h
    rfl
  · rintro rfl
    exact ⟨_, rfl, ⟨[.int .i64 (b.From)], [.int .i64 (b.To), .int .i64 (b.Weight)], rfl, rfl, ⟨[.int .i64 (b.To)], [.int .i64 (b.Weight)], rfl, rfl, rfl⟩⟩⟩

noncomputable def transys_shortest_p (x14563 : System) (from_14570 : (List Int)) (back14573 : Bool) : Option ((List Int)) :=
  (mk 24 ([] : (List Arc)) x14563.States).bind fun l19692 =>
  (forS (fun i19698 => fun (l19922 : (List (List Arc))) => (idx x14563.Edges (i19698 : Int)).bind fun x20181 =>
  (idx x14563.Costs x20181.Label).bind fun x20232 =>
  (if back14573 then (some (x20181.To, x20181.From))
  else (some (x20181.From, x20181.To))).bind (un2 fun (z20253 : Int) (z20254 : Int) => (idx l19922 z20253).bind fun row20363 =>
  (app 24 row20363 [(⟨z20253, z20254, x20232⟩ : Arc)]).bind fun l20377 =>
  (setI l19922 z20253 l20377).bind fun l20384 =>
  some l20384)) (x14563.Edges.length) 0 l19692).bind (fun (l19922 : (List (List Arc))) => (mk 8 0 x14563.States).bind fun l20412 =>
  (forS (fun i20417 => fun (l20439 : (List Int)) => (idx l20439 (i20417 : Int)).bind fun x20492 =>
  (setI l20439 (i20417 : Int) 1125899906842624).bind fun l20497 =>
  some l20497) (l20412.length) 0 l20412).bind (fun (l20439 : (List Int)) => (mk 1 false x14563.States).bind fun l20522 =>
  (slices_Clone___int_int__p from_14570).bind <| fun (y20538 : (List Int)) =>
  (forS (fun i20545 => un2 fun (l20601 : (List Int)) (l20602 : (List Bool)) => (idx from_14570 (i20545 : Int)).bind fun x20692 =>
  (idx l20601 x20692).bind fun x20719 =>
  (setI l20601 x20692 0).bind fun l20724 =>
  (idx l20602 x20692).bind fun x20729 =>
  (setI l20602 x20692 true).bind fun l20734 =>
  some (l20724, l20734)) (from_14570.length) 0 (l20439, l20522)).bind (un2 fun (l20601 : (List Int)) (l20602 : (List Bool)) => ctl (whileC (R := ((List Int))) (un3 fun (l21747 : (List Int)) (l21748 : (List Bool)) (l21749 : (List Int)) => if decide (0 < (l21749.length : Int)) then ((idx l21749 0).bind fun x23774 =>
  (cut l21749 1 (l21749.length : Int)).bind fun c23796 =>
  (idx l21748 x23774).bind fun x23801 =>
  (setI l21748 x23774 false).bind fun l23806 =>
  (idx l19922 x23774).bind fun row23821 =>
  (must (decide (row23821.length ≤ 9223372036854775807))).bind fun u23831 =>
  (forS (fun i23833 => un3 fun (l24123 : (List Int)) (l24124 : (List Bool)) (l24125 : (List Int)) => (idx row23821 (i23833 : Int)).bind fun x24458 =>
  (idx l24123 x23774).bind fun x24516 =>
  (idx l24123 x24458.To).bind fun x24523 =>
  if decide (x24523 ≤ (IntKind.i64.wrap (x24516 + x24458.Weight))) then (some (l24123, l24124, l24125))
  else ((setI l24123 x24458.To (IntKind.i64.wrap (x24516 + x24458.Weight))).bind fun l24572 =>
  (idx l24124 x24458.To).bind fun x24584 =>
  (if !x24584 then ((app 8 l24125 [x24458.To]).bind fun l24696 =>
  (setI l24124 x24458.To true).bind fun l24705 =>
  some (l24705, l24696))
  else (some (l24124, l24125))).bind (un2 fun (l24647 : (List Bool)) (l24648 : (List Int)) => some (l24572, l24647, l24648)))) (row23821.length) 0 (l21747, l23806, c23796)).bind (un3 fun (l24123 : (List Int)) (l24124 : (List Bool)) (l24125 : (List Int)) => some (Ctl.next (l24123, l24124, l24125))))
  else (some (Ctl.brk (l21747, l21748, l21749)))) (l20601, l20602, y20538)) (fun r => some r) (un3 fun (l23736 : (List Int)) (l23737 : (List Bool)) (l23738 : (List Int)) => some l23736))))

noncomputable def transys_Distances_p (x14000 : System) : Option ((List Int) × (Option Int)) :=
  (transys_Valid_p x14000).bind <| fun (y24873 : Bool) =>
  if !y24873 then (some ([], some 2))
  else ((transys_goals_p x14000).bind <| fun (y24942 : (List Int)) =>
  (transys_shortest_p x14000 y24942 true).bind <| fun (y24951 : (List Int)) =>
  some (y24951, none))

noncomputable def base_Ints_p (a24990 : (List Int)) (b24993 : (List Int)) : Option (Bool) :=
  if !decide ((a24990.length : Int) = (b24993.length : Int)) then (some false)
  else (ctl (forC (R := (Bool)) (fun i25260 => fun (_ : Unit) => (idx a24990 (i25260 : Int)).bind fun x25476 =>
  (idx b24993 (i25260 : Int)).bind fun x25484 =>
  if !decide (x25476 = x25484) then (some (Ctl.ret false))
  else (some (Ctl.next ()))) (a24990.length) 0 ()) (fun r => some r) (fun (_ : Unit) => some true))

noncomputable def law44_awake_p  : Option (Bool) :=
  (transys_Product_p law44_example_t law44_example_t).bind <| un2 fun (y25623 : (Option Int)) (y25624 : System) =>
  if (y25623.isSome || ((!decide (y25624.States = 4)) || !decide ((y25624.Edges.length : Int) = 2))) then (some false)
  else ((transys_Distances_p y25624).bind <| un2 fun (y25669 : (List Int)) (y25670 : (Option Int)) =>
  (if y25670.isNone then ((base_Ints_p y25669 [2, 1125899906842624, 1125899906842624, 0]).bind <| fun (y25707 : Bool) =>
  some y25707)
  else (some false)).bind (fun (z25693 : Bool) => some z25693))

noncomputable def ref44_Before_p (a25961 : Edge) (b25962 : Edge) : Option (Bool) :=
  if !decide (a25961.From = b25962.From) then (some (decide (a25961.From < b25962.From)))
  else (if !decide (a25961.Label = b25962.Label) then (some (decide (a25961.Label < b25962.Label)))
  else (some (decide (a25961.To < b25962.To))))
def ref44_Before_t (a25961 : Edge) (b25962 : Edge) : Bool :=
  if !decide (a25961.From = b25962.From) then ((decide (a25961.From < b25962.From)))
  else (if !decide (a25961.Label = b25962.Label) then ((decide (a25961.Label < b25962.Label)))
  else ((decide (a25961.To < b25962.To))))
theorem ref44_Before_tot (a25961 : Edge) (b25962 : Edge) : ref44_Before_p a25961 b25962 = some (ref44_Before_t a25961 b25962) := by
  unfold ref44_Before_p ref44_Before_t
  (repeat' split) <;> rfl
attribute [irreducible] ref44_Before_t

noncomputable def ref44_Valid_p (x25747 : System) : Option (Bool) :=
  if ((decide (x25747.States < 1)) || ((decide (4096 < x25747.States)) || ((decide (x25747.Init < 0)) || ((decide (x25747.States ≤ x25747.Init)) || ((!decide ((x25747.Goals.length : Int) = x25747.States)) || ((decide (4096 < (x25747.Costs.length : Int))) || decide (65536 < (x25747.Edges.length : Int)))))))) then (some false)
  else (ctl (forC (R := (Bool)) (fun i26453 => fun (_ : Unit) => (idx x25747.Costs (i26453 : Int)).bind fun x26544 =>
  if ((decide (x26544 < 0)) || decide (1048576 < x26544)) then (some (Ctl.ret false))
  else (some (Ctl.next ()))) (x25747.Costs.length) 0 ()) (fun r => some r) (fun (_ : Unit) => ctl (forC (R := (Bool)) (fun i26594 => fun (_ : Unit) => (idx x25747.Edges (i26594 : Int)).bind fun x26902 =>
  (if decide (x26902.From < 0) then (some true)
  else (if decide (x25747.States ≤ x26902.From) then (some true)
  else (if decide (x26902.To < 0) then (some true)
  else (if decide (x25747.States ≤ x26902.To) then (some true)
  else (if decide (x26902.Label < 0) then (some true)
  else (if decide ((x25747.Costs.length : Int) ≤ x26902.Label) then (some true)
  else (if decide (0 < (i26594 : Int)) then ((idx x25747.Edges (IntKind.i64.wrap ((i26594 : Int) - 1))).bind fun x26997 =>
  some (!(ref44_Before_t x26997 x26902)))
  else (some false)))))))).bind (fun (z26954 : Bool) => if z26954 then (some (Ctl.ret false))
  else (some (Ctl.next ())))) (x25747.Edges.length) 0 ()) (fun r => some r) (fun (_ : Unit) => some true)))

noncomputable def law44_large_p (x25733 : System) : Option (Bool) :=
  (if decide (40 < x25733.States) then ((ref44_Valid_p x25733).bind <| fun (y27133 : Bool) =>
  if y27133 then (some true)
  else (if decide (5000 < (x25733.Goals.length : Int)) then (some true)
  else (if decide (150 < (x25733.Edges.length : Int)) then (some true)
  else (some (decide (40 < (x25733.Costs.length : Int)))))))
  else (if decide (5000 < (x25733.Goals.length : Int)) then (some true)
  else (if decide (150 < (x25733.Edges.length : Int)) then (some true)
  else (some (decide (40 < (x25733.Costs.length : Int))))))).bind (fun (z27127 : Bool) => some z27127)

noncomputable def ref44_Insert_p (l29542 : (List Edge)) (e29545 : Edge) : Option ((List Edge)) :=
  ctl (whileC (R := ((List Edge))) (fun (at_30617 : Int) => (if decide (0 < at_30617) then ((idx l29542 (IntKind.i64.wrap (at_30617 - 1))).bind fun x30908 =>
  some (!(ref44_Before_t x30908 e29545)))
  else (some false)).bind (fun (z30889 : Bool) => if z30889 then ((idx l29542 (IntKind.i64.wrap (at_30617 - 1))).bind fun x30961 =>
  if eqs [x30961.From, x30961.Label, x30961.To] [e29545.From, e29545.Label, e29545.To] then (some (Ctl.ret l29542))
  else (some (Ctl.next (IntKind.i64.wrap (at_30617 - 1)))))
  else (some (Ctl.brk at_30617)))) (l29542.length : Int)) (fun r => some r) (fun (at_30840 : Int) => (cut l29542 0 at_30840).bind fun c31228 =>
  (app 24 [] c31228).bind fun l31231 =>
  (app 24 l31231 [e29545]).bind fun l31239 =>
  (cut l29542 at_30840 (l29542.length : Int)).bind fun c31245 =>
  (app 24 l31239 c31245).bind fun l31247 =>
  some l31247)

noncomputable def ref44_Product_p (a27275 : System) (b27282 : System) : Option (Int × System) :=
  ((ref44_Valid_p a27275).bind <| fun (y32760 : Bool) =>
  if !y32760 then (some true)
  else ((ref44_Valid_p b27282).bind <| fun (y32771 : Bool) =>
  if !y32771 then (some true)
  else ((base_Ints_p a27275.Costs b27282.Costs).bind <| fun (y32782 : Bool) =>
  some (!y32782)))).bind (fun (z32755 : Bool) => if z32755 then (some (2, (⟨0, 0, [], [], []⟩ : System)))
  else (if decide (4096 < (IntKind.i64.wrap (a27275.States * b27282.States))) then (some (5, (⟨0, 0, [], [], []⟩ : System)))
  else ((app 8 [] a27275.Costs).bind fun l32829 =>
  (forS (fun i32934 => fun (z33611 : (List Bool)) => (forS (fun i34299 => fun (l34502 : (List Bool)) => ((idx a27275.Goals (i32934 : Int)).bind fun x34866 =>
  if x34866 then ((idx b27282.Goals (i34299 : Int)).bind fun x34875 =>
  (app 1 l34502 [x34875]).bind fun l34886 =>
  some l34886)
  else ((app 1 l34502 [false]).bind fun l34905 =>
  some l34905)).bind (fun (l34819 : (List Bool)) => some l34819)) (b27282.Goals.length) 0 z33611).bind (fun (l34502 : (List Bool)) => some l34502)) (a27275.Goals.length) 0 []).bind (fun (z33611 : (List Bool)) => (forS (fun i34977 => fun (z35388 : (List Edge)) => (idx a27275.Edges (i34977 : Int)).bind fun x35838 =>
  (forS (fun i35850 => fun (z35961 : (List Edge)) => (idx b27282.Edges (i35850 : Int)).bind fun x36115 =>
  (if decide (x35838.Label = x36115.Label) then ((ref44_Insert_p z35961 (⟨IntKind.i64.wrap ((IntKind.i64.wrap (x35838.From * b27282.States)) + x36115.From), x35838.Label, IntKind.i64.wrap ((IntKind.i64.wrap (x35838.To * b27282.States)) + x36115.To)⟩ : Edge)).bind <| fun (y36170 : (List Edge)) =>
  some y36170)
  else (some z35961)).bind (fun (z36151 : (List Edge)) => some z36151)) (b27282.Edges.length) 0 z35388).bind (fun (z35961 : (List Edge)) => some z35961)) (a27275.Edges.length) 0 []).bind (fun (z35388 : (List Edge)) => if decide (65536 < (z35388.length : Int)) then (some (5, (⟨0, 0, [], [], []⟩ : System)))
  else (some (0, (⟨IntKind.i64.wrap (a27275.States * b27282.States), IntKind.i64.wrap ((IntKind.i64.wrap (a27275.Init * b27282.States)) + b27282.Init), l32829, z35388, z33611⟩ : System))))))))

noncomputable def ref44_Same_p (a36327 : System) (b36334 : System) : Option (Bool) :=
  (if !decide (a36327.States = b36334.States) then (some true)
  else (if !decide (a36327.Init = b36334.Init) then (some true)
  else ((base_Ints_p a36327.Costs b36334.Costs).bind <| fun (y36961 : Bool) =>
  if !y36961 then (some true)
  else (if !decide ((a36327.Edges.length : Int) = (b36334.Edges.length : Int)) then (some true)
  else (some (!decide ((a36327.Goals.length : Int) = (b36334.Goals.length : Int)))))))).bind (fun (z36950 : Bool) => if z36950 then (some false)
  else (ctl (forC (R := (Bool)) (fun i36988 => fun (_ : Unit) => (idx a36327.Edges (i36988 : Int)).bind fun x37206 =>
  (idx b36334.Edges (i36988 : Int)).bind fun x37214 =>
  if !(eqs [x37206.From, x37206.Label, x37206.To] [x37214.From, x37214.Label, x37214.To]) then (some (Ctl.ret false))
  else (some (Ctl.next ()))) (a36327.Edges.length) 0 ()) (fun r => some r) (fun (_ : Unit) => ctl (forC (R := (Bool)) (fun i37256 => fun (_ : Unit) => (idx a36327.Goals (i37256 : Int)).bind fun x37474 =>
  (idx b36334.Goals (i37256 : Int)).bind fun x37482 =>
  if !(x37474 == x37482) then (some (Ctl.ret false))
  else (some (Ctl.next ()))) (a36327.Goals.length) 0 ()) (fun r => some r) (fun (_ : Unit) => some true))))

noncomputable def base_Num_p (e37536 : (Option Int)) : Option (Int) :=
  if e37536.isNone then (some 0)
  else (if e37536.isSome then (some (e37536.getD 0))
  else (some (-1)))
def base_Num_t (e37536 : (Option Int)) : Int :=
  if e37536.isNone then (0)
  else (if e37536.isSome then ((e37536.getD 0))
  else ((-1)))
theorem base_Num_tot (e37536 : (Option Int)) : base_Num_p e37536 = some (base_Num_t e37536) := by
  unfold base_Num_p base_Num_t
  (repeat' split) <;> rfl
attribute [irreducible] base_Num_t

noncomputable def law44_TransysProducts_p (a1 : System) (b8 : System) : Option (Bool) :=
  ((law44_awake_p).bind <| fun (y37629 : Bool) =>
  if !y37629 then (some true)
  else ((law44_large_p a1).bind <| fun (y37639 : Bool) =>
  if y37639 then (some true)
  else ((law44_large_p b8).bind <| fun (y37649 : Bool) =>
  some y37649))).bind (fun (z37624 : Bool) => if z37624 then ((law44_awake_p).bind <| fun (y37675 : Bool) =>
  some y37675)
  else ((transys_Product_p a1 b8).bind <| un2 fun (y37705 : (Option Int)) (y37706 : System) =>
  (ref44_Product_p a1 b8).bind <| un2 fun (y37743 : Int) (y37744 : System) =>
  ((ref44_Same_p y37706 y37744).bind <| fun (y37777 : Bool) =>
  if y37777 then (some (decide ((base_Num_t y37705) = y37743)))
  else (some false)).bind (fun (z37772 : Bool) => some z37772)))

end Go.Pw
