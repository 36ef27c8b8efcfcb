/-
  What the functions compute, in plain Lean (printed by my generator).
-/
import Derived.Test.YtdhfofhginfdnaaL6
import Derived.Test.YtdhfofhginfdnaaL11
set_option maxRecDepth 100000
set_option maxHeartbeats 4000000
set_option linter.unusedVariables false
namespace Go.Pw
structure Edge where
  From : Int
  Label : Int
  To : Int
def encEdge : Enc Edge := Enc.iso ((encInt .i64).pair ((encInt .i64).pair (encInt .i64))) (fun b => (b.From, b.Label, b.To))
theorem encEdge_val {s : PHeap} {v : Value} {b : Edge} : encEdge.val s v b ↔ v = .agg #[.int .i64 (b.From), .int .i64 (b.Label), .int .i64 (b.To)] := by
  simp only [Enc.iso, Enc.pair, Enc.val, encEdge, encInt, if_true, oneCell]
  constructor
  · rintro ⟨cs, rfl, h⟩
    obtain ⟨cs⟩ := cs
    simp only [] at h
    obtain ⟨_, _, rfl, rfl, ⟨_, _, rfl, rfl, rfl⟩⟩ := h
    rfl
  · rintro rfl
    exact ⟨_, rfl, ⟨[.int .i64 (b.From)], [.int .i64 (b.Label), .int .i64 (b.To)], rfl, rfl, ⟨[.int .i64 (b.Label)], [.int .i64 (b.To)], rfl, rfl, rfl⟩⟩⟩

structure System where
  States : Int
  Init : Int
  Costs : (List Int)
  Edges : (List Edge)
  Goals : (List Bool)
def encSystem : Enc System := Enc.iso ((encInt .i64).pair ((encInt .i64).pair ((encSlice (encInt .i64)).pair ((encSlice encEdge).pair (encSlice encBool))))) (fun b => (b.States, b.Init, b.Costs, b.Edges, b.Goals))
theorem encSystem_val {s : PHeap} {v : Value} {b : System} : encSystem.val s v b ↔ ∃ u1, ∃ u2, ∃ u3, v = .agg #[.int .i64 (b.States), .int .i64 (b.Init), u1, u2, u3] ∧ SliceRep (encInt .i64) s u1 (b.Costs) ∧ SliceRep encEdge s u2 (b.Edges) ∧ SliceRep encBool s u3 (b.Goals) := by
  simp only [Enc.iso, Enc.pair, Enc.val, encInt, encSlice, encSystem, if_true, oneCell]
  constructor
  · rintro ⟨cs, rfl, h⟩
    obtain ⟨cs⟩ := cs
    simp only [] at h
    obtain ⟨_, _, rfl, rfl, ⟨_, _, rfl, rfl, ⟨_, _, rfl, ⟨w1, rfl, h1⟩, ⟨_, _, rfl, ⟨w2, rfl, h2⟩, ⟨w3, rfl, h3⟩⟩⟩⟩⟩ := h
    exact ⟨w1, w2, w3, rfl, h1, h2, h3⟩
  · rintro ⟨w1, w2, w3, rfl, h1, h2, h3⟩
    exact ⟨_, rfl, ⟨[.int .i64 (b.States)], [.int .i64 (b.Init), w1, w2, w3], rfl, rfl, ⟨[.int .i64 (b.Init)], [w1, w2, w3], rfl, rfl, ⟨[w1], [w2, w3], rfl, ⟨w1, rfl, h1⟩, ⟨[w2], [w3], rfl, ⟨w2, rfl, h2⟩, ⟨w3, rfl, h3⟩⟩⟩⟩⟩⟩

noncomputable def law44_example_p  : Option (System) :=
  some (⟨2, 0, [2, 0], [(⟨0, 0, 1⟩ : Edge), (⟨1, 1, 1⟩ : Edge)], [false, true]⟩ : System)
def law44_example_t  : System :=
  (⟨2, 0, [2, 0], [(⟨0, 0, 1⟩ : Edge), (⟨1, 1, 1⟩ : Edge)], [false, true]⟩ : System)
theorem law44_example_tot  : law44_example_p  = some (law44_example_t ) := by
  unfold law44_example_p law44_example_t
  (repeat' split) <;> rfl
attribute [irreducible] law44_example_t

noncomputable def cmp_isNaN_int__p (x402 : Int) : Option (Bool) :=
  some (!decide (x402 = x402))
def cmp_isNaN_int__t (x402 : Int) : Bool :=
  (!decide (x402 = x402))
theorem cmp_isNaN_int__tot (x402 : Int) : cmp_isNaN_int__p x402 = some (cmp_isNaN_int__t x402) := by
  unfold cmp_isNaN_int__p cmp_isNaN_int__t
  (repeat' split) <;> rfl
attribute [irreducible] cmp_isNaN_int__t

noncomputable def cmp_Compare_int__p (x400 : Int) (y401 : Int) : Option (Int) :=
  if (cmp_isNaN_int__t x400) then (if (cmp_isNaN_int__t y401) then (some 0)
  else (some (-1)))
  else (if (cmp_isNaN_int__t y401) then (some 1)
  else (if decide (x400 < y401) then (some (-1))
  else (if decide (y401 < x400) then (some 1)
  else (some 0))))
def cmp_Compare_int__t (x400 : Int) (y401 : Int) : Int :=
  if (cmp_isNaN_int__t x400) then (if (cmp_isNaN_int__t y401) then (0)
  else ((-1)))
  else (if (cmp_isNaN_int__t y401) then (1)
  else (if decide (x400 < y401) then ((-1))
  else (if decide (y401 < x400) then (1)
  else (0))))
theorem cmp_Compare_int__tot (x400 : Int) (y401 : Int) : cmp_Compare_int__p x400 y401 = some (cmp_Compare_int__t x400 y401) := by
  unfold cmp_Compare_int__p cmp_Compare_int__t
  (repeat' split) <;> rfl
attribute [irreducible] cmp_Compare_int__t

noncomputable def cmp_Or_int__p (vals485 : (List Int)) : Option (Int) :=
  ctl (forC (R := (Int)) (fun i586 => fun (_ : Unit) => (idx vals485 (i586 : Int)).bind fun x649 =>
  if !decide (x649 = 0) then (some (Ctl.ret x649))
  else (some (Ctl.next ()))) (vals485.length) 0 ()) (fun r => some r) (fun (_ : Unit) => some 0)

noncomputable def transys_compare_p (a385 : Edge) (b386 : Edge) : Option (Int) :=
  (cmp_Or_int__p [(cmp_Compare_int__t a385.From b386.From), (cmp_Compare_int__t a385.Label b386.Label), (cmp_Compare_int__t a385.To b386.To)]).bind <| fun (y899 : Int) =>
  some y899

noncomputable def transys_Valid_p (x171 : System) : Option (Bool) :=
  if ((decide (x171.States < 1)) || ((decide (4096 < x171.States)) || ((decide (x171.Init < 0)) || ((decide (x171.States ≤ x171.Init)) || ((!decide ((x171.Goals.length : Int) = x171.States)) || ((decide (4096 < (x171.Costs.length : Int))) || decide (65536 < (x171.Edges.length : Int)))))))) then (some false)
  else (ctl (forC (R := (Bool)) (fun i1391 => fun (_ : Unit) => (idx x171.Costs (i1391 : Int)).bind fun x1482 =>
  if ((decide (x1482 < 0)) || decide (1048576 < x1482)) then (some (Ctl.ret false))
  else (some (Ctl.next ()))) (x171.Costs.length) 0 ()) (fun r => some r) (fun (_ : Unit) => ctl (forC (R := (Bool)) (fun i1532 => fun (_ : Unit) => (idx x171.Edges (i1532 : Int)).bind fun x1864 =>
  (if decide (x1864.From < 0) then (some true)
  else (if decide (x171.States ≤ x1864.From) then (some true)
  else (if decide (x1864.To < 0) then (some true)
  else (if decide (x171.States ≤ x1864.To) then (some true)
  else (if decide (x1864.Label < 0) then (some true)
  else (if decide ((x171.Costs.length : Int) ≤ x1864.Label) then (some true)
  else (if decide (0 < (i1532 : Int)) then ((idx x171.Edges (IntKind.i64.wrap ((i1532 : Int) - 1))).bind fun x1968 =>
  (transys_compare_p x1968 x1864).bind <| fun (y1978 : Int) =>
  some (decide (0 ≤ y1978)))
  else (some false)))))))).bind (fun (z1922 : Bool) => if z1922 then (some (Ctl.ret false))
  else (some (Ctl.next ())))) (x171.Edges.length) 0 ()) (fun r => some r) (fun (_ : Unit) => some true)))

noncomputable def slices_Equal___int_int__p (s12046 : (List Int)) (s22049 : (List Int)) : Option (Bool) :=
  if !decide ((s12046.length : Int) = (s22049.length : Int)) then (some false)
  else (ctl (forC (R := (Bool)) (fun i2316 => fun (_ : Unit) => (idx s12046 (i2316 : Int)).bind fun x2532 =>
  (idx s22049 (i2316 : Int)).bind fun x2540 =>
  if !decide (x2532 = x2540) then (some (Ctl.ret false))
  else (some (Ctl.next ()))) (s12046.length) 0 ()) (fun r => some r) (fun (_ : Unit) => some true))

noncomputable def slices_Clone___int_int__p (s_2645 : (List Int)) : Option ((List Int)) :=
  (app 8 [] s_2645).bind fun l2710 =>
  some l2710

noncomputable def transys_labelled_p (x4808 : System) : Option ((List (List Edge))) :=
  (mk 24 ([] : (List Edge)) (x4808.Costs.length : Int)).bind fun l5267 =>
  (forS (fun i5273 => fun (l5401 : (List (List Edge))) => (idx x4808.Edges (i5273 : Int)).bind fun x5561 =>
  (idx l5401 x5561.Label).bind fun row5647 =>
  (app 24 row5647 [x5561]).bind fun l5661 =>
  (setI l5401 x5561.Label l5661).bind fun l5668 =>
  some l5668) (x4808.Edges.length) 0 l5267).bind (fun (l5401 : (List (List Edge))) => some l5401)

def cmpI (a b : Int) : Int := if a < b then -1 else if b < a then 1 else 0
def cmpE (a b : Edge) : Int := if cmpI a.From b.From ≠ 0 then cmpI a.From b.From else if cmpI a.Label b.Label ≠ 0 then cmpI a.Label b.Label else cmpI a.To b.To
noncomputable def sortEdges_p (xs : List Edge) : Option (List Edge) := if xs.length < 4611686018427387904 then some (xs.mergeSort fun x y => !decide (cmpE y x < 0)) else none

noncomputable def transys_Product_p (a139 : System) (b146 : System) : Option ((Option Int) × System) :=
  ((transys_Valid_p a139).bind <| fun (y8732 : Bool) =>
  if !y8732 then (some true)
  else ((transys_Valid_p b146).bind <| fun (y8743 : Bool) =>
  if !y8743 then (some true)
  else ((slices_Equal___int_int__p a139.Costs b146.Costs).bind <| fun (y8754 : Bool) =>
  some (!y8754)))).bind (fun (z8727 : Bool) => if z8727 then (some (some 2, (⟨0, 0, [], [], []⟩ : System)))
  else (if decide (4096 < (IntKind.i64.wrap (a139.States * b146.States))) then (some (some 5, (⟨0, 0, [], [], []⟩ : System)))
  else ((slices_Clone___int_int__p a139.Costs).bind <| fun (y8799 : (List Int)) =>
  (must (decide (a139.States ≤ 9223372036854775807))).bind fun u8868 =>
  (forS (fun i8870 => fun (z9549 : (List Bool)) => (must (decide (b146.States ≤ 9223372036854775807))).bind fun u10239 =>
  (forS (fun i10241 => fun (l10444 : (List Bool)) => ((idx a139.Goals (i8870 : Int)).bind fun x10808 =>
  if x10808 then ((idx b146.Goals (i10241 : Int)).bind fun x10817 =>
  (app 1 l10444 [x10817]).bind fun l10828 =>
  some l10828)
  else ((app 1 l10444 [false]).bind fun l10847 =>
  some l10847)).bind (fun (l10761 : (List Bool)) => some l10761)) (b146.States.toNat) 0 z9549).bind (fun (l10444 : (List Bool)) => some l10444)) (a139.States.toNat) 0 []).bind (fun (z9549 : (List Bool)) => (transys_labelled_p a139).bind <| fun (y10979 : (List (List Edge))) =>
  (transys_labelled_p b146).bind <| fun (y10988 : (List (List Edge))) =>
  (forS (fun i10995 => fun (many11073 : Int) => (idx y10979 (i10995 : Int)).bind fun x11236 =>
  (idx y10988 (i10995 : Int)).bind fun x11245 =>
  some (IntKind.i64.wrap (many11073 + (IntKind.i64.wrap ((x11236.length : Int) * (x11245.length : Int)))))) (y10979.length) 0 0).bind (fun (many11073 : Int) => if decide (65536 < many11073) then (some (some 5, (⟨0, 0, [], [], []⟩ : System)))
  else ((forS (fun i11288 => fun (z12138 : (List Edge)) => (idx y10979 (i11288 : Int)).bind fun x13019 =>
  (forS (fun i13027 => fun (l13284 : (List Edge)) => (idx x13019 (i13027 : Int)).bind fun x13585 =>
  (idx y10988 (i11288 : Int)).bind fun x13605 =>
  (forS (fun i13613 => fun (l13663 : (List Edge)) => (idx x13605 (i13613 : Int)).bind fun x13762 =>
  (app 24 l13663 [(⟨IntKind.i64.wrap ((IntKind.i64.wrap (x13585.From * b146.States)) + x13762.From), (i11288 : Int), IntKind.i64.wrap ((IntKind.i64.wrap (x13585.To * b146.States)) + x13762.To)⟩ : Edge)]).bind fun l13789 =>
  some l13789) (x13605.length) 0 l13284).bind (fun (l13663 : (List Edge)) => some l13663)) (x13019.length) 0 z12138).bind (fun (l13284 : (List Edge)) => some l13284)) (y10979.length) 0 []).bind (fun (z12138 : (List Edge)) => (sortEdges_p z12138).bind <| fun (l13883 : (List Edge)) =>
  some (none, (⟨IntKind.i64.wrap (a139.States * b146.States), IntKind.i64.wrap ((IntKind.i64.wrap (a139.Init * b146.States)) + b146.Init), y8799, l13883, z9549⟩ : System)))))))))

noncomputable def transys_goals_p (x14016 : System) : Option ((List Int)) :=
  (forS (fun i14289 => fun (out14367 : (List Int)) => (idx x14016.Goals (i14289 : Int)).bind fun x14464 =>
  (if x14464 then ((app 8 out14367 [(i14289 : Int)]).bind fun l14506 =>
  some l14506)
  else (some out14367)).bind (fun (l14489 : (List Int)) => some l14489)) (x14016.Goals.length) 0 []).bind (fun (out14367 : (List Int)) => some out14367)

structure Arc where
  From : Int
  To : Int
  Weight : Int
def encArc : Enc Arc := Enc.iso ((encInt .i64).pair ((encInt .i64).pair (encInt .i64))) (fun b => (b.From, b.To, b.Weight))
theorem encArc_val {s : PHeap} {v : Value} {b : Arc} : encArc.val s v b ↔ v = .agg #[.int .i64 (b.From), .int .i64 (b.To), .int .i64 (b.Weight)] := by
  simp only [Enc.iso, Enc.pair, Enc.val, encArc, encInt, if_true, oneCell]
  constructor
  · rintro ⟨cs, rfl, h⟩
    obtain ⟨cs⟩ := cs
    simp only [] at h
    obtain ⟨_, _, rfl, rfl, ⟨_, _, rfl, rfl, rfl⟩⟩ := h
    rfl
  · rintro rfl
    exact ⟨_, rfl, ⟨[.int .i64 (b.From)], [.int .i64 (b.To), .int .i64 (b.Weight)], rfl, rfl, ⟨[.int .i64 (b.To)], [.int .i64 (b.Weight)], rfl, rfl, rfl⟩⟩⟩

noncomputable def transys_shortest_p (x14550 : System) (from_14557 : (List Int)) (back14560 : Bool) : Option ((List Int)) :=
  (mk 24 ([] : (List Arc)) x14550.States).bind fun l19679 =>
  (forS (fun i19685 => fun (l19909 : (List (List Arc))) => (idx x14550.Edges (i19685 : Int)).bind fun x20168 =>
  (idx x14550.Costs x20168.Label).bind fun x20219 =>
  (if back14560 then (some (x20168.To, x20168.From))
  else (some (x20168.From, x20168.To))).bind (un2 fun (z20240 : Int) (z20241 : Int) => (idx l19909 z20240).bind fun row20350 =>
  (app 24 row20350 [(⟨z20240, z20241, x20219⟩ : Arc)]).bind fun l20364 =>
  (setI l19909 z20240 l20364).bind fun l20371 =>
  some l20371)) (x14550.Edges.length) 0 l19679).bind (fun (l19909 : (List (List Arc))) => (mk 8 0 x14550.States).bind fun l20399 =>
  (forS (fun i20404 => fun (l20426 : (List Int)) => (idx l20426 (i20404 : Int)).bind fun x20479 =>
  (setI l20426 (i20404 : Int) 1125899906842624).bind fun l20484 =>
  some l20484) (l20399.length) 0 l20399).bind (fun (l20426 : (List Int)) => (mk 1 false x14550.States).bind fun l20509 =>
  (slices_Clone___int_int__p from_14557).bind <| fun (y20525 : (List Int)) =>
  (forS (fun i20532 => un2 fun (l20588 : (List Int)) (l20589 : (List Bool)) => (idx from_14557 (i20532 : Int)).bind fun x20679 =>
  (idx l20588 x20679).bind fun x20706 =>
  (setI l20588 x20679 0).bind fun l20711 =>
  (idx l20589 x20679).bind fun x20716 =>
  (setI l20589 x20679 true).bind fun l20721 =>
  some (l20711, l20721)) (from_14557.length) 0 (l20426, l20509)).bind (un2 fun (l20588 : (List Int)) (l20589 : (List Bool)) => ctl (whileC (R := ((List Int))) (un3 fun (l21734 : (List Int)) (l21735 : (List Bool)) (l21736 : (List Int)) => if decide (0 < (l21736.length : Int)) then ((idx l21736 0).bind fun x23761 =>
  (cut l21736 1 (l21736.length : Int)).bind fun c23783 =>
  (idx l21735 x23761).bind fun x23788 =>
  (setI l21735 x23761 false).bind fun l23793 =>
  (idx l19909 x23761).bind fun row23808 =>
  (must (decide (row23808.length ≤ 9223372036854775807))).bind fun u23818 =>
  (forS (fun i23820 => un3 fun (l24110 : (List Int)) (l24111 : (List Bool)) (l24112 : (List Int)) => (idx row23808 (i23820 : Int)).bind fun x24445 =>
  (idx l24110 x23761).bind fun x24503 =>
  (idx l24110 x24445.To).bind fun x24510 =>
  if decide (x24510 ≤ (IntKind.i64.wrap (x24503 + x24445.Weight))) then (some (l24110, l24111, l24112))
  else ((setI l24110 x24445.To (IntKind.i64.wrap (x24503 + x24445.Weight))).bind fun l24559 =>
  (idx l24111 x24445.To).bind fun x24571 =>
  (if !x24571 then ((app 8 l24112 [x24445.To]).bind fun l24683 =>
  (setI l24111 x24445.To true).bind fun l24692 =>
  some (l24692, l24683))
  else (some (l24111, l24112))).bind (un2 fun (l24634 : (List Bool)) (l24635 : (List Int)) => some (l24559, l24634, l24635)))) (row23808.length) 0 (l21734, l23793, c23783)).bind (un3 fun (l24110 : (List Int)) (l24111 : (List Bool)) (l24112 : (List Int)) => some (Ctl.next (l24110, l24111, l24112))))
  else (some (Ctl.brk (l21734, l21735, l21736)))) (l20588, l20589, y20525)) (fun r => some r) (un3 fun (l23723 : (List Int)) (l23724 : (List Bool)) (l23725 : (List Int)) => some l23723))))

noncomputable def transys_Distances_p (x13987 : System) : Option ((List Int) × (Option Int)) :=
  (transys_Valid_p x13987).bind <| fun (y24860 : Bool) =>
  if !y24860 then (some ([], some 2))
  else ((transys_goals_p x13987).bind <| fun (y24929 : (List Int)) =>
  (transys_shortest_p x13987 y24929 true).bind <| fun (y24938 : (List Int)) =>
  some (y24938, none))

noncomputable def base_Ints_p (a24977 : (List Int)) (b24980 : (List Int)) : Option (Bool) :=
  if !decide ((a24977.length : Int) = (b24980.length : Int)) then (some false)
  else (ctl (forC (R := (Bool)) (fun i25247 => fun (_ : Unit) => (idx a24977 (i25247 : Int)).bind fun x25463 =>
  (idx b24980 (i25247 : Int)).bind fun x25471 =>
  if !decide (x25463 = x25471) then (some (Ctl.ret false))
  else (some (Ctl.next ()))) (a24977.length) 0 ()) (fun r => some r) (fun (_ : Unit) => some true))

noncomputable def law44_awake_p  : Option (Bool) :=
  (transys_Product_p law44_example_t law44_example_t).bind <| un2 fun (y25610 : (Option Int)) (y25611 : System) =>
  if (y25610.isSome || ((!decide (y25611.States = 4)) || !decide ((y25611.Edges.length : Int) = 2))) then (some false)
  else ((transys_Distances_p y25611).bind <| un2 fun (y25656 : (List Int)) (y25657 : (Option Int)) =>
  (if y25657.isNone then ((base_Ints_p y25656 [2, 1125899906842624, 1125899906842624, 0]).bind <| fun (y25694 : Bool) =>
  some y25694)
  else (some false)).bind (fun (z25680 : Bool) => some z25680))

noncomputable def ref44_Before_p (a25948 : Edge) (b25949 : Edge) : Option (Bool) :=
  if !decide (a25948.From = b25949.From) then (some (decide (a25948.From < b25949.From)))
  else (if !decide (a25948.Label = b25949.Label) then (some (decide (a25948.Label < b25949.Label)))
  else (some (decide (a25948.To < b25949.To))))
def ref44_Before_t (a25948 : Edge) (b25949 : Edge) : Bool :=
  if !decide (a25948.From = b25949.From) then ((decide (a25948.From < b25949.From)))
  else (if !decide (a25948.Label = b25949.Label) then ((decide (a25948.Label < b25949.Label)))
  else ((decide (a25948.To < b25949.To))))
theorem ref44_Before_tot (a25948 : Edge) (b25949 : Edge) : ref44_Before_p a25948 b25949 = some (ref44_Before_t a25948 b25949) := by
  unfold ref44_Before_p ref44_Before_t
  (repeat' split) <;> rfl
attribute [irreducible] ref44_Before_t

noncomputable def ref44_Valid_p (x25734 : System) : Option (Bool) :=
  if ((decide (x25734.States < 1)) || ((decide (4096 < x25734.States)) || ((decide (x25734.Init < 0)) || ((decide (x25734.States ≤ x25734.Init)) || ((!decide ((x25734.Goals.length : Int) = x25734.States)) || ((decide (4096 < (x25734.Costs.length : Int))) || decide (65536 < (x25734.Edges.length : Int)))))))) then (some false)
  else (ctl (forC (R := (Bool)) (fun i26440 => fun (_ : Unit) => (idx x25734.Costs (i26440 : Int)).bind fun x26531 =>
  if ((decide (x26531 < 0)) || decide (1048576 < x26531)) then (some (Ctl.ret false))
  else (some (Ctl.next ()))) (x25734.Costs.length) 0 ()) (fun r => some r) (fun (_ : Unit) => ctl (forC (R := (Bool)) (fun i26581 => fun (_ : Unit) => (idx x25734.Edges (i26581 : Int)).bind fun x26889 =>
  (if decide (x26889.From < 0) then (some true)
  else (if decide (x25734.States ≤ x26889.From) then (some true)
  else (if decide (x26889.To < 0) then (some true)
  else (if decide (x25734.States ≤ x26889.To) then (some true)
  else (if decide (x26889.Label < 0) then (some true)
  else (if decide ((x25734.Costs.length : Int) ≤ x26889.Label) then (some true)
  else (if decide (0 < (i26581 : Int)) then ((idx x25734.Edges (IntKind.i64.wrap ((i26581 : Int) - 1))).bind fun x26984 =>
  some (!(ref44_Before_t x26984 x26889)))
  else (some false)))))))).bind (fun (z26941 : Bool) => if z26941 then (some (Ctl.ret false))
  else (some (Ctl.next ())))) (x25734.Edges.length) 0 ()) (fun r => some r) (fun (_ : Unit) => some true)))

noncomputable def law44_large_p (x25720 : System) : Option (Bool) :=
  (if decide (40 < x25720.States) then ((ref44_Valid_p x25720).bind <| fun (y27120 : Bool) =>
  if y27120 then (some true)
  else (if decide (5000 < (x25720.Goals.length : Int)) then (some true)
  else (if decide (150 < (x25720.Edges.length : Int)) then (some true)
  else (some (decide (40 < (x25720.Costs.length : Int)))))))
  else (if decide (5000 < (x25720.Goals.length : Int)) then (some true)
  else (if decide (150 < (x25720.Edges.length : Int)) then (some true)
  else (some (decide (40 < (x25720.Costs.length : Int))))))).bind (fun (z27114 : Bool) => some z27114)

noncomputable def transys_Costs_p (x27240 : System) : Option ((List Int) × (Option Int)) :=
  (transys_Valid_p x27240).bind <| fun (y27322 : Bool) =>
  if !y27322 then (some ([], some 2))
  else ((transys_shortest_p x27240 [x27240.Init] false).bind <| fun (y27358 : (List Int)) =>
  some (y27358, none))

noncomputable def ref44_Distances_p (x27390 : System) : Option ((List Int)) :=
  (forS (fun i32120 => fun (out32176 : (List Int)) => (idx x27390.Goals (i32120 : Int)).bind fun x32261 =>
  (if x32261 then (some 0)
  else (some 1125899906842624)).bind (fun (d32268 : Int) => (app 8 out32176 [d32268]).bind fun l32302 =>
  some l32302)) (x27390.Goals.length) 0 []).bind (fun (out32176 : (List Int)) => ctl (whileC (R := ((List Int))) (un2 fun (changed33434 : Bool) (l33435 : (List Int)) => if changed33434 then ((forS (fun i35693 => un2 fun (changed36051 : Bool) (l36052 : (List Int)) => (idx x27390.Edges (i35693 : Int)).bind fun x36446 =>
  ((idx l36052 x36446.To).bind fun x36549 =>
  if decide (x36549 < 1125899906842624) then ((idx x27390.Costs x36446.Label).bind fun x36562 =>
  (idx l36052 x36446.From).bind fun x36570 =>
  some (decide ((IntKind.i64.wrap (x36549 + x36562)) < x36570)))
  else (some false)).bind (fun (z36516 : Bool) => (if z36516 then ((idx l36052 x36446.To).bind fun x36746 =>
  (idx x27390.Costs x36446.Label).bind fun x36753 =>
  (idx l36052 x36446.From).bind fun x36761 =>
  (setI l36052 x36446.From (IntKind.i64.wrap (x36746 + x36753))).bind fun l36766 =>
  some (true, l36766))
  else (some (changed36051, l36052))).bind (un2 fun (changed36681 : Bool) (l36682 : (List Int)) => some (changed36681, l36682)))) (x27390.Edges.length) 0 (false, l33435)).bind (un2 fun (changed36051 : Bool) (l36052 : (List Int)) => some (Ctl.next (changed36051, l36052))))
  else (some (Ctl.brk (changed33434, l33435)))) (true, out32176)) (fun r => some r) (un2 fun (changed35667 : Bool) (l35668 : (List Int)) => some l35668))

noncomputable def ref44_Costs_p (x36847 : System) : Option ((List Int)) :=
  (mk 1 false x36847.States).bind fun l37153 =>
  (idx l37153 x36847.Init).bind fun x37219 =>
  (setI l37153 x36847.Init true).bind fun l37224 =>
  (forS (fun i37229 => fun (z37283 : (List Edge)) => (idx x36847.Edges (i37229 : Int)).bind fun x37369 =>
  (app 24 z37283 [(⟨x37369.To, x37369.Label, x37369.From⟩ : Edge)]).bind fun l37396 =>
  some l37396) (x36847.Edges.length) 0 []).bind (fun (z37283 : (List Edge)) => (ref44_Distances_p (⟨x36847.States, 0, x36847.Costs, z37283, l37224⟩ : System)).bind <| fun (y37451 : (List Int)) =>
  some y37451)

noncomputable def law44_TransysDistances_p (x1 : System) : Option (Bool) :=
  ((law44_awake_p).bind <| fun (y37567 : Bool) =>
  if !y37567 then (some true)
  else ((law44_large_p x1).bind <| fun (y37576 : Bool) =>
  if y37576 then (some true)
  else ((ref44_Valid_p x1).bind <| fun (y37585 : Bool) =>
  some (!y37585)))).bind (fun (z37562 : Bool) => if z37562 then ((law44_awake_p).bind <| fun (y37609 : Bool) =>
  some y37609)
  else ((transys_Distances_p x1).bind <| un2 fun (y37629 : (List Int)) (y37630 : (Option Int)) =>
  (transys_Costs_p x1).bind <| un2 fun (y37649 : (List Int)) (y37650 : (Option Int)) =>
  (if y37630.isNone then (if y37650.isNone then ((ref44_Distances_p x1).bind <| fun (y37699 : (List Int)) =>
  (base_Ints_p y37629 y37699).bind <| fun (y37708 : Bool) =>
  if y37708 then ((ref44_Costs_p x1).bind <| fun (y37716 : (List Int)) =>
  (base_Ints_p y37649 y37716).bind <| fun (y37725 : Bool) =>
  some y37725)
  else (some false))
  else (some false))
  else (some false)).bind (fun (z37692 : Bool) => some z37692)))

end Go.Pw
