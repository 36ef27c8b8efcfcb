/-
  What the functions compute, in plain Lean (printed by my generator).
-/
import Derived.Test.YtdhfofhginfdnaaL6
import Derived.Test.YtdhfofhginfdnaaL11
set_option maxRecDepth 100000
set_option maxHeartbeats 4000000
set_option linter.unusedVariables false
namespace Go.Pw
structure Edge where
  From : Int
  Label : Int
  To : Int
def encEdge : Enc Edge := Enc.iso ((encInt .i64).pair ((encInt .i64).pair (encInt .i64))) (fun b => (b.From, b.Label, b.To))
theorem encEdge_val {s : PHeap} {v : Value} {b : Edge} : encEdge.val s v b ↔ v = .agg #[.int .i64 (b.From), .int .i64 (b.Label), .int .i64 (b.To)] := by
  simp only [Enc.iso, Enc.pair, Enc.val, encEdge, encInt, if_true, oneCell]
  constructor
  · rintro ⟨cs, rfl, h⟩
    obtain ⟨cs⟩ := cs
    simp only [] at h
    obtain ⟨_, _, rfl, rfl, ⟨_, _, rfl, rfl, rfl⟩⟩ := h
    rfl
  · rintro rfl
    exact ⟨_, rfl, ⟨[.int .i64 (b.From)], [.int .i64 (b.Label), .int .i64 (b.To)], rfl, rfl, ⟨[.int .i64 (b.Label)], [.int .i64 (b.To)], rfl, rfl, rfl⟩⟩⟩

structure System where
  States : Int
  Init : Int
  Costs : (List Int)
  Edges : (List Edge)
  Goals : (List Bool)
def encSystem : Enc System := Enc.iso ((encInt .i64).pair ((encInt .i64).pair ((encSlice (encInt .i64)).pair ((encSlice encEdge).pair (encSlice encBool))))) (fun b => (b.States, b.Init, b.Costs, b.Edges, b.Goals))
theorem encSystem_val {s : PHeap} {v : Value} {b : System} : encSystem.val s v b ↔ ∃ u1, ∃ u2, ∃ u3, v = .agg #[.int .i64 (b.States), .int .i64 (b.Init), u1, u2, u3] ∧ SliceRep (encInt .i64) s u1 (b.Costs) ∧ SliceRep encEdge s u2 (b.Edges) ∧ SliceRep encBool s u3 (b.Goals) := by
  simp only [Enc.iso, Enc.pair, Enc.val, encInt, encSlice, encSystem, if_true, oneCell]
  constructor
  · rintro ⟨cs, rfl, h⟩
    obtain ⟨cs⟩ := cs
    simp only [] at h
    obtain ⟨_, _, rfl, rfl, ⟨_, _, rfl, rfl, ⟨_, _, rfl, ⟨w1, rfl, h1⟩, ⟨_, _, rfl, ⟨w2, rfl, h2⟩, ⟨w3, rfl, h3⟩⟩⟩⟩⟩ := h
    exact ⟨w1, w2, w3, rfl, h1, h2, h3⟩
  · rintro ⟨w1, w2, w3, rfl, h1, h2, h3⟩
    exact ⟨_, rfl, ⟨[.int .i64 (b.States)], [.int .i64 (b.Init), w1, w2, w3], rfl, rfl, ⟨[.int .i64 (b.Init)], [w1, w2, w3], rfl, rfl, ⟨[w1], [w2, w3], rfl, ⟨w1, rfl, h1⟩, ⟨[w2], [w3], rfl, ⟨w2, rfl, h2⟩, ⟨w3, rfl, h3⟩⟩⟩⟩⟩⟩

noncomputable def law44_example_p  : Option (System) :=
  some (⟨2, 0, [2, 0], [(⟨0, 0, 1⟩ : Edge), (⟨1, 1, 1⟩ : Edge)], [false, true]⟩ : System)
def law44_example_t  : System :=
  (⟨2, 0, [2, 0], [(⟨0, 0, 1⟩ : Edge), (⟨1, 1, 1⟩ : Edge)], [false, true]⟩ : System)
theorem law44_example_tot  : law44_example_p  = some (law44_example_t ) := by
  unfold law44_example_p law44_example_t
  (repeat' split) <;> rfl
attribute [irreducible] law44_example_t

noncomputable def cmp_isNaN_int__p (x402 : Int) : Option (Bool) :=
  some (!decide (x402 = x402))
def cmp_isNaN_int__t (x402 : Int) : Bool :=
  (!decide (x402 = x402))
theorem cmp_isNaN_int__tot (x402 : Int) : cmp_isNaN_int__p x402 = some (cmp_isNaN_int__t x402) := by
  unfold cmp_isNaN_int__p cmp_isNaN_int__t
  (repeat' split) <;> rfl
attribute [irreducible] cmp_isNaN_int__t

noncomputable def cmp_Compare_int__p (x400 : Int) (y401 : Int) : Option (Int) :=
  if (cmp_isNaN_int__t x400) then (if (cmp_isNaN_int__t y401) then (some 0)
  else (some (-1)))
  else (if (cmp_isNaN_int__t y401) then (some 1)
  else (if decide (x400 < y401) then (some (-1))
  else (if decide (y401 < x400) then (some 1)
  else (some 0))))
def cmp_Compare_int__t (x400 : Int) (y401 : Int) : Int :=
  if (cmp_isNaN_int__t x400) then (if (cmp_isNaN_int__t y401) then (0)
  else ((-1)))
  else (if (cmp_isNaN_int__t y401) then (1)
  else (if decide (x400 < y401) then ((-1))
  else (if decide (y401 < x400) then (1)
  else (0))))
theorem cmp_Compare_int__tot (x400 : Int) (y401 : Int) : cmp_Compare_int__p x400 y401 = some (cmp_Compare_int__t x400 y401) := by
  unfold cmp_Compare_int__p cmp_Compare_int__t
  (repeat' split) <;> rfl
attribute [irreducible] cmp_Compare_int__t

noncomputable def cmp_Or_int__p (vals485 : (List Int)) : Option (Int) :=
  ctl (forC (R := (Int)) (fun i586 => fun (_ : Unit) => (idx vals485 (i586 : Int)).bind fun x649 =>
  if !decide (x649 = 0) then (some (Ctl.ret x649))
  else (some (Ctl.next ()))) (vals485.length) 0 ()) (fun r => some r) (fun (_ : Unit) => some 0)

noncomputable def transys_compare_p (a385 : Edge) (b386 : Edge) : Option (Int) :=
  (cmp_Or_int__p [(cmp_Compare_int__t a385.From b386.From), (cmp_Compare_int__t a385.Label b386.Label), (cmp_Compare_int__t a385.To b386.To)]).bind <| fun (y899 : Int) =>
  some y899

noncomputable def transys_Valid_p (x171 : System) : Option (Bool) :=
  if ((decide (x171.States < 1)) || ((decide (4096 < x171.States)) || ((decide (x171.Init < 0)) || ((decide (x171.States ≤ x171.Init)) || ((!decide ((x171.Goals.length : Int) = x171.States)) || ((decide (4096 < (x171.Costs.length : Int))) || decide (65536 < (x171.Edges.length : Int)))))))) then (some false)
  else (ctl (forC (R := (Bool)) (fun i1391 => fun (_ : Unit) => (idx x171.Costs (i1391 : Int)).bind fun x1482 =>
  if ((decide (x1482 < 0)) || decide (1048576 < x1482)) then (some (Ctl.ret false))
  else (some (Ctl.next ()))) (x171.Costs.length) 0 ()) (fun r => some r) (fun (_ : Unit) => ctl (forC (R := (Bool)) (fun i1532 => fun (_ : Unit) => (idx x171.Edges (i1532 : Int)).bind fun x1864 =>
  (if decide (x1864.From < 0) then (some true)
  else (if decide (x171.States ≤ x1864.From) then (some true)
  else (if decide (x1864.To < 0) then (some true)
  else (if decide (x171.States ≤ x1864.To) then (some true)
  else (if decide (x1864.Label < 0) then (some true)
  else (if decide ((x171.Costs.length : Int) ≤ x1864.Label) then (some true)
  else (if decide (0 < (i1532 : Int)) then ((idx x171.Edges (IntKind.i64.wrap ((i1532 : Int) - 1))).bind fun x1968 =>
  (transys_compare_p x1968 x1864).bind <| fun (y1978 : Int) =>
  some (decide (0 ≤ y1978)))
  else (some false)))))))).bind (fun (z1922 : Bool) => if z1922 then (some (Ctl.ret false))
  else (some (Ctl.next ())))) (x171.Edges.length) 0 ()) (fun r => some r) (fun (_ : Unit) => some true)))

noncomputable def slices_Equal___int_int__p (s12046 : (List Int)) (s22049 : (List Int)) : Option (Bool) :=
  if !decide ((s12046.length : Int) = (s22049.length : Int)) then (some false)
  else (ctl (forC (R := (Bool)) (fun i2316 => fun (_ : Unit) => (idx s12046 (i2316 : Int)).bind fun x2532 =>
  (idx s22049 (i2316 : Int)).bind fun x2540 =>
  if !decide (x2532 = x2540) then (some (Ctl.ret false))
  else (some (Ctl.next ()))) (s12046.length) 0 ()) (fun r => some r) (fun (_ : Unit) => some true))

noncomputable def slices_Clone___int_int__p (s_2645 : (List Int)) : Option ((List Int)) :=
  (app 8 [] s_2645).bind fun l2710 =>
  some l2710

noncomputable def transys_labelled_p (x4808 : System) : Option ((List (List Edge))) :=
  (mk 24 ([] : (List Edge)) (x4808.Costs.length : Int)).bind fun l5267 =>
  (forS (fun i5273 => fun (l5401 : (List (List Edge))) => (idx x4808.Edges (i5273 : Int)).bind fun x5561 =>
  (idx l5401 x5561.Label).bind fun row5647 =>
  (app 24 row5647 [x5561]).bind fun l5661 =>
  (setI l5401 x5561.Label l5661).bind fun l5668 =>
  some l5668) (x4808.Edges.length) 0 l5267).bind (fun (l5401 : (List (List Edge))) => some l5401)

def cmpI (a b : Int) : Int := if a < b then -1 else if b < a then 1 else 0
def cmpE (a b : Edge) : Int := if cmpI a.From b.From ≠ 0 then cmpI a.From b.From else if cmpI a.Label b.Label ≠ 0 then cmpI a.Label b.Label else cmpI a.To b.To
noncomputable def sortEdges_p (xs : List Edge) : Option (List Edge) := if xs.length < 4611686018427387904 then some (xs.mergeSort fun x y => !decide (cmpE y x < 0)) else none

noncomputable def transys_Product_p (a139 : System) (b146 : System) : Option ((Option Int) × System) :=
  ((transys_Valid_p a139).bind <| fun (y8732 : Bool) =>
  if !y8732 then (some true)
  else ((transys_Valid_p b146).bind <| fun (y8743 : Bool) =>
  if !y8743 then (some true)
  else ((slices_Equal___int_int__p a139.Costs b146.Costs).bind <| fun (y8754 : Bool) =>
  some (!y8754)))).bind (fun (z8727 : Bool) => if z8727 then (some (some 2, (⟨0, 0, [], [], []⟩ : System)))
  else (if decide (4096 < (IntKind.i64.wrap (a139.States * b146.States))) then (some (some 5, (⟨0, 0, [], [], []⟩ : System)))
  else ((slices_Clone___int_int__p a139.Costs).bind <| fun (y8799 : (List Int)) =>
  (must (decide (a139.States ≤ 9223372036854775807))).bind fun u8868 =>
  (forS (fun i8870 => fun (z9549 : (List Bool)) => (must (decide (b146.States ≤ 9223372036854775807))).bind fun u10239 =>
  (forS (fun i10241 => fun (l10444 : (List Bool)) => ((idx a139.Goals (i8870 : Int)).bind fun x10808 =>
  if x10808 then ((idx b146.Goals (i10241 : Int)).bind fun x10817 =>
  (app 1 l10444 [x10817]).bind fun l10828 =>
  some l10828)
  else ((app 1 l10444 [false]).bind fun l10847 =>
  some l10847)).bind (fun (l10761 : (List Bool)) => some l10761)) (b146.States.toNat) 0 z9549).bind (fun (l10444 : (List Bool)) => some l10444)) (a139.States.toNat) 0 []).bind (fun (z9549 : (List Bool)) => (transys_labelled_p a139).bind <| fun (y10979 : (List (List Edge))) =>
  (transys_labelled_p b146).bind <| fun (y10988 : (List (List Edge))) =>
  (forS (fun i10995 => fun (many11073 : Int) => (idx y10979 (i10995 : Int)).bind fun x11236 =>
  (idx y10988 (i10995 : Int)).bind fun x11245 =>
  some (IntKind.i64.wrap (many11073 + (IntKind.i64.wrap ((x11236.length : Int) * (x11245.length : Int)))))) (y10979.length) 0 0).bind (fun (many11073 : Int) => if decide (65536 < many11073) then (some (some 5, (⟨0, 0, [], [], []⟩ : System)))
  else ((forS (fun i11288 => fun (z12138 : (List Edge)) => (idx y10979 (i11288 : Int)).bind fun x13019 =>
  (forS (fun i13027 => fun (l13284 : (List Edge)) => (idx x13019 (i13027 : Int)).bind fun x13585 =>
  (idx y10988 (i11288 : Int)).bind fun x13605 =>
  (forS (fun i13613 => fun (l13663 : (List Edge)) => (idx x13605 (i13613 : Int)).bind fun x13762 =>
  (app 24 l13663 [(⟨IntKind.i64.wrap ((IntKind.i64.wrap (x13585.From * b146.States)) + x13762.From), (i11288 : Int), IntKind.i64.wrap ((IntKind.i64.wrap (x13585.To * b146.States)) + x13762.To)⟩ : Edge)]).bind fun l13789 =>
  some l13789) (x13605.length) 0 l13284).bind (fun (l13663 : (List Edge)) => some l13663)) (x13019.length) 0 z12138).bind (fun (l13284 : (List Edge)) => some l13284)) (y10979.length) 0 []).bind (fun (z12138 : (List Edge)) => (sortEdges_p z12138).bind <| fun (l13883 : (List Edge)) =>
  some (none, (⟨IntKind.i64.wrap (a139.States * b146.States), IntKind.i64.wrap ((IntKind.i64.wrap (a139.Init * b146.States)) + b146.Init), y8799, l13883, z9549⟩ : System)))))))))

noncomputable def transys_goals_p (x14016 : System) : Option ((List Int)) :=
  (forS (fun i14289 => fun (out14367 : (List Int)) => (idx x14016.Goals (i14289 : Int)).bind fun x14464 =>
  (if x14464 then ((app 8 out14367 [(i14289 : Int)]).bind fun l14506 =>
  some l14506)
  else (some out14367)).bind (fun (l14489 : (List Int)) => some l14489)) (x14016.Goals.length) 0 []).bind (fun (out14367 : (List Int)) => some out14367)

structure Arc where
  From : Int
  To : Int
  Weight : Int
def encArc : Enc Arc := Enc.iso ((encInt .i64).pair ((encInt .i64).pair (encInt .i64))) (fun b => (b.From, b.To, b.Weight))
theorem encArc_val {s : PHeap} {v : Value} {b : Arc} : encArc.val s v b ↔ v = .agg #[.int .i64 (b.From), .int .i64 (b.To), .int .i64 (b.Weight)] := by
  simp only [Enc.iso, Enc.pair, Enc.val, encArc, encInt, if_true, oneCell]
  constructor
  · rintro ⟨cs, rfl, h⟩
    obtain ⟨cs⟩ := cs
    simp only [] at h
    obtain ⟨_, _, rfl, rfl, ⟨_, _, rfl, rfl, rfl⟩⟩ := h
    rfl
  · rintro rfl
    exact ⟨_, rfl, ⟨[.int .i64 (b.From)], [.int .i64 (b.To), .int .i64 (b.Weight)], rfl, rfl, ⟨[.int .i64 (b.To)], [.int .i64 (b.Weight)], rfl, rfl, rfl⟩⟩⟩

noncomputable def transys_shortest_p (x14550 : System) (from_14557 : (List Int)) (back14560 : Bool) : Option ((List Int)) :=
  (mk 24 ([] : (List Arc)) x14550.States).bind fun l19679 =>
  (forS (fun i19685 => fun (l19909 : (List (List Arc))) => (idx x14550.Edges (i19685 : Int)).bind fun x20168 =>
  (idx x14550.Costs x20168.Label).bind fun x20219 =>
  (if back14560 then (some (x20168.To, x20168.From))
  else (some (x20168.From, x20168.To))).bind (un2 fun (z20240 : Int) (z20241 : Int) => (idx l19909 z20240).bind fun row20350 =>
  (app 24 row20350 [(⟨z20240, z20241, x20219⟩ : Arc)]).bind fun l20364 =>
  (setI l19909 z20240 l20364).bind fun l20371 =>
  some l20371)) (x14550.Edges.length) 0 l19679).bind (fun (l19909 : (List (List Arc))) => (mk 8 0 x14550.States).bind fun l20399 =>
  (forS (fun i20404 => fun (l20426 : (List Int)) => (idx l20426 (i20404 : Int)).bind fun x20479 =>
  (setI l20426 (i20404 : Int) 1125899906842624).bind fun l20484 =>
  some l20484) (l20399.length) 0 l20399).bind (fun (l20426 : (List Int)) => (mk 1 false x14550.States).bind fun l20509 =>
  (slices_Clone___int_int__p from_14557).bind <| fun (y20525 : (List Int)) =>
  (forS (fun i20532 => un2 fun (l20588 : (List Int)) (l20589 : (List Bool)) => (idx from_14557 (i20532 : Int)).bind fun x20679 =>
  (idx l20588 x20679).bind fun x20706 =>
  (setI l20588 x20679 0).bind fun l20711 =>
  (idx l20589 x20679).bind fun x20716 =>
  (setI l20589 x20679 true).bind fun l20721 =>
  some (l20711, l20721)) (from_14557.length) 0 (l20426, l20509)).bind (un2 fun (l20588 : (List Int)) (l20589 : (List Bool)) => ctl (whileC (R := ((List Int))) (un3 fun (l21734 : (List Int)) (l21735 : (List Bool)) (l21736 : (List Int)) => if decide (0 < (l21736.length : Int)) then ((idx l21736 0).bind fun x23761 =>
  (cut l21736 1 (l21736.length : Int)).bind fun c23783 =>
  (idx l21735 x23761).bind fun x23788 =>
  (setI l21735 x23761 false).bind fun l23793 =>
  (idx l19909 x23761).bind fun row23808 =>
  (must (decide (row23808.length ≤ 9223372036854775807))).bind fun u23818 =>
  (forS (fun i23820 => un3 fun (l24110 : (List Int)) (l24111 : (List Bool)) (l24112 : (List Int)) => (idx row23808 (i23820 : Int)).bind fun x24445 =>
  (idx l24110 x23761).bind fun x24503 =>
  (idx l24110 x24445.To).bind fun x24510 =>
  if decide (x24510 ≤ (IntKind.i64.wrap (x24503 + x24445.Weight))) then (some (l24110, l24111, l24112))
  else ((setI l24110 x24445.To (IntKind.i64.wrap (x24503 + x24445.Weight))).bind fun l24559 =>
  (idx l24111 x24445.To).bind fun x24571 =>
  (if !x24571 then ((app 8 l24112 [x24445.To]).bind fun l24683 =>
  (setI l24111 x24445.To true).bind fun l24692 =>
  some (l24692, l24683))
  else (some (l24111, l24112))).bind (un2 fun (l24634 : (List Bool)) (l24635 : (List Int)) => some (l24559, l24634, l24635)))) (row23808.length) 0 (l21734, l23793, c23783)).bind (un3 fun (l24110 : (List Int)) (l24111 : (List Bool)) (l24112 : (List Int)) => some (Ctl.next (l24110, l24111, l24112))))
  else (some (Ctl.brk (l21734, l21735, l21736)))) (l20588, l20589, y20525)) (fun r => some r) (un3 fun (l23723 : (List Int)) (l23724 : (List Bool)) (l23725 : (List Int)) => some l23723))))

noncomputable def transys_Distances_p (x13987 : System) : Option ((List Int) × (Option Int)) :=
  (transys_Valid_p x13987).bind <| fun (y24860 : Bool) =>
  if !y24860 then (some ([], some 2))
  else ((transys_goals_p x13987).bind <| fun (y24929 : (List Int)) =>
  (transys_shortest_p x13987 y24929 true).bind <| fun (y24938 : (List Int)) =>
  some (y24938, none))

noncomputable def base_Ints_p (a24977 : (List Int)) (b24980 : (List Int)) : Option (Bool) :=
  if !decide ((a24977.length : Int) = (b24980.length : Int)) then (some false)
  else (ctl (forC (R := (Bool)) (fun i25247 => fun (_ : Unit) => (idx a24977 (i25247 : Int)).bind fun x25463 =>
  (idx b24980 (i25247 : Int)).bind fun x25471 =>
  if !decide (x25463 = x25471) then (some (Ctl.ret false))
  else (some (Ctl.next ()))) (a24977.length) 0 ()) (fun r => some r) (fun (_ : Unit) => some true))

noncomputable def law44_awake_p  : Option (Bool) :=
  (transys_Product_p law44_example_t law44_example_t).bind <| un2 fun (y25610 : (Option Int)) (y25611 : System) =>
  if (y25610.isSome || ((!decide (y25611.States = 4)) || !decide ((y25611.Edges.length : Int) = 2))) then (some false)
  else ((transys_Distances_p y25611).bind <| un2 fun (y25656 : (List Int)) (y25657 : (Option Int)) =>
  (if y25657.isNone then ((base_Ints_p y25656 [2, 1125899906842624, 1125899906842624, 0]).bind <| fun (y25694 : Bool) =>
  some y25694)
  else (some false)).bind (fun (z25680 : Bool) => some z25680))

noncomputable def ref44_Before_p (a25948 : Edge) (b25949 : Edge) : Option (Bool) :=
  if !decide (a25948.From = b25949.From) then (some (decide (a25948.From < b25949.From)))
  else (if !decide (a25948.Label = b25949.Label) then (some (decide (a25948.Label < b25949.Label)))
  else (some (decide (a25948.To < b25949.To))))
def ref44_Before_t (a25948 : Edge) (b25949 : Edge) : Bool :=
  if !decide (a25948.From = b25949.From) then ((decide (a25948.From < b25949.From)))
  else (if !decide (a25948.Label = b25949.Label) then ((decide (a25948.Label < b25949.Label)))
  else ((decide (a25948.To < b25949.To))))
theorem ref44_Before_tot (a25948 : Edge) (b25949 : Edge) : ref44_Before_p a25948 b25949 = some (ref44_Before_t a25948 b25949) := by
  unfold ref44_Before_p ref44_Before_t
  (repeat' split) <;> rfl
attribute [irreducible] ref44_Before_t

noncomputable def ref44_Valid_p (x25734 : System) : Option (Bool) :=
  if ((decide (x25734.States < 1)) || ((decide (4096 < x25734.States)) || ((decide (x25734.Init < 0)) || ((decide (x25734.States ≤ x25734.Init)) || ((!decide ((x25734.Goals.length : Int) = x25734.States)) || ((decide (4096 < (x25734.Costs.length : Int))) || decide (65536 < (x25734.Edges.length : Int)))))))) then (some false)
  else (ctl (forC (R := (Bool)) (fun i26440 => fun (_ : Unit) => (idx x25734.Costs (i26440 : Int)).bind fun x26531 =>
  if ((decide (x26531 < 0)) || decide (1048576 < x26531)) then (some (Ctl.ret false))
  else (some (Ctl.next ()))) (x25734.Costs.length) 0 ()) (fun r => some r) (fun (_ : Unit) => ctl (forC (R := (Bool)) (fun i26581 => fun (_ : Unit) => (idx x25734.Edges (i26581 : Int)).bind fun x26889 =>
  (if decide (x26889.From < 0) then (some true)
  else (if decide (x25734.States ≤ x26889.From) then (some true)
  else (if decide (x26889.To < 0) then (some true)
  else (if decide (x25734.States ≤ x26889.To) then (some true)
  else (if decide (x26889.Label < 0) then (some true)
  else (if decide ((x25734.Costs.length : Int) ≤ x26889.Label) then (some true)
  else (if decide (0 < (i26581 : Int)) then ((idx x25734.Edges (IntKind.i64.wrap ((i26581 : Int) - 1))).bind fun x26984 =>
  some (!(ref44_Before_t x26984 x26889)))
  else (some false)))))))).bind (fun (z26941 : Bool) => if z26941 then (some (Ctl.ret false))
  else (some (Ctl.next ())))) (x25734.Edges.length) 0 ()) (fun r => some r) (fun (_ : Unit) => some true)))

noncomputable def law44_large_p (x25720 : System) : Option (Bool) :=
  (if decide (40 < x25720.States) then ((ref44_Valid_p x25720).bind <| fun (y27120 : Bool) =>
  if y27120 then (some true)
  else (if decide (5000 < (x25720.Goals.length : Int)) then (some true)
  else (if decide (150 < (x25720.Edges.length : Int)) then (some true)
  else (some (decide (40 < (x25720.Costs.length : Int)))))))
  else (if decide (5000 < (x25720.Goals.length : Int)) then (some true)
  else (if decide (150 < (x25720.Edges.length : Int)) then (some true)
  else (some (decide (40 < (x25720.Costs.length : Int))))))).bind (fun (z27114 : Bool) => some z27114)

noncomputable def transys_Costs_p (x27436 : System) : Option ((List Int) × (Option Int)) :=
  (transys_Valid_p x27436).bind <| fun (y27518 : Bool) =>
  if !y27518 then (some ([], some 2))
  else ((transys_shortest_p x27436 [x27436.Init] false).bind <| fun (y27554 : (List Int)) =>
  some (y27554, none))

noncomputable def transys_Trim_p (x27584 : System) : Option ((List Int) × (Option Int) × System) :=
  (transys_Valid_p x27584).bind <| fun (y29996 : Bool) =>
  if !y29996 then (some ([], some 2, (⟨0, 0, [], [], []⟩ : System)))
  else ((transys_shortest_p x27584 [x27584.Init] false).bind <| fun (y30129 : (List Int)) =>
  (transys_goals_p x27584).bind <| fun (y30138 : (List Int)) =>
  (transys_shortest_p x27584 y30138 true).bind <| fun (y30147 : (List Int)) =>
  (slices_Clone___int_int__p x27584.Costs).bind <| fun (y30169 : (List Int)) =>
  (mk 8 0 x27584.States).bind fun l30185 =>
  (forS (fun i30190 => un3 fun (z30541 : Int) (z30542 : (List Bool)) (l30544 : (List Int)) => (idx l30544 (i30190 : Int)).bind fun x30924 =>
  (setI l30544 (i30190 : Int) (-1)).bind fun l30929 =>
  (if decide ((i30190 : Int) = x27584.Init) then (some true)
  else ((idx y30129 (i30190 : Int)).bind fun x30961 =>
  if decide (x30961 < 1125899906842624) then ((idx y30147 (i30190 : Int)).bind fun x30969 =>
  some (decide (x30969 < 1125899906842624)))
  else (some false))).bind (fun (z30950 : Bool) => (if z30950 then ((idx l30929 (i30190 : Int)).bind fun x31128 =>
  (setI l30929 (i30190 : Int) z30541).bind fun l31133 =>
  (idx x27584.Goals (i30190 : Int)).bind fun x31202 =>
  (app 1 z30542 [x31202]).bind fun l31213 =>
  some (IntKind.i64.wrap (z30541 + 1), l31133, l31213))
  else (some (z30541, l30929, z30542))).bind (un3 fun (z31110 : Int) (l31111 : (List Int)) (l31112 : (List Bool)) => some (z31110, l31112, l31111)))) (l30185.length) 0 (0, [], l30185)).bind (un3 fun (z30541 : Int) (z30542 : (List Bool)) (l30544 : (List Int)) => (idx l30544 x27584.Init).bind fun x31281 =>
  (forS (fun i31291 => fun (z31632 : (List Edge)) => (idx x27584.Edges (i31291 : Int)).bind fun x31999 =>
  ((idx l30544 x31999.From).bind fun x32029 =>
  if decide (0 ≤ x32029) then ((idx l30544 x31999.To).bind fun x32037 =>
  some (decide (0 ≤ x32037)))
  else (some false)).bind (fun (z32026 : Bool) => (if z32026 then ((idx l30544 x31999.From).bind fun x32257 =>
  (idx l30544 x31999.To).bind fun x32264 =>
  (app 24 z31632 [(⟨x32257, x31999.Label, x32264⟩ : Edge)]).bind fun l32274 =>
  some l32274)
  else (some z31632)).bind (fun (l32176 : (List Edge)) => some l32176))) (x27584.Edges.length) 0 []).bind (fun (z31632 : (List Edge)) => some (l30544, none, (⟨z30541, x31281, y30169, z31632, z30542⟩ : System)))))

noncomputable def base_Num_p (e32437 : (Option Int)) : Option (Int) :=
  if e32437.isNone then (some 0)
  else (if e32437.isSome then (some (e32437.getD 0))
  else (some (-1)))
def base_Num_t (e32437 : (Option Int)) : Int :=
  if e32437.isNone then (0)
  else (if e32437.isSome then ((e32437.getD 0))
  else ((-1)))
theorem base_Num_tot (e32437 : (Option Int)) : base_Num_p e32437 = some (base_Num_t e32437) := by
  unfold base_Num_p base_Num_t
  (repeat' split) <;> rfl
attribute [irreducible] base_Num_t

noncomputable def base_Is_p (e32434 : (Option Int)) (code32435 : Int) : Option (Bool) :=
  some (e32434.isSome && decide ((base_Num_t e32434) = code32435))
def base_Is_t (e32434 : (Option Int)) (code32435 : Int) : Bool :=
  (e32434.isSome && decide ((base_Num_t e32434) = code32435))
theorem base_Is_tot (e32434 : (Option Int)) (code32435 : Int) : base_Is_p e32434 code32435 = some (base_Is_t e32434 code32435) := by
  unfold base_Is_p base_Is_t
  (repeat' split) <;> rfl
attribute [irreducible] base_Is_t

noncomputable def api_Edge__f39_p (x33076 : (List Edge)) (target33079 : Edge) : Option (Int × Bool) :=
  ctl (whileC (R := (Int × Bool)) (un2 fun (i33656 : Int) (j33657 : Int) => if decide (i33656 < j33657) then ((idx x33076 (IntKind.i64.wrap ((IntKind.u64.wrap (IntKind.i64.wrap (i33656 + j33657))).fdiv (2 ^ 1)))).bind fun x33909 =>
  (transys_compare_p x33909 target33079).bind <| fun (y33919 : Int) =>
  (if decide (y33919 < 0) then (some (IntKind.i64.wrap ((IntKind.i64.wrap ((IntKind.u64.wrap (IntKind.i64.wrap (i33656 + j33657))).fdiv (2 ^ 1))) + 1), j33657))
  else (some (i33656, IntKind.i64.wrap ((IntKind.u64.wrap (IntKind.i64.wrap (i33656 + j33657))).fdiv (2 ^ 1))))).bind (un2 fun (i33924 : Int) (j33925 : Int) => some (Ctl.next (i33924, j33925))))
  else (some (Ctl.brk (i33656, j33657)))) (0, (x33076.length : Int))) (fun r => some r) (un2 fun (i33833 : Int) (j33834 : Int) => (if decide (i33833 < (x33076.length : Int)) then ((idx x33076 i33833).bind fun x34016 =>
  (transys_compare_p x34016 target33079).bind <| fun (y34026 : Int) =>
  some (decide (y34026 = 0)))
  else (some false)).bind (fun (z33994 : Bool) => some (i33833, z33994)))

noncomputable def transys_Simulates_p (a32604 : System) (b32611 : System) (to32618 : (List Int)) : Option (Bool) :=
  ((transys_Valid_p a32604).bind <| fun (y34476 : Bool) =>
  if !y34476 then (some true)
  else ((transys_Valid_p b32611).bind <| fun (y34486 : Bool) =>
  if !y34486 then (some true)
  else ((slices_Equal___int_int__p a32604.Costs b32611.Costs).bind <| fun (y34496 : Bool) =>
  if !y34496 then (some true)
  else (some (!decide ((to32618.length : Int) = a32604.States)))))).bind (fun (z34471 : Bool) => if z34471 then (some false)
  else (ctl (forC (R := (Bool)) (fun i34521 => fun (_ : Unit) => (idx to32618 (i34521 : Int)).bind fun x34712 =>
  (if decide (x34712 < 0) then (some true)
  else (if decide (b32611.States ≤ x34712) then (some true)
  else ((idx a32604.Goals (i34521 : Int)).bind fun x34747 =>
  if x34747 then ((idx b32611.Goals x34712).bind fun x34755 =>
  some (!x34755))
  else (some false)))).bind (fun (z34736 : Bool) => if z34736 then (some (Ctl.ret false))
  else (some (Ctl.next ())))) (to32618.length) 0 ()) (fun r => some r) (fun (_ : Unit) => (idx to32618 a32604.Init).bind fun x34847 =>
  if !decide (x34847 = b32611.Init) then (some false)
  else (ctl (forC (R := (Bool)) (fun i34860 => fun (_ : Unit) => (idx a32604.Edges (i34860 : Int)).bind fun x35150 =>
  (idx to32618 x35150.From).bind fun x35238 =>
  (idx to32618 x35150.To).bind fun x35246 =>
  (api_Edge__f39_p b32611.Edges (⟨x35238, x35150.Label, x35246⟩ : Edge)).bind <| un2 fun (y35256 : Int) (y35257 : Bool) =>
  if !y35257 then (some (Ctl.ret false))
  else (some (Ctl.next ()))) (a32604.Edges.length) 0 ()) (fun r => some r) (fun (_ : Unit) => some true)))))

noncomputable def law44_TransysForms_p (x1 : System) : Option (Bool) :=
  ((law44_awake_p).bind <| fun (y35512 : Bool) =>
  if !y35512 then (some true)
  else ((law44_large_p x1).bind <| fun (y35521 : Bool) =>
  some y35521)).bind (fun (z35507 : Bool) => if z35507 then ((law44_awake_p).bind <| fun (y35545 : Bool) =>
  some y35545)
  else ((ref44_Valid_p x1).bind <| fun (y35562 : Bool) =>
  (transys_Valid_p x1).bind <| fun (y35576 : Bool) =>
  if !(y35576 == y35562) then (some false)
  else (if y35562 then (some true)
  else ((transys_Product_p x1 law44_example_t).bind <| un2 fun (y35602 : (Option Int)) (y35603 : System) =>
  (transys_Product_p law44_example_t x1).bind <| un2 fun (y35762 : (Option Int)) (y35763 : System) =>
  (transys_Distances_p x1).bind <| un2 fun (y35922 : (List Int)) (y35923 : (Option Int)) =>
  (transys_Costs_p x1).bind <| un2 fun (y35942 : (List Int)) (y35943 : (Option Int)) =>
  (transys_Trim_p x1).bind <| un3 fun (y35974 : (List Int)) (y35975 : (Option Int)) (y35976 : System) =>
  ctl (forC (R := (Bool)) (fun i36010 => fun (_ : Unit) => (idx [y35602, y35762, y35923, y35943, y35975] (i36010 : Int)).bind fun x36090 =>
  if !(base_Is_t x36090 2) then (some (Ctl.ret false))
  else (some (Ctl.next ()))) ([y35602, y35762, y35923, y35943, y35975].length) 0 ()) (fun r => some r) (fun (_ : Unit) => ((transys_Simulates_p x1 x1 [0]).bind <| fun (y36257 : Bool) =>
  if !y36257 then ((transys_Simulates_p law44_example_t x1 [0, 0]).bind <| fun (y36283 : Bool) =>
  some (!y36283))
  else (some false)).bind (fun (z36243 : Bool) => some z36243))))))

end Go.Pw
