/-
  What the functions compute, in plain Lean (printed by my generator).
-/
import Derived.Test.YtdhfofhginfdnaaL6
import Derived.Test.YtdhfofhginfdnaaL11
set_option maxRecDepth 100000
set_option maxHeartbeats 4000000
set_option linter.unusedVariables false
namespace Go.Pw
structure Edge where
  From : Int
  Label : Int
  To : Int
def encEdge : Enc Edge := Enc.iso ((encInt .i64).pair ((encInt .i64).pair (encInt .i64))) (fun b => (b.From, b.Label, b.To))
theorem encEdge_val {s : PHeap} {v : Value} {b : Edge} : encEdge.val s v b ↔ v = .agg #[.int .i64 (b.From), .int .i64 (b.Label), .int .i64 (b.To)] := by
  simp only [Enc.iso, Enc.pair, Enc.val, encEdge, encInt, if_true, oneCell]
  constructor
  · rintro ⟨cs, rfl, h⟩
    obtain ⟨cs⟩ := cs
    simp only [] at h
    obtain ⟨_, _, rfl, rfl, ⟨_, _, rfl, rfl, rfl⟩⟩ := h
    rfl
  · rintro rfl
    exact ⟨_, rfl, ⟨[.int .i64 (b.From)], [.int .i64 (b.Label), .int .i64 (b.To)], rfl, rfl, ⟨[.int .i64 (b.Label)], [.int .i64 (b.To)], rfl, rfl, rfl⟩⟩⟩

structure System where
  States : Int
  Init : Int
  Costs : (List Int)
  Edges : (List Edge)
  Goals : (List Bool)
def encSystem : Enc System := Enc.iso ((encInt .i64).pair ((encInt .i64).pair ((encSlice (encInt .i64)).pair ((encSlice encEdge).pair (encSlice encBool))))) (fun b => (b.States, b.Init, b.Costs, b.Edges, b.Goals))
theorem encSystem_val {s : PHeap} {v : Value} {b : System} : encSystem.val s v b ↔ ∃ u1, ∃ u2, ∃ u3, v = .agg #[.int .i64 (b.States), .int .i64 (b.Init), u1, u2, u3] ∧ SliceRep (encInt .i64) s u1 (b.Costs) ∧ SliceRep encEdge s u2 (b.Edges) ∧ SliceRep encBool s u3 (b.Goals) := by
  simp only [Enc.iso, Enc.pair, Enc.val, encInt, encSlice, encSystem, if_true, oneCell]
  constructor
  · rintro ⟨cs, rfl, h⟩
    obtain ⟨cs⟩ := cs
    simp only [] at h
    obtain ⟨_, _, rfl, rfl, ⟨_, _, rfl, rfl, ⟨_, _, rfl, ⟨w1, rfl, h1⟩, ⟨_, _, rfl, ⟨w2, rfl, h2⟩, ⟨w3, rfl, h3⟩⟩⟩⟩⟩ := h
    exact ⟨w1, w2, w3, rfl, h1, h2, h3⟩
  · rintro ⟨w1, w2, w3, rfl, h1, h2, h3⟩
    exact ⟨_, rfl, ⟨[.int .i64 (b.States)], [.int .i64 (b.Init), w1, w2, w3], rfl, rfl, ⟨[.int .i64 (b.Init)], [w1, w2, w3], rfl, rfl, ⟨[w1], [w2, w3], rfl, ⟨w1, rfl, h1⟩, ⟨[w2], [w3], rfl, ⟨w2, rfl, h2⟩, ⟨w3, rfl, h3⟩⟩⟩⟩⟩⟩

noncomputable def law44_example_p  : Option (System) :=
  some (⟨2, 0, [2, 0], [(⟨0, 0, 1⟩ : Edge), (⟨1, 1, 1⟩ : Edge)], [false, true]⟩ : System)
def law44_example_t  : System :=
  (⟨2, 0, [2, 0], [(⟨0, 0, 1⟩ : Edge), (⟨1, 1, 1⟩ : Edge)], [false, true]⟩ : System)
theorem law44_example_tot  : law44_example_p  = some (law44_example_t ) := by
  unfold law44_example_p law44_example_t
  (repeat' split) <;> rfl
attribute [irreducible] law44_example_t

noncomputable def cmp_isNaN_int__p (x402 : Int) : Option (Bool) :=
  some (!decide (x402 = x402))
def cmp_isNaN_int__t (x402 : Int) : Bool :=
  (!decide (x402 = x402))
theorem cmp_isNaN_int__tot (x402 : Int) : cmp_isNaN_int__p x402 = some (cmp_isNaN_int__t x402) := by
  unfold cmp_isNaN_int__p cmp_isNaN_int__t
  (repeat' split) <;> rfl
attribute [irreducible] cmp_isNaN_int__t

noncomputable def cmp_Compare_int__p (x400 : Int) (y401 : Int) : Option (Int) :=
  if (cmp_isNaN_int__t x400) then (if (cmp_isNaN_int__t y401) then (some 0)
  else (some (-1)))
  else (if (cmp_isNaN_int__t y401) then (some 1)
  else (if decide (x400 < y401) then (some (-1))
  else (if decide (y401 < x400) then (some 1)
  else (some 0))))
def cmp_Compare_int__t (x400 : Int) (y401 : Int) : Int :=
  if (cmp_isNaN_int__t x400) then (if (cmp_isNaN_int__t y401) then (0)
  else ((-1)))
  else (if (cmp_isNaN_int__t y401) then (1)
  else (if decide (x400 < y401) then ((-1))
  else (if decide (y401 < x400) then (1)
  else (0))))
theorem cmp_Compare_int__tot (x400 : Int) (y401 : Int) : cmp_Compare_int__p x400 y401 = some (cmp_Compare_int__t x400 y401) := by
  unfold cmp_Compare_int__p cmp_Compare_int__t
  (repeat' split) <;> rfl
attribute [irreducible] cmp_Compare_int__t

noncomputable def cmp_Or_int__p (vals485 : (List Int)) : Option (Int) :=
  ctl (forC (R := (Int)) (fun i586 => fun (_ : Unit) => (idx vals485 (i586 : Int)).bind fun x649 =>
  if !decide (x649 = 0) then (some (Ctl.ret x649))
  else (some (Ctl.next ()))) (vals485.length) 0 ()) (fun r => some r) (fun (_ : Unit) => some 0)

noncomputable def transys_compare_p (a385 : Edge) (b386 : Edge) : Option (Int) :=
  (cmp_Or_int__p [(cmp_Compare_int__t a385.From b386.From), (cmp_Compare_int__t a385.Label b386.Label), (cmp_Compare_int__t a385.To b386.To)]).bind <| fun (y899 : Int) =>
  some y899

noncomputable def transys_Valid_p (x171 : System) : Option (Bool) :=
  if ((decide (x171.States < 1)) || ((decide (4096 < x171.States)) || ((decide (x171.Init < 0)) || ((decide (x171.States ≤ x171.Init)) || ((!decide ((x171.Goals.length : Int) = x171.States)) || ((decide (4096 < (x171.Costs.length : Int))) || decide (65536 < (x171.Edges.length : Int)))))))) then (some false)
  else (ctl (forC (R := (Bool)) (fun i1391 => fun (_ : Unit) => (idx x171.Costs (i1391 : Int)).bind fun x1482 =>
  if ((decide (x1482 < 0)) || decide (1048576 < x1482)) then (some (Ctl.ret false))
  else (some (Ctl.next ()))) (x171.Costs.length) 0 ()) (fun r => some r) (fun (_ : Unit) => ctl (forC (R := (Bool)) (fun i1532 => fun (_ : Unit) => (idx x171.Edges (i1532 : Int)).bind fun x1864 =>
  (if decide (x1864.From < 0) then (some true)
  else (if decide (x171.States ≤ x1864.From) then (some true)
  else (if decide (x1864.To < 0) then (some true)
  else (if decide (x171.States ≤ x1864.To) then (some true)
  else (if decide (x1864.Label < 0) then (some true)
  else (if decide ((x171.Costs.length : Int) ≤ x1864.Label) then (some true)
  else (if decide (0 < (i1532 : Int)) then ((idx x171.Edges (IntKind.i64.wrap ((i1532 : Int) - 1))).bind fun x1968 =>
  (transys_compare_p x1968 x1864).bind <| fun (y1978 : Int) =>
  some (decide (0 ≤ y1978)))
  else (some false)))))))).bind (fun (z1922 : Bool) => if z1922 then (some (Ctl.ret false))
  else (some (Ctl.next ())))) (x171.Edges.length) 0 ()) (fun r => some r) (fun (_ : Unit) => some true)))

noncomputable def slices_Equal___int_int__p (s12046 : (List Int)) (s22049 : (List Int)) : Option (Bool) :=
  if !decide ((s12046.length : Int) = (s22049.length : Int)) then (some false)
  else (ctl (forC (R := (Bool)) (fun i2316 => fun (_ : Unit) => (idx s12046 (i2316 : Int)).bind fun x2532 =>
  (idx s22049 (i2316 : Int)).bind fun x2540 =>
  if !decide (x2532 = x2540) then (some (Ctl.ret false))
  else (some (Ctl.next ()))) (s12046.length) 0 ()) (fun r => some r) (fun (_ : Unit) => some true))

noncomputable def slices_Clone___int_int__p (s_2645 : (List Int)) : Option ((List Int)) :=
  (app 8 [] s_2645).bind fun l2710 =>
  some l2710

noncomputable def transys_labelled_p (x4808 : System) : Option ((List (List Edge))) :=
  (mk 24 ([] : (List Edge)) (x4808.Costs.length : Int)).bind fun l5267 =>
  (forS (fun i5273 => fun (l5401 : (List (List Edge))) => (idx x4808.Edges (i5273 : Int)).bind fun x5561 =>
  (idx l5401 x5561.Label).bind fun row5647 =>
  (app 24 row5647 [x5561]).bind fun l5661 =>
  (setI l5401 x5561.Label l5661).bind fun l5668 =>
  some l5668) (x4808.Edges.length) 0 l5267).bind (fun (l5401 : (List (List Edge))) => some l5401)

def cmpI (a b : Int) : Int := if a < b then -1 else if b < a then 1 else 0
def cmpE (a b : Edge) : Int := if cmpI a.From b.From ≠ 0 then cmpI a.From b.From else if cmpI a.Label b.Label ≠ 0 then cmpI a.Label b.Label else cmpI a.To b.To
noncomputable def sortEdges_p (xs : List Edge) : Option (List Edge) := if xs.length < 4611686018427387904 then some (xs.mergeSort fun x y => !decide (cmpE y x < 0)) else none

noncomputable def transys_Product_p (a139 : System) (b146 : System) : Option ((Option Int) × System) :=
  ((transys_Valid_p a139).bind <| fun (y8732 : Bool) =>
  if !y8732 then (some true)
  else ((transys_Valid_p b146).bind <| fun (y8743 : Bool) =>
  if !y8743 then (some true)
  else ((slices_Equal___int_int__p a139.Costs b146.Costs).bind <| fun (y8754 : Bool) =>
  some (!y8754)))).bind (fun (z8727 : Bool) => if z8727 then (some (some 2, (⟨0, 0, [], [], []⟩ : System)))
  else (if decide (4096 < (IntKind.i64.wrap (a139.States * b146.States))) then (some (some 5, (⟨0, 0, [], [], []⟩ : System)))
  else ((slices_Clone___int_int__p a139.Costs).bind <| fun (y8799 : (List Int)) =>
  (must (decide (a139.States ≤ 9223372036854775807))).bind fun u8868 =>
  (forS (fun i8870 => fun (z9549 : (List Bool)) => (must (decide (b146.States ≤ 9223372036854775807))).bind fun u10239 =>
  (forS (fun i10241 => fun (l10444 : (List Bool)) => ((idx a139.Goals (i8870 : Int)).bind fun x10808 =>
  if x10808 then ((idx b146.Goals (i10241 : Int)).bind fun x10817 =>
  (app 1 l10444 [x10817]).bind fun l10828 =>
  some l10828)
  else ((app 1 l10444 [false]).bind fun l10847 =>
  some l10847)).bind (fun (l10761 : (List Bool)) => some l10761)) (b146.States.toNat) 0 z9549).bind (fun (l10444 : (List Bool)) => some l10444)) (a139.States.toNat) 0 []).bind (fun (z9549 : (List Bool)) => (transys_labelled_p a139).bind <| fun (y10979 : (List (List Edge))) =>
  (transys_labelled_p b146).bind <| fun (y10988 : (List (List Edge))) =>
  (forS (fun i10995 => fun (many11073 : Int) => (idx y10979 (i10995 : Int)).bind fun x11236 =>
  (idx y10988 (i10995 : Int)).bind fun x11245 =>
  some (IntKind.i64.wrap (many11073 + (IntKind.i64.wrap ((x11236.length : Int) * (x11245.length : Int)))))) (y10979.length) 0 0).bind (fun (many11073 : Int) => if decide (65536 < many11073) then (some (some 5, (⟨0, 0, [], [], []⟩ : System)))
  else ((forS (fun i11288 => fun (z12138 : (List Edge)) => (idx y10979 (i11288 : Int)).bind fun x13019 =>
  (forS (fun i13027 => fun (l13284 : (List Edge)) => (idx x13019 (i13027 : Int)).bind fun x13585 =>
  (idx y10988 (i11288 : Int)).bind fun x13605 =>
  (forS (fun i13613 => fun (l13663 : (List Edge)) => (idx x13605 (i13613 : Int)).bind fun x13762 =>
  (app 24 l13663 [(⟨IntKind.i64.wrap ((IntKind.i64.wrap (x13585.From * b146.States)) + x13762.From), (i11288 : Int), IntKind.i64.wrap ((IntKind.i64.wrap (x13585.To * b146.States)) + x13762.To)⟩ : Edge)]).bind fun l13789 =>
  some l13789) (x13605.length) 0 l13284).bind (fun (l13663 : (List Edge)) => some l13663)) (x13019.length) 0 z12138).bind (fun (l13284 : (List Edge)) => some l13284)) (y10979.length) 0 []).bind (fun (z12138 : (List Edge)) => (sortEdges_p z12138).bind <| fun (l13883 : (List Edge)) =>
  some (none, (⟨IntKind.i64.wrap (a139.States * b146.States), IntKind.i64.wrap ((IntKind.i64.wrap (a139.Init * b146.States)) + b146.Init), y8799, l13883, z9549⟩ : System)))))))))

noncomputable def transys_goals_p (x14016 : System) : Option ((List Int)) :=
  (forS (fun i14289 => fun (out14367 : (List Int)) => (idx x14016.Goals (i14289 : Int)).bind fun x14464 =>
  (if x14464 then ((app 8 out14367 [(i14289 : Int)]).bind fun l14506 =>
  some l14506)
  else (some out14367)).bind (fun (l14489 : (List Int)) => some l14489)) (x14016.Goals.length) 0 []).bind (fun (out14367 : (List Int)) => some out14367)

structure Arc where
  From : Int
  To : Int
  Weight : Int
def encArc : Enc Arc := Enc.iso ((encInt .i64).pair ((encInt .i64).pair (encInt .i64))) (fun b => (b.From, b.To, b.Weight))
theorem encArc_val {s : PHeap} {v : Value} {b : Arc} : encArc.val s v b ↔ v = .agg #[.int .i64 (b.From), .int .i64 (b.To), .int .i64 (b.Weight)] := by
  simp only [Enc.iso, Enc.pair, Enc.val, encArc, encInt, if_true, oneCell]
  constructor
  · rintro ⟨cs, rfl, h⟩
    obtain ⟨cs⟩ := cs
    simp only [] at h
    obtain ⟨_, _, rfl, rfl, ⟨_, _, rfl, rfl, rfl⟩⟩ := h
    rfl
  · rintro rfl
    exact ⟨_, rfl, ⟨[.int .i64 (b.From)], [.int .i64 (b.To), .int .i64 (b.Weight)], rfl, rfl, ⟨[.int .i64 (b.To)], [.int .i64 (b.Weight)], rfl, rfl, rfl⟩⟩⟩

noncomputable def transys_shortest_p (x14550 : System) (from_14557 : (List Int)) (back14560 : Bool) : Option ((List Int)) :=
  (mk 24 ([] : (List Arc)) x14550.States).bind fun l19679 =>
  (forS (fun i19685 => fun (l19909 : (List (List Arc))) => (idx x14550.Edges (i19685 : Int)).bind fun x20168 =>
  (idx x14550.Costs x20168.Label).bind fun x20219 =>
  (if back14560 then (some (x20168.To, x20168.From))
  else (some (x20168.From, x20168.To))).bind (un2 fun (z20240 : Int) (z20241 : Int) => (idx l19909 z20240).bind fun row20350 =>
  (app 24 row20350 [(⟨z20240, z20241, x20219⟩ : Arc)]).bind fun l20364 =>
  (setI l19909 z20240 l20364).bind fun l20371 =>
  some l20371)) (x14550.Edges.length) 0 l19679).bind (fun (l19909 : (List (List Arc))) => (mk 8 0 x14550.States).bind fun l20399 =>
  (forS (fun i20404 => fun (l20426 : (List Int)) => (idx l20426 (i20404 : Int)).bind fun x20479 =>
  (setI l20426 (i20404 : Int) 1125899906842624).bind fun l20484 =>
  some l20484) (l20399.length) 0 l20399).bind (fun (l20426 : (List Int)) => (mk 1 false x14550.States).bind fun l20509 =>
  (slices_Clone___int_int__p from_14557).bind <| fun (y20525 : (List Int)) =>
  (forS (fun i20532 => un2 fun (l20588 : (List Int)) (l20589 : (List Bool)) => (idx from_14557 (i20532 : Int)).bind fun x20679 =>
  (idx l20588 x20679).bind fun x20706 =>
  (setI l20588 x20679 0).bind fun l20711 =>
  (idx l20589 x20679).bind fun x20716 =>
  (setI l20589 x20679 true).bind fun l20721 =>
  some (l20711, l20721)) (from_14557.length) 0 (l20426, l20509)).bind (un2 fun (l20588 : (List Int)) (l20589 : (List Bool)) => ctl (whileC (R := ((List Int))) (un3 fun (l21734 : (List Int)) (l21735 : (List Bool)) (l21736 : (List Int)) => if decide (0 < (l21736.length : Int)) then ((idx l21736 0).bind fun x23761 =>
  (cut l21736 1 (l21736.length : Int)).bind fun c23783 =>
  (idx l21735 x23761).bind fun x23788 =>
  (setI l21735 x23761 false).bind fun l23793 =>
  (idx l19909 x23761).bind fun row23808 =>
  (must (decide (row23808.length ≤ 9223372036854775807))).bind fun u23818 =>
  (forS (fun i23820 => un3 fun (l24110 : (List Int)) (l24111 : (List Bool)) (l24112 : (List Int)) => (idx row23808 (i23820 : Int)).bind fun x24445 =>
  (idx l24110 x23761).bind fun x24503 =>
  (idx l24110 x24445.To).bind fun x24510 =>
  if decide (x24510 ≤ (IntKind.i64.wrap (x24503 + x24445.Weight))) then (some (l24110, l24111, l24112))
  else ((setI l24110 x24445.To (IntKind.i64.wrap (x24503 + x24445.Weight))).bind fun l24559 =>
  (idx l24111 x24445.To).bind fun x24571 =>
  (if !x24571 then ((app 8 l24112 [x24445.To]).bind fun l24683 =>
  (setI l24111 x24445.To true).bind fun l24692 =>
  some (l24692, l24683))
  else (some (l24111, l24112))).bind (un2 fun (l24634 : (List Bool)) (l24635 : (List Int)) => some (l24559, l24634, l24635)))) (row23808.length) 0 (l21734, l23793, c23783)).bind (un3 fun (l24110 : (List Int)) (l24111 : (List Bool)) (l24112 : (List Int)) => some (Ctl.next (l24110, l24111, l24112))))
  else (some (Ctl.brk (l21734, l21735, l21736)))) (l20588, l20589, y20525)) (fun r => some r) (un3 fun (l23723 : (List Int)) (l23724 : (List Bool)) (l23725 : (List Int)) => some l23723))))

noncomputable def transys_Distances_p (x13987 : System) : Option ((List Int) × (Option Int)) :=
  (transys_Valid_p x13987).bind <| fun (y24860 : Bool) =>
  if !y24860 then (some ([], some 2))
  else ((transys_goals_p x13987).bind <| fun (y24929 : (List Int)) =>
  (transys_shortest_p x13987 y24929 true).bind <| fun (y24938 : (List Int)) =>
  some (y24938, none))

noncomputable def base_Ints_p (a24977 : (List Int)) (b24980 : (List Int)) : Option (Bool) :=
  if !decide ((a24977.length : Int) = (b24980.length : Int)) then (some false)
  else (ctl (forC (R := (Bool)) (fun i25247 => fun (_ : Unit) => (idx a24977 (i25247 : Int)).bind fun x25463 =>
  (idx b24980 (i25247 : Int)).bind fun x25471 =>
  if !decide (x25463 = x25471) then (some (Ctl.ret false))
  else (some (Ctl.next ()))) (a24977.length) 0 ()) (fun r => some r) (fun (_ : Unit) => some true))

noncomputable def law44_awake_p  : Option (Bool) :=
  (transys_Product_p law44_example_t law44_example_t).bind <| un2 fun (y25610 : (Option Int)) (y25611 : System) =>
  if (y25610.isSome || ((!decide (y25611.States = 4)) || !decide ((y25611.Edges.length : Int) = 2))) then (some false)
  else ((transys_Distances_p y25611).bind <| un2 fun (y25656 : (List Int)) (y25657 : (Option Int)) =>
  (if y25657.isNone then ((base_Ints_p y25656 [2, 1125899906842624, 1125899906842624, 0]).bind <| fun (y25694 : Bool) =>
  some y25694)
  else (some false)).bind (fun (z25680 : Bool) => some z25680))

noncomputable def ref44_Before_p (a25948 : Edge) (b25949 : Edge) : Option (Bool) :=
  if !decide (a25948.From = b25949.From) then (some (decide (a25948.From < b25949.From)))
  else (if !decide (a25948.Label = b25949.Label) then (some (decide (a25948.Label < b25949.Label)))
  else (some (decide (a25948.To < b25949.To))))
def ref44_Before_t (a25948 : Edge) (b25949 : Edge) : Bool :=
  if !decide (a25948.From = b25949.From) then ((decide (a25948.From < b25949.From)))
  else (if !decide (a25948.Label = b25949.Label) then ((decide (a25948.Label < b25949.Label)))
  else ((decide (a25948.To < b25949.To))))
theorem ref44_Before_tot (a25948 : Edge) (b25949 : Edge) : ref44_Before_p a25948 b25949 = some (ref44_Before_t a25948 b25949) := by
  unfold ref44_Before_p ref44_Before_t
  (repeat' split) <;> rfl
attribute [irreducible] ref44_Before_t

noncomputable def ref44_Valid_p (x25734 : System) : Option (Bool) :=
  if ((decide (x25734.States < 1)) || ((decide (4096 < x25734.States)) || ((decide (x25734.Init < 0)) || ((decide (x25734.States ≤ x25734.Init)) || ((!decide ((x25734.Goals.length : Int) = x25734.States)) || ((decide (4096 < (x25734.Costs.length : Int))) || decide (65536 < (x25734.Edges.length : Int)))))))) then (some false)
  else (ctl (forC (R := (Bool)) (fun i26440 => fun (_ : Unit) => (idx x25734.Costs (i26440 : Int)).bind fun x26531 =>
  if ((decide (x26531 < 0)) || decide (1048576 < x26531)) then (some (Ctl.ret false))
  else (some (Ctl.next ()))) (x25734.Costs.length) 0 ()) (fun r => some r) (fun (_ : Unit) => ctl (forC (R := (Bool)) (fun i26581 => fun (_ : Unit) => (idx x25734.Edges (i26581 : Int)).bind fun x26889 =>
  (if decide (x26889.From < 0) then (some true)
  else (if decide (x25734.States ≤ x26889.From) then (some true)
  else (if decide (x26889.To < 0) then (some true)
  else (if decide (x25734.States ≤ x26889.To) then (some true)
  else (if decide (x26889.Label < 0) then (some true)
  else (if decide ((x25734.Costs.length : Int) ≤ x26889.Label) then (some true)
  else (if decide (0 < (i26581 : Int)) then ((idx x25734.Edges (IntKind.i64.wrap ((i26581 : Int) - 1))).bind fun x26984 =>
  some (!(ref44_Before_t x26984 x26889)))
  else (some false)))))))).bind (fun (z26941 : Bool) => if z26941 then (some (Ctl.ret false))
  else (some (Ctl.next ())))) (x25734.Edges.length) 0 ()) (fun r => some r) (fun (_ : Unit) => some true)))

noncomputable def law44_large_p (x25720 : System) : Option (Bool) :=
  (if decide (40 < x25720.States) then ((ref44_Valid_p x25720).bind <| fun (y27120 : Bool) =>
  if y27120 then (some true)
  else (if decide (5000 < (x25720.Goals.length : Int)) then (some true)
  else (if decide (150 < (x25720.Edges.length : Int)) then (some true)
  else (some (decide (40 < (x25720.Costs.length : Int)))))))
  else (if decide (5000 < (x25720.Goals.length : Int)) then (some true)
  else (if decide (150 < (x25720.Edges.length : Int)) then (some true)
  else (some (decide (40 < (x25720.Costs.length : Int))))))).bind (fun (z27114 : Bool) => some z27114)

noncomputable def transys_Trim_p (x27220 : System) : Option ((List Int) × (Option Int) × System) :=
  (transys_Valid_p x27220).bind <| fun (y29632 : Bool) =>
  if !y29632 then (some ([], some 2, (⟨0, 0, [], [], []⟩ : System)))
  else ((transys_shortest_p x27220 [x27220.Init] false).bind <| fun (y29765 : (List Int)) =>
  (transys_goals_p x27220).bind <| fun (y29774 : (List Int)) =>
  (transys_shortest_p x27220 y29774 true).bind <| fun (y29783 : (List Int)) =>
  (slices_Clone___int_int__p x27220.Costs).bind <| fun (y29805 : (List Int)) =>
  (mk 8 0 x27220.States).bind fun l29821 =>
  (forS (fun i29826 => un3 fun (z30177 : Int) (z30178 : (List Bool)) (l30180 : (List Int)) => (idx l30180 (i29826 : Int)).bind fun x30560 =>
  (setI l30180 (i29826 : Int) (-1)).bind fun l30565 =>
  (if decide ((i29826 : Int) = x27220.Init) then (some true)
  else ((idx y29765 (i29826 : Int)).bind fun x30597 =>
  if decide (x30597 < 1125899906842624) then ((idx y29783 (i29826 : Int)).bind fun x30605 =>
  some (decide (x30605 < 1125899906842624)))
  else (some false))).bind (fun (z30586 : Bool) => (if z30586 then ((idx l30565 (i29826 : Int)).bind fun x30764 =>
  (setI l30565 (i29826 : Int) z30177).bind fun l30769 =>
  (idx x27220.Goals (i29826 : Int)).bind fun x30838 =>
  (app 1 z30178 [x30838]).bind fun l30849 =>
  some (IntKind.i64.wrap (z30177 + 1), l30769, l30849))
  else (some (z30177, l30565, z30178))).bind (un3 fun (z30746 : Int) (l30747 : (List Int)) (l30748 : (List Bool)) => some (z30746, l30748, l30747)))) (l29821.length) 0 (0, [], l29821)).bind (un3 fun (z30177 : Int) (z30178 : (List Bool)) (l30180 : (List Int)) => (idx l30180 x27220.Init).bind fun x30917 =>
  (forS (fun i30927 => fun (z31268 : (List Edge)) => (idx x27220.Edges (i30927 : Int)).bind fun x31635 =>
  ((idx l30180 x31635.From).bind fun x31665 =>
  if decide (0 ≤ x31665) then ((idx l30180 x31635.To).bind fun x31673 =>
  some (decide (0 ≤ x31673)))
  else (some false)).bind (fun (z31662 : Bool) => (if z31662 then ((idx l30180 x31635.From).bind fun x31893 =>
  (idx l30180 x31635.To).bind fun x31900 =>
  (app 24 z31268 [(⟨x31893, x31635.Label, x31900⟩ : Edge)]).bind fun l31910 =>
  some l31910)
  else (some z31268)).bind (fun (l31812 : (List Edge)) => some l31812))) (x27220.Edges.length) 0 []).bind (fun (z31268 : (List Edge)) => some (l30180, none, (⟨z30177, x30917, y29805, z31268, z30178⟩ : System)))))

noncomputable def ref44_Distances_p (x32058 : System) : Option ((List Int)) :=
  (forS (fun i36788 => fun (out36844 : (List Int)) => (idx x32058.Goals (i36788 : Int)).bind fun x36929 =>
  (if x36929 then (some 0)
  else (some 1125899906842624)).bind (fun (d36936 : Int) => (app 8 out36844 [d36936]).bind fun l36970 =>
  some l36970)) (x32058.Goals.length) 0 []).bind (fun (out36844 : (List Int)) => ctl (whileC (R := ((List Int))) (un2 fun (changed38102 : Bool) (l38103 : (List Int)) => if changed38102 then ((forS (fun i40361 => un2 fun (changed40719 : Bool) (l40720 : (List Int)) => (idx x32058.Edges (i40361 : Int)).bind fun x41114 =>
  ((idx l40720 x41114.To).bind fun x41217 =>
  if decide (x41217 < 1125899906842624) then ((idx x32058.Costs x41114.Label).bind fun x41230 =>
  (idx l40720 x41114.From).bind fun x41238 =>
  some (decide ((IntKind.i64.wrap (x41217 + x41230)) < x41238)))
  else (some false)).bind (fun (z41184 : Bool) => (if z41184 then ((idx l40720 x41114.To).bind fun x41414 =>
  (idx x32058.Costs x41114.Label).bind fun x41421 =>
  (idx l40720 x41114.From).bind fun x41429 =>
  (setI l40720 x41114.From (IntKind.i64.wrap (x41414 + x41421))).bind fun l41434 =>
  some (true, l41434))
  else (some (changed40719, l40720))).bind (un2 fun (changed41349 : Bool) (l41350 : (List Int)) => some (changed41349, l41350)))) (x32058.Edges.length) 0 (false, l38103)).bind (un2 fun (changed40719 : Bool) (l40720 : (List Int)) => some (Ctl.next (changed40719, l40720))))
  else (some (Ctl.brk (changed38102, l38103)))) (true, out36844)) (fun r => some r) (un2 fun (changed40335 : Bool) (l40336 : (List Int)) => some l40336))

noncomputable def ref44_Costs_p (x41507 : System) : Option ((List Int)) :=
  (mk 1 false x41507.States).bind fun l41813 =>
  (idx l41813 x41507.Init).bind fun x41879 =>
  (setI l41813 x41507.Init true).bind fun l41884 =>
  (forS (fun i41889 => fun (z41943 : (List Edge)) => (idx x41507.Edges (i41889 : Int)).bind fun x42029 =>
  (app 24 z41943 [(⟨x42029.To, x42029.Label, x42029.From⟩ : Edge)]).bind fun l42056 =>
  some l42056) (x41507.Edges.length) 0 []).bind (fun (z41943 : (List Edge)) => (ref44_Distances_p (⟨x41507.States, 0, x41507.Costs, z41943, l41884⟩ : System)).bind <| fun (y42111 : (List Int)) =>
  some y42111)

noncomputable def ref44_Trim_p (x32038 : System) : Option ((List Int) × System) :=
  (ref44_Distances_p x32038).bind <| fun (y44037 : (List Int)) =>
  (ref44_Costs_p x32038).bind <| fun (y44046 : (List Int)) =>
  (app 8 [] x32038.Costs).bind fun l44071 =>
  (forS (fun i44081 => un3 fun (to44286 : (List Int)) (z44288 : Int) (z44289 : (List Bool)) => (if !decide ((i44081 : Int) = x32038.Init) then ((idx y44037 (i44081 : Int)).bind fun x44539 =>
  if decide (x44539 = 1125899906842624) then (some true)
  else ((idx y44046 (i44081 : Int)).bind fun x44554 =>
  some (decide (x44554 = 1125899906842624))))
  else (some false)).bind (fun (z44535 : Bool) => if z44535 then ((app 8 to44286 [(-1)]).bind fun l44604 =>
  some (l44604, z44288, z44289))
  else ((app 8 to44286 [z44288]).bind fun l44629 =>
  (idx x32038.Goals (i44081 : Int)).bind fun x44699 =>
  (app 1 z44289 [x44699]).bind fun l44710 =>
  some (l44629, IntKind.i64.wrap (z44288 + 1), l44710)))) (y44037.length) 0 ([], 0, [])).bind (un3 fun (to44286 : (List Int)) (z44288 : Int) (z44289 : (List Bool)) => (idx to44286 x32038.Init).bind fun x44750 =>
  (forS (fun i44760 => fun (z45101 : (List Edge)) => (idx x32038.Edges (i44760 : Int)).bind fun x45468 =>
  ((idx to44286 x45468.From).bind fun x45498 =>
  if decide (0 ≤ x45498) then ((idx to44286 x45468.To).bind fun x45506 =>
  some (decide (0 ≤ x45506)))
  else (some false)).bind (fun (z45495 : Bool) => (if z45495 then ((idx to44286 x45468.From).bind fun x45726 =>
  (idx to44286 x45468.To).bind fun x45733 =>
  (app 24 z45101 [(⟨x45726, x45468.Label, x45733⟩ : Edge)]).bind fun l45743 =>
  some l45743)
  else (some z45101)).bind (fun (l45645 : (List Edge)) => some l45645))) (x32038.Edges.length) 0 []).bind (fun (z45101 : (List Edge)) => some (to44286, (⟨z44288, x44750, l44071, z45101, z44289⟩ : System))))

noncomputable def ref44_Same_p (a45870 : System) (b45877 : System) : Option (Bool) :=
  (if !decide (a45870.States = b45877.States) then (some true)
  else (if !decide (a45870.Init = b45877.Init) then (some true)
  else ((base_Ints_p a45870.Costs b45877.Costs).bind <| fun (y46504 : Bool) =>
  if !y46504 then (some true)
  else (if !decide ((a45870.Edges.length : Int) = (b45877.Edges.length : Int)) then (some true)
  else (some (!decide ((a45870.Goals.length : Int) = (b45877.Goals.length : Int)))))))).bind (fun (z46493 : Bool) => if z46493 then (some false)
  else (ctl (forC (R := (Bool)) (fun i46531 => fun (_ : Unit) => (idx a45870.Edges (i46531 : Int)).bind fun x46749 =>
  (idx b45877.Edges (i46531 : Int)).bind fun x46757 =>
  if !(eqs [x46749.From, x46749.Label, x46749.To] [x46757.From, x46757.Label, x46757.To]) then (some (Ctl.ret false))
  else (some (Ctl.next ()))) (a45870.Edges.length) 0 ()) (fun r => some r) (fun (_ : Unit) => ctl (forC (R := (Bool)) (fun i46799 => fun (_ : Unit) => (idx a45870.Goals (i46799 : Int)).bind fun x47017 =>
  (idx b45877.Goals (i46799 : Int)).bind fun x47025 =>
  if !(x47017 == x47025) then (some (Ctl.ret false))
  else (some (Ctl.next ()))) (a45870.Goals.length) 0 ()) (fun r => some r) (fun (_ : Unit) => some true))))

noncomputable def law44_TransysTrims_p (x1 : System) : Option (Bool) :=
  ((law44_awake_p).bind <| fun (y47600 : Bool) =>
  if !y47600 then (some true)
  else ((law44_large_p x1).bind <| fun (y47609 : Bool) =>
  if y47609 then (some true)
  else ((ref44_Valid_p x1).bind <| fun (y47618 : Bool) =>
  some (!y47618)))).bind (fun (z47595 : Bool) => if z47595 then ((law44_awake_p).bind <| fun (y47642 : Bool) =>
  some y47642)
  else ((transys_Trim_p x1).bind <| un3 fun (y47674 : (List Int)) (y47675 : (Option Int)) (y47676 : System) =>
  (ref44_Trim_p x1).bind <| un2 fun (y47717 : (List Int)) (y47718 : System) =>
  (if y47675.isSome then (some true)
  else ((ref44_Same_p y47676 y47718).bind <| fun (y47761 : Bool) =>
  if !y47761 then (some true)
  else ((base_Ints_p y47674 y47717).bind <| fun (y47772 : Bool) =>
  some (!y47772)))).bind (fun (z47752 : Bool) => if z47752 then (some false)
  else ((transys_Distances_p x1).bind <| un2 fun (y47807 : (List Int)) (y47808 : (Option Int)) =>
  (transys_Distances_p y47676).bind <| un2 fun (y47827 : (List Int)) (y47828 : (Option Int)) =>
  if (y47808.isSome || y47828.isSome) then (some false)
  else (ctl (forC (R := (Bool)) (fun i47855 => fun (_ : Unit) => (idx y47674 (i47855 : Int)).bind fun x48107 =>
  (if decide (0 ≤ x48107) then (if decide ((y47827.length : Int) ≤ x48107) then (some true)
  else ((idx y47807 (i47855 : Int)).bind fun x48178 =>
  (idx y47827 x48107).bind fun x48186 =>
  some (!decide (x48178 = x48186))))
  else (some false)).bind (fun (z48152 : Bool) => if z48152 then (some (Ctl.ret false))
  else (some (Ctl.next ())))) (y47674.length) 0 ()) (fun r => some r) (fun (_ : Unit) => some true))))))

end Go.Pw
