/-
  What the functions compute, in plain Lean (printed by my generator).
-/
import Derived.Test.YtdhfofhginfdnaaL6
import Derived.Test.YtdhfofhginfdnaaL11
set_option maxRecDepth 100000
set_option maxHeartbeats 4000000
set_option linter.unusedVariables false
namespace Go.Pw
structure Edge where
  From : Int
  Label : Int
  To : Int
def encEdge : Enc Edge := Enc.iso ((encInt .i64).pair ((encInt .i64).pair (encInt .i64))) (fun b => (b.From, b.Label, b.To))
theorem encEdge_val {s : PHeap} {v : Value} {b : Edge} : encEdge.val s v b ↔ v = .agg #[.int .i64 (b.From), .int .i64 (b.Label), .int .i64 (b.To)] := by
  simp only [Enc.iso, Enc.pair, Enc.val, encEdge, encInt, if_true, oneCell]
  constructor
  · rintro ⟨cs, rfl, h⟩
    obtain ⟨cs⟩ := cs
    simp only [] at h
    obtain ⟨_, _, rfl, rfl, ⟨_, _, rfl, rfl, rfl⟩⟩ := h
    rfl
  · rintro rfl
    exact ⟨_, rfl, ⟨[.int .i64 (b.From)], [.int .i64 (b.Label), .int .i64 (b.To)], rfl, rfl, ⟨[.int .i64 (b.Label)], [.int .i64 (b.To)], rfl, rfl, rfl⟩⟩⟩

structure System where
  States : Int
  Init : Int
  Costs : (List Int)
  Edges : (List Edge)
  Goals : (List Bool)
def encSystem : Enc System := Enc.iso ((encInt .i64).pair ((encInt .i64).pair ((encSlice (encInt .i64)).pair ((encSlice encEdge).pair (encSlice encBool))))) (fun b => (b.States, b.Init, b.Costs, b.Edges, b.Goals))
theorem encSystem_val {s : PHeap} {v : Value} {b : System} : encSystem.val s v b ↔ ∃ u1, ∃ u2, ∃ u3, v = .agg #[.int .i64 (b.States), .int .i64 (b.Init), u1, u2, u3] ∧ SliceRep (encInt .i64) s u1 (b.Costs) ∧ SliceRep encEdge s u2 (b.Edges) ∧ SliceRep encBool s u3 (b.Goals) := by
  simp only [Enc.iso, Enc.pair, Enc.val, encInt, encSlice, encSystem, if_true, oneCell]
  constructor
  · rintro ⟨cs, rfl, h⟩
    obtain ⟨cs⟩ := cs
    simp only [] at h
    obtain ⟨_, _, rfl, rfl, ⟨_, _, rfl, rfl, ⟨_, _, rfl, ⟨w1, rfl, h1⟩, ⟨_, _, rfl, ⟨w2, rfl, h2⟩, ⟨w3, rfl, h3⟩⟩⟩⟩⟩ := h
    exact ⟨w1, w2, w3, rfl, h1, h2, h3⟩
  · rintro ⟨w1, w2, w3, rfl, h1, h2, h3⟩
    exact ⟨_, rfl, ⟨[.int .i64 (b.States)], [.int .i64 (b.Init), w1, w2, w3], rfl, rfl, ⟨[.int .i64 (b.Init)], [w1, w2, w3], rfl, rfl, ⟨[w1], [w2, w3], rfl, ⟨w1, rfl, h1⟩, ⟨[w2], [w3], rfl, ⟨w2, rfl, h2⟩, ⟨w3, rfl, h3⟩⟩⟩⟩⟩⟩

noncomputable def law44_example_p  : Option (System) :=
  some (⟨2, 0, [2, 0], [(⟨0, 0, 1⟩ : Edge), (⟨1, 1, 1⟩ : Edge)], [false, true]⟩ : System)
def law44_example_t  : System :=
  (⟨2, 0, [2, 0], [(⟨0, 0, 1⟩ : Edge), (⟨1, 1, 1⟩ : Edge)], [false, true]⟩ : System)
theorem law44_example_tot  : law44_example_p  = some (law44_example_t ) := by
  unfold law44_example_p law44_example_t
  (repeat' split) <;> rfl
attribute [irreducible] law44_example_t

noncomputable def cmp_isNaN_int__p (x391 : Int) : Option (Bool) :=
  some (!decide (x391 = x391))
def cmp_isNaN_int__t (x391 : Int) : Bool :=
  (!decide (x391 = x391))
theorem cmp_isNaN_int__tot (x391 : Int) : cmp_isNaN_int__p x391 = some (cmp_isNaN_int__t x391) := by
  unfold cmp_isNaN_int__p cmp_isNaN_int__t
  (repeat' split) <;> rfl
attribute [irreducible] cmp_isNaN_int__t

noncomputable def cmp_Compare_int__p (x389 : Int) (y390 : Int) : Option (Int) :=
  if (cmp_isNaN_int__t x389) then (if (cmp_isNaN_int__t y390) then (some 0)
  else (some (-1)))
  else (if (cmp_isNaN_int__t y390) then (some 1)
  else (if decide (x389 < y390) then (some (-1))
  else (if decide (y390 < x389) then (some 1)
  else (some 0))))
def cmp_Compare_int__t (x389 : Int) (y390 : Int) : Int :=
  if (cmp_isNaN_int__t x389) then (if (cmp_isNaN_int__t y390) then (0)
  else ((-1)))
  else (if (cmp_isNaN_int__t y390) then (1)
  else (if decide (x389 < y390) then ((-1))
  else (if decide (y390 < x389) then (1)
  else (0))))
theorem cmp_Compare_int__tot (x389 : Int) (y390 : Int) : cmp_Compare_int__p x389 y390 = some (cmp_Compare_int__t x389 y390) := by
  unfold cmp_Compare_int__p cmp_Compare_int__t
  (repeat' split) <;> rfl
attribute [irreducible] cmp_Compare_int__t

noncomputable def cmp_Or_int__p (vals474 : (List Int)) : Option (Int) :=
  ctl (forC (R := (Int)) (fun i575 => fun (_ : Unit) => (idx vals474 (i575 : Int)).bind fun x638 =>
  if !decide (x638 = 0) then (some (Ctl.ret x638))
  else (some (Ctl.next ()))) (vals474.length) 0 ()) (fun r => some r) (fun (_ : Unit) => some 0)

noncomputable def transys_compare_p (a374 : Edge) (b375 : Edge) : Option (Int) :=
  (cmp_Or_int__p [(cmp_Compare_int__t a374.From b375.From), (cmp_Compare_int__t a374.Label b375.Label), (cmp_Compare_int__t a374.To b375.To)]).bind <| fun (y888 : Int) =>
  some y888

noncomputable def transys_Valid_p (x160 : System) : Option (Bool) :=
  if ((decide (x160.States < 1)) || ((decide (4096 < x160.States)) || ((decide (x160.Init < 0)) || ((decide (x160.States ≤ x160.Init)) || ((!decide ((x160.Goals.length : Int) = x160.States)) || ((decide (4096 < (x160.Costs.length : Int))) || decide (65536 < (x160.Edges.length : Int)))))))) then (some false)
  else (ctl (forC (R := (Bool)) (fun i1380 => fun (_ : Unit) => (idx x160.Costs (i1380 : Int)).bind fun x1471 =>
  if ((decide (x1471 < 0)) || decide (1048576 < x1471)) then (some (Ctl.ret false))
  else (some (Ctl.next ()))) (x160.Costs.length) 0 ()) (fun r => some r) (fun (_ : Unit) => ctl (forC (R := (Bool)) (fun i1521 => fun (_ : Unit) => (idx x160.Edges (i1521 : Int)).bind fun x1853 =>
  (if decide (x1853.From < 0) then (some true)
  else (if decide (x160.States ≤ x1853.From) then (some true)
  else (if decide (x1853.To < 0) then (some true)
  else (if decide (x160.States ≤ x1853.To) then (some true)
  else (if decide (x1853.Label < 0) then (some true)
  else (if decide ((x160.Costs.length : Int) ≤ x1853.Label) then (some true)
  else (if decide (0 < (i1521 : Int)) then ((idx x160.Edges (IntKind.i64.wrap ((i1521 : Int) - 1))).bind fun x1957 =>
  (transys_compare_p x1957 x1853).bind <| fun (y1967 : Int) =>
  some (decide (0 ≤ y1967)))
  else (some false)))))))).bind (fun (z1911 : Bool) => if z1911 then (some (Ctl.ret false))
  else (some (Ctl.next ())))) (x160.Edges.length) 0 ()) (fun r => some r) (fun (_ : Unit) => some true)))

noncomputable def slices_Equal___int_int__p (s12035 : (List Int)) (s22038 : (List Int)) : Option (Bool) :=
  if !decide ((s12035.length : Int) = (s22038.length : Int)) then (some false)
  else (ctl (forC (R := (Bool)) (fun i2305 => fun (_ : Unit) => (idx s12035 (i2305 : Int)).bind fun x2521 =>
  (idx s22038 (i2305 : Int)).bind fun x2529 =>
  if !decide (x2521 = x2529) then (some (Ctl.ret false))
  else (some (Ctl.next ()))) (s12035.length) 0 ()) (fun r => some r) (fun (_ : Unit) => some true))

noncomputable def slices_Clone___int_int__p (s_2634 : (List Int)) : Option ((List Int)) :=
  (app 8 [] s_2634).bind fun l2699 =>
  some l2699

noncomputable def transys_labelled_p (x4797 : System) : Option ((List (List Edge))) :=
  (mk 24 ([] : (List Edge)) (x4797.Costs.length : Int)).bind fun l5256 =>
  (forS (fun i5262 => fun (l5390 : (List (List Edge))) => (idx x4797.Edges (i5262 : Int)).bind fun x5550 =>
  (idx l5390 x5550.Label).bind fun row5636 =>
  (app 24 row5636 [x5550]).bind fun l5650 =>
  (setI l5390 x5550.Label l5650).bind fun l5657 =>
  some l5657) (x4797.Edges.length) 0 l5256).bind (fun (l5390 : (List (List Edge))) => some l5390)

def cmpI (a b : Int) : Int := if a < b then -1 else if b < a then 1 else 0
def cmpE (a b : Edge) : Int := if cmpI a.From b.From ≠ 0 then cmpI a.From b.From else if cmpI a.Label b.Label ≠ 0 then cmpI a.Label b.Label else cmpI a.To b.To
noncomputable def sortEdges_p (xs : List Edge) : Option (List Edge) := if xs.length < 4611686018427387904 then some (xs.mergeSort fun x y => !decide (cmpE y x < 0)) else none

noncomputable def transys_Product_p (a128 : System) (b135 : System) : Option ((Option Int) × System) :=
  ((transys_Valid_p a128).bind <| fun (y8721 : Bool) =>
  if !y8721 then (some true)
  else ((transys_Valid_p b135).bind <| fun (y8732 : Bool) =>
  if !y8732 then (some true)
  else ((slices_Equal___int_int__p a128.Costs b135.Costs).bind <| fun (y8743 : Bool) =>
  some (!y8743)))).bind (fun (z8716 : Bool) => if z8716 then (some (some 2, (⟨0, 0, [], [], []⟩ : System)))
  else (if decide (4096 < (IntKind.i64.wrap (a128.States * b135.States))) then (some (some 5, (⟨0, 0, [], [], []⟩ : System)))
  else ((slices_Clone___int_int__p a128.Costs).bind <| fun (y8788 : (List Int)) =>
  (must (decide (a128.States ≤ 9223372036854775807))).bind fun u8857 =>
  (forS (fun i8859 => fun (z9538 : (List Bool)) => (must (decide (b135.States ≤ 9223372036854775807))).bind fun u10228 =>
  (forS (fun i10230 => fun (l10433 : (List Bool)) => ((idx a128.Goals (i8859 : Int)).bind fun x10797 =>
  if x10797 then ((idx b135.Goals (i10230 : Int)).bind fun x10806 =>
  (app 1 l10433 [x10806]).bind fun l10817 =>
  some l10817)
  else ((app 1 l10433 [false]).bind fun l10836 =>
  some l10836)).bind (fun (l10750 : (List Bool)) => some l10750)) (b135.States.toNat) 0 z9538).bind (fun (l10433 : (List Bool)) => some l10433)) (a128.States.toNat) 0 []).bind (fun (z9538 : (List Bool)) => (transys_labelled_p a128).bind <| fun (y10968 : (List (List Edge))) =>
  (transys_labelled_p b135).bind <| fun (y10977 : (List (List Edge))) =>
  (forS (fun i10984 => fun (many11062 : Int) => (idx y10968 (i10984 : Int)).bind fun x11225 =>
  (idx y10977 (i10984 : Int)).bind fun x11234 =>
  some (IntKind.i64.wrap (many11062 + (IntKind.i64.wrap ((x11225.length : Int) * (x11234.length : Int)))))) (y10968.length) 0 0).bind (fun (many11062 : Int) => if decide (65536 < many11062) then (some (some 5, (⟨0, 0, [], [], []⟩ : System)))
  else ((forS (fun i11277 => fun (z12127 : (List Edge)) => (idx y10968 (i11277 : Int)).bind fun x13008 =>
  (forS (fun i13016 => fun (l13273 : (List Edge)) => (idx x13008 (i13016 : Int)).bind fun x13574 =>
  (idx y10977 (i11277 : Int)).bind fun x13594 =>
  (forS (fun i13602 => fun (l13652 : (List Edge)) => (idx x13594 (i13602 : Int)).bind fun x13751 =>
  (app 24 l13652 [(⟨IntKind.i64.wrap ((IntKind.i64.wrap (x13574.From * b135.States)) + x13751.From), (i11277 : Int), IntKind.i64.wrap ((IntKind.i64.wrap (x13574.To * b135.States)) + x13751.To)⟩ : Edge)]).bind fun l13778 =>
  some l13778) (x13594.length) 0 l13273).bind (fun (l13652 : (List Edge)) => some l13652)) (x13008.length) 0 z12127).bind (fun (l13273 : (List Edge)) => some l13273)) (y10968.length) 0 []).bind (fun (z12127 : (List Edge)) => (sortEdges_p z12127).bind <| fun (l13872 : (List Edge)) =>
  some (none, (⟨IntKind.i64.wrap (a128.States * b135.States), IntKind.i64.wrap ((IntKind.i64.wrap (a128.Init * b135.States)) + b135.Init), y8788, l13872, z9538⟩ : System)))))))))

noncomputable def transys_goals_p (x14005 : System) : Option ((List Int)) :=
  (forS (fun i14278 => fun (out14356 : (List Int)) => (idx x14005.Goals (i14278 : Int)).bind fun x14453 =>
  (if x14453 then ((app 8 out14356 [(i14278 : Int)]).bind fun l14495 =>
  some l14495)
  else (some out14356)).bind (fun (l14478 : (List Int)) => some l14478)) (x14005.Goals.length) 0 []).bind (fun (out14356 : (List Int)) => some out14356)

structure Arc where
  From : Int
  To : Int
  Weight : Int
def encArc : Enc Arc := Enc.iso ((encInt .i64).pair ((encInt .i64).pair (encInt .i64))) (fun b => (b.From, b.To, b.Weight))
theorem encArc_val {s : PHeap} {v : Value} {b : Arc} : encArc.val s v b ↔ v = .agg #[.int .i64 (b.From), .int .i64 (b.To), .int .i64 (b.Weight)] := by
  simp only [Enc.iso, Enc.pair, Enc.val, encArc, encInt, if_true, oneCell]
  constructor
  · rintro ⟨cs, rfl, h⟩
    obtain ⟨cs⟩ := cs
    simp only [] at h
    obtain ⟨_, _, rfl, rfl, ⟨_, _, rfl, rfl, rfl⟩⟩ := h
    rfl
  · rintro rfl
    exact ⟨_, rfl, ⟨[.int .i64 (b.From)], [.int .i64 (b.To), .int .i64 (b.Weight)], rfl, rfl, ⟨[.int .i64 (b.To)], [.int .i64 (b.Weight)], rfl, rfl, rfl⟩⟩⟩

noncomputable def transys_shortest_p (x14539 : System) (from_14546 : (List Int)) (back14549 : Bool) : Option ((List Int)) :=
  (mk 24 ([] : (List Arc)) x14539.States).bind fun l19668 =>
  (forS (fun i19674 => fun (l19898 : (List (List Arc))) => (idx x14539.Edges (i19674 : Int)).bind fun x20157 =>
  (idx x14539.Costs x20157.Label).bind fun x20208 =>
  (if back14549 then (some (x20157.To, x20157.From))
  else (some (x20157.From, x20157.To))).bind (un2 fun (z20229 : Int) (z20230 : Int) => (idx l19898 z20229).bind fun row20339 =>
  (app 24 row20339 [(⟨z20229, z20230, x20208⟩ : Arc)]).bind fun l20353 =>
  (setI l19898 z20229 l20353).bind fun l20360 =>
  some l20360)) (x14539.Edges.length) 0 l19668).bind (fun (l19898 : (List (List Arc))) => (mk 8 0 x14539.States).bind fun l20388 =>
  (forS (fun i20393 => fun (l20415 : (List Int)) => (idx l20415 (i20393 : Int)).bind fun x20468 =>
  (setI l20415 (i20393 : Int) 1125899906842624).bind fun l20473 =>
  some l20473) (l20388.length) 0 l20388).bind (fun (l20415 : (List Int)) => (mk 1 false x14539.States).bind fun l20498 =>
  (slices_Clone___int_int__p from_14546).bind <| fun (y20514 : (List Int)) =>
  (forS (fun i20521 => un2 fun (l20577 : (List Int)) (l20578 : (List Bool)) => (idx from_14546 (i20521 : Int)).bind fun x20668 =>
  (idx l20577 x20668).bind fun x20695 =>
  (setI l20577 x20668 0).bind fun l20700 =>
  (idx l20578 x20668).bind fun x20705 =>
  (setI l20578 x20668 true).bind fun l20710 =>
  some (l20700, l20710)) (from_14546.length) 0 (l20415, l20498)).bind (un2 fun (l20577 : (List Int)) (l20578 : (List Bool)) => ctl (whileC (R := ((List Int))) (un3 fun (l21723 : (List Int)) (l21724 : (List Bool)) (l21725 : (List Int)) => if decide (0 < (l21725.length : Int)) then ((idx l21725 0).bind fun x23750 =>
  (cut l21725 1 (l21725.length : Int)).bind fun c23772 =>
  (idx l21724 x23750).bind fun x23777 =>
  (setI l21724 x23750 false).bind fun l23782 =>
  (idx l19898 x23750).bind fun row23797 =>
  (must (decide (row23797.length ≤ 9223372036854775807))).bind fun u23807 =>
  (forS (fun i23809 => un3 fun (l24099 : (List Int)) (l24100 : (List Bool)) (l24101 : (List Int)) => (idx row23797 (i23809 : Int)).bind fun x24434 =>
  (idx l24099 x23750).bind fun x24492 =>
  (idx l24099 x24434.To).bind fun x24499 =>
  if decide (x24499 ≤ (IntKind.i64.wrap (x24492 + x24434.Weight))) then (some (l24099, l24100, l24101))
  else ((setI l24099 x24434.To (IntKind.i64.wrap (x24492 + x24434.Weight))).bind fun l24548 =>
  (idx l24100 x24434.To).bind fun x24560 =>
  (if !x24560 then ((app 8 l24101 [x24434.To]).bind fun l24672 =>
  (setI l24100 x24434.To true).bind fun l24681 =>
  some (l24681, l24672))
  else (some (l24100, l24101))).bind (un2 fun (l24623 : (List Bool)) (l24624 : (List Int)) => some (l24548, l24623, l24624)))) (row23797.length) 0 (l21723, l23782, c23772)).bind (un3 fun (l24099 : (List Int)) (l24100 : (List Bool)) (l24101 : (List Int)) => some (Ctl.next (l24099, l24100, l24101))))
  else (some (Ctl.brk (l21723, l21724, l21725)))) (l20577, l20578, y20514)) (fun r => some r) (un3 fun (l23712 : (List Int)) (l23713 : (List Bool)) (l23714 : (List Int)) => some l23712))))

noncomputable def transys_Distances_p (x13976 : System) : Option ((List Int) × (Option Int)) :=
  (transys_Valid_p x13976).bind <| fun (y24849 : Bool) =>
  if !y24849 then (some ([], some 2))
  else ((transys_goals_p x13976).bind <| fun (y24918 : (List Int)) =>
  (transys_shortest_p x13976 y24918 true).bind <| fun (y24927 : (List Int)) =>
  some (y24927, none))

noncomputable def base_Ints_p (a24966 : (List Int)) (b24969 : (List Int)) : Option (Bool) :=
  if !decide ((a24966.length : Int) = (b24969.length : Int)) then (some false)
  else (ctl (forC (R := (Bool)) (fun i25236 => fun (_ : Unit) => (idx a24966 (i25236 : Int)).bind fun x25452 =>
  (idx b24969 (i25236 : Int)).bind fun x25460 =>
  if !decide (x25452 = x25460) then (some (Ctl.ret false))
  else (some (Ctl.next ()))) (a24966.length) 0 ()) (fun r => some r) (fun (_ : Unit) => some true))

noncomputable def law44_awake_p  : Option (Bool) :=
  (transys_Product_p law44_example_t law44_example_t).bind <| un2 fun (y25599 : (Option Int)) (y25600 : System) =>
  if (y25599.isSome || ((!decide (y25600.States = 4)) || !decide ((y25600.Edges.length : Int) = 2))) then (some false)
  else ((transys_Distances_p y25600).bind <| un2 fun (y25645 : (List Int)) (y25646 : (Option Int)) =>
  (if y25646.isNone then ((base_Ints_p y25645 [2, 1125899906842624, 1125899906842624, 0]).bind <| fun (y25683 : Bool) =>
  some y25683)
  else (some false)).bind (fun (z25669 : Bool) => some z25669))

noncomputable def base_Num_p (e26362 : (Option Int)) : Option (Int) :=
  if e26362.isNone then (some 0)
  else (if e26362.isSome then (some (e26362.getD 0))
  else (some (-1)))
def base_Num_t (e26362 : (Option Int)) : Int :=
  if e26362.isNone then (0)
  else (if e26362.isSome then ((e26362.getD 0))
  else ((-1)))
theorem base_Num_tot (e26362 : (Option Int)) : base_Num_p e26362 = some (base_Num_t e26362) := by
  unfold base_Num_p base_Num_t
  (repeat' split) <;> rfl
attribute [irreducible] base_Num_t

noncomputable def base_Is_p (e26359 : (Option Int)) (code26360 : Int) : Option (Bool) :=
  some (e26359.isSome && decide ((base_Num_t e26359) = code26360))
def base_Is_t (e26359 : (Option Int)) (code26360 : Int) : Bool :=
  (e26359.isSome && decide ((base_Num_t e26359) = code26360))
theorem base_Is_tot (e26359 : (Option Int)) (code26360 : Int) : base_Is_p e26359 code26360 = some (base_Is_t e26359 code26360) := by
  unfold base_Is_p base_Is_t
  (repeat' split) <;> rfl
attribute [irreducible] base_Is_t

noncomputable def law44_TransysLimits_p (n1 : Int) (m2 : Int) : Option (Bool) :=
  (law44_awake_p).bind <| fun (y26477 : Bool) =>
  if !y26477 then (some false)
  else ((mk 1 false (IntKind.i64.wrap (1 + ((IntKind.i64.wrap n1).tmod 90)))).bind fun l26486 =>
  (mk 1 false (IntKind.i64.wrap (1 + ((IntKind.i64.wrap m2).tmod 90)))).bind fun l26491 =>
  (transys_Product_p (⟨IntKind.i64.wrap (1 + ((IntKind.i64.wrap n1).tmod 90)), 0, [], [], l26486⟩ : System) (⟨IntKind.i64.wrap (1 + ((IntKind.i64.wrap m2).tmod 90)), 0, [], [], l26491⟩ : System)).bind <| un2 fun (y27612 : (Option Int)) (y27613 : System) =>
  if decide (4096 < (IntKind.i64.wrap ((IntKind.i64.wrap (1 + ((IntKind.i64.wrap n1).tmod 90))) * (IntKind.i64.wrap (1 + ((IntKind.i64.wrap m2).tmod 90)))))) then (some ((decide (y27613.States = 0)) && (base_Is_t y27612 5)))
  else (some (y27612.isNone && ((decide (y27613.States = (IntKind.i64.wrap ((IntKind.i64.wrap (1 + ((IntKind.i64.wrap n1).tmod 90))) * (IntKind.i64.wrap (1 + ((IntKind.i64.wrap m2).tmod 90))))))) && ((decide ((y27613.Goals.length : Int) = (IntKind.i64.wrap ((IntKind.i64.wrap (1 + ((IntKind.i64.wrap n1).tmod 90))) * (IntKind.i64.wrap (1 + ((IntKind.i64.wrap m2).tmod 90))))))) && decide ((y27613.Edges.length : Int) = 0))))))

end Go.Pw
