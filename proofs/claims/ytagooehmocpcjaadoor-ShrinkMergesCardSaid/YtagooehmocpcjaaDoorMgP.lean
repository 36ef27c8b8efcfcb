/-
  What the functions compute, in plain Lean (printed by my generator).
-/
import Derived.Test.YtagooehmocpcjaaDoorL6
import Derived.Test.YtagooehmocpcjaaDoorL11
import Derived.Test.YtagooehmocpcjaaDoorL14
import Derived.Test.YtagooehmocpcjaaDoorL15
import Derived.Test.YtagooehmocpcjaaDoorL16
import Derived.Test.YtagooehmocpcjaaDoorL17
import Derived.Test.YtagooehmocpcjaaDoorL18
import Derived.Test.YtagooehmocpcjaaDoorL21
set_option maxRecDepth 100000
set_option maxHeartbeats 4000000
set_option linter.unusedVariables false
namespace Go.Pw
structure Edge where
  From : Int
  Label : Int
  To : Int
def encEdge : Enc Edge := Enc.iso ((encInt .i64).pair ((encInt .i64).pair (encInt .i64))) (fun b => (b.From, b.Label, b.To))
theorem encEdge_val {s : PHeap} {v : Value} {b : Edge} : encEdge.val s v b ↔ v = .agg #[.int .i64 (b.From), .int .i64 (b.Label), .int .i64 (b.To)] := by
  simp only [Enc.iso, Enc.pair, Enc.val, encEdge, encInt, if_true, oneCell]
  constructor
  · rintro ⟨cs, rfl, h⟩
    obtain ⟨cs⟩ := cs
    simp only [] at h
    obtain ⟨_, _, rfl, rfl, ⟨_, _, rfl, rfl, rfl⟩⟩ := h
    rfl
  · rintro rfl
    exact ⟨_, rfl, ⟨[.int .i64 (b.From)], [.int .i64 (b.Label), .int .i64 (b.To)], rfl, rfl, ⟨[.int .i64 (b.Label)], [.int .i64 (b.To)], rfl, rfl, rfl⟩⟩⟩

structure System where
  States : Int
  Init : Int
  Costs : (List Int)
  Edges : (List Edge)
  Goals : (List Bool)
def encSystem : Enc System := Enc.iso ((encInt .i64).pair ((encInt .i64).pair ((encSlice (encInt .i64)).pair ((encSlice encEdge).pair (encSlice encBool))))) (fun b => (b.States, b.Init, b.Costs, b.Edges, b.Goals))
theorem encSystem_val {s : PHeap} {v : Value} {b : System} : encSystem.val s v b ↔ ∃ u1, ∃ u2, ∃ u3, v = .agg #[.int .i64 (b.States), .int .i64 (b.Init), u1, u2, u3] ∧ SliceRep (encInt .i64) s u1 (b.Costs) ∧ SliceRep encEdge s u2 (b.Edges) ∧ SliceRep encBool s u3 (b.Goals) := by
  simp only [Enc.iso, Enc.pair, Enc.val, encInt, encSlice, encSystem, if_true, oneCell]
  constructor
  · rintro ⟨cs, rfl, h⟩
    obtain ⟨cs⟩ := cs
    simp only [] at h
    obtain ⟨_, _, rfl, rfl, ⟨_, _, rfl, rfl, ⟨_, _, rfl, ⟨w1, rfl, h1⟩, ⟨_, _, rfl, ⟨w2, rfl, h2⟩, ⟨w3, rfl, h3⟩⟩⟩⟩⟩ := h
    exact ⟨w1, w2, w3, rfl, h1, h2, h3⟩
  · rintro ⟨w1, w2, w3, rfl, h1, h2, h3⟩
    exact ⟨_, rfl, ⟨[.int .i64 (b.States)], [.int .i64 (b.Init), w1, w2, w3], rfl, rfl, ⟨[.int .i64 (b.Init)], [w1, w2, w3], rfl, rfl, ⟨[w1], [w2, w3], rfl, ⟨w1, rfl, h1⟩, ⟨[w2], [w3], rfl, ⟨w2, rfl, h2⟩, ⟨w3, rfl, h3⟩⟩⟩⟩⟩⟩

noncomputable def cmp_isNaN_int__p (x305 : Int) : Option (Bool) :=
  some (!decide (x305 = x305))
def cmp_isNaN_int__t (x305 : Int) : Bool :=
  (!decide (x305 = x305))
theorem cmp_isNaN_int__tot (x305 : Int) : cmp_isNaN_int__p x305 = some (cmp_isNaN_int__t x305) := by
  unfold cmp_isNaN_int__p cmp_isNaN_int__t
  (repeat' split) <;> rfl
attribute [irreducible] cmp_isNaN_int__t

noncomputable def cmp_Compare_int__p (x303 : Int) (y304 : Int) : Option (Int) :=
  if (cmp_isNaN_int__t x303) then (if (cmp_isNaN_int__t y304) then (some 0)
  else (some (-1)))
  else (if (cmp_isNaN_int__t y304) then (some 1)
  else (if decide (x303 < y304) then (some (-1))
  else (if decide (y304 < x303) then (some 1)
  else (some 0))))
def cmp_Compare_int__t (x303 : Int) (y304 : Int) : Int :=
  if (cmp_isNaN_int__t x303) then (if (cmp_isNaN_int__t y304) then (0)
  else ((-1)))
  else (if (cmp_isNaN_int__t y304) then (1)
  else (if decide (x303 < y304) then ((-1))
  else (if decide (y304 < x303) then (1)
  else (0))))
theorem cmp_Compare_int__tot (x303 : Int) (y304 : Int) : cmp_Compare_int__p x303 y304 = some (cmp_Compare_int__t x303 y304) := by
  unfold cmp_Compare_int__p cmp_Compare_int__t
  (repeat' split) <;> rfl
attribute [irreducible] cmp_Compare_int__t

noncomputable def cmp_Or_int__p (vals388 : (List Int)) : Option (Int) :=
  ctl (forC (R := (Int)) (fun i489 => fun (_ : Unit) => (idx vals388 (i489 : Int)).bind fun x552 =>
  if !decide (x552 = 0) then (some (Ctl.ret x552))
  else (some (Ctl.next ()))) (vals388.length) 0 ()) (fun r => some r) (fun (_ : Unit) => some 0)

noncomputable def transys_compare_p (a288 : Edge) (b289 : Edge) : Option (Int) :=
  (cmp_Or_int__p [(cmp_Compare_int__t a288.From b289.From), (cmp_Compare_int__t a288.Label b289.Label), (cmp_Compare_int__t a288.To b289.To)]).bind <| fun (y802 : Int) =>
  some y802

noncomputable def transys_Valid_p (x74 : System) : Option (Bool) :=
  if ((decide (x74.States < 1)) || ((decide (4096 < x74.States)) || ((decide (x74.Init < 0)) || ((decide (x74.States ≤ x74.Init)) || ((!decide ((x74.Goals.length : Int) = x74.States)) || ((decide (4096 < (x74.Costs.length : Int))) || decide (65536 < (x74.Edges.length : Int)))))))) then (some false)
  else (ctl (forC (R := (Bool)) (fun i1294 => fun (_ : Unit) => (idx x74.Costs (i1294 : Int)).bind fun x1385 =>
  if ((decide (x1385 < 0)) || decide (1048576 < x1385)) then (some (Ctl.ret false))
  else (some (Ctl.next ()))) (x74.Costs.length) 0 ()) (fun r => some r) (fun (_ : Unit) => ctl (forC (R := (Bool)) (fun i1435 => fun (_ : Unit) => (idx x74.Edges (i1435 : Int)).bind fun x1767 =>
  (if decide (x1767.From < 0) then (some true)
  else (if decide (x74.States ≤ x1767.From) then (some true)
  else (if decide (x1767.To < 0) then (some true)
  else (if decide (x74.States ≤ x1767.To) then (some true)
  else (if decide (x1767.Label < 0) then (some true)
  else (if decide ((x74.Costs.length : Int) ≤ x1767.Label) then (some true)
  else (if decide (0 < (i1435 : Int)) then ((idx x74.Edges (IntKind.i64.wrap ((i1435 : Int) - 1))).bind fun x1871 =>
  (transys_compare_p x1871 x1767).bind <| fun (y1881 : Int) =>
  some (decide (0 ≤ y1881)))
  else (some false)))))))).bind (fun (z1825 : Bool) => if z1825 then (some (Ctl.ret false))
  else (some (Ctl.next ())))) (x74.Edges.length) 0 ()) (fun r => some r) (fun (_ : Unit) => some true)))

noncomputable def strconv_FormatBool_55_p (b1975 : Bool) : Option (ByteArray) :=
  if b1975 then (some (⟨#[116, 114, 117, 101]⟩))
  else (some (⟨#[102, 97, 108, 115, 101]⟩))
def strconv_FormatBool_55_t (b1975 : Bool) : ByteArray :=
  if b1975 then ((⟨#[116, 114, 117, 101]⟩))
  else ((⟨#[102, 97, 108, 115, 101]⟩))
theorem strconv_FormatBool_55_tot (b1975 : Bool) : strconv_FormatBool_55_p b1975 = some (strconv_FormatBool_55_t b1975) := by
  unfold strconv_FormatBool_55_p strconv_FormatBool_55_t
  (repeat' split) <;> rfl
attribute [irreducible] strconv_FormatBool_55_t

noncomputable def strconv_FormatBool_p (b1974 : Bool) : Option (ByteArray) :=
  some (strconv_FormatBool_55_t b1974)
def strconv_FormatBool_t (b1974 : Bool) : ByteArray :=
  (strconv_FormatBool_55_t b1974)
theorem strconv_FormatBool_tot (b1974 : Bool) : strconv_FormatBool_p b1974 = some (strconv_FormatBool_t b1974) := by
  unfold strconv_FormatBool_p strconv_FormatBool_t
  (repeat' split) <;> rfl
attribute [irreducible] strconv_FormatBool_t

noncomputable def shrink_numbered_o_p (l2152 : (List ByteArray)) : Option ((List Int) × Int) :=
  (forS (fun i2463 => un2 fun (out2548 : (List Int)) (l2550 : SMap) => (idx l2152 (i2463 : Int)).bind fun x2666 =>
  (mapGet l2550 x2666).bind fun q2675 =>
  (if !q2675.2 then ((mapPut l2550 x2666 (l2550.length : Int)).bind fun m2698 =>
  some ((l2550.length : Int), m2698))
  else (some (q2675.1, l2550))).bind (un2 fun (k2687 : Int) (l2688 : SMap) => (app 8 out2548 [k2687]).bind fun l2735 =>
  some (l2735, l2688))) (l2152.length) 0 ([], ([] : SMap))).bind (un2 fun (out2548 : (List Int)) (l2550 : SMap) => some (out2548, (l2550.length : Int)))

structure Arr2_int where
  a0 : Int
  a1 : Int
def encArr2_int : Enc Arr2_int := Enc.iso ((encInt .i64).pair (encInt .i64)) (fun b => (b.a0, b.a1))
theorem encArr2_int_val {s : PHeap} {v : Value} {b : Arr2_int} : encArr2_int.val s v b ↔ v = .agg #[.int .i64 (b.a0), .int .i64 (b.a1)] := by
  simp only [Enc.iso, Enc.pair, Enc.val, encArr2_int, encInt, if_true, oneCell]
  constructor
  · rintro ⟨cs, rfl, h⟩
    obtain ⟨cs⟩ := cs
    simp only [] at h
    obtain ⟨_, _, rfl, rfl, rfl⟩ := h
    rfl
  · rintro rfl
    exact ⟨_, rfl, ⟨[.int .i64 (b.a0)], [.int .i64 (b.a1)], rfl, rfl, rfl⟩⟩

noncomputable def shrink_refine_c1_p (a3346 : Arr2_int) (b3347 : Arr2_int) : Option (Int) :=
  (cmp_Or_int__p [(cmp_Compare_int__t a3346.a0 b3347.a0), (cmp_Compare_int__t a3346.a1 b3347.a1)]).bind <| fun (y3562 : Int) =>
  some y3562

def cmpP (a b : Arr2_int) : Int := if cmpI a.a0 b.a0 ≠ 0 then cmpI a.a0 b.a0 else cmpI a.a1 b.a1
noncomputable def sortPairs_p (xs : List Arr2_int) : Option (List Arr2_int) := if xs.length < 4611686018427387904 then some (xs.mergeSort fun x y => !decide (cmpP y x < 0)) else none

noncomputable def strconv_small_p (i3633 : Int) : Option (ByteArray) :=
  if decide (i3633 < 10) then ((cutS (⟨#[48, 49, 50, 51, 52, 53, 54, 55, 56, 57, 97, 98, 99, 100, 101, 102, 103, 104, 105, 106, 107, 108, 109, 110, 111, 112, 113, 114, 115, 116, 117, 118, 119, 120, 121, 122]⟩) i3633 (IntKind.i64.wrap (i3633 + 1))).bind fun c3649 =>
  some c3649)
  else ((cutS (⟨#[48, 48, 48, 49, 48, 50, 48, 51, 48, 52, 48, 53, 48, 54, 48, 55, 48, 56, 48, 57, 49, 48, 49, 49, 49, 50, 49, 51, 49, 52, 49, 53, 49, 54, 49, 55, 49, 56, 49, 57, 50, 48, 50, 49, 50, 50, 50, 51, 50, 52, 50, 53, 50, 54, 50, 55, 50, 56, 50, 57, 51, 48, 51, 49, 51, 50, 51, 51, 51, 52, 51, 53, 51, 54, 51, 55, 51, 56, 51, 57, 52, 48, 52, 49, 52, 50, 52, 51, 52, 52, 52, 53, 52, 54, 52, 55, 52, 56, 52, 57, 53, 48, 53, 49, 53, 50, 53, 51, 53, 52, 53, 53, 53, 54, 53, 55, 53, 56, 53, 57, 54, 48, 54, 49, 54, 50, 54, 51, 54, 52, 54, 53, 54, 54, 54, 55, 54, 56, 54, 57, 55, 48, 55, 49, 55, 50, 55, 51, 55, 52, 55, 53, 55, 54, 55, 55, 55, 56, 55, 57, 56, 48, 56, 49, 56, 50, 56, 51, 56, 52, 56, 53, 56, 54, 56, 55, 56, 56, 56, 57, 57, 48, 57, 49, 57, 50, 57, 51, 57, 52, 57, 53, 57, 54, 57, 55, 57, 56, 57, 57]⟩) (IntKind.i64.wrap (i3633 * 2)) (IntKind.i64.wrap ((IntKind.i64.wrap (i3633 * 2)) + 2))).bind fun c3655 =>
  some c3655)

noncomputable def strconv_FormatInt_p (i3618 : Int) (base3619 : Int) : Option (ByteArray) :=
  if decide (base3619 = 10) then (if ((decide (0 ≤ i3618)) && decide (i3618 < 100)) then ((strconv_small_p i3618).bind <| fun (y3698 : ByteArray) =>
  some y3698)
  else (none))
  else (none)

noncomputable def strconv_Itoa_62_p (i3617 : Int) : Option (ByteArray) :=
  (strconv_FormatInt_p i3617 10).bind <| fun (y3731 : ByteArray) =>
  some y3731

noncomputable def strconv_Itoa_p (i3616 : Int) : Option (ByteArray) :=
  (strconv_Itoa_62_p i3616).bind <| fun (y3764 : ByteArray) =>
  some y3764

noncomputable def slices_Compact____2_int__2_int__o_p (s_3803 : (List Arr2_int)) : Option (Nat × (List Arr2_int)) :=
  if decide ((s_3803.length : Int) < 2) then (some ((s_3803).length, s_3803))
  else (ctl (whileC (R := (Nat × (List Arr2_int))) (fun (k7411 : Int) => if decide (k7411 < (s_3803.length : Int)) then ((idx s_3803 k7411).bind fun x8906 =>
  (idx s_3803 (IntKind.i64.wrap (k7411 - 1))).bind fun x8913 =>
  if eqs [x8906.a0, x8906.a1] [x8913.a0, x8913.a1] then ((view s_3803 k7411 (s_3803.length : Int)).bind fun n8925 =>
  ctl (whileC (R := (Nat × (List Arr2_int))) (un3 fun (k9073 : Int) (k29074 : Int) (l9075 : (List Arr2_int)) => if decide (k29074 < (n8925 : Int)) then ((idxV l9075 k7411 n8925 k29074).bind fun x9441 =>
  (idxV l9075 k7411 n8925 (IntKind.i64.wrap (k29074 - 1))).bind fun x9448 =>
  (if !(eqs [x9441.a0, x9441.a1] [x9448.a0, x9448.a1]) then ((idxV l9075 k7411 n8925 k29074).bind fun x9509 =>
  (idx l9075 k9073).bind fun x9516 =>
  (setI l9075 k9073 x9509).bind fun l9521 =>
  some (IntKind.i64.wrap (k9073 + 1), l9521))
  else (some (k9073, l9075))).bind (un2 fun (k9487 : Int) (l9488 : (List Arr2_int)) => some (Ctl.next (k9487, IntKind.i64.wrap (k29074 + 1), l9488))))
  else (some (Ctl.brk (k9073, k29074, l9075)))) (k7411, 1, s_3803)) (fun r => some (Ctl.ret r)) (un3 fun (k9369 : Int) (k9370 : Int) (l9371 : (List Arr2_int)) => (view l9371 k9369 (l9371.length : Int)).bind fun n9557 =>
  (view ((l9371).take (k9369).toNat ++ List.replicate n9557 (⟨0, 0⟩ : Arr2_int) ++ (l9371).drop ((k9369).toNat + n9557)) 0 k9369).bind fun n9567 =>
  some (Ctl.ret (n9567, (l9371).take (k9369).toNat ++ List.replicate n9557 (⟨0, 0⟩ : Arr2_int) ++ (l9371).drop ((k9369).toNat + n9557)))))
  else (some (Ctl.next (IntKind.i64.wrap (k7411 + 1)))))
  else (some (Ctl.brk k7411))) 1) (fun r => some r) (fun (k8839 : Int) => some ((s_3803).length, s_3803)))

noncomputable def shrink_refine_o_p (x2781 : System) (class2788 : (List Int)) : Option ((List Int) × Int) :=
  (mk 24 ([] : (List Arr2_int)) x2781.States).bind fun l11402 =>
  (forS (fun i11408 => fun (l11564 : (List (List Arr2_int))) => (idx x2781.Edges (i11408 : Int)).bind fun x11755 =>
  (idx l11564 x11755.From).bind fun row11862 =>
  (idx class2788 x11755.To).bind fun x11872 =>
  (app 16 row11862 [(⟨x11755.Label, x11872⟩ : Arr2_int)]).bind fun l11883 =>
  (setI l11564 x11755.From l11883).bind fun l11890 =>
  some l11890) (x2781.Edges.length) 0 l11402).bind (fun (l11564 : (List (List Arr2_int))) => (mk 16 (⟨#[]⟩) x2781.States).bind fun l11918 =>
  (forS (fun i11923 => un2 fun (l12535 : (List ByteArray)) (l12536 : (List (List Arr2_int))) => (idx l12536 (i11923 : Int)).bind fun row13183 =>
  (sortPairs_p row13183).bind <| fun (l13210 : (List Arr2_int)) =>
  (setI l12536 (i11923 : Int) l13210).bind fun l13215 =>
  (idx class2788 (i11923 : Int)).bind fun x13247 =>
  (strconv_Itoa_p x13247).bind <| fun (y13256 : ByteArray) =>
  (appS ([] : List Int) y13256).bind fun l13261 =>
  (idx l13215 (i11923 : Int)).bind fun row13284 =>
  (slices_Compact____2_int__2_int__o_p row13284).bind <| un2 fun (y13289 : Nat) (l13290 : (List Arr2_int)) =>
  (setI l13215 (i11923 : Int) l13290).bind fun l13297 =>
  (must (decide ((y13289 : Int) ≤ 9223372036854775807))).bind fun u13303 =>
  (forS (fun i13305 => fun (l13439 : (List Int)) => (idx l13297 (i11923 : Int)).bind fun row13613 =>
  (idxV row13613 0 y13289 (i13305 : Int)).bind fun x13615 =>
  (strconv_Itoa_p x13615.a0).bind <| fun (y13708 : ByteArray) =>
  (cat (⟨#[32]⟩) y13708).bind fun c13713 =>
  (cat c13713 (⟨#[58]⟩)).bind fun c13715 =>
  (strconv_Itoa_p x13615.a1).bind <| fun (y13719 : ByteArray) =>
  (cat c13715 y13719).bind fun c13724 =>
  (appS l13439 c13724).bind fun l13726 =>
  some l13726) ((y13289 : Int).toNat) 0 l13261).bind (fun (l13439 : (List Int)) => (strOf l13439).bind fun q13768 =>
  (idx l12535 (i11923 : Int)).bind fun x13773 =>
  (setI l12535 (i11923 : Int) q13768).bind fun l13778 =>
  some (l13778, l13297))) (l11564.length) 0 (l11918, l11564)).bind (un2 fun (l12535 : (List ByteArray)) (l12536 : (List (List Arr2_int))) => (shrink_numbered_o_p l12535).bind <| un2 fun (y13810 : (List Int)) (y13811 : Int) =>
  some (y13810, y13811)))

noncomputable def shrink_Bisimulation_p (x61 : System) : Option ((List Int) × (Option Int)) :=
  (transys_Valid_p x61).bind <| fun (y13975 : Bool) =>
  if !y13975 then (some ([], some 2))
  else ((mk 16 (⟨#[]⟩) x61.States).bind fun l13990 =>
  (forS (fun i13995 => fun (l14039 : (List ByteArray)) => (idx x61.Goals (i13995 : Int)).bind fun x14109 =>
  (idx l14039 (i13995 : Int)).bind fun x14134 =>
  (setI l14039 (i13995 : Int) (strconv_FormatBool_t x14109)).bind fun l14139 =>
  some l14139) (x61.Goals.length) 0 l13990).bind (fun (l14039 : (List ByteArray)) => (shrink_numbered_o_p l14039).bind <| un2 fun (y14169 : (List Int)) (y14170 : Int) =>
  ctl (whileC (R := ((List Int) × (Option Int))) (un2 fun (class14199 : (List Int)) (n14201 : Int) => (shrink_refine_o_p x61 class14199).bind <| un2 fun (y14287 : (List Int)) (y14288 : Int) =>
  if decide (y14288 = n14201) then (some (Ctl.ret (y14287, none)))
  else (some (Ctl.next (y14287, y14288)))) (y14169, y14170)) (fun r => some r) (un2 fun (class14249 : (List Int)) (n14250 : Int) => none)))

noncomputable def slices_Max___int_int__o_p (x14384 : (List Int)) : Option (Int) :=
  (if decide ((x14384.length : Int) < 1) then (none)
  else (some ())).bind (fun (_ : Unit) => (idx x14384 0).bind fun x14538 =>
  ctl (whileC (R := (Int)) (un2 fun (m14561 : Int) (i14562 : Int) => if decide (i14562 < (x14384.length : Int)) then ((idx x14384 i14562).bind fun x14629 =>
  some (Ctl.next (max m14561 x14629, IntKind.i64.wrap (i14562 + 1))))
  else (some (Ctl.brk (m14561, i14562)))) (x14538, 1)) (fun r => some r) (un2 fun (m14598 : Int) (i14599 : Int) => some m14598))

noncomputable def shrink_pair_o_p (goals14863 : (List Bool)) : Option (Int × Int) :=
  ctl (whileC (R := (Int × Int)) (fun (k16341 : Int) => if decide (0 < k16341) then (ctl (whileC (R := (Int × Int)) (fun (i17003 : Int) => if decide (0 ≤ i17003) then ((idx goals14863 i17003).bind fun x17199 =>
  (idx goals14863 k16341).bind fun x17206 =>
  if (x17199 == x17206) then (some (Ctl.ret (i17003, k16341)))
  else (some (Ctl.next (IntKind.i64.wrap (i17003 - 1)))))
  else (some (Ctl.brk i17003))) (IntKind.i64.wrap (k16341 - 1))) (fun r => some (Ctl.ret r)) (fun (i17131 : Int) => some (Ctl.next (IntKind.i64.wrap (k16341 - 1)))))
  else (some (Ctl.brk k16341))) (IntKind.i64.wrap ((goals14863.length : Int) - 1))) (fun r => some r) (fun (k16919 : Int) => some (0, 1))

def delB_p (xs : List Bool) (i j : Int) : Option (List Bool) := if 0 ≤ i ∧ i ≤ j ∧ j ≤ xs.length ∧ 0 < xs.length then some (xs.take i.toNat ++ xs.drop j.toNat) else none

noncomputable def shrink_Merge_p (x14351 : System) (most14358 : Int) : Option ((List Int) × (Option Int)) :=
  (shrink_Bisimulation_p x14351).bind <| un2 fun (y19179 : (List Int)) (y19180 : (Option Int)) =>
  if y19180.isSome then (some ([], y19180))
  else ((slices_Max___int_int__o_p y19179).bind <| fun (y19206 : Int) =>
  (mk 1 false (IntKind.i64.wrap (y19206 + 1))).bind fun l19211 =>
  (forS (fun i19216 => fun (l19266 : (List Bool)) => (idx y19179 (i19216 : Int)).bind fun x19345 =>
  (idx x14351.Goals (i19216 : Int)).bind fun x19369 =>
  (idx l19266 x19345).bind fun x19376 =>
  (setI l19266 x19345 x19369).bind fun l19381 =>
  some l19381) (y19179.length) 0 l19211).bind (fun (l19266 : (List Bool)) => ctl (whileC (R := ((List Int) × (Option Int))) (un2 fun (l19867 : (List Int)) (l19868 : (List Bool)) => if decide ((max 1 (min most14358 4096)) < (l19868.length : Int)) then ((shrink_pair_o_p l19868).bind <| un2 fun (y20843 : Int) (y20844 : Int) =>
  (forS (fun i20850 => fun (l20980 : (List Int)) => (idx l20980 (i20850 : Int)).bind fun x21139 =>
  (if decide (x21139 = y20844) then ((setI l20980 (i20850 : Int) y20843).bind fun l21174 =>
  some l21174)
  else (some l20980)).bind (fun (l21160 : (List Int)) => (if decide (y20844 < x21139) then ((idx l21160 (i20850 : Int)).bind fun x21231 =>
  (setI l21160 (i20850 : Int) (IntKind.i64.wrap (x21139 - 1))).bind fun l21236 =>
  some l21236)
  else (some l21160)).bind (fun (l21218 : (List Int)) => some l21218))) (l19867.length) 0 l19867).bind (fun (l20980 : (List Int)) => (delB_p l19868 y20844 (IntKind.i64.wrap (y20844 + 1))).bind <| fun (l21288 : (List Bool)) =>
  some (Ctl.next (l20980, l21288))))
  else (some (Ctl.brk (l19867, l19868)))) (y19179, l19266)) (fun r => some r) (un2 fun (l20804 : (List Int)) (l20805 : (List Bool)) => some (l20804, none))))

noncomputable def base_Ints_o_p (a21342 : (List Int)) (b21344 : (List Int)) : Option (Bool) :=
  if !decide ((a21342.length : Int) = (b21344.length : Int)) then (some false)
  else (ctl (forC (R := (Bool)) (fun i21599 => fun (_ : Unit) => (idx a21342 (i21599 : Int)).bind fun x21804 =>
  (idx b21344 (i21599 : Int)).bind fun x21811 =>
  if !decide (x21804 = x21811) then (some (Ctl.ret false))
  else (some (Ctl.next ()))) (a21342.length) 0 ()) (fun r => some r) (fun (_ : Unit) => some true))

noncomputable def law45_awake_p  : Option (Bool) :=
  (shrink_Bisimulation_p (⟨4, 0, [1, 1], [(⟨0, 0, 1⟩ : Edge), (⟨0, 0, 2⟩ : Edge), (⟨1, 1, 3⟩ : Edge), (⟨2, 1, 3⟩ : Edge)], [false, false, false, true]⟩ : System)).bind <| un2 fun (y22013 : (List Int)) (y22014 : (Option Int)) =>
  (shrink_Merge_p (⟨4, 0, [1, 1], [(⟨0, 0, 1⟩ : Edge), (⟨0, 0, 2⟩ : Edge), (⟨1, 1, 3⟩ : Edge), (⟨2, 1, 3⟩ : Edge)], [false, false, false, true]⟩ : System) 2).bind <| un2 fun (y22031 : (List Int)) (y22032 : (Option Int)) =>
  (if y22014.isNone then (if y22032.isNone then ((base_Ints_o_p y22013 [0, 1, 1, 2]).bind <| fun (y22088 : Bool) =>
  if y22088 then ((base_Ints_o_p y22031 [0, 0, 0, 1]).bind <| fun (y22105 : Bool) =>
  some y22105)
  else (some false))
  else (some false))
  else (some false)).bind (fun (z22073 : Bool) => some z22073)

noncomputable def ref44_Before_p (a22372 : Edge) (b22373 : Edge) : Option (Bool) :=
  if !decide (a22372.From = b22373.From) then (some (decide (a22372.From < b22373.From)))
  else (if !decide (a22372.Label = b22373.Label) then (some (decide (a22372.Label < b22373.Label)))
  else (some (decide (a22372.To < b22373.To))))
def ref44_Before_t (a22372 : Edge) (b22373 : Edge) : Bool :=
  if !decide (a22372.From = b22373.From) then ((decide (a22372.From < b22373.From)))
  else (if !decide (a22372.Label = b22373.Label) then ((decide (a22372.Label < b22373.Label)))
  else ((decide (a22372.To < b22373.To))))
theorem ref44_Before_tot (a22372 : Edge) (b22373 : Edge) : ref44_Before_p a22372 b22373 = some (ref44_Before_t a22372 b22373) := by
  unfold ref44_Before_p ref44_Before_t
  (repeat' split) <;> rfl
attribute [irreducible] ref44_Before_t

noncomputable def ref44_Valid_p (x22158 : System) : Option (Bool) :=
  if ((decide (x22158.States < 1)) || ((decide (4096 < x22158.States)) || ((decide (x22158.Init < 0)) || ((decide (x22158.States ≤ x22158.Init)) || ((!decide ((x22158.Goals.length : Int) = x22158.States)) || ((decide (4096 < (x22158.Costs.length : Int))) || decide (65536 < (x22158.Edges.length : Int)))))))) then (some false)
  else (ctl (forC (R := (Bool)) (fun i22864 => fun (_ : Unit) => (idx x22158.Costs (i22864 : Int)).bind fun x22955 =>
  if ((decide (x22955 < 0)) || decide (1048576 < x22955)) then (some (Ctl.ret false))
  else (some (Ctl.next ()))) (x22158.Costs.length) 0 ()) (fun r => some r) (fun (_ : Unit) => ctl (forC (R := (Bool)) (fun i23005 => fun (_ : Unit) => (idx x22158.Edges (i23005 : Int)).bind fun x23313 =>
  (if decide (x23313.From < 0) then (some true)
  else (if decide (x22158.States ≤ x23313.From) then (some true)
  else (if decide (x23313.To < 0) then (some true)
  else (if decide (x22158.States ≤ x23313.To) then (some true)
  else (if decide (x23313.Label < 0) then (some true)
  else (if decide ((x22158.Costs.length : Int) ≤ x23313.Label) then (some true)
  else (if decide (0 < (i23005 : Int)) then ((idx x22158.Edges (IntKind.i64.wrap ((i23005 : Int) - 1))).bind fun x23408 =>
  some (!(ref44_Before_t x23408 x23313)))
  else (some false)))))))).bind (fun (z23365 : Bool) => if z23365 then (some (Ctl.ret false))
  else (some (Ctl.next ())))) (x22158.Edges.length) 0 ()) (fun r => some r) (fun (_ : Unit) => some true)))

noncomputable def law45_large_p (x22144 : System) : Option (Bool) :=
  (if decide (20 < x22144.States) then ((ref44_Valid_p x22144).bind <| fun (y23544 : Bool) =>
  if y23544 then (some true)
  else (if decide (5000 < (x22144.Goals.length : Int)) then (some true)
  else (if decide (80 < (x22144.Edges.length : Int)) then (some true)
  else (some (decide (20 < (x22144.Costs.length : Int)))))))
  else (if decide (5000 < (x22144.Goals.length : Int)) then (some true)
  else (if decide (80 < (x22144.Edges.length : Int)) then (some true)
  else (some (decide (20 < (x22144.Costs.length : Int))))))).bind (fun (z23538 : Bool) => some z23538)

noncomputable def base_Num_p (e23665 : (Option Int)) : Option (Int) :=
  if e23665.isNone then (some 0)
  else (if e23665.isSome then (some (e23665.getD 0))
  else (some (-1)))
def base_Num_t (e23665 : (Option Int)) : Int :=
  if e23665.isNone then (0)
  else (if e23665.isSome then ((e23665.getD 0))
  else ((-1)))
theorem base_Num_tot (e23665 : (Option Int)) : base_Num_p e23665 = some (base_Num_t e23665) := by
  unfold base_Num_p base_Num_t
  (repeat' split) <;> rfl
attribute [irreducible] base_Num_t

noncomputable def base_Is_p (e23662 : (Option Int)) (code23663 : Int) : Option (Bool) :=
  some (e23662.isSome && decide ((base_Num_t e23662) = code23663))
def base_Is_t (e23662 : (Option Int)) (code23663 : Int) : Bool :=
  (e23662.isSome && decide ((base_Num_t e23662) = code23663))
theorem base_Is_tot (e23662 : (Option Int)) (code23663 : Int) : base_Is_p e23662 code23663 = some (base_Is_t e23662 code23663) := by
  unfold base_Is_p base_Is_t
  (repeat' split) <;> rfl
attribute [irreducible] base_Is_t

noncomputable def ref45_leads_o_p (x23965 : System) (class23972 : (List Int)) (state23974 : Int) (label23975 : Int) (to23976 : Int) : Option (Bool) :=
  ctl (forC (R := (Bool)) (fun i24250 => fun (_ : Unit) => (idx x23965.Edges (i24250 : Int)).bind fun x24424 =>
  (if decide (x24424.From = state23974) then (if decide (x24424.Label = label23975) then ((idx class23972 x24424.To).bind fun x24450 =>
  some (decide (x24450 = to23976)))
  else (some false))
  else (some false)).bind (fun (z24445 : Bool) => if z24445 then (some (Ctl.ret true))
  else (some (Ctl.next ())))) (x23965.Edges.length) 0 ()) (fun r => some r) (fun (_ : Unit) => some false)

noncomputable def ref45_Agree_o_p (x23839 : System) (class23846 : (List Int)) (i23848 : Int) (k23849 : Int) : Option (Bool) :=
  (idx x23839.Goals i23848).bind fun x25444 =>
  (idx x23839.Goals k23849).bind fun x25452 =>
  if !(x25444 == x25452) then (some false)
  else (ctl (forC (R := (Bool)) (fun i25464 => fun (_ : Unit) => (idx x23839.Edges (i25464 : Int)).bind fun x26070 =>
  (if decide (x26070.From = i23848) then ((idx class23846 x26070.To).bind fun x26258 =>
  (ref45_leads_o_p x23839 class23846 i23848 x26070.Label x26258).bind <| fun (y26272 : Bool) =>
  (ref45_leads_o_p x23839 class23846 k23849 x26070.Label x26258).bind <| fun (y26280 : Bool) =>
  some (!(y26272 == y26280)))
  else (if decide (x26070.From = k23849) then ((idx class23846 x26070.To).bind fun x26290 =>
  (ref45_leads_o_p x23839 class23846 i23848 x26070.Label x26290).bind <| fun (y26304 : Bool) =>
  (ref45_leads_o_p x23839 class23846 k23849 x26070.Label x26290).bind <| fun (y26312 : Bool) =>
  some (!(y26304 == y26312)))
  else (some false))).bind (fun (z26196 : Bool) => if z26196 then (some (Ctl.ret false))
  else (some (Ctl.next ())))) (x23839.Edges.length) 0 ()) (fun r => some r) (fun (_ : Unit) => some true))

noncomputable def base_Ints_o_o_p (a29082 : (List Int)) (b29084 : (List Int)) : Option (Bool) :=
  if !decide ((a29082.length : Int) = (b29084.length : Int)) then (some false)
  else (ctl (forC (R := (Bool)) (fun i29334 => fun (_ : Unit) => (idx a29082 (i29334 : Int)).bind fun x29530 =>
  (idx b29084 (i29334 : Int)).bind fun x29537 =>
  if !decide (x29530 = x29537) then (some (Ctl.ret false))
  else (some (Ctl.next ()))) (a29082.length) 0 ()) (fun r => some r) (fun (_ : Unit) => some true))

noncomputable def ref45_Bisimulation_p (x23755 : System) : Option ((List Int)) :=
  (mk 8 0 x23755.States).bind fun l37996 =>
  ctl (whileC (R := ((List Int))) (fun (class40782 : (List Int)) => (mk 8 0 x23755.States).bind fun l46375 =>
  (forS (fun i46380 => un2 fun (k47284 : Int) (l47285 : (List Int)) => (idx l47285 (i46380 : Int)).bind fun x48223 =>
  (setI l47285 (i46380 : Int) (-1)).bind fun l48228 =>
  (must (decide ((i46380 : Int) ≤ 9223372036854775807))).bind fun u48233 =>
  (forS (fun i48235 => fun (l48491 : (List Int)) => ((idx l48491 (i46380 : Int)).bind fun x48871 =>
  if decide (x48871 < 0) then ((idx class40782 (i46380 : Int)).bind fun x48879 =>
  (idx class40782 (i48235 : Int)).bind fun x48886 =>
  if decide (x48879 = x48886) then ((ref45_Agree_o_p x23755 class40782 (i46380 : Int) (i48235 : Int)).bind <| fun (y48896 : Bool) =>
  some y48896)
  else (some false))
  else (some false)).bind (fun (z48835 : Bool) => (if z48835 then ((idx l48491 (i48235 : Int)).bind fun x48986 =>
  (idx l48491 (i46380 : Int)).bind fun x48993 =>
  (setI l48491 (i46380 : Int) x48986).bind fun l48998 =>
  some l48998)
  else (some l48491)).bind (fun (l48965 : (List Int)) => some l48965))) ((i46380 : Int).toNat) 0 l48228).bind (fun (l48491 : (List Int)) => (idx l48491 (i46380 : Int)).bind fun x49051 =>
  (if decide (x49051 < 0) then ((setI l48491 (i46380 : Int) k47284).bind fun l49091 =>
  some (IntKind.i64.wrap (k47284 + 1), l49091))
  else (some (k47284, l48491))).bind (un2 fun (k49074 : Int) (l49075 : (List Int)) => some (k49074, l49075)))) (l46375.length) 0 (0, l46375)).bind (un2 fun (k47284 : Int) (l47285 : (List Int)) => (base_Ints_o_o_p l47285 class40782).bind <| fun (y49142 : Bool) =>
  if y49142 then (some (Ctl.ret class40782))
  else (some (Ctl.next l47285)))) l37996) (fun r => some r) (fun (class46348 : (List Int)) => none)

noncomputable def ref45_Many_o_p (class49183 : (List Int)) (n49185 : Int) : Option (Int) :=
  if !decide ((class49183.length : Int) = n49185) then (some (-1))
  else (ctl (forC (R := (Int)) (fun i50081 => fun (k50115 : Int) => (idx class49183 (i50081 : Int)).bind fun x50216 =>
  if ((decide (x50216 < 0)) || decide (n49185 ≤ x50216)) then (some (Ctl.ret (-1)))
  else (some (Ctl.next (max k50115 (IntKind.i64.wrap (x50216 + 1)))))) (class49183.length) 0 0) (fun r => some r) (fun (k50184 : Int) => (must (decide (k50184 ≤ 9223372036854775807))).bind fun u50270 =>
  ctl (forC (R := (Int)) (fun i50272 => fun (_ : Unit) => ctl (forC (R := (Int)) (fun i50668 => fun (in_50685 : Bool) => (idx class49183 (i50668 : Int)).bind fun x50793 =>
  if decide (x50793 < 0) then (some (Ctl.ret (-1)))
  else (some (Ctl.next (in_50685 || decide (x50793 = (i50272 : Int)))))) (class49183.length) 0 false) (fun r => some (Ctl.ret r)) (fun (in_50758 : Bool) => if !in_50758 then (some (Ctl.ret (-1)))
  else (some (Ctl.next ())))) (k50184.toNat) 0 ()) (fun r => some r) (fun (_ : Unit) => ctl (forC (R := (Int)) (fun i50885 => fun (_ : Unit) => (idx class49183 (i50885 : Int)).bind fun x50948 =>
  if decide (x50948 < 0) then (some (Ctl.ret (-1)))
  else (some (Ctl.next ()))) (class49183.length) 0 ()) (fun r => some r) (fun (_ : Unit) => some k50184))))

noncomputable def base_Clip_p (n51000 : Int) (lo51001 : Int) (hi51002 : Int) : Option (Int) :=
  some (max lo51001 (min n51000 hi51002))
def base_Clip_t (n51000 : Int) (lo51001 : Int) (hi51002 : Int) : Int :=
  (max lo51001 (min n51000 hi51002))
theorem base_Clip_tot (n51000 : Int) (lo51001 : Int) (hi51002 : Int) : base_Clip_p n51000 lo51001 hi51002 = some (base_Clip_t n51000 lo51001 hi51002) := by
  unfold base_Clip_p base_Clip_t
  (repeat' split) <;> rfl
attribute [irreducible] base_Clip_t

noncomputable def ref45_goal_o_p (x51026 : System) (class51033 : (List Int)) (c51035 : Int) : Option (Bool) :=
  ctl (forC (R := (Bool)) (fun i51265 => fun (_ : Unit) => ((idx class51033 (i51265 : Int)).bind fun x51415 =>
  if decide (x51415 = c51035) then ((idx x51026.Goals (i51265 : Int)).bind fun x51423 =>
  some x51423)
  else (some false)).bind (fun (z51412 : Bool) => if z51412 then (some (Ctl.ret true))
  else (some (Ctl.next ())))) (class51033.length) 0 ()) (fun r => some r) (fun (_ : Unit) => some false)

noncomputable def ref45_Merge_p (x23741 : System) (most23748 : Int) : Option ((List Int)) :=
  (ref45_Bisimulation_p x23741).bind <| fun (y58570 : (List Int)) =>
  (ref45_Many_o_p y58570 x23741.States).bind <| fun (y58585 : Int) =>
  ctl (whileC (R := ((List Int))) (un2 fun (k60349 : Int) (l60350 : (List Int)) => if decide ((base_Clip_t most23748 1 4096) < k60349) then ((must (decide (k60349 ≤ 9223372036854775807))).bind fun u63906 =>
  (forS (fun i63908 => un2 fun (from_64239 : Int) (to64240 : Int) => (must (decide ((i63908 : Int) ≤ 9223372036854775807))).bind fun u64597 =>
  (forS (fun i64599 => un2 fun (from_64692 : Int) (to64693 : Int) => (ref45_goal_o_p x23741 l60350 (i64599 : Int)).bind <| fun (y64866 : Bool) =>
  (ref45_goal_o_p x23741 l60350 (i63908 : Int)).bind <| fun (y64874 : Bool) =>
  (if (y64866 == y64874) then (some ((i63908 : Int), (i64599 : Int)))
  else (some (from_64692, to64693))).bind (un2 fun (from_64879 : Int) (to64880 : Int) => some (from_64879, to64880))) ((i63908 : Int).toNat) 0 (from_64239, to64240)).bind (un2 fun (from_64692 : Int) (to64693 : Int) => some (from_64692, to64693))) (k60349.toNat) 0 (1, 0)).bind (un2 fun (from_64239 : Int) (to64240 : Int) => (forS (fun i64943 => fun (l65167 : (List Int)) => (idx l65167 (i64943 : Int)).bind fun x65422 =>
  (if decide (x65422 = from_64239) then ((setI l65167 (i64943 : Int) to64240).bind fun l65536 =>
  some l65536)
  else ((if decide (from_64239 < x65422) then ((setI l65167 (i64943 : Int) (IntKind.i64.wrap (x65422 - 1))).bind fun l65594 =>
  some l65594)
  else (some l65167)).bind (fun (l65569 : (List Int)) => some l65569))).bind (fun (l65521 : (List Int)) => some l65521)) (l60350.length) 0 l60350).bind (fun (l65167 : (List Int)) => some (Ctl.next (IntKind.i64.wrap (k60349 - 1), l65167)))))
  else (some (Ctl.brk (k60349, l60350)))) (y58585, y58570)) (fun r => some r) (un2 fun (k63872 : Int) (l63873 : (List Int)) => some l63873)

noncomputable def law45_ShrinkMerges_p (x1 : System) (most8 : Int) : Option (Bool) :=
  ((law45_awake_p).bind <| fun (y65755 : Bool) =>
  if !y65755 then (some true)
  else ((law45_large_p x1).bind <| fun (y65764 : Bool) =>
  some y65764)).bind (fun (z65750 : Bool) => if z65750 then ((law45_awake_p).bind <| fun (y65789 : Bool) =>
  some y65789)
  else ((shrink_Merge_p x1 most8).bind <| un2 fun (y65808 : (List Int)) (y65809 : (Option Int)) =>
  (ref44_Valid_p x1).bind <| fun (y65824 : Bool) =>
  if !y65824 then (some ((decide ((y65808.length : Int) = 0)) && (base_Is_t y65809 2)))
  else ((if y65809.isNone then ((ref45_Merge_p x1 most8).bind <| fun (y65877 : (List Int)) =>
  (base_Ints_o_o_p y65808 y65877).bind <| fun (y65885 : Bool) =>
  some y65885)
  else (some false)).bind (fun (z65871 : Bool) => some z65871))))

noncomputable def law45_ShrinkBisimulates_p (x65907 : System) : Option (Bool) :=
  ((law45_awake_p).bind <| fun (y66113 : Bool) =>
  if !y66113 then (some true)
  else ((law45_large_p x65907).bind <| fun (y66122 : Bool) =>
  some y66122)).bind (fun (z66108 : Bool) => if z66108 then ((law45_awake_p).bind <| fun (y66146 : Bool) =>
  some y66146)
  else ((shrink_Bisimulation_p x65907).bind <| un2 fun (y66165 : (List Int)) (y66166 : (Option Int)) =>
  (ref44_Valid_p x65907).bind <| fun (y66181 : Bool) =>
  if !y66181 then (some ((decide ((y66165.length : Int) = 0)) && (base_Is_t y66166 2)))
  else ((if y66166.isNone then ((ref45_Bisimulation_p x65907).bind <| fun (y66234 : (List Int)) =>
  (base_Ints_o_o_p y66165 y66234).bind <| fun (y66242 : Bool) =>
  some y66242)
  else (some false)).bind (fun (z66228 : Bool) => some z66228))))

end Go.Pw
