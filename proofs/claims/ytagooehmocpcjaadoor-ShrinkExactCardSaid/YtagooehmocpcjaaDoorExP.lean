/-
  What the functions compute, in plain Lean (printed by my generator).
-/
import Derived.Test.YtagooehmocpcjaaDoorLA
import Derived.Test.YtagooehmocpcjaaDoorL11
import Derived.Test.YtagooehmocpcjaaDoorL14
import Derived.Test.YtagooehmocpcjaaDoorLB
import Derived.Test.YtagooehmocpcjaaDoorL21
import Derived.Test.YtagooehmocpcjaaDoorL22
set_option maxRecDepth 100000
set_option maxHeartbeats 4000000
set_option linter.unusedVariables false
namespace Go.Pw
structure Edge where
  From : Int
  Label : Int
  To : Int
def encEdge : Enc Edge := Enc.iso ((encInt .i64).pair ((encInt .i64).pair (encInt .i64))) (fun b => (b.From, b.Label, b.To))
theorem encEdge_val {s : PHeap} {v : Value} {b : Edge} : encEdge.val s v b ↔ v = .agg #[.int .i64 (b.From), .int .i64 (b.Label), .int .i64 (b.To)] := by
  simp only [Enc.iso, Enc.pair, Enc.val, encEdge, encInt, if_true, oneCell]
  constructor
  · rintro ⟨cs, rfl, h⟩
    obtain ⟨cs⟩ := cs
    simp only [] at h
    obtain ⟨_, _, rfl, rfl, ⟨_, _, rfl, rfl, rfl⟩⟩ := h
    rfl
  · rintro rfl
    exact ⟨_, rfl, ⟨[.int .i64 (b.From)], [.int .i64 (b.Label), .int .i64 (b.To)], rfl, rfl, ⟨[.int .i64 (b.Label)], [.int .i64 (b.To)], rfl, rfl, rfl⟩⟩⟩

structure System where
  States : Int
  Init : Int
  Costs : (List Int)
  Edges : (List Edge)
  Goals : (List Bool)
def encSystem : Enc System := Enc.iso ((encInt .i64).pair ((encInt .i64).pair ((encSlice (encInt .i64)).pair ((encSlice encEdge).pair (encSlice encBool))))) (fun b => (b.States, b.Init, b.Costs, b.Edges, b.Goals))
theorem encSystem_val {s : PHeap} {v : Value} {b : System} : encSystem.val s v b ↔ ∃ u1, ∃ u2, ∃ u3, v = .agg #[.int .i64 (b.States), .int .i64 (b.Init), u1, u2, u3] ∧ SliceRep (encInt .i64) s u1 (b.Costs) ∧ SliceRep encEdge s u2 (b.Edges) ∧ SliceRep encBool s u3 (b.Goals) := by
  simp only [Enc.iso, Enc.pair, Enc.val, encInt, encSlice, encSystem, if_true, oneCell]
  constructor
  · rintro ⟨cs, rfl, h⟩
    obtain ⟨cs⟩ := cs
    simp only [] at h
    obtain ⟨_, _, rfl, rfl, ⟨_, _, rfl, rfl, ⟨_, _, rfl, ⟨w1, rfl, h1⟩, ⟨_, _, rfl, ⟨w2, rfl, h2⟩, ⟨w3, rfl, h3⟩⟩⟩⟩⟩ := h
    exact ⟨w1, w2, w3, rfl, h1, h2, h3⟩
  · rintro ⟨w1, w2, w3, rfl, h1, h2, h3⟩
    exact ⟨_, rfl, ⟨[.int .i64 (b.States)], [.int .i64 (b.Init), w1, w2, w3], rfl, rfl, ⟨[.int .i64 (b.Init)], [w1, w2, w3], rfl, rfl, ⟨[w1], [w2, w3], rfl, ⟨w1, rfl, h1⟩, ⟨[w2], [w3], rfl, ⟨w2, rfl, h2⟩, ⟨w3, rfl, h3⟩⟩⟩⟩⟩⟩

noncomputable def cmp_isNaN_int__p (x295 : Int) : Option (Bool) :=
  some (!decide (x295 = x295))
def cmp_isNaN_int__t (x295 : Int) : Bool :=
  (!decide (x295 = x295))
theorem cmp_isNaN_int__tot (x295 : Int) : cmp_isNaN_int__p x295 = some (cmp_isNaN_int__t x295) := by
  unfold cmp_isNaN_int__p cmp_isNaN_int__t
  (repeat' split) <;> rfl
attribute [irreducible] cmp_isNaN_int__t

noncomputable def cmp_Compare_int__p (x293 : Int) (y294 : Int) : Option (Int) :=
  if (cmp_isNaN_int__t x293) then (if (cmp_isNaN_int__t y294) then (some 0)
  else (some (-1)))
  else (if (cmp_isNaN_int__t y294) then (some 1)
  else (if decide (x293 < y294) then (some (-1))
  else (if decide (y294 < x293) then (some 1)
  else (some 0))))
def cmp_Compare_int__t (x293 : Int) (y294 : Int) : Int :=
  if (cmp_isNaN_int__t x293) then (if (cmp_isNaN_int__t y294) then (0)
  else ((-1)))
  else (if (cmp_isNaN_int__t y294) then (1)
  else (if decide (x293 < y294) then ((-1))
  else (if decide (y294 < x293) then (1)
  else (0))))
theorem cmp_Compare_int__tot (x293 : Int) (y294 : Int) : cmp_Compare_int__p x293 y294 = some (cmp_Compare_int__t x293 y294) := by
  unfold cmp_Compare_int__p cmp_Compare_int__t
  (repeat' split) <;> rfl
attribute [irreducible] cmp_Compare_int__t

noncomputable def cmp_Or_int__p (vals378 : (List Int)) : Option (Int) :=
  ctl (forC (R := (Int)) (fun i479 => fun (_ : Unit) => (idx vals378 (i479 : Int)).bind fun x542 =>
  if !decide (x542 = 0) then (some (Ctl.ret x542))
  else (some (Ctl.next ()))) (vals378.length) 0 ()) (fun r => some r) (fun (_ : Unit) => some 0)

noncomputable def transys_compare_p (a278 : Edge) (b279 : Edge) : Option (Int) :=
  (cmp_Or_int__p [(cmp_Compare_int__t a278.From b279.From), (cmp_Compare_int__t a278.Label b279.Label), (cmp_Compare_int__t a278.To b279.To)]).bind <| fun (y792 : Int) =>
  some y792

noncomputable def transys_Valid_p (x64 : System) : Option (Bool) :=
  if ((decide (x64.States < 1)) || ((decide (4096 < x64.States)) || ((decide (x64.Init < 0)) || ((decide (x64.States ≤ x64.Init)) || ((!decide ((x64.Goals.length : Int) = x64.States)) || ((decide (4096 < (x64.Costs.length : Int))) || decide (65536 < (x64.Edges.length : Int)))))))) then (some false)
  else (ctl (forC (R := (Bool)) (fun i100 => fun (_ : Unit) => (idx x64.Costs (i100 : Int)).bind fun x100 =>
  if ((decide (x100 < 0)) || decide (1048576 < x100)) then (some (Ctl.ret false))
  else (some (Ctl.next ()))) (x64.Costs.length) 0 ()) (fun r => some r) (fun (_ : Unit) => ctl (forC (R := (Bool)) (fun i101 => fun (_ : Unit) => (idx x64.Edges (i101 : Int)).bind fun x101 =>
  (if decide (x101.From < 0) then (some true)
  else (if decide (x64.States ≤ x101.From) then (some true)
  else (if decide (x101.To < 0) then (some true)
  else (if decide (x64.States ≤ x101.To) then (some true)
  else (if decide (x101.Label < 0) then (some true)
  else (if decide ((x64.Costs.length : Int) ≤ x101.Label) then (some true)
  else (if decide (0 < (i101 : Int)) then ((idx x64.Edges (IntKind.i64.wrap ((i101 : Int) - 1))).bind fun x102 =>
  (transys_compare_p x102 x101).bind <| fun (y100 : Int) =>
  some (decide (0 ≤ y100)))
  else (some false)))))))).bind (fun (z100 : Bool) => if z100 then (some (Ctl.ret false))
  else (some (Ctl.next ())))) (x64.Edges.length) 0 ()) (fun r => some r) (fun (_ : Unit) => some true)))

noncomputable def strconv_FormatBool_55_p (b100 : Bool) : Option (ByteArray) :=
  if b100 then (some (⟨#[116, 114, 117, 101]⟩))
  else (some (⟨#[102, 97, 108, 115, 101]⟩))
def strconv_FormatBool_55_t (b100 : Bool) : ByteArray :=
  if b100 then ((⟨#[116, 114, 117, 101]⟩))
  else ((⟨#[102, 97, 108, 115, 101]⟩))
theorem strconv_FormatBool_55_tot (b100 : Bool) : strconv_FormatBool_55_p b100 = some (strconv_FormatBool_55_t b100) := by
  unfold strconv_FormatBool_55_p strconv_FormatBool_55_t
  (repeat' split) <;> rfl
attribute [irreducible] strconv_FormatBool_55_t

noncomputable def strconv_FormatBool_p (b100 : Bool) : Option (ByteArray) :=
  some (strconv_FormatBool_55_t b100)
def strconv_FormatBool_t (b100 : Bool) : ByteArray :=
  (strconv_FormatBool_55_t b100)
theorem strconv_FormatBool_tot (b100 : Bool) : strconv_FormatBool_p b100 = some (strconv_FormatBool_t b100) := by
  unfold strconv_FormatBool_p strconv_FormatBool_t
  (repeat' split) <;> rfl
attribute [irreducible] strconv_FormatBool_t

noncomputable def shrink_numbered_o_p (l100 : (List ByteArray)) : Option ((List Int) × Int) :=
  (forS (fun i100 => un2 fun (out100 : (List Int)) (l101 : SMap) => (idx l100 (i100 : Int)).bind fun x100 =>
  (mapGet l101 x100).bind fun q100 =>
  (if !q100.2 then ((mapPut l101 x100 (l101.length : Int)).bind fun m100 =>
  some ((l101.length : Int), m100))
  else (some (q100.1, l101))).bind (un2 fun (k100 : Int) (l102 : SMap) => (app 8 out100 [k100]).bind fun l103 =>
  some (l103, l102))) (l100.length) 0 ([], ([] : SMap))).bind (un2 fun (out100 : (List Int)) (l101 : SMap) => some (out100, (l101.length : Int)))

structure Arr2_int where
  a0 : Int
  a1 : Int
def encArr2_int : Enc Arr2_int := Enc.iso ((encInt .i64).pair (encInt .i64)) (fun b => (b.a0, b.a1))
theorem encArr2_int_val {s : PHeap} {v : Value} {b : Arr2_int} : encArr2_int.val s v b ↔ v = .agg #[.int .i64 (b.a0), .int .i64 (b.a1)] := by
  simp only [Enc.iso, Enc.pair, Enc.val, encArr2_int, encInt, if_true, oneCell]
  constructor
  · rintro ⟨cs, rfl, h⟩
    obtain ⟨cs⟩ := cs
    simp only [] at h
    obtain ⟨_, _, rfl, rfl, rfl⟩ := h
    rfl
  · rintro rfl
    exact ⟨_, rfl, ⟨[.int .i64 (b.a0)], [.int .i64 (b.a1)], rfl, rfl, rfl⟩⟩

noncomputable def shrink_refine_c1_p (a100 : Arr2_int) (b100 : Arr2_int) : Option (Int) :=
  (cmp_Or_int__p [(cmp_Compare_int__t a100.a0 b100.a0), (cmp_Compare_int__t a100.a1 b100.a1)]).bind <| fun (y100 : Int) =>
  some y100

def cmpP (a b : Arr2_int) : Int := if cmpI a.a0 b.a0 ≠ 0 then cmpI a.a0 b.a0 else cmpI a.a1 b.a1
noncomputable def sortPairs_p (xs : List Arr2_int) : Option (List Arr2_int) := if xs.length < 4611686018427387904 then some (xs.mergeSort fun x y => !decide (cmpP y x < 0)) else none

def strconv_Itoa_p (n : Int) : Option ByteArray := if -9223372036854775808 ≤ n ∧ n ≤ 9223372036854775807 then some ⟨(Lib.itoa n).toArray⟩ else none

noncomputable def slices_Compact____2_int__2_int__o_p (s_100 : (List Arr2_int)) : Option (Nat × (List Arr2_int)) :=
  if decide ((s_100.length : Int) < 2) then (some ((s_100).length, s_100))
  else (ctl (whileC (R := (Nat × (List Arr2_int))) (fun (k100 : Int) => if decide (k100 < (s_100.length : Int)) then ((idx s_100 k100).bind fun x100 =>
  (idx s_100 (IntKind.i64.wrap (k100 - 1))).bind fun x101 =>
  if eqs [x100.a0, x100.a1] [x101.a0, x101.a1] then ((view s_100 k100 (s_100.length : Int)).bind fun n100 =>
  ctl (whileC (R := (Nat × (List Arr2_int))) (un3 fun (k101 : Int) (k102 : Int) (l100 : (List Arr2_int)) => if decide (k102 < (n100 : Int)) then ((idxV l100 k100 n100 k102).bind fun x102 =>
  (idxV l100 k100 n100 (IntKind.i64.wrap (k102 - 1))).bind fun x103 =>
  (if !(eqs [x102.a0, x102.a1] [x103.a0, x103.a1]) then ((idxV l100 k100 n100 k102).bind fun x104 =>
  (idx l100 k101).bind fun x105 =>
  (setI l100 k101 x104).bind fun l101 =>
  some (IntKind.i64.wrap (k101 + 1), l101))
  else (some (k101, l100))).bind (un2 fun (k103 : Int) (l102 : (List Arr2_int)) => some (Ctl.next (k103, IntKind.i64.wrap (k102 + 1), l102))))
  else (some (Ctl.brk (k101, k102, l100)))) (k100, 1, s_100)) (fun r => some (Ctl.ret r)) (un3 fun (k104 : Int) (k105 : Int) (l103 : (List Arr2_int)) => (view l103 k104 (l103.length : Int)).bind fun n101 =>
  (view ((l103).take (k104).toNat ++ List.replicate n101 (⟨0, 0⟩ : Arr2_int) ++ (l103).drop ((k104).toNat + n101)) 0 k104).bind fun n102 =>
  some (Ctl.ret (n102, (l103).take (k104).toNat ++ List.replicate n101 (⟨0, 0⟩ : Arr2_int) ++ (l103).drop ((k104).toNat + n101)))))
  else (some (Ctl.next (IntKind.i64.wrap (k100 + 1)))))
  else (some (Ctl.brk k100))) 1) (fun r => some r) (fun (k106 : Int) => some ((s_100).length, s_100)))

noncomputable def shrink_refine_o_p (x100 : System) (class100 : (List Int)) : Option ((List Int) × Int) :=
  (mk 24 ([] : (List Arr2_int)) x100.States).bind fun l100 =>
  (forS (fun i100 => fun (l101 : (List (List Arr2_int))) => (idx x100.Edges (i100 : Int)).bind fun x101 =>
  (idx l101 x101.From).bind fun row100 =>
  (idx class100 x101.To).bind fun x102 =>
  (app 16 row100 [(⟨x101.Label, x102⟩ : Arr2_int)]).bind fun l102 =>
  (setI l101 x101.From l102).bind fun l103 =>
  some l103) (x100.Edges.length) 0 l100).bind (fun (l101 : (List (List Arr2_int))) => (mk 16 (⟨#[]⟩) x100.States).bind fun l104 =>
  (forS (fun i101 => un2 fun (l105 : (List ByteArray)) (l106 : (List (List Arr2_int))) => (idx l106 (i101 : Int)).bind fun row101 =>
  (sortPairs_p row101).bind <| fun (l107 : (List Arr2_int)) =>
  (setI l106 (i101 : Int) l107).bind fun l108 =>
  (idx class100 (i101 : Int)).bind fun x103 =>
  (strconv_Itoa_p x103).bind <| fun (y100 : ByteArray) =>
  (appS ([] : List Int) y100).bind fun l109 =>
  (idx l108 (i101 : Int)).bind fun row102 =>
  (slices_Compact____2_int__2_int__o_p row102).bind <| un2 fun (y101 : Nat) (l110 : (List Arr2_int)) =>
  (setI l108 (i101 : Int) l110).bind fun l111 =>
  (must (decide ((y101 : Int) ≤ 9223372036854775807))).bind fun u100 =>
  (forS (fun i102 => fun (l112 : (List Int)) => (idx l111 (i101 : Int)).bind fun row103 =>
  (idxV row103 0 y101 (i102 : Int)).bind fun x104 =>
  (strconv_Itoa_p x104.a0).bind <| fun (y102 : ByteArray) =>
  (cat (⟨#[32]⟩) y102).bind fun c100 =>
  (cat c100 (⟨#[58]⟩)).bind fun c101 =>
  (strconv_Itoa_p x104.a1).bind <| fun (y103 : ByteArray) =>
  (cat c101 y103).bind fun c102 =>
  (appS l112 c102).bind fun l113 =>
  some l113) ((y101 : Int).toNat) 0 l109).bind (fun (l112 : (List Int)) => (strOf l112).bind fun q100 =>
  (idx l105 (i101 : Int)).bind fun x105 =>
  (setI l105 (i101 : Int) q100).bind fun l114 =>
  some (l114, l111))) (l101.length) 0 (l104, l101)).bind (un2 fun (l105 : (List ByteArray)) (l106 : (List (List Arr2_int))) => (shrink_numbered_o_p l105).bind <| un2 fun (y104 : (List Int)) (y105 : Int) =>
  some (y104, y105)))

noncomputable def shrink_Bisimulation_p (x51 : System) : Option ((List Int) × (Option Int)) :=
  (transys_Valid_p x51).bind <| fun (y100 : Bool) =>
  if !y100 then (some ([], some 2))
  else ((mk 16 (⟨#[]⟩) x51.States).bind fun l100 =>
  (forS (fun i100 => fun (l101 : (List ByteArray)) => (idx x51.Goals (i100 : Int)).bind fun x100 =>
  (idx l101 (i100 : Int)).bind fun x101 =>
  (setI l101 (i100 : Int) (strconv_FormatBool_t x100)).bind fun l102 =>
  some l102) (x51.Goals.length) 0 l100).bind (fun (l101 : (List ByteArray)) => (shrink_numbered_o_p l101).bind <| un2 fun (y101 : (List Int)) (y102 : Int) =>
  ctl (whileC (R := ((List Int) × (Option Int))) (un2 fun (class100 : (List Int)) (n100 : Int) => (shrink_refine_o_p x51 class100).bind <| un2 fun (y103 : (List Int)) (y104 : Int) =>
  if decide (y104 = n100) then (some (Ctl.ret (y103, none)))
  else (some (Ctl.next (y103, y104)))) (y101, y102)) (fun r => some r) (un2 fun (class101 : (List Int)) (n101 : Int) => none)))

noncomputable def slices_Max___int_int__o_p (x100 : (List Int)) : Option (Int) :=
  (if decide ((x100.length : Int) < 1) then (none)
  else (some ())).bind (fun (_ : Unit) => (idx x100 0).bind fun x101 =>
  ctl (whileC (R := (Int)) (un2 fun (m100 : Int) (i100 : Int) => if decide (i100 < (x100.length : Int)) then ((idx x100 i100).bind fun x102 =>
  some (Ctl.next (max m100 x102, IntKind.i64.wrap (i100 + 1))))
  else (some (Ctl.brk (m100, i100)))) (x101, 1)) (fun r => some r) (un2 fun (m101 : Int) (i101 : Int) => some m101))

noncomputable def shrink_pair_o_p (goals100 : (List Bool)) : Option (Int × Int) :=
  ctl (whileC (R := (Int × Int)) (fun (k100 : Int) => if decide (0 < k100) then (ctl (whileC (R := (Int × Int)) (fun (i100 : Int) => if decide (0 ≤ i100) then ((idx goals100 i100).bind fun x100 =>
  (idx goals100 k100).bind fun x101 =>
  if (x100 == x101) then (some (Ctl.ret (i100, k100)))
  else (some (Ctl.next (IntKind.i64.wrap (i100 - 1)))))
  else (some (Ctl.brk i100))) (IntKind.i64.wrap (k100 - 1))) (fun r => some (Ctl.ret r)) (fun (i101 : Int) => some (Ctl.next (IntKind.i64.wrap (k100 - 1)))))
  else (some (Ctl.brk k100))) (IntKind.i64.wrap ((goals100.length : Int) - 1))) (fun r => some r) (fun (k101 : Int) => some (0, 1))

def delB_p (xs : List Bool) (i j : Int) : Option (List Bool) := if 0 ≤ i ∧ i ≤ j ∧ j ≤ xs.length ∧ 0 < xs.length then some (xs.take i.toNat ++ xs.drop j.toNat) else none

noncomputable def shrink_Merge_p (x100 : System) (most100 : Int) : Option ((List Int) × (Option Int)) :=
  (shrink_Bisimulation_p x100).bind <| un2 fun (y100 : (List Int)) (y101 : (Option Int)) =>
  if y101.isSome then (some ([], y101))
  else ((slices_Max___int_int__o_p y100).bind <| fun (y102 : Int) =>
  (mk 1 false (IntKind.i64.wrap (y102 + 1))).bind fun l100 =>
  (forS (fun i100 => fun (l101 : (List Bool)) => (idx y100 (i100 : Int)).bind fun x101 =>
  (idx x100.Goals (i100 : Int)).bind fun x102 =>
  (idx l101 x101).bind fun x103 =>
  (setI l101 x101 x102).bind fun l102 =>
  some l102) (y100.length) 0 l100).bind (fun (l101 : (List Bool)) => ctl (whileC (R := ((List Int) × (Option Int))) (un2 fun (l103 : (List Int)) (l104 : (List Bool)) => if decide ((max 1 (min most100 4096)) < (l104.length : Int)) then ((shrink_pair_o_p l104).bind <| un2 fun (y103 : Int) (y104 : Int) =>
  (forS (fun i101 => fun (l105 : (List Int)) => (idx l105 (i101 : Int)).bind fun x104 =>
  (if decide (x104 = y104) then ((setI l105 (i101 : Int) y103).bind fun l106 =>
  some l106)
  else (some l105)).bind (fun (l107 : (List Int)) => (if decide (y104 < x104) then ((idx l107 (i101 : Int)).bind fun x105 =>
  (setI l107 (i101 : Int) (IntKind.i64.wrap (x104 - 1))).bind fun l108 =>
  some l108)
  else (some l107)).bind (fun (l109 : (List Int)) => some l109))) (l103.length) 0 l103).bind (fun (l105 : (List Int)) => (delB_p l104 y104 (IntKind.i64.wrap (y104 + 1))).bind <| fun (l110 : (List Bool)) =>
  some (Ctl.next (l105, l110))))
  else (some (Ctl.brk (l103, l104)))) (y100, l101)) (fun r => some r) (un2 fun (l111 : (List Int)) (l112 : (List Bool)) => some (l111, none))))

noncomputable def base_Ints_o_p (a100 : (List Int)) (b100 : (List Int)) : Option (Bool) :=
  if !decide ((a100.length : Int) = (b100.length : Int)) then (some false)
  else (ctl (forC (R := (Bool)) (fun i100 => fun (_ : Unit) => (idx a100 (i100 : Int)).bind fun x100 =>
  (idx b100 (i100 : Int)).bind fun x101 =>
  if !decide (x100 = x101) then (some (Ctl.ret false))
  else (some (Ctl.next ()))) (a100.length) 0 ()) (fun r => some r) (fun (_ : Unit) => some true))

noncomputable def law45_awake_p  : Option (Bool) :=
  (shrink_Bisimulation_p (⟨4, 0, [1, 1], [(⟨0, 0, 1⟩ : Edge), (⟨0, 0, 2⟩ : Edge), (⟨1, 1, 3⟩ : Edge), (⟨2, 1, 3⟩ : Edge)], [false, false, false, true]⟩ : System)).bind <| un2 fun (y100 : (List Int)) (y101 : (Option Int)) =>
  (shrink_Merge_p (⟨4, 0, [1, 1], [(⟨0, 0, 1⟩ : Edge), (⟨0, 0, 2⟩ : Edge), (⟨1, 1, 3⟩ : Edge), (⟨2, 1, 3⟩ : Edge)], [false, false, false, true]⟩ : System) 2).bind <| un2 fun (y102 : (List Int)) (y103 : (Option Int)) =>
  (if y101.isNone then (if y103.isNone then ((base_Ints_o_p y100 [0, 1, 1, 2]).bind <| fun (y104 : Bool) =>
  if y104 then ((base_Ints_o_p y102 [0, 0, 0, 1]).bind <| fun (y105 : Bool) =>
  some y105)
  else (some false))
  else (some false))
  else (some false)).bind (fun (z100 : Bool) => some z100)

noncomputable def ref44_Before_p (a100 : Edge) (b100 : Edge) : Option (Bool) :=
  if !decide (a100.From = b100.From) then (some (decide (a100.From < b100.From)))
  else (if !decide (a100.Label = b100.Label) then (some (decide (a100.Label < b100.Label)))
  else (some (decide (a100.To < b100.To))))
def ref44_Before_t (a100 : Edge) (b100 : Edge) : Bool :=
  if !decide (a100.From = b100.From) then ((decide (a100.From < b100.From)))
  else (if !decide (a100.Label = b100.Label) then ((decide (a100.Label < b100.Label)))
  else ((decide (a100.To < b100.To))))
theorem ref44_Before_tot (a100 : Edge) (b100 : Edge) : ref44_Before_p a100 b100 = some (ref44_Before_t a100 b100) := by
  unfold ref44_Before_p ref44_Before_t
  (repeat' split) <;> rfl
attribute [irreducible] ref44_Before_t

noncomputable def ref44_Valid_p (x100 : System) : Option (Bool) :=
  if ((decide (x100.States < 1)) || ((decide (4096 < x100.States)) || ((decide (x100.Init < 0)) || ((decide (x100.States ≤ x100.Init)) || ((!decide ((x100.Goals.length : Int) = x100.States)) || ((decide (4096 < (x100.Costs.length : Int))) || decide (65536 < (x100.Edges.length : Int)))))))) then (some false)
  else (ctl (forC (R := (Bool)) (fun i100 => fun (_ : Unit) => (idx x100.Costs (i100 : Int)).bind fun x101 =>
  if ((decide (x101 < 0)) || decide (1048576 < x101)) then (some (Ctl.ret false))
  else (some (Ctl.next ()))) (x100.Costs.length) 0 ()) (fun r => some r) (fun (_ : Unit) => ctl (forC (R := (Bool)) (fun i101 => fun (_ : Unit) => (idx x100.Edges (i101 : Int)).bind fun x102 =>
  (if decide (x102.From < 0) then (some true)
  else (if decide (x100.States ≤ x102.From) then (some true)
  else (if decide (x102.To < 0) then (some true)
  else (if decide (x100.States ≤ x102.To) then (some true)
  else (if decide (x102.Label < 0) then (some true)
  else (if decide ((x100.Costs.length : Int) ≤ x102.Label) then (some true)
  else (if decide (0 < (i101 : Int)) then ((idx x100.Edges (IntKind.i64.wrap ((i101 : Int) - 1))).bind fun x103 =>
  some (!(ref44_Before_t x103 x102)))
  else (some false)))))))).bind (fun (z100 : Bool) => if z100 then (some (Ctl.ret false))
  else (some (Ctl.next ())))) (x100.Edges.length) 0 ()) (fun r => some r) (fun (_ : Unit) => some true)))

noncomputable def law45_large_p (x100 : System) : Option (Bool) :=
  (if decide (20 < x100.States) then ((ref44_Valid_p x100).bind <| fun (y100 : Bool) =>
  if y100 then (some true)
  else (if decide (5000 < (x100.Goals.length : Int)) then (some true)
  else (if decide (80 < (x100.Edges.length : Int)) then (some true)
  else (some (decide (20 < (x100.Costs.length : Int)))))))
  else (if decide (5000 < (x100.Goals.length : Int)) then (some true)
  else (if decide (80 < (x100.Edges.length : Int)) then (some true)
  else (some (decide (20 < (x100.Costs.length : Int))))))).bind (fun (z100 : Bool) => some z100)

noncomputable def slices_Equal___int_int__p (s100 : (List Int)) (s101 : (List Int)) : Option (Bool) :=
  if !decide ((s100.length : Int) = (s101.length : Int)) then (some false)
  else (ctl (forC (R := (Bool)) (fun i100 => fun (_ : Unit) => (idx s100 (i100 : Int)).bind fun x100 =>
  (idx s101 (i100 : Int)).bind fun x101 =>
  if !decide (x100 = x101) then (some (Ctl.ret false))
  else (some (Ctl.next ()))) (s100.length) 0 ()) (fun r => some r) (fun (_ : Unit) => some true))

noncomputable def shrink_Reduce_p (list100 : (List System)) (k100 : Int) : Option ((List Int) × (Option Int)) :=
  ctl (forC (R := ((List Int) × (Option Int))) (fun i100 => fun (_ : Unit) => (idx list100 (i100 : Int)).bind fun x100 =>
  ((transys_Valid_p x100).bind <| fun (y100 : Bool) =>
  if !y100 then (some true)
  else ((idx list100 0).bind fun x101 =>
  (slices_Equal___int_int__p x100.Costs x101.Costs).bind <| fun (y101 : Bool) =>
  some (!y101))).bind (fun (z100 : Bool) => if z100 then (some (Ctl.ret ([], some 2)))
  else (some (Ctl.next ())))) (list100.length) 0 ()) (fun r => some r) (fun (_ : Unit) => if ((decide (k100 < 0)) || decide ((list100.length : Int) ≤ k100)) then (some ([], some 1))
  else ((idx list100 0).bind fun x102 =>
  (mk 16 (⟨#[]⟩) (x102.Costs.length : Int)).bind fun l100 =>
  (mk 32 (some ([] : List Int)) (l100.length : Int)).bind fun l101 =>
  (forS (fun i101 => fun (l102 : (List (Option (List Int)))) => (idx x102.Costs (i101 : Int)).bind fun x103 =>
  (idx l102 (i101 : Int)).bind fun o100 =>
  (strconv_Itoa_p x103).bind <| fun (y102 : ByteArray) =>
  (bldW l102 (i101 : Int) y102).bind fun l103 =>
  some l103) (x102.Costs.length) 0 l101).bind (fun (l102 : (List (Option (List Int)))) => (forS (fun i102 => fun (l104 : (List (Option (List Int)))) => (idx list100 (i102 : Int)).bind fun x104 =>
  if decide ((i102 : Int) = k100) then (some l104)
  else ((must (decide (((((l100.length : Int)).toNat) : Int) ≤ 9223372036854775807))).bind fun u100 =>
  (forS (fun i103 => fun (l105 : (List (Option (List Int)))) => (idx l105 (i103 : Int)).bind fun o101 =>
  (bldW l105 (i103 : Int) (⟨#[32, 124]⟩)).bind fun l106 =>
  some l106) (((((l100.length : Int)).toNat) : Int).toNat) 0 l104).bind (fun (l105 : (List (Option (List Int)))) => (forS (fun i104 => fun (l107 : (List (Option (List Int)))) => (idx x104.Edges (i104 : Int)).bind fun x105 =>
  (idx l107 x105.Label).bind fun o102 =>
  (strconv_Itoa_p x105.From).bind <| fun (y103 : ByteArray) =>
  (cat (⟨#[32]⟩) y103).bind fun c100 =>
  (cat c100 (⟨#[58]⟩)).bind fun c101 =>
  (strconv_Itoa_p x105.To).bind <| fun (y104 : ByteArray) =>
  (cat c101 y104).bind fun c102 =>
  (bldW l107 x105.Label c102).bind fun l108 =>
  some l108) (x104.Edges.length) 0 l105).bind (fun (l107 : (List (Option (List Int)))) => some l107)))) (list100.length) 0 l102).bind (fun (l104 : (List (Option (List Int)))) => (must (decide (((((l100.length : Int)).toNat) : Int) ≤ 9223372036854775807))).bind fun u101 =>
  (forS (fun i105 => un2 fun (l109 : (List ByteArray)) (l110 : (List (Option (List Int)))) => (idx l110 (i105 : Int)).bind fun o103 =>
  (bldS l110 (i105 : Int)).bind <| un2 fun (q100 : ByteArray) (l111 : List (Option (List Int))) =>
  (idx l109 (i105 : Int)).bind fun x106 =>
  (setI l109 (i105 : Int) q100).bind fun l112 =>
  some (l112, l111)) (((((l100.length : Int)).toNat) : Int).toNat) 0 (l100, l104)).bind (un2 fun (l109 : (List ByteArray)) (l110 : (List (Option (List Int)))) => (shrink_numbered_o_p l109).bind <| un2 fun (y105 : (List Int)) (y106 : Int) =>
  some (y105, none))))))

noncomputable def shrink_classes_p (class100 : (List Int)) (n100 : Int) : Option (Int × Bool) :=
  if !decide ((class100.length : Int) = n100) then (some (0, false))
  else ((mk 1 false n100).bind fun l100 =>
  ctl (forC (R := (Int × Bool)) (fun i100 => un2 fun (most100 : Int) (l101 : (List Bool)) => (idx class100 (i100 : Int)).bind fun x100 =>
  if ((decide (x100 < 0)) || decide (n100 ≤ x100)) then (some (Ctl.ret (0, false)))
  else ((idx l101 x100).bind fun x101 =>
  (setI l101 x100 true).bind fun l102 =>
  some (Ctl.next (max most100 (IntKind.i64.wrap (x100 + 1)), l102)))) (class100.length) 0 (0, l100)) (fun r => some r) (un2 fun (most101 : Int) (l103 : (List Bool)) => (cut l103 0 most101).bind fun c100 =>
  ctl (forC (R := (Int × Bool)) (fun i101 => fun (_ : Unit) => (idx c100 (i101 : Int)).bind fun x102 =>
  if !x102 then (some (Ctl.ret (0, false)))
  else (some (Ctl.next ()))) (c100.length) 0 ()) (fun r => some r) (fun (_ : Unit) => some (most101, true))))

noncomputable def slices_Clone___int_int__p (s_100 : (List Int)) : Option ((List Int)) :=
  (app 8 [] s_100).bind fun l100 =>
  some l100

noncomputable def slices_Clone___bool_bool__p (s_100 : (List Bool)) : Option ((List Bool)) :=
  (app 1 [] s_100).bind fun l100 =>
  some l100

noncomputable def shrink_order_c1_p (a100 : Edge) (b100 : Edge) : Option (Int) :=
  (cmp_Or_int__p [(cmp_Compare_int__t a100.From b100.From), (cmp_Compare_int__t a100.Label b100.Label), (cmp_Compare_int__t a100.To b100.To)]).bind <| fun (y100 : Int) =>
  some y100

def cmpE (a b : Edge) : Int := if cmpI a.From b.From ≠ 0 then cmpI a.From b.From else if cmpI a.Label b.Label ≠ 0 then cmpI a.Label b.Label else cmpI a.To b.To
noncomputable def sortEdges_p (xs : List Edge) : Option (List Edge) := if xs.length < 4611686018427387904 then some (xs.mergeSort fun x y => !decide (cmpE y x < 0)) else none

noncomputable def api_Edge__o_p (s_100 : (List Edge)) : Option (Nat × (List Edge)) :=
  if decide ((s_100.length : Int) < 2) then (some ((s_100).length, s_100))
  else (ctl (whileC (R := (Nat × (List Edge))) (fun (k100 : Int) => if decide (k100 < (s_100.length : Int)) then ((idx s_100 k100).bind fun x100 =>
  (idx s_100 (IntKind.i64.wrap (k100 - 1))).bind fun x101 =>
  if eqs [x100.From, x100.Label, x100.To] [x101.From, x101.Label, x101.To] then ((view s_100 k100 (s_100.length : Int)).bind fun n100 =>
  ctl (whileC (R := (Nat × (List Edge))) (un3 fun (k101 : Int) (k102 : Int) (l100 : (List Edge)) => if decide (k102 < (n100 : Int)) then ((idxV l100 k100 n100 k102).bind fun x102 =>
  (idxV l100 k100 n100 (IntKind.i64.wrap (k102 - 1))).bind fun x103 =>
  (if !(eqs [x102.From, x102.Label, x102.To] [x103.From, x103.Label, x103.To]) then ((idxV l100 k100 n100 k102).bind fun x104 =>
  (idx l100 k101).bind fun x105 =>
  (setI l100 k101 x104).bind fun l101 =>
  some (IntKind.i64.wrap (k101 + 1), l101))
  else (some (k101, l100))).bind (un2 fun (k103 : Int) (l102 : (List Edge)) => some (Ctl.next (k103, IntKind.i64.wrap (k102 + 1), l102))))
  else (some (Ctl.brk (k101, k102, l100)))) (k100, 1, s_100)) (fun r => some (Ctl.ret r)) (un3 fun (k104 : Int) (k105 : Int) (l103 : (List Edge)) => (view l103 k104 (l103.length : Int)).bind fun n101 =>
  (view ((l103).take (k104).toNat ++ List.replicate n101 (⟨0, 0, 0⟩ : Edge) ++ (l103).drop ((k104).toNat + n101)) 0 k104).bind fun n102 =>
  some (Ctl.ret (n102, (l103).take (k104).toNat ++ List.replicate n101 (⟨0, 0, 0⟩ : Edge) ++ (l103).drop ((k104).toNat + n101)))))
  else (some (Ctl.next (IntKind.i64.wrap (k100 + 1)))))
  else (some (Ctl.brk k100))) 1) (fun r => some r) (fun (k106 : Int) => some ((s_100).length, s_100)))

noncomputable def shrink_order_o_p (l100 : (List Edge)) : Option ((List Edge)) :=
  (sortEdges_p l100).bind <| fun (l101 : (List Edge)) =>
  (api_Edge__o_p l101).bind <| un2 fun (y100 : Nat) (l102 : (List Edge)) =>
  (must (decide (y100 ≤ l102.length))).bind fun u100 =>
  some ((l102).take y100)

noncomputable def shrink_Relabel_p (x100 : System) (class100 : (List Int)) : Option ((Option Int) × System) :=
  (shrink_classes_p class100 (x100.Costs.length : Int)).bind <| un2 fun (y100 : Int) (y101 : Bool) =>
  ((transys_Valid_p x100).bind <| fun (y102 : Bool) =>
  if !y102 then (some true)
  else (some (!y101))).bind (fun (z100 : Bool) => if z100 then (some (some 2, (⟨0, 0, [], [], []⟩ : System)))
  else ((mk 8 0 y100).bind fun l100 =>
  ctl (whileC (R := ((Option Int) × System)) (un2 fun (l101 : Int) (l102 : (List Int)) => if decide (0 ≤ l101) then ((idx class100 l101).bind fun x101 =>
  (idx l102 x101).bind fun x102 =>
  (setI l102 x101 l101).bind fun l103 =>
  some (Ctl.next (IntKind.i64.wrap (l101 - 1), l103)))
  else (some (Ctl.brk (l101, l102)))) (IntKind.i64.wrap ((class100.length : Int) - 1), l100)) (fun r => some r) (un2 fun (l104 : Int) (l105 : (List Int)) => ctl (forC (R := ((Option Int) × System)) (fun i100 => fun (_ : Unit) => (idx class100 (i100 : Int)).bind fun x103 =>
  (idx x100.Costs (i100 : Int)).bind fun x104 =>
  (idx l105 x103).bind fun x105 =>
  (idx x100.Costs x105).bind fun x106 =>
  if !decide (x104 = x106) then (some (Ctl.ret (some 2, (⟨0, 0, [], [], []⟩ : System))))
  else (some (Ctl.next ()))) (class100.length) 0 ()) (fun r => some r) (fun (_ : Unit) => (slices_Clone___int_int__p x100.Costs).bind <| fun (y103 : (List Int)) =>
  (slices_Clone___bool_bool__p x100.Goals).bind <| fun (y104 : (List Bool)) =>
  (forS (fun i101 => fun (z101 : (List Edge)) => (idx x100.Edges (i101 : Int)).bind fun x107 =>
  (idx class100 x107.Label).bind fun x108 =>
  (idx l105 x108).bind fun x109 =>
  (app 24 z101 [(⟨x107.From, x109, x107.To⟩ : Edge)]).bind fun l106 =>
  some l106) (x100.Edges.length) 0 []).bind (fun (z101 : (List Edge)) => (shrink_order_o_p z101).bind <| fun (l107 : (List Edge)) =>
  some (none, (⟨x100.States, x100.Init, y103, l107, y104⟩ : System)))))))

noncomputable def transys_labelled_p (x100 : System) : Option ((List (List Edge))) :=
  (mk 24 ([] : (List Edge)) (x100.Costs.length : Int)).bind fun l100 =>
  (forS (fun i100 => fun (l101 : (List (List Edge))) => (idx x100.Edges (i100 : Int)).bind fun x101 =>
  (idx l101 x101.Label).bind fun row100 =>
  (app 24 row100 [x101]).bind fun l102 =>
  (setI l101 x101.Label l102).bind fun l103 =>
  some l103) (x100.Edges.length) 0 l100).bind (fun (l101 : (List (List Edge))) => some l101)

noncomputable def sortProd_p (xs : List Edge) : Option (List Edge) := sortEdges_p xs

noncomputable def transys_Product_p (a100 : System) (b100 : System) : Option ((Option Int) × System) :=
  ((transys_Valid_p a100).bind <| fun (y100 : Bool) =>
  if !y100 then (some true)
  else ((transys_Valid_p b100).bind <| fun (y101 : Bool) =>
  if !y101 then (some true)
  else ((slices_Equal___int_int__p a100.Costs b100.Costs).bind <| fun (y102 : Bool) =>
  some (!y102)))).bind (fun (z100 : Bool) => if z100 then (some (some 2, (⟨0, 0, [], [], []⟩ : System)))
  else (if decide (4096 < (IntKind.i64.wrap (a100.States * b100.States))) then (some (some 5, (⟨0, 0, [], [], []⟩ : System)))
  else ((slices_Clone___int_int__p a100.Costs).bind <| fun (y103 : (List Int)) =>
  (must (decide (a100.States ≤ 9223372036854775807))).bind fun u100 =>
  (forS (fun i100 => fun (z101 : (List Bool)) => (must (decide (b100.States ≤ 9223372036854775807))).bind fun u101 =>
  (forS (fun i101 => fun (l100 : (List Bool)) => ((idx a100.Goals (i100 : Int)).bind fun x100 =>
  if x100 then ((idx b100.Goals (i101 : Int)).bind fun x101 =>
  (app 1 l100 [x101]).bind fun l101 =>
  some l101)
  else ((app 1 l100 [false]).bind fun l102 =>
  some l102)).bind (fun (l103 : (List Bool)) => some l103)) (b100.States.toNat) 0 z101).bind (fun (l100 : (List Bool)) => some l100)) (a100.States.toNat) 0 []).bind (fun (z101 : (List Bool)) => (transys_labelled_p a100).bind <| fun (y104 : (List (List Edge))) =>
  (transys_labelled_p b100).bind <| fun (y105 : (List (List Edge))) =>
  (forS (fun i102 => fun (many100 : Int) => (idx y104 (i102 : Int)).bind fun x102 =>
  (idx y105 (i102 : Int)).bind fun x103 =>
  some (IntKind.i64.wrap (many100 + (IntKind.i64.wrap ((x102.length : Int) * (x103.length : Int)))))) (y104.length) 0 0).bind (fun (many100 : Int) => if decide (65536 < many100) then (some (some 5, (⟨0, 0, [], [], []⟩ : System)))
  else ((forS (fun i103 => fun (z102 : (List Edge)) => (idx y104 (i103 : Int)).bind fun x104 =>
  (forS (fun i104 => fun (l104 : (List Edge)) => (idx x104 (i104 : Int)).bind fun x105 =>
  (idx y105 (i103 : Int)).bind fun x106 =>
  (forS (fun i105 => fun (l105 : (List Edge)) => (idx x106 (i105 : Int)).bind fun x107 =>
  (app 24 l105 [(⟨IntKind.i64.wrap ((IntKind.i64.wrap (x105.From * b100.States)) + x107.From), (i103 : Int), IntKind.i64.wrap ((IntKind.i64.wrap (x105.To * b100.States)) + x107.To)⟩ : Edge)]).bind fun l106 =>
  some l106) (x106.length) 0 l104).bind (fun (l105 : (List Edge)) => some l105)) (x104.length) 0 z102).bind (fun (l104 : (List Edge)) => some l104)) (y104.length) 0 []).bind (fun (z102 : (List Edge)) => (sortProd_p z102).bind <| fun (l107 : (List Edge)) =>
  some (none, (⟨IntKind.i64.wrap (a100.States * b100.States), IntKind.i64.wrap ((IntKind.i64.wrap (a100.Init * b100.States)) + b100.Init), y103, l107, z101⟩ : System)))))))))

noncomputable def transys_goals_p (x100 : System) : Option ((List Int)) :=
  (forS (fun i100 => fun (out100 : (List Int)) => (idx x100.Goals (i100 : Int)).bind fun x101 =>
  (if x101 then ((app 8 out100 [(i100 : Int)]).bind fun l100 =>
  some l100)
  else (some out100)).bind (fun (l101 : (List Int)) => some l101)) (x100.Goals.length) 0 []).bind (fun (out100 : (List Int)) => some out100)

structure Arc where
  From : Int
  To : Int
  Weight : Int
def encArc : Enc Arc := Enc.iso ((encInt .i64).pair ((encInt .i64).pair (encInt .i64))) (fun b => (b.From, b.To, b.Weight))
theorem encArc_val {s : PHeap} {v : Value} {b : Arc} : encArc.val s v b ↔ v = .agg #[.int .i64 (b.From), .int .i64 (b.To), .int .i64 (b.Weight)] := by
  simp only [Enc.iso, Enc.pair, Enc.val, encArc, encInt, if_true, oneCell]
  constructor
  · rintro ⟨cs, rfl, h⟩
    obtain ⟨cs⟩ := cs
    simp only [] at h
    obtain ⟨_, _, rfl, rfl, ⟨_, _, rfl, rfl, rfl⟩⟩ := h
    rfl
  · rintro rfl
    exact ⟨_, rfl, ⟨[.int .i64 (b.From)], [.int .i64 (b.To), .int .i64 (b.Weight)], rfl, rfl, ⟨[.int .i64 (b.To)], [.int .i64 (b.Weight)], rfl, rfl, rfl⟩⟩⟩

noncomputable def transys_shortest_p (x100 : System) (from_100 : (List Int)) (back100 : Bool) : Option ((List Int)) :=
  (mk 24 ([] : (List Arc)) x100.States).bind fun l100 =>
  (forS (fun i100 => fun (l101 : (List (List Arc))) => (idx x100.Edges (i100 : Int)).bind fun x101 =>
  (idx x100.Costs x101.Label).bind fun x102 =>
  (if back100 then (some (x101.To, x101.From))
  else (some (x101.From, x101.To))).bind (un2 fun (z100 : Int) (z101 : Int) => (idx l101 z100).bind fun row100 =>
  (app 24 row100 [(⟨z100, z101, x102⟩ : Arc)]).bind fun l102 =>
  (setI l101 z100 l102).bind fun l103 =>
  some l103)) (x100.Edges.length) 0 l100).bind (fun (l101 : (List (List Arc))) => (mk 8 0 x100.States).bind fun l104 =>
  (forS (fun i101 => fun (l105 : (List Int)) => (idx l105 (i101 : Int)).bind fun x103 =>
  (setI l105 (i101 : Int) 1125899906842624).bind fun l106 =>
  some l106) (l104.length) 0 l104).bind (fun (l105 : (List Int)) => (mk 1 false x100.States).bind fun l107 =>
  (slices_Clone___int_int__p from_100).bind <| fun (y100 : (List Int)) =>
  (forS (fun i102 => un2 fun (l108 : (List Int)) (l109 : (List Bool)) => (idx from_100 (i102 : Int)).bind fun x104 =>
  (idx l108 x104).bind fun x105 =>
  (setI l108 x104 0).bind fun l110 =>
  (idx l109 x104).bind fun x106 =>
  (setI l109 x104 true).bind fun l111 =>
  some (l110, l111)) (from_100.length) 0 (l105, l107)).bind (un2 fun (l108 : (List Int)) (l109 : (List Bool)) => ctl (whileC (R := ((List Int))) (un3 fun (l112 : (List Int)) (l113 : (List Bool)) (l114 : (List Int)) => if decide (0 < (l114.length : Int)) then ((idx l114 0).bind fun x107 =>
  (cut l114 1 (l114.length : Int)).bind fun c100 =>
  (idx l113 x107).bind fun x108 =>
  (setI l113 x107 false).bind fun l115 =>
  (idx l101 x107).bind fun row101 =>
  (must (decide (row101.length ≤ 9223372036854775807))).bind fun u100 =>
  (forS (fun i103 => un3 fun (l116 : (List Int)) (l117 : (List Bool)) (l118 : (List Int)) => (idx row101 (i103 : Int)).bind fun x109 =>
  (idx l116 x107).bind fun x110 =>
  (idx l116 x109.To).bind fun x111 =>
  if decide (x111 ≤ (IntKind.i64.wrap (x110 + x109.Weight))) then (some (l116, l117, l118))
  else ((setI l116 x109.To (IntKind.i64.wrap (x110 + x109.Weight))).bind fun l119 =>
  (idx l117 x109.To).bind fun x112 =>
  (if !x112 then ((app 8 l118 [x109.To]).bind fun l120 =>
  (setI l117 x109.To true).bind fun l121 =>
  some (l121, l120))
  else (some (l117, l118))).bind (un2 fun (l122 : (List Bool)) (l123 : (List Int)) => some (l119, l122, l123)))) (row101.length) 0 (l112, l115, c100)).bind (un3 fun (l116 : (List Int)) (l117 : (List Bool)) (l118 : (List Int)) => some (Ctl.next (l116, l117, l118))))
  else (some (Ctl.brk (l112, l113, l114)))) (l108, l109, y100)) (fun r => some r) (un3 fun (l124 : (List Int)) (l125 : (List Bool)) (l126 : (List Int)) => some l124))))

noncomputable def transys_Distances_p (x100 : System) : Option ((List Int) × (Option Int)) :=
  (transys_Valid_p x100).bind <| fun (y100 : Bool) =>
  if !y100 then (some ([], some 2))
  else ((transys_goals_p x100).bind <| fun (y101 : (List Int)) =>
  (transys_shortest_p x100 y101 true).bind <| fun (y102 : (List Int)) =>
  some (y102, none))

noncomputable def base_Ints_p (a100 : (List Int)) (b100 : (List Int)) : Option (Bool) :=
  if !decide ((a100.length : Int) = (b100.length : Int)) then (some false)
  else (ctl (forC (R := (Bool)) (fun i100 => fun (_ : Unit) => (idx a100 (i100 : Int)).bind fun x100 =>
  (idx b100 (i100 : Int)).bind fun x101 =>
  if !decide (x100 = x101) then (some (Ctl.ret false))
  else (some (Ctl.next ()))) (a100.length) 0 ()) (fun r => some r) (fun (_ : Unit) => some true))

noncomputable def law45_ShrinkExact_p (list1 : (List System)) (k4 : Int) : Option (Bool) :=
  ((law45_awake_p).bind <| fun (y100 : Bool) =>
  if !y100 then (some true)
  else (if decide (3 < (list1.length : Int)) then (some true)
  else (some (decide ((list1.length : Int) = 0))))).bind (fun (z100 : Bool) => if z100 then ((law45_awake_p).bind <| fun (y101 : Bool) =>
  some y101)
  else (ctl (forC (R := (Bool)) (fun i100 => fun (_ : Unit) => (idx list1 (i100 : Int)).bind fun x100 =>
  (if decide (5 < x100.States) then (some true)
  else ((law45_large_p x100).bind <| fun (y102 : Bool) =>
  if y102 then (some true)
  else ((transys_Valid_p x100).bind <| fun (y103 : Bool) =>
  some (!y103)))).bind (fun (z101 : Bool) => if z101 then (some (Ctl.ret true))
  else (some (Ctl.next ())))) (list1.length) 0 ()) (fun r => some r) (fun (_ : Unit) => (shrink_Reduce_p list1 k4).bind <| un2 fun (y104 : (List Int)) (y105 : (Option Int)) =>
  if y105.isSome then (some true)
  else (ctl (forC (R := (Bool)) (fun i101 => un10 fun (z102 : Int) (z103 : Int) (z104 : (List Int)) (z105 : (List Edge)) (z106 : (List Bool)) (z107 : Int) (z108 : Int) (z109 : (List Int)) (z110 : (List Edge)) (z111 : (List Bool)) => (idx list1 (i101 : Int)).bind fun x101 =>
  (shrink_Relabel_p x101 y104).bind <| un2 fun (y106 : (Option Int)) (y107 : System) =>
  if y106.isSome then (some (Ctl.ret false))
  else (if decide ((i101 : Int) = 0) then (some (Ctl.next (x101.States, x101.Init, x101.Costs, x101.Edges, x101.Goals, y107.States, y107.Init, y107.Costs, y107.Edges, y107.Goals)))
  else ((transys_Product_p (⟨z102, z103, z104, z105, z106⟩ : System) x101).bind <| un2 fun (y108 : (Option Int)) (y109 : System) =>
  (transys_Product_p (⟨z107, z108, z109, z110, z111⟩ : System) y107).bind <| un2 fun (y110 : (Option Int)) (y111 : System) =>
  if (y108.isSome || y110.isSome) then (some (Ctl.ret false))
  else (some (Ctl.next (y109.States, y109.Init, y109.Costs, y109.Edges, y109.Goals, y111.States, y111.Init, y111.Costs, y111.Edges, y111.Goals)))))) (list1.length) 0 (0, 0, [], [], [], 0, 0, [], [], [])) (fun r => some r) (un10 fun (z112 : Int) (z113 : Int) (z114 : (List Int)) (z115 : (List Edge)) (z116 : (List Bool)) (z117 : Int) (z118 : Int) (z119 : (List Int)) (z120 : (List Edge)) (z121 : (List Bool)) => (transys_Distances_p (⟨z112, z113, z114, z115, z116⟩ : System)).bind <| un2 fun (y112 : (List Int)) (y113 : (Option Int)) =>
  (transys_Distances_p (⟨z117, z118, z119, z120, z121⟩ : System)).bind <| un2 fun (y114 : (List Int)) (y115 : (Option Int)) =>
  (if y113.isNone then (if y115.isNone then ((base_Ints_p y112 y114).bind <| fun (y116 : Bool) =>
  some y116)
  else (some false))
  else (some false)).bind (fun (z122 : Bool) => some z122))))))

noncomputable def ref45_leads_o_p (x100 : System) (class100 : (List Int)) (state100 : Int) (label100 : Int) (to100 : Int) : Option (Bool) :=
  ctl (forC (R := (Bool)) (fun i100 => fun (_ : Unit) => (idx x100.Edges (i100 : Int)).bind fun x101 =>
  (if decide (x101.From = state100) then (if decide (x101.Label = label100) then ((idx class100 x101.To).bind fun x102 =>
  some (decide (x102 = to100)))
  else (some false))
  else (some false)).bind (fun (z100 : Bool) => if z100 then (some (Ctl.ret true))
  else (some (Ctl.next ())))) (x100.Edges.length) 0 ()) (fun r => some r) (fun (_ : Unit) => some false)

noncomputable def ref45_Agree_o_p (x100 : System) (class100 : (List Int)) (i100 : Int) (k100 : Int) : Option (Bool) :=
  (idx x100.Goals i100).bind fun x101 =>
  (idx x100.Goals k100).bind fun x102 =>
  if !(x101 == x102) then (some false)
  else (ctl (forC (R := (Bool)) (fun i101 => fun (_ : Unit) => (idx x100.Edges (i101 : Int)).bind fun x103 =>
  (if decide (x103.From = i100) then ((idx class100 x103.To).bind fun x104 =>
  (ref45_leads_o_p x100 class100 i100 x103.Label x104).bind <| fun (y100 : Bool) =>
  (ref45_leads_o_p x100 class100 k100 x103.Label x104).bind <| fun (y101 : Bool) =>
  some (!(y100 == y101)))
  else (if decide (x103.From = k100) then ((idx class100 x103.To).bind fun x105 =>
  (ref45_leads_o_p x100 class100 i100 x103.Label x105).bind <| fun (y102 : Bool) =>
  (ref45_leads_o_p x100 class100 k100 x103.Label x105).bind <| fun (y103 : Bool) =>
  some (!(y102 == y103)))
  else (some false))).bind (fun (z100 : Bool) => if z100 then (some (Ctl.ret false))
  else (some (Ctl.next ())))) (x100.Edges.length) 0 ()) (fun r => some r) (fun (_ : Unit) => some true))

noncomputable def base_Ints_o_o_p (a100 : (List Int)) (b100 : (List Int)) : Option (Bool) :=
  if !decide ((a100.length : Int) = (b100.length : Int)) then (some false)
  else (ctl (forC (R := (Bool)) (fun i100 => fun (_ : Unit) => (idx a100 (i100 : Int)).bind fun x100 =>
  (idx b100 (i100 : Int)).bind fun x101 =>
  if !decide (x100 = x101) then (some (Ctl.ret false))
  else (some (Ctl.next ()))) (a100.length) 0 ()) (fun r => some r) (fun (_ : Unit) => some true))

noncomputable def ref45_Bisimulation_p (x100 : System) : Option ((List Int)) :=
  (mk 8 0 x100.States).bind fun l100 =>
  ctl (whileC (R := ((List Int))) (fun (class100 : (List Int)) => (mk 8 0 x100.States).bind fun l101 =>
  (forS (fun i100 => un2 fun (k100 : Int) (l102 : (List Int)) => (idx l102 (i100 : Int)).bind fun x101 =>
  (setI l102 (i100 : Int) (-1)).bind fun l103 =>
  (must (decide ((i100 : Int) ≤ 9223372036854775807))).bind fun u100 =>
  (forS (fun i101 => fun (l104 : (List Int)) => ((idx l104 (i100 : Int)).bind fun x102 =>
  if decide (x102 < 0) then ((idx class100 (i100 : Int)).bind fun x103 =>
  (idx class100 (i101 : Int)).bind fun x104 =>
  if decide (x103 = x104) then ((ref45_Agree_o_p x100 class100 (i100 : Int) (i101 : Int)).bind <| fun (y100 : Bool) =>
  some y100)
  else (some false))
  else (some false)).bind (fun (z100 : Bool) => (if z100 then ((idx l104 (i101 : Int)).bind fun x105 =>
  (idx l104 (i100 : Int)).bind fun x106 =>
  (setI l104 (i100 : Int) x105).bind fun l105 =>
  some l105)
  else (some l104)).bind (fun (l106 : (List Int)) => some l106))) ((i100 : Int).toNat) 0 l103).bind (fun (l104 : (List Int)) => (idx l104 (i100 : Int)).bind fun x107 =>
  (if decide (x107 < 0) then ((setI l104 (i100 : Int) k100).bind fun l107 =>
  some (IntKind.i64.wrap (k100 + 1), l107))
  else (some (k100, l104))).bind (un2 fun (k101 : Int) (l108 : (List Int)) => some (k101, l108)))) (l101.length) 0 (0, l101)).bind (un2 fun (k100 : Int) (l102 : (List Int)) => (base_Ints_o_o_p l102 class100).bind <| fun (y101 : Bool) =>
  if y101 then (some (Ctl.ret class100))
  else (some (Ctl.next l102)))) l100) (fun r => some r) (fun (class101 : (List Int)) => none)

noncomputable def ref45_Many_o_p (class100 : (List Int)) (n100 : Int) : Option (Int) :=
  if !decide ((class100.length : Int) = n100) then (some (-1))
  else (ctl (forC (R := (Int)) (fun i100 => fun (k100 : Int) => (idx class100 (i100 : Int)).bind fun x100 =>
  if ((decide (x100 < 0)) || decide (n100 ≤ x100)) then (some (Ctl.ret (-1)))
  else (some (Ctl.next (max k100 (IntKind.i64.wrap (x100 + 1)))))) (class100.length) 0 0) (fun r => some r) (fun (k101 : Int) => (must (decide (k101 ≤ 9223372036854775807))).bind fun u100 =>
  ctl (forC (R := (Int)) (fun i101 => fun (_ : Unit) => ctl (forC (R := (Int)) (fun i102 => fun (in_100 : Bool) => (idx class100 (i102 : Int)).bind fun x101 =>
  if decide (x101 < 0) then (some (Ctl.ret (-1)))
  else (some (Ctl.next (in_100 || decide (x101 = (i101 : Int)))))) (class100.length) 0 false) (fun r => some (Ctl.ret r)) (fun (in_101 : Bool) => if !in_101 then (some (Ctl.ret (-1)))
  else (some (Ctl.next ())))) (k101.toNat) 0 ()) (fun r => some r) (fun (_ : Unit) => ctl (forC (R := (Int)) (fun i103 => fun (_ : Unit) => (idx class100 (i103 : Int)).bind fun x102 =>
  if decide (x102 < 0) then (some (Ctl.ret (-1)))
  else (some (Ctl.next ()))) (class100.length) 0 ()) (fun r => some r) (fun (_ : Unit) => some k101))))

noncomputable def base_Clip_p (n100 : Int) (lo100 : Int) (hi100 : Int) : Option (Int) :=
  some (max lo100 (min n100 hi100))
def base_Clip_t (n100 : Int) (lo100 : Int) (hi100 : Int) : Int :=
  (max lo100 (min n100 hi100))
theorem base_Clip_tot (n100 : Int) (lo100 : Int) (hi100 : Int) : base_Clip_p n100 lo100 hi100 = some (base_Clip_t n100 lo100 hi100) := by
  unfold base_Clip_p base_Clip_t
  (repeat' split) <;> rfl
attribute [irreducible] base_Clip_t

noncomputable def ref45_goal_o_p (x100 : System) (class100 : (List Int)) (c100 : Int) : Option (Bool) :=
  ctl (forC (R := (Bool)) (fun i100 => fun (_ : Unit) => ((idx class100 (i100 : Int)).bind fun x101 =>
  if decide (x101 = c100) then ((idx x100.Goals (i100 : Int)).bind fun x102 =>
  some x102)
  else (some false)).bind (fun (z100 : Bool) => if z100 then (some (Ctl.ret true))
  else (some (Ctl.next ())))) (class100.length) 0 ()) (fun r => some r) (fun (_ : Unit) => some false)

noncomputable def ref45_Merge_p (x100 : System) (most100 : Int) : Option ((List Int)) :=
  (ref45_Bisimulation_p x100).bind <| fun (y100 : (List Int)) =>
  (ref45_Many_o_p y100 x100.States).bind <| fun (y101 : Int) =>
  ctl (whileC (R := ((List Int))) (un2 fun (k100 : Int) (l100 : (List Int)) => if decide ((base_Clip_t most100 1 4096) < k100) then ((must (decide (k100 ≤ 9223372036854775807))).bind fun u100 =>
  (forS (fun i100 => un2 fun (from_100 : Int) (to100 : Int) => (must (decide ((i100 : Int) ≤ 9223372036854775807))).bind fun u101 =>
  (forS (fun i101 => un2 fun (from_101 : Int) (to101 : Int) => (ref45_goal_o_p x100 l100 (i101 : Int)).bind <| fun (y102 : Bool) =>
  (ref45_goal_o_p x100 l100 (i100 : Int)).bind <| fun (y103 : Bool) =>
  (if (y102 == y103) then (some ((i100 : Int), (i101 : Int)))
  else (some (from_101, to101))).bind (un2 fun (from_102 : Int) (to102 : Int) => some (from_102, to102))) ((i100 : Int).toNat) 0 (from_100, to100)).bind (un2 fun (from_101 : Int) (to101 : Int) => some (from_101, to101))) (k100.toNat) 0 (1, 0)).bind (un2 fun (from_100 : Int) (to100 : Int) => (forS (fun i102 => fun (l101 : (List Int)) => (idx l101 (i102 : Int)).bind fun x101 =>
  (if decide (x101 = from_100) then ((setI l101 (i102 : Int) to100).bind fun l102 =>
  some l102)
  else ((if decide (from_100 < x101) then ((setI l101 (i102 : Int) (IntKind.i64.wrap (x101 - 1))).bind fun l103 =>
  some l103)
  else (some l101)).bind (fun (l104 : (List Int)) => some l104))).bind (fun (l105 : (List Int)) => some l105)) (l100.length) 0 l100).bind (fun (l101 : (List Int)) => some (Ctl.next (IntKind.i64.wrap (k100 - 1), l101)))))
  else (some (Ctl.brk (k100, l100)))) (y101, y100)) (fun r => some r) (un2 fun (k101 : Int) (l106 : (List Int)) => some l106)

noncomputable def base_Num_p (e100 : (Option Int)) : Option (Int) :=
  if e100.isNone then (some 0)
  else (if e100.isSome then (some (e100.getD 0))
  else (some (-1)))
def base_Num_t (e100 : (Option Int)) : Int :=
  if e100.isNone then (0)
  else (if e100.isSome then ((e100.getD 0))
  else ((-1)))
theorem base_Num_tot (e100 : (Option Int)) : base_Num_p e100 = some (base_Num_t e100) := by
  unfold base_Num_p base_Num_t
  (repeat' split) <;> rfl
attribute [irreducible] base_Num_t

noncomputable def base_Is_p (e100 : (Option Int)) (code100 : Int) : Option (Bool) :=
  some (e100.isSome && decide ((base_Num_t e100) = code100))
def base_Is_t (e100 : (Option Int)) (code100 : Int) : Bool :=
  (e100.isSome && decide ((base_Num_t e100) = code100))
theorem base_Is_tot (e100 : (Option Int)) (code100 : Int) : base_Is_p e100 code100 = some (base_Is_t e100 code100) := by
  unfold base_Is_p base_Is_t
  (repeat' split) <;> rfl
attribute [irreducible] base_Is_t

noncomputable def api_Edge__f44_p (x100 : (List Edge)) (target100 : Edge) : Option (Int × Bool) :=
  ctl (whileC (R := (Int × Bool)) (un2 fun (i100 : Int) (j100 : Int) => if decide (i100 < j100) then ((idx x100 (IntKind.i64.wrap ((IntKind.u64.wrap (IntKind.i64.wrap (i100 + j100))).fdiv (2 ^ 1)))).bind fun x101 =>
  (transys_compare_p x101 target100).bind <| fun (y100 : Int) =>
  (if decide (y100 < 0) then (some (IntKind.i64.wrap ((IntKind.i64.wrap ((IntKind.u64.wrap (IntKind.i64.wrap (i100 + j100))).fdiv (2 ^ 1))) + 1), j100))
  else (some (i100, IntKind.i64.wrap ((IntKind.u64.wrap (IntKind.i64.wrap (i100 + j100))).fdiv (2 ^ 1))))).bind (un2 fun (i101 : Int) (j101 : Int) => some (Ctl.next (i101, j101))))
  else (some (Ctl.brk (i100, j100)))) (0, (x100.length : Int))) (fun r => some r) (un2 fun (i102 : Int) (j102 : Int) => (if decide (i102 < (x100.length : Int)) then ((idx x100 i102).bind fun x102 =>
  (transys_compare_p x102 target100).bind <| fun (y101 : Int) =>
  some (decide (y101 = 0)))
  else (some false)).bind (fun (z100 : Bool) => some (i102, z100)))

noncomputable def transys_Simulates_o_p (a100 : System) (b100 : System) (to100 : (List Int)) : Option (Bool) :=
  ((transys_Valid_p a100).bind <| fun (y100 : Bool) =>
  if !y100 then (some true)
  else ((transys_Valid_p b100).bind <| fun (y101 : Bool) =>
  if !y101 then (some true)
  else ((slices_Equal___int_int__p a100.Costs b100.Costs).bind <| fun (y102 : Bool) =>
  if !y102 then (some true)
  else (some (!decide ((to100.length : Int) = a100.States)))))).bind (fun (z100 : Bool) => if z100 then (some false)
  else (ctl (forC (R := (Bool)) (fun i100 => fun (_ : Unit) => (idx to100 (i100 : Int)).bind fun x100 =>
  (if decide (x100 < 0) then (some true)
  else (if decide (b100.States ≤ x100) then (some true)
  else ((idx a100.Goals (i100 : Int)).bind fun x101 =>
  if x101 then ((idx b100.Goals x100).bind fun x102 =>
  some (!x102))
  else (some false)))).bind (fun (z101 : Bool) => if z101 then (some (Ctl.ret false))
  else (some (Ctl.next ())))) (to100.length) 0 ()) (fun r => some r) (fun (_ : Unit) => (idx to100 a100.Init).bind fun x103 =>
  if !decide (x103 = b100.Init) then (some false)
  else (ctl (forC (R := (Bool)) (fun i101 => fun (_ : Unit) => (idx a100.Edges (i101 : Int)).bind fun x104 =>
  (idx to100 x104.From).bind fun x105 =>
  (idx to100 x104.To).bind fun x106 =>
  (api_Edge__f44_p b100.Edges (⟨x105, x104.Label, x106⟩ : Edge)).bind <| un2 fun (y103 : Int) (y104 : Bool) =>
  if !y104 then (some (Ctl.ret false))
  else (some (Ctl.next ()))) (a100.Edges.length) 0 ()) (fun r => some r) (fun (_ : Unit) => some true)))))

noncomputable def shrink_classes_o_p (class100 : (List Int)) (n100 : Int) : Option (Int × Bool) :=
  if !decide ((class100.length : Int) = n100) then (some (0, false))
  else ((mk 1 false n100).bind fun l100 =>
  ctl (forC (R := (Int × Bool)) (fun i100 => un2 fun (most100 : Int) (l101 : (List Bool)) => (idx class100 (i100 : Int)).bind fun x100 =>
  if ((decide (x100 < 0)) || decide (n100 ≤ x100)) then (some (Ctl.ret (0, false)))
  else ((idx l101 x100).bind fun x101 =>
  (setI l101 x100 true).bind fun l102 =>
  some (Ctl.next (max most100 (IntKind.i64.wrap (x100 + 1)), l102)))) (class100.length) 0 (0, l100)) (fun r => some r) (un2 fun (most101 : Int) (l103 : (List Bool)) => (cut l103 0 most101).bind fun c100 =>
  ctl (forC (R := (Int × Bool)) (fun i101 => fun (_ : Unit) => (idx c100 (i101 : Int)).bind fun x102 =>
  if !x102 then (some (Ctl.ret (0, false)))
  else (some (Ctl.next ()))) (c100.length) 0 ()) (fun r => some r) (fun (_ : Unit) => some (most101, true))))

noncomputable def shrink_Quotient_o_p (x100 : System) (class100 : (List Int)) : Option ((Option Int) × System) :=
  (shrink_classes_o_p class100 x100.States).bind <| un2 fun (y100 : Int) (y101 : Bool) =>
  ((transys_Valid_p x100).bind <| fun (y102 : Bool) =>
  if !y102 then (some true)
  else (some (!y101))).bind (fun (z100 : Bool) => if z100 then (some (some 2, (⟨0, 0, [], [], []⟩ : System)))
  else ((idx class100 x100.Init).bind fun x101 =>
  (slices_Clone___int_int__p x100.Costs).bind <| fun (y103 : (List Int)) =>
  (mk 1 false y100).bind fun l100 =>
  (forS (fun i100 => fun (l101 : (List Bool)) => (idx x100.Goals (i100 : Int)).bind fun x102 =>
  ((idx class100 (i100 : Int)).bind fun x103 =>
  (idx l101 x103).bind fun x104 =>
  if x104 then ((setI l101 x103 true).bind fun l102 =>
  some l102)
  else ((setI l101 x103 x102).bind fun l103 =>
  some l103)).bind (fun (l104 : (List Bool)) => some l104)) (x100.Goals.length) 0 l100).bind (fun (l101 : (List Bool)) => (forS (fun i101 => fun (z101 : (List Edge)) => (idx x100.Edges (i101 : Int)).bind fun x105 =>
  (idx class100 x105.From).bind fun x106 =>
  (idx class100 x105.To).bind fun x107 =>
  (app 24 z101 [(⟨x106, x105.Label, x107⟩ : Edge)]).bind fun l105 =>
  some l105) (x100.Edges.length) 0 []).bind (fun (z101 : (List Edge)) => (shrink_order_o_p z101).bind <| fun (l106 : (List Edge)) =>
  some (none, (⟨y100, x101, y103, l106, l101⟩ : System))))))

end Go.Pw
