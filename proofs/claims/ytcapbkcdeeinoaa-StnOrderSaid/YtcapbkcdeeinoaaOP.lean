/-
  What the functions compute, in plain Lean (printed by my generator).
-/
import Derived.Test.YtcapbkcdeeinoaaL6
set_option maxRecDepth 100000
set_option linter.unusedVariables false
namespace Go.Pw
structure Bound where
  A : Int
  B : Int
  Most : Int
def encBound : Enc Bound := Enc.iso ((encInt .i64).pair ((encInt .i64).pair (encInt .i64))) (fun b => (b.A, b.B, b.Most))
theorem encBound_val {s : PHeap} {v : Value} {b : Bound} : encBound.val s v b ↔ v = .agg #[.int .i64 (b.A), .int .i64 (b.B), .int .i64 (b.Most)] := by
  simp only [Enc.iso, Enc.pair, Enc.val, encBound, encInt, if_true, oneCell]
  constructor
  · rintro ⟨cs, rfl, h⟩
    obtain ⟨cs⟩ := cs
    simp only [] at h
    obtain ⟨_, _, rfl, rfl, ⟨_, _, rfl, rfl, rfl⟩⟩ := h
    rfl
  · rintro rfl
    exact ⟨_, rfl, ⟨[.int .i64 (b.A)], [.int .i64 (b.B), .int .i64 (b.Most)], rfl, rfl, ⟨[.int .i64 (b.B)], [.int .i64 (b.Most)], rfl, rfl, rfl⟩⟩⟩

structure Arr2_uint8 where
  a0 : Int
  a1 : Int
def encArr2_uint8 : Enc Arr2_uint8 := Enc.iso ((encInt .u8).pair (encInt .u8)) (fun b => (b.a0, b.a1))
theorem encArr2_uint8_val {s : PHeap} {v : Value} {b : Arr2_uint8} : encArr2_uint8.val s v b ↔ v = .agg #[.int .u8 (b.a0), .int .u8 (b.a1)] := by
  simp only [Enc.iso, Enc.pair, Enc.val, encArr2_uint8, encInt, if_true, oneCell]
  constructor
  · rintro ⟨cs, rfl, h⟩
    obtain ⟨cs⟩ := cs
    simp only [] at h
    obtain ⟨_, _, rfl, rfl, rfl⟩ := h
    rfl
  · rintro rfl
    exact ⟨_, rfl, ⟨[.int .u8 (b.a0)], [.int .u8 (b.a1)], rfl, rfl, rfl⟩⟩

structure stn_Network where
  d : (List (List Int))
def encstn_Network : Enc stn_Network := Enc.iso (encSlice (encSlice (encInt .i64))) (fun b => (b.d))
theorem encstn_Network_val {s : PHeap} {v : Value} {b : stn_Network} : encstn_Network.val s v b ↔ ∃ u1, v = .agg #[u1] ∧ SliceRep (encSlice (encInt .i64)) s u1 (b.d) := by
  simp only [Enc.iso, Enc.val, encSlice, encstn_Network, if_true]
  constructor
  · rintro ⟨cs, rfl, h⟩
    obtain ⟨cs⟩ := cs
    simp only [] at h
    obtain ⟨w1, rfl, h1⟩ := h
    exact ⟨w1, rfl, h1⟩
  · rintro ⟨w1, rfl, h1⟩
    exact ⟨_, rfl, ⟨w1, rfl, h1⟩⟩

noncomputable def stn_New_p (n24 : Int) : Option ((Option stn_Network) × (Option Int)) :=
  if ((decide (n24 < 1)) || decide (128 < n24)) then (some (none, some 1))
  else ((must (decide (n24 ≤ 9223372036854775807))).bind fun u960 =>
  (forS (fun i962 => fun (z1240 : (List (List Int))) => (mk 8 0 n24).bind fun l1556 =>
  (forS (fun i1561 => fun (l1629 : (List Int)) => (if !decide ((i1561 : Int) = (i962 : Int)) then ((idx l1629 (i1561 : Int)).bind fun x1755 =>
  (setI l1629 (i1561 : Int) 1125899906842624).bind fun l1760 =>
  some l1760)
  else (some l1629)).bind (fun (l1741 : (List Int)) => some l1741)) (l1556.length) 0 l1556).bind (fun (l1629 : (List Int)) => (app 24 z1240 [l1629]).bind fun l1824 =>
  some l1824)) (n24.toNat) 0 []).bind (fun (z1240 : (List (List Int))) => some (some (⟨z1240⟩ : stn_Network), none)))

noncomputable def stn_Network_point_p (n1944 : stn_Network) (p1948 : Int) : Option (Bool) :=
  some ((decide (0 ≤ p1948)) && decide (p1948 < (n1944.d.length : Int)))
def stn_Network_point_t (n1944 : stn_Network) (p1948 : Int) : Bool :=
  ((decide (0 ≤ p1948)) && decide (p1948 < (n1944.d.length : Int)))
theorem stn_Network_point_tot (n1944 : stn_Network) (p1948 : Int) : stn_Network_point_p n1944 p1948 = some (stn_Network_point_t n1944 p1948) := by
  unfold stn_Network_point_p stn_Network_point_t
  (repeat' split) <;> rfl
attribute [irreducible] stn_Network_point_t

noncomputable def stn_Network_Add_p (n1933 : stn_Network) (b1937 : Bound) : Option ((Option Int) × (List (List Int))) :=
  (if !(stn_Network_point_t n1933 b1937.A) then (some true)
  else (if !(stn_Network_point_t n1933 b1937.B) then (some true)
  else (if decide (b1937.Most < (-1099511627776)) then (some true)
  else (some (decide (1099511627776 < b1937.Most)))))).bind (fun (z11227 : Bool) => if z11227 then (some (some 1, n1933.d))
  else ((idx n1933.d b1937.B).bind fun row11442 =>
  (idx row11442 b1937.A).bind fun x11450 =>
  if ((decide (x11450 < 1125899906842624)) && decide ((IntKind.i64.wrap (x11450 + b1937.Most)) < 0)) then (some (some 21, n1933.d))
  else ((forS (fun i11606 => fun (l14538 : (List (List Int))) => (idx l14538 (i11606 : Int)).bind fun row17501 =>
  (idx row17501 b1937.A).bind fun x17518 =>
  if decide (1125899906842624 ≤ x17518) then (some l14538)
  else ((idx l14538 b1937.B).bind fun row17651 =>
  (must (decide (row17651.length ≤ 9223372036854775807))).bind fun u17756 =>
  (forS (fun i17758 => fun (l18633 : (List (List Int))) => (idx l18633 b1937.B).bind fun row19542 =>
  (idx row19542 (i17758 : Int)).bind fun x19544 =>
  (if decide (x19544 < 1125899906842624) then ((idx l18633 (i11606 : Int)).bind fun row20188 =>
  (idx row20188 (i17758 : Int)).bind fun x20190 =>
  (idx row20188 b1937.A).bind fun x20195 =>
  (setI row20188 (i17758 : Int) (min x20190 (IntKind.i64.wrap ((IntKind.i64.wrap (x20195 + b1937.Most)) + x19544)))).bind fun l20203 =>
  (setI l18633 (i11606 : Int) l20203).bind fun l20205 =>
  some l20205)
  else (some l18633)).bind (fun (l19965 : (List (List Int))) => some l19965)) (row17651.length) 0 l14538).bind (fun (l18633 : (List (List Int))) => some l18633))) (n1933.d.length) 0 n1933.d).bind (fun (l14538 : (List (List Int))) => some (none, l14538)))))

noncomputable def law54_made_p (n20 : Int) (bounds21 : (List Bound)) : Option ((Option stn_Network) × Bool) :=
  (stn_New_p n20).bind <| un2 fun (pd20701 : (Option stn_Network)) (y20702 : (Option Int)) =>
  optC pd20701 ((if y20702.isSome then (some ())
  else (some ())).bind (fun (_ : Unit) => some (none, false))) (fun d20705 => if (y20702.isSome && true) then (some (none, false))
  else (ctl (forC (R := ((Option stn_Network) × Bool)) (fun i20738 => fun (l20785 : (List (List Int))) => (idx bounds21 (i20738 : Int)).bind fun x20917 =>
  (stn_Network_Add_p (⟨l20785⟩ : stn_Network) x20917).bind <| un2 fun (y20941 : (Option Int)) (l20942 : (List (List Int))) =>
  if y20941.isSome then (some (Ctl.ret (none, false)))
  else (some (Ctl.next l20942))) (bounds21.length) 0 d20705.d) (fun r => some r) (fun (l20880 : (List (List Int))) => some (some (⟨l20880⟩ : stn_Network), true))))

noncomputable def stn_Network_Distance_p (n21061 : stn_Network) (a21065 : Int) (b21066 : Int) : Option (Int × (Option Int)) :=
  if ((!(stn_Network_point_t n21061 a21065)) || !(stn_Network_point_t n21061 b21066)) then (some (0, some 1))
  else ((idx n21061.d a21065).bind fun row21210 =>
  (idx row21210 b21066).bind fun x21220 =>
  some (x21220, none))

noncomputable def stn_Network_Earliest_p (n21056 : stn_Network) (p21060 : Int) : Option (Int × (Option Int)) :=
  (stn_Network_Distance_p n21056 p21060 0).bind <| un2 fun (y21269 : Int) (y21270 : (Option Int)) =>
  if y21270.isSome then (some (0, y21270))
  else (if decide (1125899906842624 ≤ y21269) then (some (0, some 3))
  else (some (IntKind.i64.wrap (0 - y21269), none)))

noncomputable def stn_Network_Times_p (n21050 : stn_Network) : Option ((List Int) × (Option Int)) :=
  ctl (forC (R := ((List Int) × (Option Int))) (fun i21523 => fun (out21568 : (List Int)) => (stn_Network_Earliest_p n21050 (i21523 : Int)).bind <| un2 fun (y21693 : Int) (y21694 : (Option Int)) =>
  if y21694.isSome then (some (Ctl.ret ([], y21694)))
  else ((app 8 out21568 [y21693]).bind fun l21720 =>
  some (Ctl.next l21720))) (n21050.d.length) 0 []) (fun r => some r) (fun (out21654 : (List Int)) => some (out21654, none))

noncomputable def stn_Network_Latest_p (n21786 : stn_Network) (p21790 : Int) : Option (Int × (Option Int)) :=
  (stn_Network_Distance_p n21786 0 p21790).bind <| un2 fun (y21829 : Int) (y21830 : (Option Int)) =>
  if y21830.isSome then (some (0, y21830))
  else (if decide (1125899906842624 ≤ y21829) then (some (0, some 3))
  else (some (y21829, none)))

noncomputable def base_Ints_p (a21880 : (List Int)) (b21883 : (List Int)) : Option (Bool) :=
  if !decide ((a21880.length : Int) = (b21883.length : Int)) then (some false)
  else (ctl (forC (R := (Bool)) (fun i22672 => fun (_ : Unit) => (idx a21880 (i22672 : Int)).bind fun x23309 =>
  (idx b21883 (i22672 : Int)).bind fun x23311 =>
  if !decide (x23309 = x23311) then (some (Ctl.ret false))
  else (some (Ctl.next ()))) (a21880.length) 0 ()) (fun r => some r) (fun (_ : Unit) => some true))

noncomputable def base_Num_p (e23467 : (Option Int)) : Option (Int) :=
  if e23467.isNone then (some 0)
  else (if e23467.isSome then (some (e23467.getD 0))
  else (some (-1)))
def base_Num_t (e23467 : (Option Int)) : Int :=
  if e23467.isNone then (0)
  else (if e23467.isSome then ((e23467.getD 0))
  else ((-1)))
theorem base_Num_tot (e23467 : (Option Int)) : base_Num_p e23467 = some (base_Num_t e23467) := by
  unfold base_Num_p base_Num_t
  (repeat' split) <;> rfl
attribute [irreducible] base_Num_t

noncomputable def base_Is_p (e23464 : (Option Int)) (code23465 : Int) : Option (Bool) :=
  some (e23464.isSome && decide ((base_Num_t e23464) = code23465))
def base_Is_t (e23464 : (Option Int)) (code23465 : Int) : Bool :=
  (e23464.isSome && decide ((base_Num_t e23464) = code23465))
theorem base_Is_tot (e23464 : (Option Int)) (code23465 : Int) : base_Is_p e23464 code23465 = some (base_Is_t e23464 code23465) := by
  unfold base_Is_p base_Is_t
  (repeat' split) <;> rfl
attribute [irreducible] base_Is_t

noncomputable def stn_Network_Times_nil_p  : Option ((List Int) × (Option Int)) :=
  some ([], some 3)
def stn_Network_Times_nil_t  : (List Int) × (Option Int) :=
  ([], some 3)
theorem stn_Network_Times_nil_tot  : stn_Network_Times_nil_p  = some (stn_Network_Times_nil_t ) := by
  unfold stn_Network_Times_nil_p stn_Network_Times_nil_t
  (repeat' split) <;> rfl
attribute [irreducible] stn_Network_Times_nil_t

noncomputable def stn_Network_Distance_nil_p (a23622 : Int) (b23623 : Int) : Option (Int × (Option Int)) :=
  some (0, some 3)
def stn_Network_Distance_nil_t (a23622 : Int) (b23623 : Int) : Int × (Option Int) :=
  (0, some 3)
theorem stn_Network_Distance_nil_tot (a23622 : Int) (b23623 : Int) : stn_Network_Distance_nil_p a23622 b23623 = some (stn_Network_Distance_nil_t a23622 b23623) := by
  unfold stn_Network_Distance_nil_p stn_Network_Distance_nil_t
  (repeat' split) <;> rfl
attribute [irreducible] stn_Network_Distance_nil_t

noncomputable def stn_Network_Latest_nil_p (p23620 : Int) : Option (Int × (Option Int)) :=
  if ((stn_Network_Distance_nil_t 0 p23620).2).isSome then (some (0, (stn_Network_Distance_nil_t 0 p23620).2))
  else (if decide (1125899906842624 ≤ ((stn_Network_Distance_nil_t 0 p23620).1)) then (some (0, some 3))
  else (some ((stn_Network_Distance_nil_t 0 p23620).1, none)))
def stn_Network_Latest_nil_t (p23620 : Int) : Int × (Option Int) :=
  if ((stn_Network_Distance_nil_t 0 p23620).2).isSome then ((0, (stn_Network_Distance_nil_t 0 p23620).2))
  else (if decide (1125899906842624 ≤ ((stn_Network_Distance_nil_t 0 p23620).1)) then ((0, some 3))
  else (((stn_Network_Distance_nil_t 0 p23620).1, none)))
theorem stn_Network_Latest_nil_tot (p23620 : Int) : stn_Network_Latest_nil_p p23620 = some (stn_Network_Latest_nil_t p23620) := by
  unfold stn_Network_Latest_nil_p stn_Network_Latest_nil_t
  (repeat' split) <;> rfl
attribute [irreducible] stn_Network_Latest_nil_t

noncomputable def stn_Network_Add_nil_p (b23691 : Bound) : Option ((Option Int)) :=
  some (some 3)
def stn_Network_Add_nil_t (b23691 : Bound) : (Option Int) :=
  (some 3)
theorem stn_Network_Add_nil_tot (b23691 : Bound) : stn_Network_Add_nil_p b23691 = some (stn_Network_Add_nil_t b23691) := by
  unfold stn_Network_Add_nil_p stn_Network_Add_nil_t
  (repeat' split) <;> rfl
attribute [irreducible] stn_Network_Add_nil_t

noncomputable def law54_awake_p  : Option (Bool) :=
  (law54_made_p 3 [(⟨1, 0, (-2)⟩ : Bound), (⟨1, 2, 3⟩ : Bound), (⟨2, 1, (-3)⟩ : Bound)]).bind <| un2 fun (pd23801 : (Option stn_Network)) (y23802 : Bool) =>
  optC pd23801 (if !y23802 then (some false)
  else ((if ((stn_Network_Times_nil_t).2).isNone then ((base_Ints_p ((stn_Network_Times_nil_t).1) [0, 2, 5]).bind <| fun (y24029 : Bool) =>
  if y24029 then (if (base_Is_t ((stn_Network_Latest_nil_t 1).2) 3) then (some (base_Is_t (stn_Network_Add_nil_t (⟨0, 2, 4⟩ : Bound)) 21))
  else (some false))
  else (some false))
  else (some false)).bind (fun (z24015 : Bool) => some z24015))) (fun d23805 => if !y23802 then (some false)
  else ((stn_Network_Times_p d23805).bind <| un2 fun (y23836 : (List Int)) (y23837 : (Option Int)) =>
  (stn_Network_Latest_p d23805 1).bind <| un2 fun (y23858 : Int) (y23859 : (Option Int)) =>
  (if y23837.isNone then ((base_Ints_p y23836 [0, 2, 5]).bind <| fun (y23916 : Bool) =>
  if y23916 then (if (base_Is_t y23859 3) then ((stn_Network_Add_p d23805 (⟨0, 2, 4⟩ : Bound)).bind <| un2 fun (y23929 : (Option Int)) (l23930 : (List (List Int))) =>
  some (base_Is_t y23929 21))
  else (some false))
  else (some false))
  else (some false)).bind (fun (z23902 : Bool) => some z23902)))

noncomputable def law54_StnOrder_p (n1 : Int) (bounds2 : (List Bound)) (two5 : Arr2_uint8) : Option (Bool) :=
  ((law54_awake_p).bind <| fun (y29190 : Bool) =>
  if !y29190 then (some true)
  else (some (decide (30 < (bounds2.length : Int))))).bind (fun (z29185 : Bool) => if z29185 then ((law54_awake_p).bind <| fun (y29218 : Bool) =>
  some y29218)
  else ((law54_made_p (IntKind.i64.wrap (1 + ((IntKind.i64.wrap n1).tmod 8))) bounds2).bind <| un2 fun (pd29246 : (Option stn_Network)) (y29247 : Bool) =>
  optC pd29246 (if !y29247 then (some true)
  else ((stn_New_p (IntKind.i64.wrap (1 + ((IntKind.i64.wrap n1).tmod 8)))).bind <| un2 fun (pd32089 : (Option stn_Network)) (y32090 : (Option Int)) =>
  optC pd32089 (if y32090.isSome then (some false)
  else (ctl (whileC (R := (Bool)) (fun (i33434 : Int) => if decide (0 ≤ i33434) then ((idx bounds2 i33434).bind fun x33522 =>
  if (stn_Network_Add_nil_t x33522).isSome then (some (Ctl.ret false))
  else (some (Ctl.next (IntKind.i64.wrap (i33434 - 1)))))
  else (some (Ctl.brk i33434))) (IntKind.i64.wrap ((bounds2.length : Int) - 1))) (fun r => some r) (fun (i33486 : Int) => (must (!decide ((IntKind.i64.wrap (1 + ((IntKind.i64.wrap n1).tmod 8))) = 0))).bind fun u33676 =>
  if ((stn_Network_Distance_nil_t ((IntKind.i64.wrap two5.a0).tmod (IntKind.i64.wrap (1 + ((IntKind.i64.wrap n1).tmod 8)))) ((IntKind.i64.wrap two5.a1).tmod (IntKind.i64.wrap (1 + ((IntKind.i64.wrap n1).tmod 8))))).2).isSome then (some false)
  else (if ((decide (((stn_Network_Distance_nil_t ((IntKind.i64.wrap two5.a0).tmod (IntKind.i64.wrap (1 + ((IntKind.i64.wrap n1).tmod 8)))) ((IntKind.i64.wrap two5.a1).tmod (IntKind.i64.wrap (1 + ((IntKind.i64.wrap n1).tmod 8))))).1) ≤ 1099511627776)) && ((decide ((-1099511627776) ≤ ((stn_Network_Distance_nil_t ((IntKind.i64.wrap two5.a0).tmod (IntKind.i64.wrap (1 + ((IntKind.i64.wrap n1).tmod 8)))) ((IntKind.i64.wrap two5.a1).tmod (IntKind.i64.wrap (1 + ((IntKind.i64.wrap n1).tmod 8))))).1))) && (stn_Network_Add_nil_t (⟨(IntKind.i64.wrap two5.a0).tmod (IntKind.i64.wrap (1 + ((IntKind.i64.wrap n1).tmod 8))), (IntKind.i64.wrap two5.a1).tmod (IntKind.i64.wrap (1 + ((IntKind.i64.wrap n1).tmod 8))), (stn_Network_Distance_nil_t ((IntKind.i64.wrap two5.a0).tmod (IntKind.i64.wrap (1 + ((IntKind.i64.wrap n1).tmod 8)))) ((IntKind.i64.wrap two5.a1).tmod (IntKind.i64.wrap (1 + ((IntKind.i64.wrap n1).tmod 8))))).1⟩ : Bound)).isSome)) then (some false)
  else ((must (decide (IntKind.i64.wrap (1 + ((IntKind.i64.wrap n1).tmod 8)) ≤ 9223372036854775807))).bind fun u33832 =>
  ctl (forC (R := (Bool)) (fun i33834 => fun (_ : Unit) => (must (decide (IntKind.i64.wrap (1 + ((IntKind.i64.wrap n1).tmod 8)) ≤ 9223372036854775807))).bind fun u34211 =>
  ctl (forC (R := (Bool)) (fun i34213 => fun (_ : Unit) => if ((((stn_Network_Distance_nil_t (i33834 : Int) (i34213 : Int)).2).isSome) || ((((stn_Network_Distance_nil_t (i33834 : Int) (i34213 : Int)).2).isSome) || !decide (((stn_Network_Distance_nil_t (i33834 : Int) (i34213 : Int)).1) = ((stn_Network_Distance_nil_t (i33834 : Int) (i34213 : Int)).1)))) then (some (Ctl.ret false))
  else (some (Ctl.next ()))) ((IntKind.i64.wrap (1 + ((IntKind.i64.wrap n1).tmod 8))).toNat) 0 ()) (fun r => some (Ctl.ret r)) (fun (_ : Unit) => some (Ctl.next ()))) ((IntKind.i64.wrap (1 + ((IntKind.i64.wrap n1).tmod 8))).toNat) 0 ()) (fun r => some r) (fun (_ : Unit) => some true)))))) (fun d32093 => if y32090.isSome then (some false)
  else (ctl (whileC (R := (Bool)) (un2 fun (i32148 : Int) (l32149 : (List (List Int))) => if decide (0 ≤ i32148) then ((idx bounds2 i32148).bind fun x32274 =>
  (stn_Network_Add_p (⟨l32149⟩ : stn_Network) x32274).bind <| un2 fun (y32283 : (Option Int)) (l32284 : (List (List Int))) =>
  if y32283.isSome then (some (Ctl.ret false))
  else (some (Ctl.next (IntKind.i64.wrap (i32148 - 1), l32284))))
  else (some (Ctl.brk (i32148, l32149)))) (IntKind.i64.wrap ((bounds2.length : Int) - 1), d32093.d)) (fun r => some r) (un2 fun (i32227 : Int) (l32228 : (List (List Int))) => (must (!decide ((IntKind.i64.wrap (1 + ((IntKind.i64.wrap n1).tmod 8))) = 0))).bind fun u32443 =>
  if ((stn_Network_Distance_nil_t ((IntKind.i64.wrap two5.a0).tmod (IntKind.i64.wrap (1 + ((IntKind.i64.wrap n1).tmod 8)))) ((IntKind.i64.wrap two5.a1).tmod (IntKind.i64.wrap (1 + ((IntKind.i64.wrap n1).tmod 8))))).2).isSome then (some false)
  else ((if decide (((stn_Network_Distance_nil_t ((IntKind.i64.wrap two5.a0).tmod (IntKind.i64.wrap (1 + ((IntKind.i64.wrap n1).tmod 8)))) ((IntKind.i64.wrap two5.a1).tmod (IntKind.i64.wrap (1 + ((IntKind.i64.wrap n1).tmod 8))))).1) ≤ 1099511627776) then (if decide ((-1099511627776) ≤ ((stn_Network_Distance_nil_t ((IntKind.i64.wrap two5.a0).tmod (IntKind.i64.wrap (1 + ((IntKind.i64.wrap n1).tmod 8)))) ((IntKind.i64.wrap two5.a1).tmod (IntKind.i64.wrap (1 + ((IntKind.i64.wrap n1).tmod 8))))).1)) then ((stn_Network_Add_p (⟨l32228⟩ : stn_Network) (⟨(IntKind.i64.wrap two5.a0).tmod (IntKind.i64.wrap (1 + ((IntKind.i64.wrap n1).tmod 8))), (IntKind.i64.wrap two5.a1).tmod (IntKind.i64.wrap (1 + ((IntKind.i64.wrap n1).tmod 8))), (stn_Network_Distance_nil_t ((IntKind.i64.wrap two5.a0).tmod (IntKind.i64.wrap (1 + ((IntKind.i64.wrap n1).tmod 8)))) ((IntKind.i64.wrap two5.a1).tmod (IntKind.i64.wrap (1 + ((IntKind.i64.wrap n1).tmod 8))))).1⟩ : Bound)).bind <| un2 fun (y32593 : (Option Int)) (l32594 : (List (List Int))) =>
  some (y32593.isSome, l32594))
  else (some (false, l32228)))
  else (some (false, l32228))).bind (un2 fun (z32584 : Bool) (l32585 : (List (List Int))) => if z32584 then (some false)
  else ((must (decide (IntKind.i64.wrap (1 + ((IntKind.i64.wrap n1).tmod 8)) ≤ 9223372036854775807))).bind fun u32628 =>
  ctl (forC (R := (Bool)) (fun i32630 => fun (_ : Unit) => (must (decide (IntKind.i64.wrap (1 + ((IntKind.i64.wrap n1).tmod 8)) ≤ 9223372036854775807))).bind fun u33129 =>
  ctl (forC (R := (Bool)) (fun i33131 => fun (_ : Unit) => (stn_Network_Distance_p (⟨l32585⟩ : stn_Network) (i32630 : Int) (i33131 : Int)).bind <| un2 fun (y33293 : Int) (y33294 : (Option Int)) =>
  if ((((stn_Network_Distance_nil_t (i32630 : Int) (i33131 : Int)).2).isSome) || (y33294.isSome || !decide (((stn_Network_Distance_nil_t (i32630 : Int) (i33131 : Int)).1) = y33293))) then (some (Ctl.ret false))
  else (some (Ctl.next ()))) ((IntKind.i64.wrap (1 + ((IntKind.i64.wrap n1).tmod 8))).toNat) 0 ()) (fun r => some (Ctl.ret r)) (fun (_ : Unit) => some (Ctl.next ()))) ((IntKind.i64.wrap (1 + ((IntKind.i64.wrap n1).tmod 8))).toNat) 0 ()) (fun r => some r) (fun (_ : Unit) => some true))))))))) (fun d29250 => if !y29247 then (some true)
  else ((stn_New_p (IntKind.i64.wrap (1 + ((IntKind.i64.wrap n1).tmod 8)))).bind <| un2 fun (pd29288 : (Option stn_Network)) (y29289 : (Option Int)) =>
  optC pd29288 (if y29289.isSome then (some false)
  else (ctl (whileC (R := (Bool)) (fun (i30857 : Int) => if decide (0 ≤ i30857) then ((idx bounds2 i30857).bind fun x30948 =>
  if (stn_Network_Add_nil_t x30948).isSome then (some (Ctl.ret false))
  else (some (Ctl.next (IntKind.i64.wrap (i30857 - 1)))))
  else (some (Ctl.brk i30857))) (IntKind.i64.wrap ((bounds2.length : Int) - 1))) (fun r => some r) (fun (i30909 : Int) => (must (!decide ((IntKind.i64.wrap (1 + ((IntKind.i64.wrap n1).tmod 8))) = 0))).bind fun u31110 =>
  (stn_Network_Distance_p d29250 ((IntKind.i64.wrap two5.a0).tmod (IntKind.i64.wrap (1 + ((IntKind.i64.wrap n1).tmod 8)))) ((IntKind.i64.wrap two5.a1).tmod (IntKind.i64.wrap (1 + ((IntKind.i64.wrap n1).tmod 8))))).bind <| un2 fun (y31237 : Int) (y31238 : (Option Int)) =>
  if y31238.isSome then (some false)
  else (if ((decide (y31237 ≤ 1099511627776)) && ((decide ((-1099511627776) ≤ y31237)) && (stn_Network_Add_nil_t (⟨(IntKind.i64.wrap two5.a0).tmod (IntKind.i64.wrap (1 + ((IntKind.i64.wrap n1).tmod 8))), (IntKind.i64.wrap two5.a1).tmod (IntKind.i64.wrap (1 + ((IntKind.i64.wrap n1).tmod 8))), y31237⟩ : Bound)).isSome)) then (some false)
  else ((must (decide (IntKind.i64.wrap (1 + ((IntKind.i64.wrap n1).tmod 8)) ≤ 9223372036854775807))).bind fun u31288 =>
  ctl (forC (R := (Bool)) (fun i31290 => fun (_ : Unit) => (must (decide (IntKind.i64.wrap (1 + ((IntKind.i64.wrap n1).tmod 8)) ≤ 9223372036854775807))).bind fun u31789 =>
  ctl (forC (R := (Bool)) (fun i31791 => fun (_ : Unit) => (stn_Network_Distance_p d29250 (i31290 : Int) (i31791 : Int)).bind <| un2 fun (y31945 : Int) (y31946 : (Option Int)) =>
  if (y31946.isSome || ((((stn_Network_Distance_nil_t (i31290 : Int) (i31791 : Int)).2).isSome) || !decide (y31945 = ((stn_Network_Distance_nil_t (i31290 : Int) (i31791 : Int)).1)))) then (some (Ctl.ret false))
  else (some (Ctl.next ()))) ((IntKind.i64.wrap (1 + ((IntKind.i64.wrap n1).tmod 8))).toNat) 0 ()) (fun r => some (Ctl.ret r)) (fun (_ : Unit) => some (Ctl.next ()))) ((IntKind.i64.wrap (1 + ((IntKind.i64.wrap n1).tmod 8))).toNat) 0 ()) (fun r => some r) (fun (_ : Unit) => some true)))))) (fun d29292 => if y29289.isSome then (some false)
  else (ctl (whileC (R := (Bool)) (un2 fun (i29349 : Int) (l29350 : (List (List Int))) => if decide (0 ≤ i29349) then ((idx bounds2 i29349).bind fun x29477 =>
  (stn_Network_Add_p (⟨l29350⟩ : stn_Network) x29477).bind <| un2 fun (y29486 : (Option Int)) (l29487 : (List (List Int))) =>
  if y29486.isSome then (some (Ctl.ret false))
  else (some (Ctl.next (IntKind.i64.wrap (i29349 - 1), l29487))))
  else (some (Ctl.brk (i29349, l29350)))) (IntKind.i64.wrap ((bounds2.length : Int) - 1), d29292.d)) (fun r => some r) (un2 fun (i29428 : Int) (l29429 : (List (List Int))) => (must (!decide ((IntKind.i64.wrap (1 + ((IntKind.i64.wrap n1).tmod 8))) = 0))).bind fun u29652 =>
  (stn_Network_Distance_p d29250 ((IntKind.i64.wrap two5.a0).tmod (IntKind.i64.wrap (1 + ((IntKind.i64.wrap n1).tmod 8)))) ((IntKind.i64.wrap two5.a1).tmod (IntKind.i64.wrap (1 + ((IntKind.i64.wrap n1).tmod 8))))).bind <| un2 fun (y29779 : Int) (y29780 : (Option Int)) =>
  if y29780.isSome then (some false)
  else ((if decide (y29779 ≤ 1099511627776) then (if decide ((-1099511627776) ≤ y29779) then ((stn_Network_Add_p (⟨l29429⟩ : stn_Network) (⟨(IntKind.i64.wrap two5.a0).tmod (IntKind.i64.wrap (1 + ((IntKind.i64.wrap n1).tmod 8))), (IntKind.i64.wrap two5.a1).tmod (IntKind.i64.wrap (1 + ((IntKind.i64.wrap n1).tmod 8))), y29779⟩ : Bound)).bind <| un2 fun (y29816 : (Option Int)) (l29817 : (List (List Int))) =>
  some (y29816.isSome, l29817))
  else (some (false, l29429)))
  else (some (false, l29429))).bind (un2 fun (z29807 : Bool) (l29808 : (List (List Int))) => if z29807 then (some false)
  else ((must (decide (IntKind.i64.wrap (1 + ((IntKind.i64.wrap n1).tmod 8)) ≤ 9223372036854775807))).bind fun u29859 =>
  ctl (forC (R := (Bool)) (fun i29861 => fun (_ : Unit) => (must (decide (IntKind.i64.wrap (1 + ((IntKind.i64.wrap n1).tmod 8)) ≤ 9223372036854775807))).bind fun u30482 =>
  ctl (forC (R := (Bool)) (fun i30484 => fun (_ : Unit) => (stn_Network_Distance_p d29250 (i29861 : Int) (i30484 : Int)).bind <| un2 fun (y30676 : Int) (y30677 : (Option Int)) =>
  (stn_Network_Distance_p (⟨l29808⟩ : stn_Network) (i29861 : Int) (i30484 : Int)).bind <| un2 fun (y30696 : Int) (y30697 : (Option Int)) =>
  if (y30677.isSome || (y30697.isSome || !decide (y30676 = y30696))) then (some (Ctl.ret false))
  else (some (Ctl.next ()))) ((IntKind.i64.wrap (1 + ((IntKind.i64.wrap n1).tmod 8))).toNat) 0 ()) (fun r => some (Ctl.ret r)) (fun (_ : Unit) => some (Ctl.next ()))) ((IntKind.i64.wrap (1 + ((IntKind.i64.wrap n1).tmod 8))).toNat) 0 ()) (fun r => some r) (fun (_ : Unit) => some true)))))))))))

end Go.Pw
