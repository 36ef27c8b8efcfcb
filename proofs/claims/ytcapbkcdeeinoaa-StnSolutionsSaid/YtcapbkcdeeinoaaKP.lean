/-
  What the functions compute, in plain Lean (printed by my generator).
-/
import Derived.Test.YtcapbkcdeeinoaaL6
set_option maxRecDepth 100000
set_option linter.unusedVariables false
namespace Go.Pw
structure Arr2_uint8 where
  a0 : Int
  a1 : Int
def encArr2_uint8 : Enc Arr2_uint8 := Enc.iso ((encInt .u8).pair (encInt .u8)) (fun b => (b.a0, b.a1))
theorem encArr2_uint8_val {s : PHeap} {v : Value} {b : Arr2_uint8} : encArr2_uint8.val s v b ↔ v = .agg #[.int .u8 (b.a0), .int .u8 (b.a1)] := by
  simp only [Enc.iso, Enc.pair, Enc.val, encArr2_uint8, encInt, if_true, oneCell]
  constructor
  · rintro ⟨cs, rfl, h⟩
    obtain ⟨cs⟩ := cs
    simp only [] at h
    obtain ⟨_, _, rfl, rfl, rfl⟩ := h
    rfl
  · rintro rfl
    exact ⟨_, rfl, ⟨[.int .u8 (b.a0)], [.int .u8 (b.a1)], rfl, rfl, rfl⟩⟩

structure Bound where
  A : Int
  B : Int
  Most : Int
def encBound : Enc Bound := Enc.iso ((encInt .i64).pair ((encInt .i64).pair (encInt .i64))) (fun b => (b.A, b.B, b.Most))
theorem encBound_val {s : PHeap} {v : Value} {b : Bound} : encBound.val s v b ↔ v = .agg #[.int .i64 (b.A), .int .i64 (b.B), .int .i64 (b.Most)] := by
  simp only [Enc.iso, Enc.pair, Enc.val, encBound, encInt, if_true, oneCell]
  constructor
  · rintro ⟨cs, rfl, h⟩
    obtain ⟨cs⟩ := cs
    simp only [] at h
    obtain ⟨_, _, rfl, rfl, ⟨_, _, rfl, rfl, rfl⟩⟩ := h
    rfl
  · rintro rfl
    exact ⟨_, rfl, ⟨[.int .i64 (b.A)], [.int .i64 (b.B), .int .i64 (b.Most)], rfl, rfl, ⟨[.int .i64 (b.B)], [.int .i64 (b.Most)], rfl, rfl, rfl⟩⟩⟩

structure stn_Network where
  d : (List (List Int))
def encstn_Network : Enc stn_Network := Enc.iso (encSlice (encSlice (encInt .i64))) (fun b => (b.d))
theorem encstn_Network_val {s : PHeap} {v : Value} {b : stn_Network} : encstn_Network.val s v b ↔ ∃ u1, v = .agg #[u1] ∧ SliceRep (encSlice (encInt .i64)) s u1 (b.d) := by
  simp only [Enc.iso, Enc.val, encSlice, encstn_Network, if_true]
  constructor
  · rintro ⟨cs, rfl, h⟩
    obtain ⟨cs⟩ := cs
    simp only [] at h
    obtain ⟨w1, rfl, h1⟩ := h
    exact ⟨w1, rfl, h1⟩
  · rintro ⟨w1, rfl, h1⟩
    exact ⟨_, rfl, ⟨w1, rfl, h1⟩⟩

noncomputable def stn_New_p (n22 : Int) : Option ((Option stn_Network) × (Option Int)) :=
  if ((decide (n22 < 1)) || decide (128 < n22)) then (some (none, some 1))
  else ((must (decide (n22 ≤ 9223372036854775807))).bind fun u958 =>
  (forS (fun i960 => fun (z1238 : (List (List Int))) => (mk 8 0 n22).bind fun l1554 =>
  (forS (fun i1559 => fun (l1627 : (List Int)) => (if !decide ((i1559 : Int) = (i960 : Int)) then ((idx l1627 (i1559 : Int)).bind fun x1753 =>
  (setI l1627 (i1559 : Int) 1125899906842624).bind fun l1758 =>
  some l1758)
  else (some l1627)).bind (fun (l1739 : (List Int)) => some l1739)) (l1554.length) 0 l1554).bind (fun (l1627 : (List Int)) => (app 24 z1238 [l1627]).bind fun l1822 =>
  some l1822)) (n22.toNat) 0 []).bind (fun (z1238 : (List (List Int))) => some (some (⟨z1238⟩ : stn_Network), none)))

noncomputable def stn_Network_point_p (n1942 : stn_Network) (p1946 : Int) : Option (Bool) :=
  some ((decide (0 ≤ p1946)) && decide (p1946 < (n1942.d.length : Int)))
def stn_Network_point_t (n1942 : stn_Network) (p1946 : Int) : Bool :=
  ((decide (0 ≤ p1946)) && decide (p1946 < (n1942.d.length : Int)))
theorem stn_Network_point_tot (n1942 : stn_Network) (p1946 : Int) : stn_Network_point_p n1942 p1946 = some (stn_Network_point_t n1942 p1946) := by
  unfold stn_Network_point_p stn_Network_point_t
  (repeat' split) <;> rfl
attribute [irreducible] stn_Network_point_t

noncomputable def stn_Network_Add_p (n1931 : stn_Network) (b1935 : Bound) : Option ((Option Int) × (List (List Int))) :=
  (if !(stn_Network_point_t n1931 b1935.A) then (some true)
  else (if !(stn_Network_point_t n1931 b1935.B) then (some true)
  else (if decide (b1935.Most < (-1099511627776)) then (some true)
  else (some (decide (1099511627776 < b1935.Most)))))).bind (fun (z11225 : Bool) => if z11225 then (some (some 1, n1931.d))
  else ((idx n1931.d b1935.B).bind fun row11440 =>
  (idx row11440 b1935.A).bind fun x11448 =>
  if ((decide (x11448 < 1125899906842624)) && decide ((IntKind.i64.wrap (x11448 + b1935.Most)) < 0)) then (some (some 21, n1931.d))
  else ((forS (fun i11604 => fun (l14536 : (List (List Int))) => (idx l14536 (i11604 : Int)).bind fun row17499 =>
  (idx row17499 b1935.A).bind fun x17516 =>
  if decide (1125899906842624 ≤ x17516) then (some l14536)
  else ((idx l14536 b1935.B).bind fun row17649 =>
  (must (decide (row17649.length ≤ 9223372036854775807))).bind fun u17754 =>
  (forS (fun i17756 => fun (l18631 : (List (List Int))) => (idx l18631 b1935.B).bind fun row19540 =>
  (idx row19540 (i17756 : Int)).bind fun x19542 =>
  (if decide (x19542 < 1125899906842624) then ((idx l18631 (i11604 : Int)).bind fun row20186 =>
  (idx row20186 (i17756 : Int)).bind fun x20188 =>
  (idx row20186 b1935.A).bind fun x20193 =>
  (setI row20186 (i17756 : Int) (min x20188 (IntKind.i64.wrap ((IntKind.i64.wrap (x20193 + b1935.Most)) + x19542)))).bind fun l20201 =>
  (setI l18631 (i11604 : Int) l20201).bind fun l20203 =>
  some l20203)
  else (some l18631)).bind (fun (l19963 : (List (List Int))) => some l19963)) (row17649.length) 0 l14536).bind (fun (l18631 : (List (List Int))) => some l18631))) (n1931.d.length) 0 n1931.d).bind (fun (l14536 : (List (List Int))) => some (none, l14536)))))

noncomputable def law54_made_p (n18 : Int) (bounds19 : (List Bound)) : Option ((Option stn_Network) × Bool) :=
  (stn_New_p n18).bind <| un2 fun (pd20699 : (Option stn_Network)) (y20700 : (Option Int)) =>
  optC pd20699 ((if y20700.isSome then (some ())
  else (some ())).bind (fun (_ : Unit) => some (none, false))) (fun d20703 => if (y20700.isSome && true) then (some (none, false))
  else (ctl (forC (R := ((Option stn_Network) × Bool)) (fun i20736 => fun (l20783 : (List (List Int))) => (idx bounds19 (i20736 : Int)).bind fun x20915 =>
  (stn_Network_Add_p (⟨l20783⟩ : stn_Network) x20915).bind <| un2 fun (y20939 : (Option Int)) (l20940 : (List (List Int))) =>
  if y20939.isSome then (some (Ctl.ret (none, false)))
  else (some (Ctl.next l20940))) (bounds19.length) 0 d20703.d) (fun r => some r) (fun (l20878 : (List (List Int))) => some (some (⟨l20878⟩ : stn_Network), true))))

noncomputable def stn_Network_Distance_p (n21059 : stn_Network) (a21063 : Int) (b21064 : Int) : Option (Int × (Option Int)) :=
  if ((!(stn_Network_point_t n21059 a21063)) || !(stn_Network_point_t n21059 b21064)) then (some (0, some 1))
  else ((idx n21059.d a21063).bind fun row21208 =>
  (idx row21208 b21064).bind fun x21218 =>
  some (x21218, none))

noncomputable def stn_Network_Earliest_p (n21054 : stn_Network) (p21058 : Int) : Option (Int × (Option Int)) :=
  (stn_Network_Distance_p n21054 p21058 0).bind <| un2 fun (y21267 : Int) (y21268 : (Option Int)) =>
  if y21268.isSome then (some (0, y21268))
  else (if decide (1125899906842624 ≤ y21267) then (some (0, some 3))
  else (some (IntKind.i64.wrap (0 - y21267), none)))

noncomputable def stn_Network_Times_p (n21048 : stn_Network) : Option ((List Int) × (Option Int)) :=
  ctl (forC (R := ((List Int) × (Option Int))) (fun i21521 => fun (out21566 : (List Int)) => (stn_Network_Earliest_p n21048 (i21521 : Int)).bind <| un2 fun (y21691 : Int) (y21692 : (Option Int)) =>
  if y21692.isSome then (some (Ctl.ret ([], y21692)))
  else ((app 8 out21566 [y21691]).bind fun l21718 =>
  some (Ctl.next l21718))) (n21048.d.length) 0 []) (fun r => some r) (fun (out21652 : (List Int)) => some (out21652, none))

noncomputable def stn_Network_Latest_p (n21784 : stn_Network) (p21788 : Int) : Option (Int × (Option Int)) :=
  (stn_Network_Distance_p n21784 0 p21788).bind <| un2 fun (y21827 : Int) (y21828 : (Option Int)) =>
  if y21828.isSome then (some (0, y21828))
  else (if decide (1125899906842624 ≤ y21827) then (some (0, some 3))
  else (some (y21827, none)))

noncomputable def base_Ints_p (a21878 : (List Int)) (b21881 : (List Int)) : Option (Bool) :=
  if !decide ((a21878.length : Int) = (b21881.length : Int)) then (some false)
  else (ctl (forC (R := (Bool)) (fun i22670 => fun (_ : Unit) => (idx a21878 (i22670 : Int)).bind fun x23307 =>
  (idx b21881 (i22670 : Int)).bind fun x23309 =>
  if !decide (x23307 = x23309) then (some (Ctl.ret false))
  else (some (Ctl.next ()))) (a21878.length) 0 ()) (fun r => some r) (fun (_ : Unit) => some true))

noncomputable def base_Num_p (e23465 : (Option Int)) : Option (Int) :=
  if e23465.isNone then (some 0)
  else (if e23465.isSome then (some (e23465.getD 0))
  else (some (-1)))
def base_Num_t (e23465 : (Option Int)) : Int :=
  if e23465.isNone then (0)
  else (if e23465.isSome then ((e23465.getD 0))
  else ((-1)))
theorem base_Num_tot (e23465 : (Option Int)) : base_Num_p e23465 = some (base_Num_t e23465) := by
  unfold base_Num_p base_Num_t
  (repeat' split) <;> rfl
attribute [irreducible] base_Num_t

noncomputable def base_Is_p (e23462 : (Option Int)) (code23463 : Int) : Option (Bool) :=
  some (e23462.isSome && decide ((base_Num_t e23462) = code23463))
def base_Is_t (e23462 : (Option Int)) (code23463 : Int) : Bool :=
  (e23462.isSome && decide ((base_Num_t e23462) = code23463))
theorem base_Is_tot (e23462 : (Option Int)) (code23463 : Int) : base_Is_p e23462 code23463 = some (base_Is_t e23462 code23463) := by
  unfold base_Is_p base_Is_t
  (repeat' split) <;> rfl
attribute [irreducible] base_Is_t

noncomputable def stn_Network_Times_nil_p  : Option ((List Int) × (Option Int)) :=
  some ([], some 3)
def stn_Network_Times_nil_t  : (List Int) × (Option Int) :=
  ([], some 3)
theorem stn_Network_Times_nil_tot  : stn_Network_Times_nil_p  = some (stn_Network_Times_nil_t ) := by
  unfold stn_Network_Times_nil_p stn_Network_Times_nil_t
  (repeat' split) <;> rfl
attribute [irreducible] stn_Network_Times_nil_t

noncomputable def stn_Network_Distance_nil_p (a23620 : Int) (b23621 : Int) : Option (Int × (Option Int)) :=
  some (0, some 3)
def stn_Network_Distance_nil_t (a23620 : Int) (b23621 : Int) : Int × (Option Int) :=
  (0, some 3)
theorem stn_Network_Distance_nil_tot (a23620 : Int) (b23621 : Int) : stn_Network_Distance_nil_p a23620 b23621 = some (stn_Network_Distance_nil_t a23620 b23621) := by
  unfold stn_Network_Distance_nil_p stn_Network_Distance_nil_t
  (repeat' split) <;> rfl
attribute [irreducible] stn_Network_Distance_nil_t

noncomputable def stn_Network_Latest_nil_p (p23618 : Int) : Option (Int × (Option Int)) :=
  if ((stn_Network_Distance_nil_t 0 p23618).2).isSome then (some (0, (stn_Network_Distance_nil_t 0 p23618).2))
  else (if decide (1125899906842624 ≤ ((stn_Network_Distance_nil_t 0 p23618).1)) then (some (0, some 3))
  else (some ((stn_Network_Distance_nil_t 0 p23618).1, none)))
def stn_Network_Latest_nil_t (p23618 : Int) : Int × (Option Int) :=
  if ((stn_Network_Distance_nil_t 0 p23618).2).isSome then ((0, (stn_Network_Distance_nil_t 0 p23618).2))
  else (if decide (1125899906842624 ≤ ((stn_Network_Distance_nil_t 0 p23618).1)) then ((0, some 3))
  else (((stn_Network_Distance_nil_t 0 p23618).1, none)))
theorem stn_Network_Latest_nil_tot (p23618 : Int) : stn_Network_Latest_nil_p p23618 = some (stn_Network_Latest_nil_t p23618) := by
  unfold stn_Network_Latest_nil_p stn_Network_Latest_nil_t
  (repeat' split) <;> rfl
attribute [irreducible] stn_Network_Latest_nil_t

noncomputable def stn_Network_Add_nil_p (b23689 : Bound) : Option ((Option Int)) :=
  some (some 3)
def stn_Network_Add_nil_t (b23689 : Bound) : (Option Int) :=
  (some 3)
theorem stn_Network_Add_nil_tot (b23689 : Bound) : stn_Network_Add_nil_p b23689 = some (stn_Network_Add_nil_t b23689) := by
  unfold stn_Network_Add_nil_p stn_Network_Add_nil_t
  (repeat' split) <;> rfl
attribute [irreducible] stn_Network_Add_nil_t

noncomputable def law54_awake_p  : Option (Bool) :=
  (law54_made_p 3 [(⟨1, 0, (-2)⟩ : Bound), (⟨1, 2, 3⟩ : Bound), (⟨2, 1, (-3)⟩ : Bound)]).bind <| un2 fun (pd23799 : (Option stn_Network)) (y23800 : Bool) =>
  optC pd23799 (if !y23800 then (some false)
  else ((if ((stn_Network_Times_nil_t).2).isNone then ((base_Ints_p ((stn_Network_Times_nil_t).1) [0, 2, 5]).bind <| fun (y24027 : Bool) =>
  if y24027 then (if (base_Is_t ((stn_Network_Latest_nil_t 1).2) 3) then (some (base_Is_t (stn_Network_Add_nil_t (⟨0, 2, 4⟩ : Bound)) 21))
  else (some false))
  else (some false))
  else (some false)).bind (fun (z24013 : Bool) => some z24013))) (fun d23803 => if !y23800 then (some false)
  else ((stn_Network_Times_p d23803).bind <| un2 fun (y23834 : (List Int)) (y23835 : (Option Int)) =>
  (stn_Network_Latest_p d23803 1).bind <| un2 fun (y23856 : Int) (y23857 : (Option Int)) =>
  (if y23835.isNone then ((base_Ints_p y23834 [0, 2, 5]).bind <| fun (y23914 : Bool) =>
  if y23914 then (if (base_Is_t y23857 3) then ((stn_Network_Add_p d23803 (⟨0, 2, 4⟩ : Bound)).bind <| un2 fun (y23927 : (Option Int)) (l23928 : (List (List Int))) =>
  some (base_Is_t y23927 21))
  else (some false))
  else (some false))
  else (some false)).bind (fun (z23900 : Bool) => some z23900)))

noncomputable def stn_Network_Holds_o_p (n26823 : stn_Network) (times26827 : (List Int)) : Option (Bool) :=
  (if !decide ((times26827.length : Int) = (n26823.d.length : Int)) then (some true)
  else ((idx times26827 0).bind fun x33528 =>
  some (!decide (x33528 = 0)))).bind (fun (z33520 : Bool) => if z33520 then (some false)
  else (ctl (forC (R := (Bool)) (fun i33554 => fun (_ : Unit) => (idx times26827 (i33554 : Int)).bind fun x33663 =>
  if ((decide (x33663 < (-1125899906842624))) || decide (1125899906842624 < x33663)) then (some (Ctl.ret false))
  else (some (Ctl.next ()))) (times26827.length) 0 ()) (fun r => some r) (fun (_ : Unit) => ctl (forC (R := (Bool)) (fun i33730 => fun (_ : Unit) => (idx n26823.d (i33730 : Int)).bind fun row38045 =>
  (must (decide (row38045.length ≤ 9223372036854775807))).bind fun u38055 =>
  ctl (forC (R := (Bool)) (fun i38057 => fun (_ : Unit) => (idx row38045 (i38057 : Int)).bind fun x39463 =>
  (if decide (x39463 < 1125899906842624) then ((idx times26827 (i38057 : Int)).bind fun x39793 =>
  (idx times26827 (i33730 : Int)).bind fun x39798 =>
  some (decide (x39463 < (IntKind.i64.wrap (x39793 - x39798)))))
  else (some false)).bind (fun (z39789 : Bool) => if z39789 then (some (Ctl.ret false))
  else (some (Ctl.next ())))) (row38045.length) 0 ()) (fun r => some (Ctl.ret r)) (fun (_ : Unit) => some (Ctl.next ()))) (n26823.d.length) 0 ()) (fun r => some r) (fun (_ : Unit) => some true))))

noncomputable def stn_Network_Holds_nil_o_p (times42626 : (List Int)) : Option (Bool) :=
  some false
def stn_Network_Holds_nil_o_t (times42626 : (List Int)) : Bool :=
  false
theorem stn_Network_Holds_nil_o_tot (times42626 : (List Int)) : stn_Network_Holds_nil_o_p times42626 = some (stn_Network_Holds_nil_o_t times42626) := by
  unfold stn_Network_Holds_nil_o_p stn_Network_Holds_nil_o_t
  (repeat' split) <;> rfl
attribute [irreducible] stn_Network_Holds_nil_o_t

noncomputable def stn_Network_Earliest_nil_p (p42659 : Int) : Option (Int × (Option Int)) :=
  if ((stn_Network_Distance_nil_t p42659 0).2).isSome then (some (0, (stn_Network_Distance_nil_t p42659 0).2))
  else (if decide (1125899906842624 ≤ ((stn_Network_Distance_nil_t p42659 0).1)) then (some (0, some 3))
  else (some (IntKind.i64.wrap (0 - ((stn_Network_Distance_nil_t p42659 0).1)), none)))
def stn_Network_Earliest_nil_t (p42659 : Int) : Int × (Option Int) :=
  if ((stn_Network_Distance_nil_t p42659 0).2).isSome then ((0, (stn_Network_Distance_nil_t p42659 0).2))
  else (if decide (1125899906842624 ≤ ((stn_Network_Distance_nil_t p42659 0).1)) then ((0, some 3))
  else ((IntKind.i64.wrap (0 - ((stn_Network_Distance_nil_t p42659 0).1)), none)))
theorem stn_Network_Earliest_nil_tot (p42659 : Int) : stn_Network_Earliest_nil_p p42659 = some (stn_Network_Earliest_nil_t p42659) := by
  unfold stn_Network_Earliest_nil_p stn_Network_Earliest_nil_t
  (repeat' split) <;> rfl
attribute [irreducible] stn_Network_Earliest_nil_t

noncomputable def law54_StnSolutions_p (times1 : (List Int)) (pairs4 : (List Arr2_uint8)) (gaps7 : (List Int)) : Option (Bool) :=
  ((law54_awake_p).bind <| fun (y43059 : Bool) =>
  if !y43059 then (some true)
  else (if decide (20 < (times1.length : Int)) then (some true)
  else (some (decide (40 < (pairs4.length : Int)))))).bind (fun (z43054 : Bool) => if z43054 then ((law54_awake_p).bind <| fun (y43089 : Bool) =>
  some y43089)
  else ((forS (fun i43102 => fun (at_43142 : (List Int)) => (idx times1 (i43102 : Int)).bind fun x43205 =>
  (app 8 at_43142 [IntKind.i64.wrap x43205]).bind fun l43224 =>
  some l43224) (times1.length) 0 [0]).bind (fun (at_43142 : (List Int)) => (stn_New_p (at_43142.length : Int)).bind <| un2 fun (pd43263 : (Option stn_Network)) (y43264 : (Option Int)) =>
  optC pd43263 (if y43264.isSome then (some false)
  else (ctl (forC (R := (Bool)) (fun i46406 => fun (_ : Unit) => (idx pairs4 (i46406 : Int)).bind fun x47642 =>
  (must (!decide ((at_43142.length : Int) = 0))).bind fun u47795 =>
  (idx at_43142 ((IntKind.i64.wrap x47642.a1).tmod (at_43142.length : Int))).bind fun x48058 =>
  (idx at_43142 ((IntKind.i64.wrap x47642.a0).tmod (at_43142.length : Int))).bind fun x48063 =>
  (if decide ((i46406 : Int) < (gaps7.length : Int)) then ((idx gaps7 (i46406 : Int)).bind fun x48193 =>
  some (IntKind.i64.wrap ((IntKind.i64.wrap (x48058 - x48063)) + (IntKind.i64.wrap x48193))))
  else (some (IntKind.i64.wrap (x48058 - x48063)))).bind (fun (most48182 : Int) => if (stn_Network_Add_nil_t (⟨(IntKind.i64.wrap x47642.a0).tmod (at_43142.length : Int), (IntKind.i64.wrap x47642.a1).tmod (at_43142.length : Int), most48182⟩ : Bound)).isSome then (some (Ctl.ret false))
  else (some (Ctl.next ())))) (pairs4.length) 0 ()) (fun r => some r) (fun (_ : Unit) => if !(stn_Network_Holds_nil_o_t at_43142) then (some false)
  else (ctl (forC (R := (Bool)) (fun i48272 => fun (_ : Unit) => (idx at_43142 (i48272 : Int)).bind fun x48517 =>
  if (bif (((stn_Network_Earliest_nil_t (i48272 : Int)).2).isNone) then ((decide (x48517 < ((stn_Network_Earliest_nil_t (i48272 : Int)).1))) || ((((stn_Network_Earliest_nil_t (i48272 : Int)).2).isSome) && !(base_Is_t ((stn_Network_Earliest_nil_t (i48272 : Int)).2) 3))) else ((((stn_Network_Earliest_nil_t (i48272 : Int)).2).isSome) && !(base_Is_t ((stn_Network_Earliest_nil_t (i48272 : Int)).2) 3))) then (some (Ctl.ret false))
  else (if (bif (((stn_Network_Latest_nil_t (i48272 : Int)).2).isNone) then ((decide (((stn_Network_Latest_nil_t (i48272 : Int)).1) < x48517)) || ((((stn_Network_Latest_nil_t (i48272 : Int)).2).isSome) && !(base_Is_t ((stn_Network_Latest_nil_t (i48272 : Int)).2) 3))) else ((((stn_Network_Latest_nil_t (i48272 : Int)).2).isSome) && !(base_Is_t ((stn_Network_Latest_nil_t (i48272 : Int)).2) 3))) then (some (Ctl.ret false))
  else (some (Ctl.next ())))) (at_43142.length) 0 ()) (fun r => some r) (fun (_ : Unit) => some true))))) (fun d43267 => if y43264.isSome then (some false)
  else (ctl (forC (R := (Bool)) (fun i43285 => fun (l43903 : (List (List Int))) => (idx pairs4 (i43285 : Int)).bind fun x45180 =>
  (must (!decide ((at_43142.length : Int) = 0))).bind fun u45333 =>
  (idx at_43142 ((IntKind.i64.wrap x45180.a1).tmod (at_43142.length : Int))).bind fun x45596 =>
  (idx at_43142 ((IntKind.i64.wrap x45180.a0).tmod (at_43142.length : Int))).bind fun x45601 =>
  (if decide ((i43285 : Int) < (gaps7.length : Int)) then ((idx gaps7 (i43285 : Int)).bind fun x45731 =>
  some (IntKind.i64.wrap ((IntKind.i64.wrap (x45596 - x45601)) + (IntKind.i64.wrap x45731))))
  else (some (IntKind.i64.wrap (x45596 - x45601)))).bind (fun (most45720 : Int) => (stn_Network_Add_p (⟨l43903⟩ : stn_Network) (⟨(IntKind.i64.wrap x45180.a0).tmod (at_43142.length : Int), (IntKind.i64.wrap x45180.a1).tmod (at_43142.length : Int), most45720⟩ : Bound)).bind <| un2 fun (y45775 : (Option Int)) (l45776 : (List (List Int))) =>
  if y45775.isSome then (some (Ctl.ret false))
  else (some (Ctl.next l45776)))) (pairs4.length) 0 d43267.d) (fun r => some r) (fun (l45140 : (List (List Int))) => (stn_Network_Holds_o_p (⟨l45140⟩ : stn_Network) at_43142).bind <| fun (y45833 : Bool) =>
  if !y45833 then (some false)
  else (ctl (forC (R := (Bool)) (fun i45846 => fun (_ : Unit) => (idx at_43142 (i45846 : Int)).bind fun x46202 =>
  (stn_Network_Earliest_p (⟨l45140⟩ : stn_Network) (i45846 : Int)).bind <| un2 fun (y46221 : Int) (y46222 : (Option Int)) =>
  if (bif y46222.isNone then ((decide (x46202 < y46221)) || (y46222.isSome && !(base_Is_t y46222 3))) else (y46222.isSome && !(base_Is_t y46222 3))) then (some (Ctl.ret false))
  else ((stn_Network_Latest_p (⟨l45140⟩ : stn_Network) (i45846 : Int)).bind <| un2 fun (y46301 : Int) (y46302 : (Option Int)) =>
  if (bif y46302.isNone then ((decide (y46301 < x46202)) || (y46302.isSome && !(base_Is_t y46302 3))) else (y46302.isSome && !(base_Is_t y46302 3))) then (some (Ctl.ret false))
  else (some (Ctl.next ())))) (at_43142.length) 0 ()) (fun r => some r) (fun (_ : Unit) => some true))))))))

end Go.Pw
