/-
  What the functions compute, in plain Lean (printed by my generator).
-/
import Derived.Test.YtcapbkcdeeinoaaL6
set_option maxRecDepth 100000
set_option linter.unusedVariables false
namespace Go.Pw
structure Bound where
  A : Int
  B : Int
  Most : Int
def encBound : Enc Bound := Enc.iso ((encInt .i64).pair ((encInt .i64).pair (encInt .i64))) (fun b => (b.A, b.B, b.Most))
theorem encBound_val {s : PHeap} {v : Value} {b : Bound} : encBound.val s v b ↔ v = .agg #[.int .i64 (b.A), .int .i64 (b.B), .int .i64 (b.Most)] := by
  simp only [Enc.iso, Enc.pair, Enc.val, encBound, encInt, if_true, oneCell]
  constructor
  · rintro ⟨cs, rfl, h⟩
    obtain ⟨cs⟩ := cs
    simp only [] at h
    obtain ⟨_, _, rfl, rfl, ⟨_, _, rfl, rfl, rfl⟩⟩ := h
    rfl
  · rintro rfl
    exact ⟨_, rfl, ⟨[.int .i64 (b.A)], [.int .i64 (b.B), .int .i64 (b.Most)], rfl, rfl, ⟨[.int .i64 (b.B)], [.int .i64 (b.Most)], rfl, rfl, rfl⟩⟩⟩

structure stn_Network where
  d : (List (List Int))
def encstn_Network : Enc stn_Network := Enc.iso (encSlice (encSlice (encInt .i64))) (fun b => (b.d))
theorem encstn_Network_val {s : PHeap} {v : Value} {b : stn_Network} : encstn_Network.val s v b ↔ ∃ u1, v = .agg #[u1] ∧ SliceRep (encSlice (encInt .i64)) s u1 (b.d) := by
  simp only [Enc.iso, Enc.val, encSlice, encstn_Network, if_true]
  constructor
  · rintro ⟨cs, rfl, h⟩
    obtain ⟨cs⟩ := cs
    simp only [] at h
    obtain ⟨w1, rfl, h1⟩ := h
    exact ⟨w1, rfl, h1⟩
  · rintro ⟨w1, rfl, h1⟩
    exact ⟨_, rfl, ⟨w1, rfl, h1⟩⟩

noncomputable def stn_New_p (n18 : Int) : Option ((Option stn_Network) × (Option Int)) :=
  if ((decide (n18 < 1)) || decide (128 < n18)) then (some (none, some 1))
  else ((must (decide (n18 ≤ 9223372036854775807))).bind fun u954 =>
  (forS (fun i956 => fun (z1234 : (List (List Int))) => (mk 8 0 n18).bind fun l1550 =>
  (forS (fun i1555 => fun (l1623 : (List Int)) => (if !decide ((i1555 : Int) = (i956 : Int)) then ((idx l1623 (i1555 : Int)).bind fun x1749 =>
  (setI l1623 (i1555 : Int) 1125899906842624).bind fun l1754 =>
  some l1754)
  else (some l1623)).bind (fun (l1735 : (List Int)) => some l1735)) (l1550.length) 0 l1550).bind (fun (l1623 : (List Int)) => (app 24 z1234 [l1623]).bind fun l1818 =>
  some l1818)) (n18.toNat) 0 []).bind (fun (z1234 : (List (List Int))) => some (some (⟨z1234⟩ : stn_Network), none)))

noncomputable def stn_Network_point_p (n1938 : stn_Network) (p1942 : Int) : Option (Bool) :=
  some ((decide (0 ≤ p1942)) && decide (p1942 < (n1938.d.length : Int)))
def stn_Network_point_t (n1938 : stn_Network) (p1942 : Int) : Bool :=
  ((decide (0 ≤ p1942)) && decide (p1942 < (n1938.d.length : Int)))
theorem stn_Network_point_tot (n1938 : stn_Network) (p1942 : Int) : stn_Network_point_p n1938 p1942 = some (stn_Network_point_t n1938 p1942) := by
  unfold stn_Network_point_p stn_Network_point_t
  (repeat' split) <;> rfl
attribute [irreducible] stn_Network_point_t

noncomputable def stn_Network_Add_p (n1927 : stn_Network) (b1931 : Bound) : Option ((Option Int) × (List (List Int))) :=
  (if !(stn_Network_point_t n1927 b1931.A) then (some true)
  else (if !(stn_Network_point_t n1927 b1931.B) then (some true)
  else (if decide (b1931.Most < (-1099511627776)) then (some true)
  else (some (decide (1099511627776 < b1931.Most)))))).bind (fun (z11221 : Bool) => if z11221 then (some (some 1, n1927.d))
  else ((idx n1927.d b1931.B).bind fun row11436 =>
  (idx row11436 b1931.A).bind fun x11444 =>
  if ((decide (x11444 < 1125899906842624)) && decide ((IntKind.i64.wrap (x11444 + b1931.Most)) < 0)) then (some (some 21, n1927.d))
  else ((forS (fun i11600 => fun (l14532 : (List (List Int))) => (idx l14532 (i11600 : Int)).bind fun row17495 =>
  (idx row17495 b1931.A).bind fun x17512 =>
  if decide (1125899906842624 ≤ x17512) then (some l14532)
  else ((idx l14532 b1931.B).bind fun row17645 =>
  (must (decide (row17645.length ≤ 9223372036854775807))).bind fun u17750 =>
  (forS (fun i17752 => fun (l18627 : (List (List Int))) => (idx l18627 b1931.B).bind fun row19536 =>
  (idx row19536 (i17752 : Int)).bind fun x19538 =>
  (if decide (x19538 < 1125899906842624) then ((idx l18627 (i11600 : Int)).bind fun row20182 =>
  (idx row20182 (i17752 : Int)).bind fun x20184 =>
  (idx row20182 b1931.A).bind fun x20189 =>
  (setI row20182 (i17752 : Int) (min x20184 (IntKind.i64.wrap ((IntKind.i64.wrap (x20189 + b1931.Most)) + x19538)))).bind fun l20197 =>
  (setI l18627 (i11600 : Int) l20197).bind fun l20199 =>
  some l20199)
  else (some l18627)).bind (fun (l19959 : (List (List Int))) => some l19959)) (row17645.length) 0 l14532).bind (fun (l18627 : (List (List Int))) => some l18627))) (n1927.d.length) 0 n1927.d).bind (fun (l14532 : (List (List Int))) => some (none, l14532)))))

noncomputable def law54_made_p (n14 : Int) (bounds15 : (List Bound)) : Option ((Option stn_Network) × Bool) :=
  (stn_New_p n14).bind <| un2 fun (pd20695 : (Option stn_Network)) (y20696 : (Option Int)) =>
  optC pd20695 ((if y20696.isSome then (some ())
  else (some ())).bind (fun (_ : Unit) => some (none, false))) (fun d20699 => if (y20696.isSome && true) then (some (none, false))
  else (ctl (forC (R := ((Option stn_Network) × Bool)) (fun i20732 => fun (l20779 : (List (List Int))) => (idx bounds15 (i20732 : Int)).bind fun x20911 =>
  (stn_Network_Add_p (⟨l20779⟩ : stn_Network) x20911).bind <| un2 fun (y20935 : (Option Int)) (l20936 : (List (List Int))) =>
  if y20935.isSome then (some (Ctl.ret (none, false)))
  else (some (Ctl.next l20936))) (bounds15.length) 0 d20699.d) (fun r => some r) (fun (l20874 : (List (List Int))) => some (some (⟨l20874⟩ : stn_Network), true))))

noncomputable def stn_Network_Distance_p (n21055 : stn_Network) (a21059 : Int) (b21060 : Int) : Option (Int × (Option Int)) :=
  if ((!(stn_Network_point_t n21055 a21059)) || !(stn_Network_point_t n21055 b21060)) then (some (0, some 1))
  else ((idx n21055.d a21059).bind fun row21204 =>
  (idx row21204 b21060).bind fun x21214 =>
  some (x21214, none))

noncomputable def stn_Network_Earliest_p (n21050 : stn_Network) (p21054 : Int) : Option (Int × (Option Int)) :=
  (stn_Network_Distance_p n21050 p21054 0).bind <| un2 fun (y21263 : Int) (y21264 : (Option Int)) =>
  if y21264.isSome then (some (0, y21264))
  else (if decide (1125899906842624 ≤ y21263) then (some (0, some 3))
  else (some (IntKind.i64.wrap (0 - y21263), none)))

noncomputable def stn_Network_Times_p (n21044 : stn_Network) : Option ((List Int) × (Option Int)) :=
  ctl (forC (R := ((List Int) × (Option Int))) (fun i21517 => fun (out21562 : (List Int)) => (stn_Network_Earliest_p n21044 (i21517 : Int)).bind <| un2 fun (y21687 : Int) (y21688 : (Option Int)) =>
  if y21688.isSome then (some (Ctl.ret ([], y21688)))
  else ((app 8 out21562 [y21687]).bind fun l21714 =>
  some (Ctl.next l21714))) (n21044.d.length) 0 []) (fun r => some r) (fun (out21648 : (List Int)) => some (out21648, none))

noncomputable def stn_Network_Latest_p (n21780 : stn_Network) (p21784 : Int) : Option (Int × (Option Int)) :=
  (stn_Network_Distance_p n21780 0 p21784).bind <| un2 fun (y21823 : Int) (y21824 : (Option Int)) =>
  if y21824.isSome then (some (0, y21824))
  else (if decide (1125899906842624 ≤ y21823) then (some (0, some 3))
  else (some (y21823, none)))

noncomputable def base_Ints_p (a21874 : (List Int)) (b21877 : (List Int)) : Option (Bool) :=
  if !decide ((a21874.length : Int) = (b21877.length : Int)) then (some false)
  else (ctl (forC (R := (Bool)) (fun i22666 => fun (_ : Unit) => (idx a21874 (i22666 : Int)).bind fun x23303 =>
  (idx b21877 (i22666 : Int)).bind fun x23305 =>
  if !decide (x23303 = x23305) then (some (Ctl.ret false))
  else (some (Ctl.next ()))) (a21874.length) 0 ()) (fun r => some r) (fun (_ : Unit) => some true))

noncomputable def base_Num_p (e23461 : (Option Int)) : Option (Int) :=
  if e23461.isNone then (some 0)
  else (if e23461.isSome then (some (e23461.getD 0))
  else (some (-1)))
def base_Num_t (e23461 : (Option Int)) : Int :=
  if e23461.isNone then (0)
  else (if e23461.isSome then ((e23461.getD 0))
  else ((-1)))
theorem base_Num_tot (e23461 : (Option Int)) : base_Num_p e23461 = some (base_Num_t e23461) := by
  unfold base_Num_p base_Num_t
  (repeat' split) <;> rfl
attribute [irreducible] base_Num_t

noncomputable def base_Is_p (e23458 : (Option Int)) (code23459 : Int) : Option (Bool) :=
  some (e23458.isSome && decide ((base_Num_t e23458) = code23459))
def base_Is_t (e23458 : (Option Int)) (code23459 : Int) : Bool :=
  (e23458.isSome && decide ((base_Num_t e23458) = code23459))
theorem base_Is_tot (e23458 : (Option Int)) (code23459 : Int) : base_Is_p e23458 code23459 = some (base_Is_t e23458 code23459) := by
  unfold base_Is_p base_Is_t
  (repeat' split) <;> rfl
attribute [irreducible] base_Is_t

noncomputable def stn_Network_Times_nil_p  : Option ((List Int) × (Option Int)) :=
  some ([], some 3)
def stn_Network_Times_nil_t  : (List Int) × (Option Int) :=
  ([], some 3)
theorem stn_Network_Times_nil_tot  : stn_Network_Times_nil_p  = some (stn_Network_Times_nil_t ) := by
  unfold stn_Network_Times_nil_p stn_Network_Times_nil_t
  (repeat' split) <;> rfl
attribute [irreducible] stn_Network_Times_nil_t

noncomputable def stn_Network_Distance_nil_p (a23616 : Int) (b23617 : Int) : Option (Int × (Option Int)) :=
  some (0, some 3)
def stn_Network_Distance_nil_t (a23616 : Int) (b23617 : Int) : Int × (Option Int) :=
  (0, some 3)
theorem stn_Network_Distance_nil_tot (a23616 : Int) (b23617 : Int) : stn_Network_Distance_nil_p a23616 b23617 = some (stn_Network_Distance_nil_t a23616 b23617) := by
  unfold stn_Network_Distance_nil_p stn_Network_Distance_nil_t
  (repeat' split) <;> rfl
attribute [irreducible] stn_Network_Distance_nil_t

noncomputable def stn_Network_Latest_nil_p (p23614 : Int) : Option (Int × (Option Int)) :=
  if ((stn_Network_Distance_nil_t 0 p23614).2).isSome then (some (0, (stn_Network_Distance_nil_t 0 p23614).2))
  else (if decide (1125899906842624 ≤ ((stn_Network_Distance_nil_t 0 p23614).1)) then (some (0, some 3))
  else (some ((stn_Network_Distance_nil_t 0 p23614).1, none)))
def stn_Network_Latest_nil_t (p23614 : Int) : Int × (Option Int) :=
  if ((stn_Network_Distance_nil_t 0 p23614).2).isSome then ((0, (stn_Network_Distance_nil_t 0 p23614).2))
  else (if decide (1125899906842624 ≤ ((stn_Network_Distance_nil_t 0 p23614).1)) then ((0, some 3))
  else (((stn_Network_Distance_nil_t 0 p23614).1, none)))
theorem stn_Network_Latest_nil_tot (p23614 : Int) : stn_Network_Latest_nil_p p23614 = some (stn_Network_Latest_nil_t p23614) := by
  unfold stn_Network_Latest_nil_p stn_Network_Latest_nil_t
  (repeat' split) <;> rfl
attribute [irreducible] stn_Network_Latest_nil_t

noncomputable def stn_Network_Add_nil_p (b23685 : Bound) : Option ((Option Int)) :=
  some (some 3)
def stn_Network_Add_nil_t (b23685 : Bound) : (Option Int) :=
  (some 3)
theorem stn_Network_Add_nil_tot (b23685 : Bound) : stn_Network_Add_nil_p b23685 = some (stn_Network_Add_nil_t b23685) := by
  unfold stn_Network_Add_nil_p stn_Network_Add_nil_t
  (repeat' split) <;> rfl
attribute [irreducible] stn_Network_Add_nil_t

noncomputable def law54_awake_p  : Option (Bool) :=
  (law54_made_p 3 [(⟨1, 0, (-2)⟩ : Bound), (⟨1, 2, 3⟩ : Bound), (⟨2, 1, (-3)⟩ : Bound)]).bind <| un2 fun (pd23795 : (Option stn_Network)) (y23796 : Bool) =>
  optC pd23795 (if !y23796 then (some false)
  else ((if ((stn_Network_Times_nil_t).2).isNone then ((base_Ints_p ((stn_Network_Times_nil_t).1) [0, 2, 5]).bind <| fun (y24023 : Bool) =>
  if y24023 then (if (base_Is_t ((stn_Network_Latest_nil_t 1).2) 3) then (some (base_Is_t (stn_Network_Add_nil_t (⟨0, 2, 4⟩ : Bound)) 21))
  else (some false))
  else (some false))
  else (some false)).bind (fun (z24009 : Bool) => some z24009))) (fun d23799 => if !y23796 then (some false)
  else ((stn_Network_Times_p d23799).bind <| un2 fun (y23830 : (List Int)) (y23831 : (Option Int)) =>
  (stn_Network_Latest_p d23799 1).bind <| un2 fun (y23852 : Int) (y23853 : (Option Int)) =>
  (if y23831.isNone then ((base_Ints_p y23830 [0, 2, 5]).bind <| fun (y23910 : Bool) =>
  if y23910 then (if (base_Is_t y23853 3) then ((stn_Network_Add_p d23799 (⟨0, 2, 4⟩ : Bound)).bind <| un2 fun (y23923 : (Option Int)) (l23924 : (List (List Int))) =>
  some (base_Is_t y23923 21))
  else (some false))
  else (some false))
  else (some false)).bind (fun (z23896 : Bool) => some z23896)))

noncomputable def stn_Network_Holds_p (n24579 : stn_Network) (times24583 : (List Int)) : Option (Bool) :=
  (if !decide ((times24583.length : Int) = (n24579.d.length : Int)) then (some true)
  else ((idx times24583 0).bind fun x31531 =>
  some (!decide (x31531 = 0)))).bind (fun (z31524 : Bool) => if z31524 then (some false)
  else (ctl (forC (R := (Bool)) (fun i31555 => fun (_ : Unit) => (idx times24583 (i31555 : Int)).bind fun x31659 =>
  if ((decide (x31659 < (-1125899906842624))) || decide (1125899906842624 < x31659)) then (some (Ctl.ret false))
  else (some (Ctl.next ()))) (times24583.length) 0 ()) (fun r => some r) (fun (_ : Unit) => ctl (forC (R := (Bool)) (fun i31721 => fun (_ : Unit) => (idx n24579.d (i31721 : Int)).bind fun row36209 =>
  (must (decide (row36209.length ≤ 9223372036854775807))).bind fun u36219 =>
  ctl (forC (R := (Bool)) (fun i36221 => fun (_ : Unit) => (idx row36209 (i36221 : Int)).bind fun x37686 =>
  (if decide (x37686 < 1125899906842624) then ((idx times24583 (i36221 : Int)).bind fun x38032 =>
  (idx times24583 (i31721 : Int)).bind fun x38034 =>
  some (decide (x37686 < (IntKind.i64.wrap (x38032 - x38034)))))
  else (some false)).bind (fun (z38028 : Bool) => if z38028 then (some (Ctl.ret false))
  else (some (Ctl.next ())))) (row36209.length) 0 ()) (fun r => some (Ctl.ret r)) (fun (_ : Unit) => some (Ctl.next ()))) (n24579.d.length) 0 ()) (fun r => some r) (fun (_ : Unit) => some true))))

noncomputable def slices_Clone___int_int__o_p (s_38581 : (List Int)) : Option ((List Int)) :=
  (app 8 [] s_38581).bind fun l38652 =>
  some l38652

noncomputable def stn_Network_Copy_p (n38548 : stn_Network) : Option (stn_Network) :=
  (forS (fun i40032 => fun (z40476 : (List (List Int))) => (idx n38548.d (i40032 : Int)).bind fun row40961 =>
  (slices_Clone___int_int__o_p row40961).bind <| fun (y41192 : (List Int)) =>
  (app 24 z40476 [y41192]).bind fun l41204 =>
  some l41204) (n38548.d.length) 0 []).bind (fun (z40476 : (List (List Int))) => some (⟨z40476⟩ : stn_Network))

noncomputable def stn_Network_Holds_nil_p (times42150 : (List Int)) : Option (Bool) :=
  some false
def stn_Network_Holds_nil_t (times42150 : (List Int)) : Bool :=
  false
theorem stn_Network_Holds_nil_tot (times42150 : (List Int)) : stn_Network_Holds_nil_p times42150 = some (stn_Network_Holds_nil_t times42150) := by
  unfold stn_Network_Holds_nil_p stn_Network_Holds_nil_t
  (repeat' split) <;> rfl
attribute [irreducible] stn_Network_Holds_nil_t

noncomputable def stn_Network_Earliest_nil_p (p42184 : Int) : Option (Int × (Option Int)) :=
  if ((stn_Network_Distance_nil_t p42184 0).2).isSome then (some (0, (stn_Network_Distance_nil_t p42184 0).2))
  else (if decide (1125899906842624 ≤ ((stn_Network_Distance_nil_t p42184 0).1)) then (some (0, some 3))
  else (some (IntKind.i64.wrap (0 - ((stn_Network_Distance_nil_t p42184 0).1)), none)))
def stn_Network_Earliest_nil_t (p42184 : Int) : Int × (Option Int) :=
  if ((stn_Network_Distance_nil_t p42184 0).2).isSome then ((0, (stn_Network_Distance_nil_t p42184 0).2))
  else (if decide (1125899906842624 ≤ ((stn_Network_Distance_nil_t p42184 0).1)) then ((0, some 3))
  else ((IntKind.i64.wrap (0 - ((stn_Network_Distance_nil_t p42184 0).1)), none)))
theorem stn_Network_Earliest_nil_tot (p42184 : Int) : stn_Network_Earliest_nil_p p42184 = some (stn_Network_Earliest_nil_t p42184) := by
  unfold stn_Network_Earliest_nil_p stn_Network_Earliest_nil_t
  (repeat' split) <;> rfl
attribute [irreducible] stn_Network_Earliest_nil_t

noncomputable def stn_Network_Copy_nil_p  : Option (Unit) :=
  some ()
def stn_Network_Copy_nil_t  : Unit :=
  ()
theorem stn_Network_Copy_nil_tot  : stn_Network_Copy_nil_p  = some (stn_Network_Copy_nil_t ) := by
  unfold stn_Network_Copy_nil_p stn_Network_Copy_nil_t
  (repeat' split) <;> rfl
attribute [irreducible] stn_Network_Copy_nil_t

noncomputable def law54_StnTight_p (n1 : Int) (bounds2 : (List Bound)) (at_5 : Int) : Option (Bool) :=
  ((law54_awake_p).bind <| fun (y42463 : Bool) =>
  if !y42463 then (some true)
  else (some (decide (30 < (bounds2.length : Int))))).bind (fun (z42458 : Bool) => if z42458 then ((law54_awake_p).bind <| fun (y42491 : Bool) =>
  some y42491)
  else ((stn_New_p (IntKind.i64.wrap (1 + ((IntKind.i64.wrap n1).tmod 10)))).bind <| un2 fun (pd42518 : (Option stn_Network)) (y42519 : (Option Int)) =>
  optC pd42518 (if y42519.isSome then (some false)
  else (ctl (forC (R := (Bool)) (fun i43546 => fun (_ : Unit) => (idx bounds2 (i43546 : Int)).bind fun x43726 =>
  if (((stn_Network_Add_nil_t x43726).isSome) && ((!(base_Is_t (stn_Network_Add_nil_t x43726) 1)) && !(base_Is_t (stn_Network_Add_nil_t x43726) 21))) then (some (Ctl.ret false))
  else (some (Ctl.next ()))) (bounds2.length) 0 ()) (fun r => some r) (fun (_ : Unit) => if ((((stn_Network_Times_nil_t).2).isNone) && !(stn_Network_Holds_nil_t ((stn_Network_Times_nil_t).1))) then (some false)
  else ((must (!decide ((IntKind.i64.wrap (1 + ((IntKind.i64.wrap n1).tmod 10))) = 0))).bind fun u43853 =>
  if ((((stn_Network_Earliest_nil_t ((IntKind.i64.wrap at_5).tmod (IntKind.i64.wrap (1 + ((IntKind.i64.wrap n1).tmod 10))))).2).isNone) && ((decide ((-1099511627776) < ((stn_Network_Earliest_nil_t ((IntKind.i64.wrap at_5).tmod (IntKind.i64.wrap (1 + ((IntKind.i64.wrap n1).tmod 10))))).1))) && decide (((stn_Network_Earliest_nil_t ((IntKind.i64.wrap at_5).tmod (IntKind.i64.wrap (1 + ((IntKind.i64.wrap n1).tmod 10))))).1) < 1099511627776))) then (if ((!(base_Is_t (stn_Network_Add_nil_t (⟨0, (IntKind.i64.wrap at_5).tmod (IntKind.i64.wrap (1 + ((IntKind.i64.wrap n1).tmod 10))), IntKind.i64.wrap (((stn_Network_Earliest_nil_t ((IntKind.i64.wrap at_5).tmod (IntKind.i64.wrap (1 + ((IntKind.i64.wrap n1).tmod 10))))).1) - 1)⟩ : Bound)) 21)) || (stn_Network_Add_nil_t (⟨0, (IntKind.i64.wrap at_5).tmod (IntKind.i64.wrap (1 + ((IntKind.i64.wrap n1).tmod 10))), (stn_Network_Earliest_nil_t ((IntKind.i64.wrap at_5).tmod (IntKind.i64.wrap (1 + ((IntKind.i64.wrap n1).tmod 10))))).1⟩ : Bound)).isSome) then (some false)
  else (if ((((stn_Network_Latest_nil_t ((IntKind.i64.wrap at_5).tmod (IntKind.i64.wrap (1 + ((IntKind.i64.wrap n1).tmod 10))))).2).isNone) && ((decide ((-1099511627776) < ((stn_Network_Latest_nil_t ((IntKind.i64.wrap at_5).tmod (IntKind.i64.wrap (1 + ((IntKind.i64.wrap n1).tmod 10))))).1))) && decide (((stn_Network_Latest_nil_t ((IntKind.i64.wrap at_5).tmod (IntKind.i64.wrap (1 + ((IntKind.i64.wrap n1).tmod 10))))).1) < 1099511627776))) then (if ((!(base_Is_t (stn_Network_Add_nil_t (⟨(IntKind.i64.wrap at_5).tmod (IntKind.i64.wrap (1 + ((IntKind.i64.wrap n1).tmod 10))), 0, IntKind.i64.wrap ((IntKind.i64.wrap (0 - ((stn_Network_Latest_nil_t ((IntKind.i64.wrap at_5).tmod (IntKind.i64.wrap (1 + ((IntKind.i64.wrap n1).tmod 10))))).1))) - 1)⟩ : Bound)) 21)) || (stn_Network_Add_nil_t (⟨(IntKind.i64.wrap at_5).tmod (IntKind.i64.wrap (1 + ((IntKind.i64.wrap n1).tmod 10))), 0, IntKind.i64.wrap (0 - ((stn_Network_Latest_nil_t ((IntKind.i64.wrap at_5).tmod (IntKind.i64.wrap (1 + ((IntKind.i64.wrap n1).tmod 10))))).1))⟩ : Bound)).isSome) then (some false)
  else (some true))
  else (some true)))
  else (if ((((stn_Network_Latest_nil_t ((IntKind.i64.wrap at_5).tmod (IntKind.i64.wrap (1 + ((IntKind.i64.wrap n1).tmod 10))))).2).isNone) && ((decide ((-1099511627776) < ((stn_Network_Latest_nil_t ((IntKind.i64.wrap at_5).tmod (IntKind.i64.wrap (1 + ((IntKind.i64.wrap n1).tmod 10))))).1))) && decide (((stn_Network_Latest_nil_t ((IntKind.i64.wrap at_5).tmod (IntKind.i64.wrap (1 + ((IntKind.i64.wrap n1).tmod 10))))).1) < 1099511627776))) then (if ((!(base_Is_t (stn_Network_Add_nil_t (⟨(IntKind.i64.wrap at_5).tmod (IntKind.i64.wrap (1 + ((IntKind.i64.wrap n1).tmod 10))), 0, IntKind.i64.wrap ((IntKind.i64.wrap (0 - ((stn_Network_Latest_nil_t ((IntKind.i64.wrap at_5).tmod (IntKind.i64.wrap (1 + ((IntKind.i64.wrap n1).tmod 10))))).1))) - 1)⟩ : Bound)) 21)) || (stn_Network_Add_nil_t (⟨(IntKind.i64.wrap at_5).tmod (IntKind.i64.wrap (1 + ((IntKind.i64.wrap n1).tmod 10))), 0, IntKind.i64.wrap (0 - ((stn_Network_Latest_nil_t ((IntKind.i64.wrap at_5).tmod (IntKind.i64.wrap (1 + ((IntKind.i64.wrap n1).tmod 10))))).1))⟩ : Bound)).isSome) then (some false)
  else (some true))
  else (some true)))))) (fun d42522 => if y42519.isSome then (some false)
  else (ctl (forC (R := (Bool)) (fun i42539 => fun (l42629 : (List (List Int))) => (idx bounds2 (i42539 : Int)).bind fun x42849 =>
  (stn_Network_Add_p (⟨l42629⟩ : stn_Network) x42849).bind <| un2 fun (y42873 : (Option Int)) (l42874 : (List (List Int))) =>
  if (y42873.isSome && ((!(base_Is_t y42873 1)) && !(base_Is_t y42873 21))) then (some (Ctl.ret false))
  else (some (Ctl.next l42874))) (bounds2.length) 0 d42522.d) (fun r => some r) (fun (l42810 : (List (List Int))) => (stn_Network_Times_p (⟨l42810⟩ : stn_Network)).bind <| un2 fun (y42974 : (List Int)) (y42975 : (Option Int)) =>
  (if y42975.isNone then ((stn_Network_Holds_p (⟨l42810⟩ : stn_Network) y42974).bind <| fun (y43000 : Bool) =>
  some (!y43000))
  else (some false)).bind (fun (z42994 : Bool) => if z42994 then (some false)
  else ((must (!decide ((IntKind.i64.wrap (1 + ((IntKind.i64.wrap n1).tmod 10))) = 0))).bind fun u43030 =>
  (stn_Network_Earliest_p (⟨l42810⟩ : stn_Network) ((IntKind.i64.wrap at_5).tmod (IntKind.i64.wrap (1 + ((IntKind.i64.wrap n1).tmod 10))))).bind <| un2 fun (y43044 : Int) (y43045 : (Option Int)) =>
  if (y43045.isNone && ((decide ((-1099511627776) < y43044)) && decide (y43044 < 1099511627776))) then (((stn_Network_Copy_p (⟨l42810⟩ : stn_Network)).bind <| fun (d43128 : stn_Network) =>
  (stn_Network_Add_p d43128 (⟨0, (IntKind.i64.wrap at_5).tmod (IntKind.i64.wrap (1 + ((IntKind.i64.wrap n1).tmod 10))), IntKind.i64.wrap (y43044 - 1)⟩ : Bound)).bind <| un2 fun (y43140 : (Option Int)) (l43141 : (List (List Int))) =>
  if !(base_Is_t y43140 21) then (some true)
  else ((stn_Network_Copy_p (⟨l42810⟩ : stn_Network)).bind <| fun (d43160 : stn_Network) =>
  (stn_Network_Add_p d43160 (⟨0, (IntKind.i64.wrap at_5).tmod (IntKind.i64.wrap (1 + ((IntKind.i64.wrap n1).tmod 10))), y43044⟩ : Bound)).bind <| un2 fun (y43172 : (Option Int)) (l43173 : (List (List Int))) =>
  some y43172.isSome)).bind (fun (z43123 : Bool) => if z43123 then (some false)
  else ((stn_Network_Latest_p (⟨l42810⟩ : stn_Network) ((IntKind.i64.wrap at_5).tmod (IntKind.i64.wrap (1 + ((IntKind.i64.wrap n1).tmod 10))))).bind <| un2 fun (y43213 : Int) (y43214 : (Option Int)) =>
  if (y43214.isNone && ((decide ((-1099511627776) < y43213)) && decide (y43213 < 1099511627776))) then (((stn_Network_Copy_p (⟨l42810⟩ : stn_Network)).bind <| fun (d43297 : stn_Network) =>
  (stn_Network_Add_p d43297 (⟨(IntKind.i64.wrap at_5).tmod (IntKind.i64.wrap (1 + ((IntKind.i64.wrap n1).tmod 10))), 0, IntKind.i64.wrap ((IntKind.i64.wrap (0 - y43213)) - 1)⟩ : Bound)).bind <| un2 fun (y43309 : (Option Int)) (l43310 : (List (List Int))) =>
  if !(base_Is_t y43309 21) then (some true)
  else ((stn_Network_Copy_p (⟨l42810⟩ : stn_Network)).bind <| fun (d43329 : stn_Network) =>
  (stn_Network_Add_p d43329 (⟨(IntKind.i64.wrap at_5).tmod (IntKind.i64.wrap (1 + ((IntKind.i64.wrap n1).tmod 10))), 0, IntKind.i64.wrap (0 - y43213)⟩ : Bound)).bind <| un2 fun (y43341 : (Option Int)) (l43342 : (List (List Int))) =>
  some y43341.isSome)).bind (fun (z43292 : Bool) => if z43292 then (some false)
  else (some true)))
  else (some true))))
  else ((stn_Network_Latest_p (⟨l42810⟩ : stn_Network) ((IntKind.i64.wrap at_5).tmod (IntKind.i64.wrap (1 + ((IntKind.i64.wrap n1).tmod 10))))).bind <| un2 fun (y43384 : Int) (y43385 : (Option Int)) =>
  if (y43385.isNone && ((decide ((-1099511627776) < y43384)) && decide (y43384 < 1099511627776))) then (((stn_Network_Copy_p (⟨l42810⟩ : stn_Network)).bind <| fun (d43468 : stn_Network) =>
  (stn_Network_Add_p d43468 (⟨(IntKind.i64.wrap at_5).tmod (IntKind.i64.wrap (1 + ((IntKind.i64.wrap n1).tmod 10))), 0, IntKind.i64.wrap ((IntKind.i64.wrap (0 - y43384)) - 1)⟩ : Bound)).bind <| un2 fun (y43480 : (Option Int)) (l43481 : (List (List Int))) =>
  if !(base_Is_t y43480 21) then (some true)
  else ((stn_Network_Copy_p (⟨l42810⟩ : stn_Network)).bind <| fun (d43500 : stn_Network) =>
  (stn_Network_Add_p d43500 (⟨(IntKind.i64.wrap at_5).tmod (IntKind.i64.wrap (1 + ((IntKind.i64.wrap n1).tmod 10))), 0, IntKind.i64.wrap (0 - y43384)⟩ : Bound)).bind <| un2 fun (y43512 : (Option Int)) (l43513 : (List (List Int))) =>
  some y43512.isSome)).bind (fun (z43463 : Bool) => if z43463 then (some false)
  else (some true)))
  else (some true)))))))))

end Go.Pw
