/-
  What the functions compute, in plain Lean (printed by my generator).
-/
import Derived.Test.YtcapbkcdeeinoaaL6
set_option maxRecDepth 100000
set_option linter.unusedVariables false
namespace Go.Pw
structure Bound where
  A : Int
  B : Int
  Most : Int
def encBound : Enc Bound := Enc.iso ((encInt .i64).pair ((encInt .i64).pair (encInt .i64))) (fun b => (b.A, b.B, b.Most))
theorem encBound_val {s : PHeap} {v : Value} {b : Bound} : encBound.val s v b ↔ v = .agg #[.int .i64 (b.A), .int .i64 (b.B), .int .i64 (b.Most)] := by
  simp only [Enc.iso, Enc.pair, Enc.val, encBound, encInt, if_true, oneCell]
  constructor
  · rintro ⟨cs, rfl, h⟩
    obtain ⟨cs⟩ := cs
    simp only [] at h
    obtain ⟨_, _, rfl, rfl, ⟨_, _, rfl, rfl, rfl⟩⟩ := h
    rfl
  · rintro rfl
    exact ⟨_, rfl, ⟨[.int .i64 (b.A)], [.int .i64 (b.B), .int .i64 (b.Most)], rfl, rfl, ⟨[.int .i64 (b.B)], [.int .i64 (b.Most)], rfl, rfl, rfl⟩⟩⟩

structure stn_Network where
  d : (List (List Int))
def encstn_Network : Enc stn_Network := Enc.iso (encSlice (encSlice (encInt .i64))) (fun b => (b.d))
theorem encstn_Network_val {s : PHeap} {v : Value} {b : stn_Network} : encstn_Network.val s v b ↔ ∃ u1, v = .agg #[u1] ∧ SliceRep (encSlice (encInt .i64)) s u1 (b.d) := by
  simp only [Enc.iso, Enc.val, encSlice, encstn_Network, if_true]
  constructor
  · rintro ⟨cs, rfl, h⟩
    obtain ⟨cs⟩ := cs
    simp only [] at h
    obtain ⟨w1, rfl, h1⟩ := h
    exact ⟨w1, rfl, h1⟩
  · rintro ⟨w1, rfl, h1⟩
    exact ⟨_, rfl, ⟨w1, rfl, h1⟩⟩

noncomputable def stn_New_p (n17 : Int) : Option ((Option stn_Network) × (Option Int)) :=
  if ((decide (n17 < 1)) || decide (128 < n17)) then (some (none, some 1))
  else ((must (decide (n17 ≤ 9223372036854775807))).bind fun u953 =>
  (forS (fun i955 => fun (z1233 : (List (List Int))) => (mk 8 0 n17).bind fun l1549 =>
  (forS (fun i1554 => fun (l1622 : (List Int)) => (if !decide ((i1554 : Int) = (i955 : Int)) then ((idx l1622 (i1554 : Int)).bind fun x1748 =>
  (setI l1622 (i1554 : Int) 1125899906842624).bind fun l1753 =>
  some l1753)
  else (some l1622)).bind (fun (l1734 : (List Int)) => some l1734)) (l1549.length) 0 l1549).bind (fun (l1622 : (List Int)) => (app 24 z1233 [l1622]).bind fun l1817 =>
  some l1817)) (n17.toNat) 0 []).bind (fun (z1233 : (List (List Int))) => some (some (⟨z1233⟩ : stn_Network), none)))

noncomputable def stn_Network_point_p (n1937 : stn_Network) (p1941 : Int) : Option (Bool) :=
  some ((decide (0 ≤ p1941)) && decide (p1941 < (n1937.d.length : Int)))
def stn_Network_point_t (n1937 : stn_Network) (p1941 : Int) : Bool :=
  ((decide (0 ≤ p1941)) && decide (p1941 < (n1937.d.length : Int)))
theorem stn_Network_point_tot (n1937 : stn_Network) (p1941 : Int) : stn_Network_point_p n1937 p1941 = some (stn_Network_point_t n1937 p1941) := by
  unfold stn_Network_point_p stn_Network_point_t
  (repeat' split) <;> rfl
attribute [irreducible] stn_Network_point_t

noncomputable def stn_Network_Add_p (n1926 : stn_Network) (b1930 : Bound) : Option ((Option Int) × (List (List Int))) :=
  (if !(stn_Network_point_t n1926 b1930.A) then (some true)
  else (if !(stn_Network_point_t n1926 b1930.B) then (some true)
  else (if decide (b1930.Most < (-1099511627776)) then (some true)
  else (some (decide (1099511627776 < b1930.Most)))))).bind (fun (z11220 : Bool) => if z11220 then (some (some 1, n1926.d))
  else ((idx n1926.d b1930.B).bind fun row11435 =>
  (idx row11435 b1930.A).bind fun x11443 =>
  if ((decide (x11443 < 1125899906842624)) && decide ((IntKind.i64.wrap (x11443 + b1930.Most)) < 0)) then (some (some 21, n1926.d))
  else ((forS (fun i11599 => fun (l14531 : (List (List Int))) => (idx l14531 (i11599 : Int)).bind fun row17494 =>
  (idx row17494 b1930.A).bind fun x17511 =>
  if decide (1125899906842624 ≤ x17511) then (some l14531)
  else ((idx l14531 b1930.B).bind fun row17644 =>
  (must (decide (row17644.length ≤ 9223372036854775807))).bind fun u17749 =>
  (forS (fun i17751 => fun (l18626 : (List (List Int))) => (idx l18626 b1930.B).bind fun row19535 =>
  (idx row19535 (i17751 : Int)).bind fun x19537 =>
  (if decide (x19537 < 1125899906842624) then ((idx l18626 (i11599 : Int)).bind fun row20181 =>
  (idx row20181 (i17751 : Int)).bind fun x20183 =>
  (idx row20181 b1930.A).bind fun x20188 =>
  (setI row20181 (i17751 : Int) (min x20183 (IntKind.i64.wrap ((IntKind.i64.wrap (x20188 + b1930.Most)) + x19537)))).bind fun l20196 =>
  (setI l18626 (i11599 : Int) l20196).bind fun l20198 =>
  some l20198)
  else (some l18626)).bind (fun (l19958 : (List (List Int))) => some l19958)) (row17644.length) 0 l14531).bind (fun (l18626 : (List (List Int))) => some l18626))) (n1926.d.length) 0 n1926.d).bind (fun (l14531 : (List (List Int))) => some (none, l14531)))))

noncomputable def law54_made_p (n13 : Int) (bounds14 : (List Bound)) : Option ((Option stn_Network) × Bool) :=
  (stn_New_p n13).bind <| un2 fun (pd20694 : (Option stn_Network)) (y20695 : (Option Int)) =>
  optC pd20694 ((if y20695.isSome then (some ())
  else (some ())).bind (fun (_ : Unit) => some (none, false))) (fun d20698 => if (y20695.isSome && true) then (some (none, false))
  else (ctl (forC (R := ((Option stn_Network) × Bool)) (fun i20731 => fun (l20778 : (List (List Int))) => (idx bounds14 (i20731 : Int)).bind fun x20910 =>
  (stn_Network_Add_p (⟨l20778⟩ : stn_Network) x20910).bind <| un2 fun (y20934 : (Option Int)) (l20935 : (List (List Int))) =>
  if y20934.isSome then (some (Ctl.ret (none, false)))
  else (some (Ctl.next l20935))) (bounds14.length) 0 d20698.d) (fun r => some r) (fun (l20873 : (List (List Int))) => some (some (⟨l20873⟩ : stn_Network), true))))

noncomputable def stn_Network_Distance_p (n21054 : stn_Network) (a21058 : Int) (b21059 : Int) : Option (Int × (Option Int)) :=
  if ((!(stn_Network_point_t n21054 a21058)) || !(stn_Network_point_t n21054 b21059)) then (some (0, some 1))
  else ((idx n21054.d a21058).bind fun row21203 =>
  (idx row21203 b21059).bind fun x21213 =>
  some (x21213, none))

noncomputable def stn_Network_Earliest_p (n21049 : stn_Network) (p21053 : Int) : Option (Int × (Option Int)) :=
  (stn_Network_Distance_p n21049 p21053 0).bind <| un2 fun (y21262 : Int) (y21263 : (Option Int)) =>
  if y21263.isSome then (some (0, y21263))
  else (if decide (1125899906842624 ≤ y21262) then (some (0, some 3))
  else (some (IntKind.i64.wrap (0 - y21262), none)))

noncomputable def stn_Network_Times_p (n21043 : stn_Network) : Option ((List Int) × (Option Int)) :=
  ctl (forC (R := ((List Int) × (Option Int))) (fun i21516 => fun (out21561 : (List Int)) => (stn_Network_Earliest_p n21043 (i21516 : Int)).bind <| un2 fun (y21686 : Int) (y21687 : (Option Int)) =>
  if y21687.isSome then (some (Ctl.ret ([], y21687)))
  else ((app 8 out21561 [y21686]).bind fun l21713 =>
  some (Ctl.next l21713))) (n21043.d.length) 0 []) (fun r => some r) (fun (out21647 : (List Int)) => some (out21647, none))

noncomputable def stn_Network_Latest_p (n21779 : stn_Network) (p21783 : Int) : Option (Int × (Option Int)) :=
  (stn_Network_Distance_p n21779 0 p21783).bind <| un2 fun (y21822 : Int) (y21823 : (Option Int)) =>
  if y21823.isSome then (some (0, y21823))
  else (if decide (1125899906842624 ≤ y21822) then (some (0, some 3))
  else (some (y21822, none)))

noncomputable def base_Ints_p (a21873 : (List Int)) (b21876 : (List Int)) : Option (Bool) :=
  if !decide ((a21873.length : Int) = (b21876.length : Int)) then (some false)
  else (ctl (forC (R := (Bool)) (fun i22665 => fun (_ : Unit) => (idx a21873 (i22665 : Int)).bind fun x23302 =>
  (idx b21876 (i22665 : Int)).bind fun x23304 =>
  if !decide (x23302 = x23304) then (some (Ctl.ret false))
  else (some (Ctl.next ()))) (a21873.length) 0 ()) (fun r => some r) (fun (_ : Unit) => some true))

noncomputable def base_Num_p (e23460 : (Option Int)) : Option (Int) :=
  if e23460.isNone then (some 0)
  else (if e23460.isSome then (some (e23460.getD 0))
  else (some (-1)))
def base_Num_t (e23460 : (Option Int)) : Int :=
  if e23460.isNone then (0)
  else (if e23460.isSome then ((e23460.getD 0))
  else ((-1)))
theorem base_Num_tot (e23460 : (Option Int)) : base_Num_p e23460 = some (base_Num_t e23460) := by
  unfold base_Num_p base_Num_t
  (repeat' split) <;> rfl
attribute [irreducible] base_Num_t

noncomputable def base_Is_p (e23457 : (Option Int)) (code23458 : Int) : Option (Bool) :=
  some (e23457.isSome && decide ((base_Num_t e23457) = code23458))
def base_Is_t (e23457 : (Option Int)) (code23458 : Int) : Bool :=
  (e23457.isSome && decide ((base_Num_t e23457) = code23458))
theorem base_Is_tot (e23457 : (Option Int)) (code23458 : Int) : base_Is_p e23457 code23458 = some (base_Is_t e23457 code23458) := by
  unfold base_Is_p base_Is_t
  (repeat' split) <;> rfl
attribute [irreducible] base_Is_t

noncomputable def stn_Network_Times_nil_p  : Option ((List Int) × (Option Int)) :=
  some ([], some 3)
def stn_Network_Times_nil_t  : (List Int) × (Option Int) :=
  ([], some 3)
theorem stn_Network_Times_nil_tot  : stn_Network_Times_nil_p  = some (stn_Network_Times_nil_t ) := by
  unfold stn_Network_Times_nil_p stn_Network_Times_nil_t
  (repeat' split) <;> rfl
attribute [irreducible] stn_Network_Times_nil_t

noncomputable def stn_Network_Distance_nil_p (a23615 : Int) (b23616 : Int) : Option (Int × (Option Int)) :=
  some (0, some 3)
def stn_Network_Distance_nil_t (a23615 : Int) (b23616 : Int) : Int × (Option Int) :=
  (0, some 3)
theorem stn_Network_Distance_nil_tot (a23615 : Int) (b23616 : Int) : stn_Network_Distance_nil_p a23615 b23616 = some (stn_Network_Distance_nil_t a23615 b23616) := by
  unfold stn_Network_Distance_nil_p stn_Network_Distance_nil_t
  (repeat' split) <;> rfl
attribute [irreducible] stn_Network_Distance_nil_t

noncomputable def stn_Network_Latest_nil_p (p23613 : Int) : Option (Int × (Option Int)) :=
  if ((stn_Network_Distance_nil_t 0 p23613).2).isSome then (some (0, (stn_Network_Distance_nil_t 0 p23613).2))
  else (if decide (1125899906842624 ≤ ((stn_Network_Distance_nil_t 0 p23613).1)) then (some (0, some 3))
  else (some ((stn_Network_Distance_nil_t 0 p23613).1, none)))
def stn_Network_Latest_nil_t (p23613 : Int) : Int × (Option Int) :=
  if ((stn_Network_Distance_nil_t 0 p23613).2).isSome then ((0, (stn_Network_Distance_nil_t 0 p23613).2))
  else (if decide (1125899906842624 ≤ ((stn_Network_Distance_nil_t 0 p23613).1)) then ((0, some 3))
  else (((stn_Network_Distance_nil_t 0 p23613).1, none)))
theorem stn_Network_Latest_nil_tot (p23613 : Int) : stn_Network_Latest_nil_p p23613 = some (stn_Network_Latest_nil_t p23613) := by
  unfold stn_Network_Latest_nil_p stn_Network_Latest_nil_t
  (repeat' split) <;> rfl
attribute [irreducible] stn_Network_Latest_nil_t

noncomputable def stn_Network_Add_nil_p (b23684 : Bound) : Option ((Option Int)) :=
  some (some 3)
def stn_Network_Add_nil_t (b23684 : Bound) : (Option Int) :=
  (some 3)
theorem stn_Network_Add_nil_tot (b23684 : Bound) : stn_Network_Add_nil_p b23684 = some (stn_Network_Add_nil_t b23684) := by
  unfold stn_Network_Add_nil_p stn_Network_Add_nil_t
  (repeat' split) <;> rfl
attribute [irreducible] stn_Network_Add_nil_t

noncomputable def law54_awake_p  : Option (Bool) :=
  (law54_made_p 3 [(⟨1, 0, (-2)⟩ : Bound), (⟨1, 2, 3⟩ : Bound), (⟨2, 1, (-3)⟩ : Bound)]).bind <| un2 fun (pd23794 : (Option stn_Network)) (y23795 : Bool) =>
  optC pd23794 (if !y23795 then (some false)
  else ((if ((stn_Network_Times_nil_t).2).isNone then ((base_Ints_p ((stn_Network_Times_nil_t).1) [0, 2, 5]).bind <| fun (y24022 : Bool) =>
  if y24022 then (if (base_Is_t ((stn_Network_Latest_nil_t 1).2) 3) then (some (base_Is_t (stn_Network_Add_nil_t (⟨0, 2, 4⟩ : Bound)) 21))
  else (some false))
  else (some false))
  else (some false)).bind (fun (z24008 : Bool) => some z24008))) (fun d23798 => if !y23795 then (some false)
  else ((stn_Network_Times_p d23798).bind <| un2 fun (y23829 : (List Int)) (y23830 : (Option Int)) =>
  (stn_Network_Latest_p d23798 1).bind <| un2 fun (y23851 : Int) (y23852 : (Option Int)) =>
  (if y23830.isNone then ((base_Ints_p y23829 [0, 2, 5]).bind <| fun (y23909 : Bool) =>
  if y23909 then (if (base_Is_t y23852 3) then ((stn_Network_Add_p d23798 (⟨0, 2, 4⟩ : Bound)).bind <| un2 fun (y23922 : (Option Int)) (l23923 : (List (List Int))) =>
  some (base_Is_t y23922 21))
  else (some false))
  else (some false))
  else (some false)).bind (fun (z23895 : Bool) => some z23895)))

noncomputable def ref54_Right_p (n24198 : Int) (b24199 : Bound) : Option (Bool) :=
  some ((decide (0 ≤ b24199.A)) && ((decide (b24199.A < n24198)) && ((decide (0 ≤ b24199.B)) && ((decide (b24199.B < n24198)) && ((decide ((-1099511627776) ≤ b24199.Most)) && decide (b24199.Most ≤ 1099511627776))))))
def ref54_Right_t (n24198 : Int) (b24199 : Bound) : Bool :=
  ((decide (0 ≤ b24199.A)) && ((decide (b24199.A < n24198)) && ((decide (0 ≤ b24199.B)) && ((decide (b24199.B < n24198)) && ((decide ((-1099511627776) ≤ b24199.Most)) && decide (b24199.Most ≤ 1099511627776))))))
theorem ref54_Right_tot (n24198 : Int) (b24199 : Bound) : ref54_Right_p n24198 b24199 = some (ref54_Right_t n24198 b24199) := by
  unfold ref54_Right_p ref54_Right_t
  (repeat' split) <;> rfl
attribute [irreducible] ref54_Right_t

noncomputable def ref54_Distances_o_p (n24526 : Int) (bounds24527 : (List Bound)) : Option ((List (List Int)) × Bool) :=
  (must (decide (n24526 ≤ 9223372036854775807))).bind fun u85528 =>
  (forS (fun i85530 => fun (out85806 : (List (List Int))) => (mk 8 0 n24526).bind fun l86122 =>
  (app 24 out85806 [l86122]).bind fun l86130 =>
  (must (decide (n24526 ≤ 9223372036854775807))).bind fun u86140 =>
  (forS (fun i86142 => fun (l86192 : (List (List Int))) => (idx l86192 (i85530 : Int)).bind fun row86288 =>
  (idx row86288 (i86142 : Int)).bind fun x86298 =>
  (setI row86288 (i86142 : Int) 1125899906842624).bind fun l86303 =>
  (setI l86192 (i85530 : Int) l86303).bind fun l86305 =>
  some l86305) (n24526.toNat) 0 l86130).bind (fun (l86192 : (List (List Int))) => (idx l86192 (i85530 : Int)).bind fun row86352 =>
  (idx row86352 (i85530 : Int)).bind fun x86362 =>
  (setI row86352 (i85530 : Int) 0).bind fun l86367 =>
  (setI l86192 (i85530 : Int) l86367).bind fun l86369 =>
  some l86369)) (n24526.toNat) 0 []).bind (fun (out85806 : (List (List Int))) => (forS (fun i86389 => fun (l86885 : (List (List Int))) => (idx bounds24527 (i86389 : Int)).bind fun x87413 =>
  (idx l86885 x87413.A).bind fun row87676 =>
  (idx row87676 x87413.B).bind fun x87687 =>
  (setI row87676 x87413.B (min x87687 x87413.Most)).bind fun l87695 =>
  (setI l86885 x87413.A l87695).bind fun l87697 =>
  some l87697) (bounds24527.length) 0 out85806).bind (fun (l86885 : (List (List Int))) => (must (decide (n24526 ≤ 9223372036854775807))).bind fun u87909 =>
  ctl (forC (R := ((List (List Int)) × Bool)) (fun i87911 => fun (l102550 : (List (List Int))) => (must (decide (n24526 ≤ 9223372036854775807))).bind fun u131854 =>
  (forS (fun i131856 => fun (l136666 : (List (List Int))) => (must (decide (n24526 ≤ 9223372036854775807))).bind fun u141498 =>
  (forS (fun i141500 => fun (l143088 : (List (List Int))) => ((idx l143088 (i131856 : Int)).bind fun row144739 =>
  (idx row144739 (i87911 : Int)).bind fun x144749 =>
  if decide (x144749 < 1125899906842624) then ((idx l143088 (i87911 : Int)).bind fun row144757 =>
  (idx row144757 (i141500 : Int)).bind fun x144767 =>
  some (decide (x144767 < 1125899906842624)))
  else (some false)).bind (fun (z144736 : Bool) => (if z144736 then ((idx l143088 (i131856 : Int)).bind fun row145937 =>
  (idx row145937 (i141500 : Int)).bind fun x145948 =>
  (idx row145937 (i87911 : Int)).bind fun x145956 =>
  (idx l143088 (i87911 : Int)).bind fun row145961 =>
  (idx row145961 (i141500 : Int)).bind fun x145969 =>
  (setI row145937 (i141500 : Int) (min x145948 (IntKind.i64.wrap (x145956 + x145969)))).bind fun l145977 =>
  (setI l143088 (i131856 : Int) l145977).bind fun l145979 =>
  some l145979)
  else (some l143088)).bind (fun (l145530 : (List (List Int))) => some l145530))) (n24526.toNat) 0 l136666).bind (fun (l143088 : (List (List Int))) => some l143088)) (n24526.toNat) 0 l102550).bind (fun (l136666 : (List (List Int))) => (must (decide (n24526 ≤ 9223372036854775807))).bind fun u146322 =>
  ctl (forC (R := ((List (List Int)) × Bool)) (fun i146324 => fun (_ : Unit) => (idx l136666 (i146324 : Int)).bind fun row146441 =>
  (idx row146441 (i146324 : Int)).bind fun x146451 =>
  if decide (x146451 < 0) then (some (Ctl.ret ([], false)))
  else (some (Ctl.next ()))) (n24526.toNat) 0 ()) (fun r => some (Ctl.ret r)) (fun (_ : Unit) => some (Ctl.next l136666)))) (n24526.toNat) 0 l86885) (fun r => some r) (fun (l131829 : (List (List Int))) => some (l131829, true))))

noncomputable def ref54_Add_p (n24187 : Int) (bounds24188 : (List Bound)) (b24191 : Bound) : Option ((List Bound) × Int) :=
  if !(ref54_Right_t n24187 b24191) then (some (bounds24188, 1))
  else ((app 24 [] bounds24188).bind fun l146708 =>
  (app 24 l146708 [b24191]).bind fun l146716 =>
  (ref54_Distances_o_p n24187 l146716).bind <| un2 fun (y146842 : (List (List Int))) (y146843 : Bool) =>
  if !y146843 then (some (bounds24188, 21))
  else (some (l146716, 0)))

noncomputable def ref54_Distances_p (n147272 : Int) (bounds147273 : (List Bound)) : Option ((List (List Int)) × Bool) :=
  (must (decide (n147272 ≤ 9223372036854775807))).bind fun u207749 =>
  (forS (fun i207751 => fun (out208017 : (List (List Int))) => (mk 8 0 n147272).bind fun l208322 =>
  (app 24 out208017 [l208322]).bind fun l208330 =>
  (must (decide (n147272 ≤ 9223372036854775807))).bind fun u208340 =>
  (forS (fun i208342 => fun (l208390 : (List (List Int))) => (idx l208390 (i207751 : Int)).bind fun row208482 =>
  (idx row208482 (i208342 : Int)).bind fun x208492 =>
  (setI row208482 (i208342 : Int) 1125899906842624).bind fun l208497 =>
  (setI l208390 (i207751 : Int) l208497).bind fun l208499 =>
  some l208499) (n147272.toNat) 0 l208330).bind (fun (l208390 : (List (List Int))) => (idx l208390 (i207751 : Int)).bind fun row208543 =>
  (idx row208543 (i207751 : Int)).bind fun x208553 =>
  (setI row208543 (i207751 : Int) 0).bind fun l208558 =>
  (setI l208390 (i207751 : Int) l208558).bind fun l208560 =>
  some l208560)) (n147272.toNat) 0 []).bind (fun (out208017 : (List (List Int))) => (forS (fun i208578 => fun (l209074 : (List (List Int))) => (idx bounds147273 (i208578 : Int)).bind fun x209600 =>
  (idx l209074 x209600.A).bind fun row209863 =>
  (idx row209863 x209600.B).bind fun x209874 =>
  (setI row209863 x209600.B (min x209874 x209600.Most)).bind fun l209882 =>
  (setI l209074 x209600.A l209882).bind fun l209884 =>
  some l209884) (bounds147273.length) 0 out208017).bind (fun (l209074 : (List (List Int))) => (must (decide (n147272 ≤ 9223372036854775807))).bind fun u210095 =>
  ctl (forC (R := ((List (List Int)) × Bool)) (fun i210097 => fun (l224615 : (List (List Int))) => (must (decide (n147272 ≤ 9223372036854775807))).bind fun u253675 =>
  (forS (fun i253677 => fun (l258450 : (List (List Int))) => (must (decide (n147272 ≤ 9223372036854775807))).bind fun u263243 =>
  (forS (fun i263245 => fun (l264822 : (List (List Int))) => ((idx l264822 (i253677 : Int)).bind fun row266460 =>
  (idx row266460 (i210097 : Int)).bind fun x266470 =>
  if decide (x266470 < 1125899906842624) then ((idx l264822 (i210097 : Int)).bind fun row266478 =>
  (idx row266478 (i263245 : Int)).bind fun x266488 =>
  some (decide (x266488 < 1125899906842624)))
  else (some false)).bind (fun (z266457 : Bool) => (if z266457 then ((idx l264822 (i253677 : Int)).bind fun row267651 =>
  (idx row267651 (i263245 : Int)).bind fun x267662 =>
  (idx row267651 (i210097 : Int)).bind fun x267670 =>
  (idx l264822 (i210097 : Int)).bind fun row267675 =>
  (idx row267675 (i263245 : Int)).bind fun x267683 =>
  (setI row267651 (i263245 : Int) (min x267662 (IntKind.i64.wrap (x267670 + x267683)))).bind fun l267691 =>
  (setI l264822 (i253677 : Int) l267691).bind fun l267693 =>
  some l267693)
  else (some l264822)).bind (fun (l267245 : (List (List Int))) => some l267245))) (n147272.toNat) 0 l258450).bind (fun (l264822 : (List (List Int))) => some l264822)) (n147272.toNat) 0 l224615).bind (fun (l258450 : (List (List Int))) => (must (decide (n147272 ≤ 9223372036854775807))).bind fun u268028 =>
  ctl (forC (R := ((List (List Int)) × Bool)) (fun i268030 => fun (_ : Unit) => (idx l258450 (i268030 : Int)).bind fun row268145 =>
  (idx row268145 (i268030 : Int)).bind fun x268155 =>
  if decide (x268155 < 0) then (some (Ctl.ret ([], false)))
  else (some (Ctl.next ()))) (n147272.toNat) 0 ()) (fun r => some (Ctl.ret r)) (fun (_ : Unit) => some (Ctl.next l258450)))) (n147272.toNat) 0 l209074) (fun r => some r) (fun (l253652 : (List (List Int))) => some (l253652, true))))

noncomputable def base_Ints_o_p (a271382 : (List Int)) (b271385 : (List Int)) : Option (Bool) :=
  if !decide ((a271382.length : Int) = (b271385.length : Int)) then (some false)
  else (ctl (forC (R := (Bool)) (fun i272143 => fun (_ : Unit) => (idx a271382 (i272143 : Int)).bind fun x272758 =>
  (idx b271385 (i272143 : Int)).bind fun x272760 =>
  if !decide (x272758 = x272760) then (some (Ctl.ret false))
  else (some (Ctl.next ()))) (a271382.length) 0 ()) (fun r => some r) (fun (_ : Unit) => some true))

noncomputable def law54_is_p (x147264 : stn_Network) (n147268 : Int) (bounds147269 : (List Bound)) : Option (Bool) :=
  (ref54_Distances_p n147268 bounds147269).bind <| un2 fun (y272947 : (List (List Int))) (y272948 : Bool) =>
  if !y272948 then (some false)
  else ((must (decide (n147268 ≤ 9223372036854775807))).bind fun u272960 =>
  ctl (forC (R := (Bool)) (fun i272962 => un2 fun (first273708 : (List Int)) (all273710 : Bool) => (must (decide (n147268 ≤ 9223372036854775807))).bind fun u275249 =>
  ctl (forC (R := (Bool)) (fun i275251 => fun (_ : Unit) => (stn_Network_Distance_p x147264 (i272962 : Int) (i275251 : Int)).bind <| un2 fun (y275460 : Int) (y275461 : (Option Int)) =>
  (if y275461.isSome then (some true)
  else ((idx y272947 (i272962 : Int)).bind fun x275492 =>
  (idx x275492 (i275251 : Int)).bind fun x275500 =>
  some (!decide (y275460 = x275500)))).bind (fun (z275484 : Bool) => if z275484 then (some (Ctl.ret false))
  else (some (Ctl.next ())))) (n147268.toNat) 0 ()) (fun r => some (Ctl.ret r)) (fun (_ : Unit) => (stn_Network_Earliest_p x147264 (i272962 : Int)).bind <| un2 fun (y275591 : Int) (y275592 : (Option Int)) =>
  (idx y272947 (i272962 : Int)).bind fun x275614 =>
  (idx x275614 0).bind fun x275622 =>
  if decide (x275622 = 1125899906842624) then (if ((!decide (y275591 = 0)) || !(base_Is_t y275592 3)) then (some (Ctl.ret false))
  else ((app 8 first273708 [y275591]).bind fun l275682 =>
  (stn_Network_Latest_p x147264 (i272962 : Int)).bind <| un2 fun (y275700 : Int) (y275701 : (Option Int)) =>
  (idx y272947 0).bind fun x275723 =>
  (idx x275723 (i272962 : Int)).bind fun x275731 =>
  if decide (x275731 = 1125899906842624) then (if ((!decide (y275700 = 0)) || !(base_Is_t y275701 3)) then (some (Ctl.ret false))
  else (some (Ctl.next (l275682, false))))
  else (if (y275701.isSome || !decide (y275700 = x275731)) then (some (Ctl.ret false))
  else (some (Ctl.next (l275682, false))))))
  else (if (y275592.isSome || !decide (y275591 = (IntKind.i64.wrap (0 - x275622)))) then (some (Ctl.ret false))
  else ((app 8 first273708 [y275591]).bind fun l275903 =>
  (stn_Network_Latest_p x147264 (i272962 : Int)).bind <| un2 fun (y275921 : Int) (y275922 : (Option Int)) =>
  (idx y272947 0).bind fun x275944 =>
  (idx x275944 (i272962 : Int)).bind fun x275952 =>
  if decide (x275952 = 1125899906842624) then (if ((!decide (y275921 = 0)) || !(base_Is_t y275922 3)) then (some (Ctl.ret false))
  else (some (Ctl.next (l275903, all273710))))
  else (if (y275922.isSome || !decide (y275921 = x275952)) then (some (Ctl.ret false))
  else (some (Ctl.next (l275903, all273710)))))))) (n147268.toNat) 0 ([], true)) (fun r => some r) (un2 fun (first275217 : (List Int)) (all275218 : Bool) => (stn_Network_Times_p x147264).bind <| un2 fun (y276104 : (List Int)) (y276105 : (Option Int)) =>
  if !all275218 then (some ((decide ((y276104.length : Int) = 0)) && (base_Is_t y276105 3)))
  else ((if y276105.isNone then ((base_Ints_o_p y276104 first275217).bind <| fun (y276158 : Bool) =>
  some y276158)
  else (some false)).bind (fun (z276152 : Bool) => some z276152))))

noncomputable def stn_Network_Earliest_nil_p (p276593 : Int) : Option (Int × (Option Int)) :=
  if ((stn_Network_Distance_nil_t p276593 0).2).isSome then (some (0, (stn_Network_Distance_nil_t p276593 0).2))
  else (if decide (1125899906842624 ≤ ((stn_Network_Distance_nil_t p276593 0).1)) then (some (0, some 3))
  else (some (IntKind.i64.wrap (0 - ((stn_Network_Distance_nil_t p276593 0).1)), none)))
def stn_Network_Earliest_nil_t (p276593 : Int) : Int × (Option Int) :=
  if ((stn_Network_Distance_nil_t p276593 0).2).isSome then ((0, (stn_Network_Distance_nil_t p276593 0).2))
  else (if decide (1125899906842624 ≤ ((stn_Network_Distance_nil_t p276593 0).1)) then ((0, some 3))
  else ((IntKind.i64.wrap (0 - ((stn_Network_Distance_nil_t p276593 0).1)), none)))
theorem stn_Network_Earliest_nil_tot (p276593 : Int) : stn_Network_Earliest_nil_p p276593 = some (stn_Network_Earliest_nil_t p276593) := by
  unfold stn_Network_Earliest_nil_p stn_Network_Earliest_nil_t
  (repeat' split) <;> rfl
attribute [irreducible] stn_Network_Earliest_nil_t

noncomputable def law54_is_nil_p (n276641 : Int) (bounds276642 : (List Bound)) : Option (Bool) :=
  (ref54_Distances_p n276641 bounds276642).bind <| un2 fun (y279286 : (List (List Int))) (y279287 : Bool) =>
  if !y279287 then (some false)
  else ((must (decide (n276641 ≤ 9223372036854775807))).bind fun u279297 =>
  ctl (forC (R := (Bool)) (fun i279299 => un2 fun (first279923 : (List Int)) (all279925 : Bool) => (must (decide (n276641 ≤ 9223372036854775807))).bind fun u281192 =>
  ctl (forC (R := (Bool)) (fun i281194 => fun (_ : Unit) => (if ((stn_Network_Distance_nil_t (i279299 : Int) (i281194 : Int)).2).isSome then (some true)
  else ((idx y279286 (i279299 : Int)).bind fun x281381 =>
  (idx x281381 (i281194 : Int)).bind fun x281389 =>
  some (!decide (((stn_Network_Distance_nil_t (i279299 : Int) (i281194 : Int)).1) = x281389)))).bind (fun (z281376 : Bool) => if z281376 then (some (Ctl.ret false))
  else (some (Ctl.next ())))) (n276641.toNat) 0 ()) (fun r => some (Ctl.ret r)) (fun (_ : Unit) => (idx y279286 (i279299 : Int)).bind fun x281480 =>
  (idx x281480 0).bind fun x281488 =>
  if decide (x281488 = 1125899906842624) then (if ((!decide (((stn_Network_Earliest_nil_t (i279299 : Int)).1) = 0)) || !(base_Is_t ((stn_Network_Earliest_nil_t (i279299 : Int)).2) 3)) then (some (Ctl.ret false))
  else ((app 8 first279923 [(stn_Network_Earliest_nil_t (i279299 : Int)).1]).bind fun l281540 =>
  (idx y279286 0).bind fun x281569 =>
  (idx x281569 (i279299 : Int)).bind fun x281577 =>
  if decide (x281577 = 1125899906842624) then (if ((!decide (((stn_Network_Latest_nil_t (i279299 : Int)).1) = 0)) || !(base_Is_t ((stn_Network_Latest_nil_t (i279299 : Int)).2) 3)) then (some (Ctl.ret false))
  else (some (Ctl.next (l281540, false))))
  else (if ((((stn_Network_Latest_nil_t (i279299 : Int)).2).isSome) || !decide (((stn_Network_Latest_nil_t (i279299 : Int)).1) = x281577)) then (some (Ctl.ret false))
  else (some (Ctl.next (l281540, false))))))
  else (if ((((stn_Network_Earliest_nil_t (i279299 : Int)).2).isSome) || !decide (((stn_Network_Earliest_nil_t (i279299 : Int)).1) = (IntKind.i64.wrap (0 - x281488)))) then (some (Ctl.ret false))
  else ((app 8 first279923 [(stn_Network_Earliest_nil_t (i279299 : Int)).1]).bind fun l281719 =>
  (idx y279286 0).bind fun x281748 =>
  (idx x281748 (i279299 : Int)).bind fun x281756 =>
  if decide (x281756 = 1125899906842624) then (if ((!decide (((stn_Network_Latest_nil_t (i279299 : Int)).1) = 0)) || !(base_Is_t ((stn_Network_Latest_nil_t (i279299 : Int)).2) 3)) then (some (Ctl.ret false))
  else (some (Ctl.next (l281719, all279925))))
  else (if ((((stn_Network_Latest_nil_t (i279299 : Int)).2).isSome) || !decide (((stn_Network_Latest_nil_t (i279299 : Int)).1) = x281756)) then (some (Ctl.ret false))
  else (some (Ctl.next (l281719, all279925)))))))) (n276641.toNat) 0 ([], true)) (fun r => some r) (un2 fun (first281162 : (List Int)) (all281163 : Bool) => if !all281163 then (some ((decide ((((stn_Network_Times_nil_t).1).length : Int) = 0)) && (base_Is_t ((stn_Network_Times_nil_t).2) 3)))
  else ((if ((stn_Network_Times_nil_t).2).isNone then ((base_Ints_o_p ((stn_Network_Times_nil_t).1) first281162).bind <| fun (y281918 : Bool) =>
  some y281918)
  else (some false)).bind (fun (z281912 : Bool) => some z281912))))

noncomputable def law54_StnPlays_p (n1 : Int) (bounds2 : (List Bound)) : Option (Bool) :=
  ((law54_awake_p).bind <| fun (y282012 : Bool) =>
  if !y282012 then (some true)
  else (if decide (12 < n1) then (if decide (n1 ≤ 128) then (some true)
  else (some (decide (30 < (bounds2.length : Int)))))
  else (some (decide (30 < (bounds2.length : Int)))))).bind (fun (z282007 : Bool) => if z282007 then ((law54_awake_p).bind <| fun (y282043 : Bool) =>
  some y282043)
  else ((stn_New_p n1).bind <| un2 fun (pd282070 : (Option stn_Network)) (y282071 : (Option Int)) =>
  optC pd282070 (if ((decide (n1 < 1)) || decide (128 < n1)) then (some (base_Is_t y282071 1))
  else (if y282071.isSome then (some false)
  else (ctl (forC (R := (Bool)) (fun i282648 => fun (l282711 : (List Bound)) => (idx bounds2 (i282648 : Int)).bind fun x282879 =>
  (ref54_Add_p n1 l282711 x282879).bind <| un2 fun (y282903 : (List Bound)) (y282904 : Int) =>
  if !decide ((base_Num_t (stn_Network_Add_nil_t x282879)) = y282904) then (some (Ctl.ret false))
  else (some (Ctl.next y282903))) (bounds2.length) 0 []) (fun r => some r) (fun (l282841 : (List Bound)) => ((law54_is_nil_p n1 l282841).bind <| fun (y283010 : Bool) =>
  if y283010 then (if (base_Is_t ((stn_Network_Distance_nil_t 0 n1).2) 1) then (if (base_Is_t ((stn_Network_Earliest_nil_t (-1)).2) 1) then (some (base_Is_t ((stn_Network_Latest_nil_t n1).2) 1))
  else (some false))
  else (some false))
  else (some false)).bind (fun (z283005 : Bool) => some z283005))))) (fun d282074 => if ((decide (n1 < 1)) || decide (128 < n1)) then (some false)
  else (if y282071.isSome then (some false)
  else (ctl (forC (R := (Bool)) (fun i282114 => un2 fun (l282189 : (List Bound)) (l282191 : (List (List Int))) => (idx bounds2 (i282114 : Int)).bind fun x282388 =>
  (ref54_Add_p n1 l282189 x282388).bind <| un2 fun (y282412 : (List Bound)) (y282413 : Int) =>
  (stn_Network_Add_p (⟨l282191⟩ : stn_Network) x282388).bind <| un2 fun (y282436 : (Option Int)) (l282437 : (List (List Int))) =>
  if !decide ((base_Num_t y282436) = y282413) then (some (Ctl.ret false))
  else (some (Ctl.next (y282412, l282437)))) (bounds2.length) 0 ([], d282074.d)) (fun r => some r) (un2 fun (l282346 : (List Bound)) (l282347 : (List (List Int))) => (stn_Network_Distance_p (⟨l282347⟩ : stn_Network) 0 n1).bind <| un2 fun (y282500 : Int) (y282501 : (Option Int)) =>
  (stn_Network_Earliest_p (⟨l282347⟩ : stn_Network) (-1)).bind <| un2 fun (y282520 : Int) (y282521 : (Option Int)) =>
  (stn_Network_Latest_p (⟨l282347⟩ : stn_Network) n1).bind <| un2 fun (y282540 : Int) (y282541 : (Option Int)) =>
  ((law54_is_p (⟨l282347⟩ : stn_Network) n1 l282346).bind <| fun (y282577 : Bool) =>
  if y282577 then (if (base_Is_t y282501 1) then (if (base_Is_t y282521 1) then (some (base_Is_t y282541 1))
  else (some false))
  else (some false))
  else (some false)).bind (fun (z282572 : Bool) => some z282572)))))))

end Go.Pw
