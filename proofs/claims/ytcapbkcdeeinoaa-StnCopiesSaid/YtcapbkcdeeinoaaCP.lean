/-
  What the functions compute, in plain Lean (printed by my generator).
-/
import Derived.Test.YtcapbkcdeeinoaaL6
set_option maxRecDepth 100000
set_option linter.unusedVariables false
namespace Go.Pw
structure Bound where
  A : Int
  B : Int
  Most : Int
def encBound : Enc Bound := Enc.iso ((encInt .i64).pair ((encInt .i64).pair (encInt .i64))) (fun b => (b.A, b.B, b.Most))
theorem encBound_val {s : PHeap} {v : Value} {b : Bound} : encBound.val s v b ↔ v = .agg #[.int .i64 (b.A), .int .i64 (b.B), .int .i64 (b.Most)] := by
  simp only [Enc.iso, Enc.pair, Enc.val, encBound, encInt, if_true, oneCell]
  constructor
  · rintro ⟨cs, rfl, h⟩
    obtain ⟨cs⟩ := cs
    simp only [] at h
    obtain ⟨_, _, rfl, rfl, ⟨_, _, rfl, rfl, rfl⟩⟩ := h
    rfl
  · rintro rfl
    exact ⟨_, rfl, ⟨[.int .i64 (b.A)], [.int .i64 (b.B), .int .i64 (b.Most)], rfl, rfl, ⟨[.int .i64 (b.B)], [.int .i64 (b.Most)], rfl, rfl, rfl⟩⟩⟩

structure stn_Network where
  d : (List (List Int))
def encstn_Network : Enc stn_Network := Enc.iso (encSlice (encSlice (encInt .i64))) (fun b => (b.d))
theorem encstn_Network_val {s : PHeap} {v : Value} {b : stn_Network} : encstn_Network.val s v b ↔ ∃ u1, v = .agg #[u1] ∧ SliceRep (encSlice (encInt .i64)) s u1 (b.d) := by
  simp only [Enc.iso, Enc.val, encSlice, encstn_Network, if_true]
  constructor
  · rintro ⟨cs, rfl, h⟩
    obtain ⟨cs⟩ := cs
    simp only [] at h
    obtain ⟨w1, rfl, h1⟩ := h
    exact ⟨w1, rfl, h1⟩
  · rintro ⟨w1, rfl, h1⟩
    exact ⟨_, rfl, ⟨w1, rfl, h1⟩⟩

noncomputable def stn_New_p (n20 : Int) : Option ((Option stn_Network) × (Option Int)) :=
  if ((decide (n20 < 1)) || decide (128 < n20)) then (some (none, some 1))
  else ((must (decide (n20 ≤ 9223372036854775807))).bind fun u956 =>
  (forS (fun i958 => fun (z1236 : (List (List Int))) => (mk 8 0 n20).bind fun l1552 =>
  (forS (fun i1557 => fun (l1625 : (List Int)) => (if !decide ((i1557 : Int) = (i958 : Int)) then ((idx l1625 (i1557 : Int)).bind fun x1751 =>
  (setI l1625 (i1557 : Int) 1125899906842624).bind fun l1756 =>
  some l1756)
  else (some l1625)).bind (fun (l1737 : (List Int)) => some l1737)) (l1552.length) 0 l1552).bind (fun (l1625 : (List Int)) => (app 24 z1236 [l1625]).bind fun l1820 =>
  some l1820)) (n20.toNat) 0 []).bind (fun (z1236 : (List (List Int))) => some (some (⟨z1236⟩ : stn_Network), none)))

noncomputable def stn_Network_point_p (n1940 : stn_Network) (p1944 : Int) : Option (Bool) :=
  some ((decide (0 ≤ p1944)) && decide (p1944 < (n1940.d.length : Int)))
def stn_Network_point_t (n1940 : stn_Network) (p1944 : Int) : Bool :=
  ((decide (0 ≤ p1944)) && decide (p1944 < (n1940.d.length : Int)))
theorem stn_Network_point_tot (n1940 : stn_Network) (p1944 : Int) : stn_Network_point_p n1940 p1944 = some (stn_Network_point_t n1940 p1944) := by
  unfold stn_Network_point_p stn_Network_point_t
  (repeat' split) <;> rfl
attribute [irreducible] stn_Network_point_t

noncomputable def stn_Network_Add_p (n1929 : stn_Network) (b1933 : Bound) : Option ((Option Int) × (List (List Int))) :=
  (if !(stn_Network_point_t n1929 b1933.A) then (some true)
  else (if !(stn_Network_point_t n1929 b1933.B) then (some true)
  else (if decide (b1933.Most < (-1099511627776)) then (some true)
  else (some (decide (1099511627776 < b1933.Most)))))).bind (fun (z11223 : Bool) => if z11223 then (some (some 1, n1929.d))
  else ((idx n1929.d b1933.B).bind fun row11438 =>
  (idx row11438 b1933.A).bind fun x11446 =>
  if ((decide (x11446 < 1125899906842624)) && decide ((IntKind.i64.wrap (x11446 + b1933.Most)) < 0)) then (some (some 21, n1929.d))
  else ((forS (fun i11602 => fun (l14534 : (List (List Int))) => (idx l14534 (i11602 : Int)).bind fun row17497 =>
  (idx row17497 b1933.A).bind fun x17514 =>
  if decide (1125899906842624 ≤ x17514) then (some l14534)
  else ((idx l14534 b1933.B).bind fun row17647 =>
  (must (decide (row17647.length ≤ 9223372036854775807))).bind fun u17752 =>
  (forS (fun i17754 => fun (l18629 : (List (List Int))) => (idx l18629 b1933.B).bind fun row19538 =>
  (idx row19538 (i17754 : Int)).bind fun x19540 =>
  (if decide (x19540 < 1125899906842624) then ((idx l18629 (i11602 : Int)).bind fun row20184 =>
  (idx row20184 (i17754 : Int)).bind fun x20186 =>
  (idx row20184 b1933.A).bind fun x20191 =>
  (setI row20184 (i17754 : Int) (min x20186 (IntKind.i64.wrap ((IntKind.i64.wrap (x20191 + b1933.Most)) + x19540)))).bind fun l20199 =>
  (setI l18629 (i11602 : Int) l20199).bind fun l20201 =>
  some l20201)
  else (some l18629)).bind (fun (l19961 : (List (List Int))) => some l19961)) (row17647.length) 0 l14534).bind (fun (l18629 : (List (List Int))) => some l18629))) (n1929.d.length) 0 n1929.d).bind (fun (l14534 : (List (List Int))) => some (none, l14534)))))

noncomputable def law54_made_p (n16 : Int) (bounds17 : (List Bound)) : Option ((Option stn_Network) × Bool) :=
  (stn_New_p n16).bind <| un2 fun (pd20697 : (Option stn_Network)) (y20698 : (Option Int)) =>
  optC pd20697 ((if y20698.isSome then (some ())
  else (some ())).bind (fun (_ : Unit) => some (none, false))) (fun d20701 => if (y20698.isSome && true) then (some (none, false))
  else (ctl (forC (R := ((Option stn_Network) × Bool)) (fun i20734 => fun (l20781 : (List (List Int))) => (idx bounds17 (i20734 : Int)).bind fun x20913 =>
  (stn_Network_Add_p (⟨l20781⟩ : stn_Network) x20913).bind <| un2 fun (y20937 : (Option Int)) (l20938 : (List (List Int))) =>
  if y20937.isSome then (some (Ctl.ret (none, false)))
  else (some (Ctl.next l20938))) (bounds17.length) 0 d20701.d) (fun r => some r) (fun (l20876 : (List (List Int))) => some (some (⟨l20876⟩ : stn_Network), true))))

noncomputable def stn_Network_Distance_p (n21057 : stn_Network) (a21061 : Int) (b21062 : Int) : Option (Int × (Option Int)) :=
  if ((!(stn_Network_point_t n21057 a21061)) || !(stn_Network_point_t n21057 b21062)) then (some (0, some 1))
  else ((idx n21057.d a21061).bind fun row21206 =>
  (idx row21206 b21062).bind fun x21216 =>
  some (x21216, none))

noncomputable def stn_Network_Earliest_p (n21052 : stn_Network) (p21056 : Int) : Option (Int × (Option Int)) :=
  (stn_Network_Distance_p n21052 p21056 0).bind <| un2 fun (y21265 : Int) (y21266 : (Option Int)) =>
  if y21266.isSome then (some (0, y21266))
  else (if decide (1125899906842624 ≤ y21265) then (some (0, some 3))
  else (some (IntKind.i64.wrap (0 - y21265), none)))

noncomputable def stn_Network_Times_p (n21046 : stn_Network) : Option ((List Int) × (Option Int)) :=
  ctl (forC (R := ((List Int) × (Option Int))) (fun i21519 => fun (out21564 : (List Int)) => (stn_Network_Earliest_p n21046 (i21519 : Int)).bind <| un2 fun (y21689 : Int) (y21690 : (Option Int)) =>
  if y21690.isSome then (some (Ctl.ret ([], y21690)))
  else ((app 8 out21564 [y21689]).bind fun l21716 =>
  some (Ctl.next l21716))) (n21046.d.length) 0 []) (fun r => some r) (fun (out21650 : (List Int)) => some (out21650, none))

noncomputable def stn_Network_Latest_p (n21782 : stn_Network) (p21786 : Int) : Option (Int × (Option Int)) :=
  (stn_Network_Distance_p n21782 0 p21786).bind <| un2 fun (y21825 : Int) (y21826 : (Option Int)) =>
  if y21826.isSome then (some (0, y21826))
  else (if decide (1125899906842624 ≤ y21825) then (some (0, some 3))
  else (some (y21825, none)))

noncomputable def base_Ints_p (a21876 : (List Int)) (b21879 : (List Int)) : Option (Bool) :=
  if !decide ((a21876.length : Int) = (b21879.length : Int)) then (some false)
  else (ctl (forC (R := (Bool)) (fun i22668 => fun (_ : Unit) => (idx a21876 (i22668 : Int)).bind fun x23305 =>
  (idx b21879 (i22668 : Int)).bind fun x23307 =>
  if !decide (x23305 = x23307) then (some (Ctl.ret false))
  else (some (Ctl.next ()))) (a21876.length) 0 ()) (fun r => some r) (fun (_ : Unit) => some true))

noncomputable def base_Num_p (e23463 : (Option Int)) : Option (Int) :=
  if e23463.isNone then (some 0)
  else (if e23463.isSome then (some (e23463.getD 0))
  else (some (-1)))
def base_Num_t (e23463 : (Option Int)) : Int :=
  if e23463.isNone then (0)
  else (if e23463.isSome then ((e23463.getD 0))
  else ((-1)))
theorem base_Num_tot (e23463 : (Option Int)) : base_Num_p e23463 = some (base_Num_t e23463) := by
  unfold base_Num_p base_Num_t
  (repeat' split) <;> rfl
attribute [irreducible] base_Num_t

noncomputable def base_Is_p (e23460 : (Option Int)) (code23461 : Int) : Option (Bool) :=
  some (e23460.isSome && decide ((base_Num_t e23460) = code23461))
def base_Is_t (e23460 : (Option Int)) (code23461 : Int) : Bool :=
  (e23460.isSome && decide ((base_Num_t e23460) = code23461))
theorem base_Is_tot (e23460 : (Option Int)) (code23461 : Int) : base_Is_p e23460 code23461 = some (base_Is_t e23460 code23461) := by
  unfold base_Is_p base_Is_t
  (repeat' split) <;> rfl
attribute [irreducible] base_Is_t

noncomputable def stn_Network_Times_nil_p  : Option ((List Int) × (Option Int)) :=
  some ([], some 3)
def stn_Network_Times_nil_t  : (List Int) × (Option Int) :=
  ([], some 3)
theorem stn_Network_Times_nil_tot  : stn_Network_Times_nil_p  = some (stn_Network_Times_nil_t ) := by
  unfold stn_Network_Times_nil_p stn_Network_Times_nil_t
  (repeat' split) <;> rfl
attribute [irreducible] stn_Network_Times_nil_t

noncomputable def stn_Network_Distance_nil_p (a23618 : Int) (b23619 : Int) : Option (Int × (Option Int)) :=
  some (0, some 3)
def stn_Network_Distance_nil_t (a23618 : Int) (b23619 : Int) : Int × (Option Int) :=
  (0, some 3)
theorem stn_Network_Distance_nil_tot (a23618 : Int) (b23619 : Int) : stn_Network_Distance_nil_p a23618 b23619 = some (stn_Network_Distance_nil_t a23618 b23619) := by
  unfold stn_Network_Distance_nil_p stn_Network_Distance_nil_t
  (repeat' split) <;> rfl
attribute [irreducible] stn_Network_Distance_nil_t

noncomputable def stn_Network_Latest_nil_p (p23616 : Int) : Option (Int × (Option Int)) :=
  if ((stn_Network_Distance_nil_t 0 p23616).2).isSome then (some (0, (stn_Network_Distance_nil_t 0 p23616).2))
  else (if decide (1125899906842624 ≤ ((stn_Network_Distance_nil_t 0 p23616).1)) then (some (0, some 3))
  else (some ((stn_Network_Distance_nil_t 0 p23616).1, none)))
def stn_Network_Latest_nil_t (p23616 : Int) : Int × (Option Int) :=
  if ((stn_Network_Distance_nil_t 0 p23616).2).isSome then ((0, (stn_Network_Distance_nil_t 0 p23616).2))
  else (if decide (1125899906842624 ≤ ((stn_Network_Distance_nil_t 0 p23616).1)) then ((0, some 3))
  else (((stn_Network_Distance_nil_t 0 p23616).1, none)))
theorem stn_Network_Latest_nil_tot (p23616 : Int) : stn_Network_Latest_nil_p p23616 = some (stn_Network_Latest_nil_t p23616) := by
  unfold stn_Network_Latest_nil_p stn_Network_Latest_nil_t
  (repeat' split) <;> rfl
attribute [irreducible] stn_Network_Latest_nil_t

noncomputable def stn_Network_Add_nil_p (b23687 : Bound) : Option ((Option Int)) :=
  some (some 3)
def stn_Network_Add_nil_t (b23687 : Bound) : (Option Int) :=
  (some 3)
theorem stn_Network_Add_nil_tot (b23687 : Bound) : stn_Network_Add_nil_p b23687 = some (stn_Network_Add_nil_t b23687) := by
  unfold stn_Network_Add_nil_p stn_Network_Add_nil_t
  (repeat' split) <;> rfl
attribute [irreducible] stn_Network_Add_nil_t

noncomputable def law54_awake_p  : Option (Bool) :=
  (law54_made_p 3 [(⟨1, 0, (-2)⟩ : Bound), (⟨1, 2, 3⟩ : Bound), (⟨2, 1, (-3)⟩ : Bound)]).bind <| un2 fun (pd23797 : (Option stn_Network)) (y23798 : Bool) =>
  optC pd23797 (if !y23798 then (some false)
  else ((if ((stn_Network_Times_nil_t).2).isNone then ((base_Ints_p ((stn_Network_Times_nil_t).1) [0, 2, 5]).bind <| fun (y24025 : Bool) =>
  if y24025 then (if (base_Is_t ((stn_Network_Latest_nil_t 1).2) 3) then (some (base_Is_t (stn_Network_Add_nil_t (⟨0, 2, 4⟩ : Bound)) 21))
  else (some false))
  else (some false))
  else (some false)).bind (fun (z24011 : Bool) => some z24011))) (fun d23801 => if !y23798 then (some false)
  else ((stn_Network_Times_p d23801).bind <| un2 fun (y23832 : (List Int)) (y23833 : (Option Int)) =>
  (stn_Network_Latest_p d23801 1).bind <| un2 fun (y23854 : Int) (y23855 : (Option Int)) =>
  (if y23833.isNone then ((base_Ints_p y23832 [0, 2, 5]).bind <| fun (y23912 : Bool) =>
  if y23912 then (if (base_Is_t y23855 3) then ((stn_Network_Add_p d23801 (⟨0, 2, 4⟩ : Bound)).bind <| un2 fun (y23925 : (Option Int)) (l23926 : (List (List Int))) =>
  some (base_Is_t y23925 21))
  else (some false))
  else (some false))
  else (some false)).bind (fun (z23898 : Bool) => some z23898)))

noncomputable def ref54_Right_p (n24180 : Int) (b24181 : Bound) : Option (Bool) :=
  some ((decide (0 ≤ b24181.A)) && ((decide (b24181.A < n24180)) && ((decide (0 ≤ b24181.B)) && ((decide (b24181.B < n24180)) && ((decide ((-1099511627776) ≤ b24181.Most)) && decide (b24181.Most ≤ 1099511627776))))))
def ref54_Right_t (n24180 : Int) (b24181 : Bound) : Bool :=
  ((decide (0 ≤ b24181.A)) && ((decide (b24181.A < n24180)) && ((decide (0 ≤ b24181.B)) && ((decide (b24181.B < n24180)) && ((decide ((-1099511627776) ≤ b24181.Most)) && decide (b24181.Most ≤ 1099511627776))))))
theorem ref54_Right_tot (n24180 : Int) (b24181 : Bound) : ref54_Right_p n24180 b24181 = some (ref54_Right_t n24180 b24181) := by
  unfold ref54_Right_p ref54_Right_t
  (repeat' split) <;> rfl
attribute [irreducible] ref54_Right_t

noncomputable def ref54_Distances_o_p (n24520 : Int) (bounds24521 : (List Bound)) : Option ((List (List Int)) × Bool) :=
  (must (decide (n24520 ≤ 9223372036854775807))).bind fun u85522 =>
  (forS (fun i85524 => fun (out85800 : (List (List Int))) => (mk 8 0 n24520).bind fun l86116 =>
  (app 24 out85800 [l86116]).bind fun l86124 =>
  (must (decide (n24520 ≤ 9223372036854775807))).bind fun u86134 =>
  (forS (fun i86136 => fun (l86186 : (List (List Int))) => (idx l86186 (i85524 : Int)).bind fun row86282 =>
  (idx row86282 (i86136 : Int)).bind fun x86292 =>
  (setI row86282 (i86136 : Int) 1125899906842624).bind fun l86297 =>
  (setI l86186 (i85524 : Int) l86297).bind fun l86299 =>
  some l86299) (n24520.toNat) 0 l86124).bind (fun (l86186 : (List (List Int))) => (idx l86186 (i85524 : Int)).bind fun row86346 =>
  (idx row86346 (i85524 : Int)).bind fun x86356 =>
  (setI row86346 (i85524 : Int) 0).bind fun l86361 =>
  (setI l86186 (i85524 : Int) l86361).bind fun l86363 =>
  some l86363)) (n24520.toNat) 0 []).bind (fun (out85800 : (List (List Int))) => (forS (fun i86383 => fun (l86879 : (List (List Int))) => (idx bounds24521 (i86383 : Int)).bind fun x87407 =>
  (idx l86879 x87407.A).bind fun row87670 =>
  (idx row87670 x87407.B).bind fun x87681 =>
  (setI row87670 x87407.B (min x87681 x87407.Most)).bind fun l87689 =>
  (setI l86879 x87407.A l87689).bind fun l87691 =>
  some l87691) (bounds24521.length) 0 out85800).bind (fun (l86879 : (List (List Int))) => (must (decide (n24520 ≤ 9223372036854775807))).bind fun u87903 =>
  ctl (forC (R := ((List (List Int)) × Bool)) (fun i87905 => fun (l102544 : (List (List Int))) => (must (decide (n24520 ≤ 9223372036854775807))).bind fun u131848 =>
  (forS (fun i131850 => fun (l136660 : (List (List Int))) => (must (decide (n24520 ≤ 9223372036854775807))).bind fun u141492 =>
  (forS (fun i141494 => fun (l143082 : (List (List Int))) => ((idx l143082 (i131850 : Int)).bind fun row144733 =>
  (idx row144733 (i87905 : Int)).bind fun x144743 =>
  if decide (x144743 < 1125899906842624) then ((idx l143082 (i87905 : Int)).bind fun row144751 =>
  (idx row144751 (i141494 : Int)).bind fun x144761 =>
  some (decide (x144761 < 1125899906842624)))
  else (some false)).bind (fun (z144730 : Bool) => (if z144730 then ((idx l143082 (i131850 : Int)).bind fun row145931 =>
  (idx row145931 (i141494 : Int)).bind fun x145942 =>
  (idx row145931 (i87905 : Int)).bind fun x145950 =>
  (idx l143082 (i87905 : Int)).bind fun row145955 =>
  (idx row145955 (i141494 : Int)).bind fun x145963 =>
  (setI row145931 (i141494 : Int) (min x145942 (IntKind.i64.wrap (x145950 + x145963)))).bind fun l145971 =>
  (setI l143082 (i131850 : Int) l145971).bind fun l145973 =>
  some l145973)
  else (some l143082)).bind (fun (l145524 : (List (List Int))) => some l145524))) (n24520.toNat) 0 l136660).bind (fun (l143082 : (List (List Int))) => some l143082)) (n24520.toNat) 0 l102544).bind (fun (l136660 : (List (List Int))) => (must (decide (n24520 ≤ 9223372036854775807))).bind fun u146316 =>
  ctl (forC (R := ((List (List Int)) × Bool)) (fun i146318 => fun (_ : Unit) => (idx l136660 (i146318 : Int)).bind fun row146435 =>
  (idx row146435 (i146318 : Int)).bind fun x146445 =>
  if decide (x146445 < 0) then (some (Ctl.ret ([], false)))
  else (some (Ctl.next ()))) (n24520.toNat) 0 ()) (fun r => some (Ctl.ret r)) (fun (_ : Unit) => some (Ctl.next l136660)))) (n24520.toNat) 0 l86879) (fun r => some r) (fun (l131823 : (List (List Int))) => some (l131823, true))))

noncomputable def ref54_Add_p (n24169 : Int) (bounds24170 : (List Bound)) (b24173 : Bound) : Option ((List Bound) × Int) :=
  if !(ref54_Right_t n24169 b24173) then (some (bounds24170, 1))
  else ((app 24 [] bounds24170).bind fun l146708 =>
  (app 24 l146708 [b24173]).bind fun l146716 =>
  (ref54_Distances_o_p n24169 l146716).bind <| un2 fun (y146848 : (List (List Int))) (y146849 : Bool) =>
  if !y146849 then (some (bounds24170, 21))
  else (some (l146716, 0)))

noncomputable def slices_Clone___int_int__o_p (s_147389 : (List Int)) : Option ((List Int)) :=
  (app 8 [] s_147389).bind fun l147460 =>
  some l147460

noncomputable def stn_Network_Copy_p (n147356 : stn_Network) : Option (stn_Network) :=
  (forS (fun i148840 => fun (z149284 : (List (List Int))) => (idx n147356.d (i148840 : Int)).bind fun row149769 =>
  (slices_Clone___int_int__o_p row149769).bind <| fun (y150000 : (List Int)) =>
  (app 24 z149284 [y150000]).bind fun l150012 =>
  some l150012) (n147356.d.length) 0 []).bind (fun (z149284 : (List (List Int))) => some (⟨z149284⟩ : stn_Network))

noncomputable def ref54_Distances_p (n150260 : Int) (bounds150261 : (List Bound)) : Option ((List (List Int)) × Bool) :=
  (must (decide (n150260 ≤ 9223372036854775807))).bind fun u210737 =>
  (forS (fun i210739 => fun (out211005 : (List (List Int))) => (mk 8 0 n150260).bind fun l211310 =>
  (app 24 out211005 [l211310]).bind fun l211318 =>
  (must (decide (n150260 ≤ 9223372036854775807))).bind fun u211328 =>
  (forS (fun i211330 => fun (l211378 : (List (List Int))) => (idx l211378 (i210739 : Int)).bind fun row211470 =>
  (idx row211470 (i211330 : Int)).bind fun x211480 =>
  (setI row211470 (i211330 : Int) 1125899906842624).bind fun l211485 =>
  (setI l211378 (i210739 : Int) l211485).bind fun l211487 =>
  some l211487) (n150260.toNat) 0 l211318).bind (fun (l211378 : (List (List Int))) => (idx l211378 (i210739 : Int)).bind fun row211531 =>
  (idx row211531 (i210739 : Int)).bind fun x211541 =>
  (setI row211531 (i210739 : Int) 0).bind fun l211546 =>
  (setI l211378 (i210739 : Int) l211546).bind fun l211548 =>
  some l211548)) (n150260.toNat) 0 []).bind (fun (out211005 : (List (List Int))) => (forS (fun i211566 => fun (l212062 : (List (List Int))) => (idx bounds150261 (i211566 : Int)).bind fun x212588 =>
  (idx l212062 x212588.A).bind fun row212851 =>
  (idx row212851 x212588.B).bind fun x212862 =>
  (setI row212851 x212588.B (min x212862 x212588.Most)).bind fun l212870 =>
  (setI l212062 x212588.A l212870).bind fun l212872 =>
  some l212872) (bounds150261.length) 0 out211005).bind (fun (l212062 : (List (List Int))) => (must (decide (n150260 ≤ 9223372036854775807))).bind fun u213083 =>
  ctl (forC (R := ((List (List Int)) × Bool)) (fun i213085 => fun (l227603 : (List (List Int))) => (must (decide (n150260 ≤ 9223372036854775807))).bind fun u256663 =>
  (forS (fun i256665 => fun (l261438 : (List (List Int))) => (must (decide (n150260 ≤ 9223372036854775807))).bind fun u266231 =>
  (forS (fun i266233 => fun (l267810 : (List (List Int))) => ((idx l267810 (i256665 : Int)).bind fun row269448 =>
  (idx row269448 (i213085 : Int)).bind fun x269458 =>
  if decide (x269458 < 1125899906842624) then ((idx l267810 (i213085 : Int)).bind fun row269466 =>
  (idx row269466 (i266233 : Int)).bind fun x269476 =>
  some (decide (x269476 < 1125899906842624)))
  else (some false)).bind (fun (z269445 : Bool) => (if z269445 then ((idx l267810 (i256665 : Int)).bind fun row270639 =>
  (idx row270639 (i266233 : Int)).bind fun x270650 =>
  (idx row270639 (i213085 : Int)).bind fun x270658 =>
  (idx l267810 (i213085 : Int)).bind fun row270663 =>
  (idx row270663 (i266233 : Int)).bind fun x270671 =>
  (setI row270639 (i266233 : Int) (min x270650 (IntKind.i64.wrap (x270658 + x270671)))).bind fun l270679 =>
  (setI l267810 (i256665 : Int) l270679).bind fun l270681 =>
  some l270681)
  else (some l267810)).bind (fun (l270233 : (List (List Int))) => some l270233))) (n150260.toNat) 0 l261438).bind (fun (l267810 : (List (List Int))) => some l267810)) (n150260.toNat) 0 l227603).bind (fun (l261438 : (List (List Int))) => (must (decide (n150260 ≤ 9223372036854775807))).bind fun u271016 =>
  ctl (forC (R := ((List (List Int)) × Bool)) (fun i271018 => fun (_ : Unit) => (idx l261438 (i271018 : Int)).bind fun row271133 =>
  (idx row271133 (i271018 : Int)).bind fun x271143 =>
  if decide (x271143 < 0) then (some (Ctl.ret ([], false)))
  else (some (Ctl.next ()))) (n150260.toNat) 0 ()) (fun r => some (Ctl.ret r)) (fun (_ : Unit) => some (Ctl.next l261438)))) (n150260.toNat) 0 l212062) (fun r => some r) (fun (l256640 : (List (List Int))) => some (l256640, true))))

noncomputable def base_Ints_o_p (a274370 : (List Int)) (b274373 : (List Int)) : Option (Bool) :=
  if !decide ((a274370.length : Int) = (b274373.length : Int)) then (some false)
  else (ctl (forC (R := (Bool)) (fun i275131 => fun (_ : Unit) => (idx a274370 (i275131 : Int)).bind fun x275746 =>
  (idx b274373 (i275131 : Int)).bind fun x275748 =>
  if !decide (x275746 = x275748) then (some (Ctl.ret false))
  else (some (Ctl.next ()))) (a274370.length) 0 ()) (fun r => some r) (fun (_ : Unit) => some true))

noncomputable def law54_is_p (x150252 : stn_Network) (n150256 : Int) (bounds150257 : (List Bound)) : Option (Bool) :=
  (ref54_Distances_p n150256 bounds150257).bind <| un2 fun (y275935 : (List (List Int))) (y275936 : Bool) =>
  if !y275936 then (some false)
  else ((must (decide (n150256 ≤ 9223372036854775807))).bind fun u275948 =>
  ctl (forC (R := (Bool)) (fun i275950 => un2 fun (first276696 : (List Int)) (all276698 : Bool) => (must (decide (n150256 ≤ 9223372036854775807))).bind fun u278237 =>
  ctl (forC (R := (Bool)) (fun i278239 => fun (_ : Unit) => (stn_Network_Distance_p x150252 (i275950 : Int) (i278239 : Int)).bind <| un2 fun (y278448 : Int) (y278449 : (Option Int)) =>
  (if y278449.isSome then (some true)
  else ((idx y275935 (i275950 : Int)).bind fun x278480 =>
  (idx x278480 (i278239 : Int)).bind fun x278488 =>
  some (!decide (y278448 = x278488)))).bind (fun (z278472 : Bool) => if z278472 then (some (Ctl.ret false))
  else (some (Ctl.next ())))) (n150256.toNat) 0 ()) (fun r => some (Ctl.ret r)) (fun (_ : Unit) => (stn_Network_Earliest_p x150252 (i275950 : Int)).bind <| un2 fun (y278579 : Int) (y278580 : (Option Int)) =>
  (idx y275935 (i275950 : Int)).bind fun x278602 =>
  (idx x278602 0).bind fun x278610 =>
  if decide (x278610 = 1125899906842624) then (if ((!decide (y278579 = 0)) || !(base_Is_t y278580 3)) then (some (Ctl.ret false))
  else ((app 8 first276696 [y278579]).bind fun l278670 =>
  (stn_Network_Latest_p x150252 (i275950 : Int)).bind <| un2 fun (y278688 : Int) (y278689 : (Option Int)) =>
  (idx y275935 0).bind fun x278711 =>
  (idx x278711 (i275950 : Int)).bind fun x278719 =>
  if decide (x278719 = 1125899906842624) then (if ((!decide (y278688 = 0)) || !(base_Is_t y278689 3)) then (some (Ctl.ret false))
  else (some (Ctl.next (l278670, false))))
  else (if (y278689.isSome || !decide (y278688 = x278719)) then (some (Ctl.ret false))
  else (some (Ctl.next (l278670, false))))))
  else (if (y278580.isSome || !decide (y278579 = (IntKind.i64.wrap (0 - x278610)))) then (some (Ctl.ret false))
  else ((app 8 first276696 [y278579]).bind fun l278891 =>
  (stn_Network_Latest_p x150252 (i275950 : Int)).bind <| un2 fun (y278909 : Int) (y278910 : (Option Int)) =>
  (idx y275935 0).bind fun x278932 =>
  (idx x278932 (i275950 : Int)).bind fun x278940 =>
  if decide (x278940 = 1125899906842624) then (if ((!decide (y278909 = 0)) || !(base_Is_t y278910 3)) then (some (Ctl.ret false))
  else (some (Ctl.next (l278891, all276698))))
  else (if (y278910.isSome || !decide (y278909 = x278940)) then (some (Ctl.ret false))
  else (some (Ctl.next (l278891, all276698)))))))) (n150256.toNat) 0 ([], true)) (fun r => some r) (un2 fun (first278205 : (List Int)) (all278206 : Bool) => (stn_Network_Times_p x150252).bind <| un2 fun (y279092 : (List Int)) (y279093 : (Option Int)) =>
  if !all278206 then (some ((decide ((y279092.length : Int) = 0)) && (base_Is_t y279093 3)))
  else ((if y279093.isNone then ((base_Ints_o_p y279092 first278205).bind <| fun (y279146 : Bool) =>
  some y279146)
  else (some false)).bind (fun (z279140 : Bool) => some z279140))))

noncomputable def stn_Network_Copy_nil_p  : Option (Unit) :=
  some ()
def stn_Network_Copy_nil_t  : Unit :=
  ()
theorem stn_Network_Copy_nil_tot  : stn_Network_Copy_nil_p  = some (stn_Network_Copy_nil_t ) := by
  unfold stn_Network_Copy_nil_p stn_Network_Copy_nil_t
  (repeat' split) <;> rfl
attribute [irreducible] stn_Network_Copy_nil_t

noncomputable def law54_StnCopies_p (n1 : Int) (bounds2 : (List Bound)) (more5 : (List Bound)) : Option (Bool) :=
  ((law54_awake_p).bind <| fun (y280651 : Bool) =>
  if !y280651 then (some true)
  else (if decide (20 < (bounds2.length : Int)) then (some true)
  else (some (decide (20 < (more5.length : Int)))))).bind (fun (z280646 : Bool) => if z280646 then ((law54_awake_p).bind <| fun (y280681 : Bool) =>
  some y280681)
  else ((stn_New_p (IntKind.i64.wrap (1 + ((IntKind.i64.wrap n1).tmod 8)))).bind <| un2 fun (pd280708 : (Option stn_Network)) (y280709 : (Option Int)) =>
  optC pd280708 (if y280709.isSome then (some false)
  else (ctl (forC (R := (Bool)) (fun i281950 => fun (l282043 : (List Bound)) => (idx bounds2 (i281950 : Int)).bind fun x282272 =>
  (ref54_Add_p (IntKind.i64.wrap (1 + ((IntKind.i64.wrap n1).tmod 8))) l282043 x282272).bind <| un2 fun (y282296 : (List Bound)) (y282297 : Int) =>
  if (((stn_Network_Add_nil_t x282272).isSome) && ((!(base_Is_t (stn_Network_Add_nil_t x282272) 1)) && !(base_Is_t (stn_Network_Add_nil_t x282272) 21))) then (some (Ctl.ret false))
  else (some (Ctl.next y282296))) (bounds2.length) 0 []) (fun r => some r) (fun (l282233 : (List Bound)) => some false))) (fun d280712 => if y280709.isSome then (some false)
  else (ctl (forC (R := (Bool)) (fun i280729 => un2 fun (l280840 : (List Bound)) (l280842 : (List (List Int))) => (idx bounds2 (i280729 : Int)).bind fun x281112 =>
  (ref54_Add_p (IntKind.i64.wrap (1 + ((IntKind.i64.wrap n1).tmod 8))) l280840 x281112).bind <| un2 fun (y281136 : (List Bound)) (y281137 : Int) =>
  (stn_Network_Add_p (⟨l280842⟩ : stn_Network) x281112).bind <| un2 fun (y281156 : (Option Int)) (l281157 : (List (List Int))) =>
  if (y281156.isSome && ((!(base_Is_t y281156 1)) && !(base_Is_t y281156 21))) then (some (Ctl.ret false))
  else (some (Ctl.next (y281136, l281157)))) (bounds2.length) 0 ([], d280712.d)) (fun r => some r) (un2 fun (l281069 : (List Bound)) (l281070 : (List (List Int))) => (stn_Network_Copy_p (⟨l281070⟩ : stn_Network)).bind <| fun (d281262 : stn_Network) =>
  (law54_is_p d281262 (IntKind.i64.wrap (1 + ((IntKind.i64.wrap n1).tmod 8))) l281069).bind <| fun (y281283 : Bool) =>
  if !y281283 then (some false)
  else ((app 24 [] l281069).bind fun l281310 =>
  ctl (forC (R := (Bool)) (fun i281315 => un2 fun (k281443 : (List Bound)) (l281445 : (List (List Int))) => (idx more5 (i281315 : Int)).bind fun x281736 =>
  (ref54_Add_p (IntKind.i64.wrap (1 + ((IntKind.i64.wrap n1).tmod 8))) k281443 x281736).bind <| un2 fun (y281760 : (List Bound)) (y281761 : Int) =>
  (stn_Network_Add_p (⟨l281445⟩ : stn_Network) x281736).bind <| un2 fun (y281780 : (Option Int)) (l281781 : (List (List Int))) =>
  if (y281780.isSome && ((!(base_Is_t y281780 1)) && !(base_Is_t y281780 21))) then (some (Ctl.ret false))
  else (some (Ctl.next (y281760, l281781)))) (more5.length) 0 (l281310, d281262.d)) (fun r => some r) (un2 fun (k281686 : (List Bound)) (l281687 : (List (List Int))) => ((law54_is_p (⟨l281070⟩ : stn_Network) (IntKind.i64.wrap (1 + ((IntKind.i64.wrap n1).tmod 8))) l281069).bind <| fun (y281911 : Bool) =>
  if y281911 then ((law54_is_p (⟨l281687⟩ : stn_Network) (IntKind.i64.wrap (1 + ((IntKind.i64.wrap n1).tmod 8))) k281686).bind <| fun (y281921 : Bool) =>
  some y281921)
  else (some false)).bind (fun (z281906 : Bool) => some z281906))))))))

end Go.Pw
