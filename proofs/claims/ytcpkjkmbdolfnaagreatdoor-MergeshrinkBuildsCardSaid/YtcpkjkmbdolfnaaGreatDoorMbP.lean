/- -/
import Derived.Test.YtcpkjkmbdolfnaaGreatDoorLB
import Derived.Test.YtcpkjkmbdolfnaaGreatDoorLC
import Derived.Test.YtcpkjkmbdolfnaaGreatDoorLE
set_option maxRecDepth 100000
set_option maxHeartbeats 4000000
set_option linter.unusedVariables false
namespace Go.Pw
structure Fact where
 Var : Int
 Val : Int
def encFact : Enc Fact := Enc.iso ((U .i64).pair (U .i64)) (fun b => (b.Var, b.Val))
theorem KH {s : PHeap} {v : Value} {b : Fact} : encFact.val s v b ↔ v = .agg #[.int .i64 (b.Var), .int .i64 (b.Val)] := by
 simp only [Enc.iso, Enc.pair, Enc.val, encFact, U, if_true, KU]
 constructor
 ·rintro ⟨cs, rfl, h⟩
  obtain ⟨cs⟩ := cs
  simp only [] at h
  obtain ⟨_, _, rfl, rfl, rfl⟩ := h
  rfl
 ·rintro rfl
  exact ⟨_, Z, ⟨[.int .i64 (b.Var)], [.int .i64 (b.Val)], Z, Z, Z⟩⟩
structure Effect where
 When : (List Fact)
 Var : Int
 Val : Int
def encEffect : Enc Effect := Enc.iso ((Qu encFact).pair ((U .i64).pair (U .i64))) (fun b => (b.When, b.Var, b.Val))
theorem Yv {s : PHeap} {v : Value} {b : Effect} : encEffect.val s v b ↔ ∃ u1, v = .agg #[u1, .int .i64 (b.Var), .int .i64 (b.Val)] ∧ SliceRep encFact s u1 (b.When) := by
 simp only [Enc.iso, Enc.pair, Enc.val, encEffect, U, Qu, if_true, KU]
 constructor
 ·rintro ⟨cs, rfl, h⟩
  obtain ⟨cs⟩ := cs
  simp only [] at h
  obtain ⟨_, _, rfl, ⟨w1, rfl, h1⟩, ⟨_, _, rfl, rfl, rfl⟩⟩ := h
  exact ⟨w1, Z, h1⟩
 ·rintro ⟨w1, rfl, h1⟩
  exact ⟨_, Z, ⟨[w1], [.int .i64 (b.Var), .int .i64 (b.Val)], Z, ⟨w1, Z, h1⟩, ⟨[.int .i64 (b.Var)], [.int .i64 (b.Val)], Z, Z, Z⟩⟩⟩
structure Op where
 Name : ByteArray
 Cost : Int
 Pre : (List Fact)
 Effs : (List Effect)
def encOp : Enc Op := Enc.iso (encStr.pair ((U .i64).pair ((Qu encFact).pair (Qu encEffect)))) (fun b => (b.Name, b.Cost, b.Pre, b.Effs))
theorem Ys {s : PHeap} {v : Value} {b : Op} : encOp.val s v b ↔ ∃ u1, ∃ u2, v = .agg #[.string (b.Name), .int .i64 (b.Cost), u1, u2] ∧ SliceRep encFact s u1 (b.Pre) ∧ SliceRep encEffect s u2 (b.Effs) := by
 simp only [Enc.iso, Enc.pair, Enc.val, U, encOp, Qu, encStr, if_true, KU]
 constructor
 ·rintro ⟨cs, rfl, h⟩
  obtain ⟨cs⟩ := cs
  simp only [] at h
  obtain ⟨_, _, rfl, rfl, ⟨_, _, rfl, rfl, ⟨_, _, rfl, ⟨w1, rfl, h1⟩, ⟨w2, rfl, h2⟩⟩⟩⟩ := h
  exact ⟨w1, w2, Z, h1, h2⟩
 ·rintro ⟨w1, w2, rfl, h1, h2⟩
  exact ⟨_, Z, ⟨[.string (b.Name)], [.int .i64 (b.Cost), w1, w2], Z, Z, ⟨[.int .i64 (b.Cost)], [w1, w2], Z, Z, ⟨[w1], [w2], Z, ⟨w1, Z, h1⟩, ⟨w2, Z, h2⟩⟩⟩⟩⟩
structure Task where
 Vars : (List Int)
 Init : (List Int)
 Goal : (List Fact)
 Ops : (List Op)
def encTask : Enc Task := Enc.iso ((Qu (U .i64)).pair ((Qu (U .i64)).pair ((Qu encFact).pair (Qu encOp)))) (fun b => (b.Vars, b.Init, b.Goal, b.Ops))
theorem Qjx {s : PHeap} {v : Value} {b : Task} : encTask.val s v b ↔ ∃ u1, ∃ u2, ∃ u3, ∃ u4, v = .agg #[u1, u2, u3, u4] ∧ SliceRep (U .i64) s u1 (b.Vars) ∧ SliceRep (U .i64) s u2 (b.Init) ∧ SliceRep encFact s u3 (b.Goal) ∧ SliceRep encOp s u4 (b.Ops) := by
 simp only [Enc.iso, Enc.pair, Enc.val, Qu, encTask, if_true]
 constructor
 ·rintro ⟨cs, rfl, h⟩
  obtain ⟨cs⟩ := cs
  simp only [] at h
  obtain ⟨_, _, rfl, ⟨w1, rfl, h1⟩, ⟨_, _, rfl, ⟨w2, rfl, h2⟩, ⟨_, _, rfl, ⟨w3, rfl, h3⟩, ⟨w4, rfl, h4⟩⟩⟩⟩ := h
  exact ⟨w1, w2, w3, w4, Z, h1, h2, h3, h4⟩
 ·rintro ⟨w1, w2, w3, w4, rfl, h1, h2, h3, h4⟩
  exact ⟨_, Z, ⟨[w1], [w2, w3, w4], Z, ⟨w1, Z, h1⟩, ⟨[w2], [w3, w4], Z, ⟨w2, Z, h2⟩, ⟨[w3], [w4], Z, ⟨w3, Z, h3⟩, ⟨w4, Z, h4⟩⟩⟩⟩⟩
noncomputable def Yn  : Option (Task) :=
 some (⟨[2, 3], [0, 0], [(⟨1, 1⟩ : Fact)], [(⟨⟨#[]⟩, 1, [(⟨0, 0⟩ : Fact)], [(⟨[], 0, 1⟩ : Effect)]⟩ : Op), (⟨⟨#[]⟩, 1, [(⟨0, 1⟩ : Fact)], [(⟨[], 0, 0⟩ : Effect)]⟩ : Op), (⟨⟨#[]⟩, 1, [(⟨0, 0⟩ : Fact), (⟨1, 0⟩ : Fact)], [(⟨[], 1, 2⟩ : Effect)]⟩ : Op), (⟨⟨#[]⟩, 1, [(⟨0, 1⟩ : Fact), (⟨1, 2⟩ : Fact)], [(⟨[], 1, 1⟩ : Effect)]⟩ : Op)]⟩ : Task)
def Kn  : Task :=
 (⟨[2, 3], [0, 0], [(⟨1, 1⟩ : Fact)], [(⟨⟨#[]⟩, 1, [(⟨0, 0⟩ : Fact)], [(⟨[], 0, 1⟩ : Effect)]⟩ : Op), (⟨⟨#[]⟩, 1, [(⟨0, 1⟩ : Fact)], [(⟨[], 0, 0⟩ : Effect)]⟩ : Op), (⟨⟨#[]⟩, 1, [(⟨0, 0⟩ : Fact), (⟨1, 0⟩ : Fact)], [(⟨[], 1, 2⟩ : Effect)]⟩ : Op), (⟨⟨#[]⟩, 1, [(⟨0, 1⟩ : Fact), (⟨1, 2⟩ : Fact)], [(⟨[], 1, 1⟩ : Effect)]⟩ : Op)]⟩ : Task)
theorem Yz  : Yn  = some (Kn ) := by
 unfold Yn Kn
 (repeat' split) <;> rfl
attribute [irreducible] Kn
noncomputable def Kl (c : Task) : Option ((List (List Fact))) :=
 (forS (fun e => fun (b : (List (List Fact))) => (Qz c.Ops (e : Int)).bind fun d =>
 (app 24 b [d.Pre]).bind fun g =>
 (forS (fun f => fun (a : (List (List Fact))) => (Qz d.Effs (f : Int)).bind fun i =>
 (app 24 a [i.When]).bind fun h =>
 some h) (d.Effs.length) 0 g).bind (fun (a : (List (List Fact))) => some a)) (c.Ops.length) 0 [c.Goal]).bind (fun (b : (List (List Fact))) => some b)
noncomputable def Yj (a : (List Fact)) : Option (Bool) :=
 some (decide (64 < (a.length : Int)))
def Yi (a : (List Fact)) : Bool :=
 (decide (64 < (a.length : Int)))
theorem Qch (a : (List Fact)) : Yj a = some (Yi a) := by
 unfold Yj Yi
 (repeat' split) <;> rfl
attribute [irreducible] Yi
noncomputable def K9 (b : (List (List Fact))) : Option (Int) :=
 ctl (Js (R := (Int)) (fun a => fun (_ : Unit) => (Qz b (a : Int)).bind fun c =>
 if (Yi c) then (some (Ctl.ret (a : Int)))
 else (some (Ctl.next ()))) (b.length) 0 ()) (fun r => some r) (fun (_ : Unit) => some (-1))
noncomputable def Yq (a : (List (List Fact))) : Option (Bool) :=
 (K9 a).bind <| fun (b : Int) =>
 some (decide (0 ≤ b))
noncomputable def Qa4 (a : Task) : Option (Bool) :=
 if ((decide (64 < (a.Vars.length : Int))) || decide (4096 < (a.Ops.length : Int))) then (some true)
 else (ctl (Js (R := (Bool)) (fun b => fun (_ : Unit) => (Qz a.Ops (b : Int)).bind fun c =>
 if decide (64 < (c.Effs.length : Int)) then (some (Ctl.ret true))
 else (some (Ctl.next ()))) (a.Ops.length) 0 ()) (fun r => some r) (fun (_ : Unit) => (Kl a).bind <| fun (d : (List (List Fact))) =>
 (Yq d).bind <| fun (e : Bool) =>
 some e))
noncomputable def YY (c : (List Int)) (a : (List Int)) : Option (Bool) :=
 if !decide ((a.length : Int) = (c.length : Int)) then (some false)
 else (ctl (Js (R := (Bool)) (fun b => fun (_ : Unit) => (Qz a (b : Int)).bind fun d =>
 (if decide (d < 0) then (some true)
 else ((Qz c (b : Int)).bind fun e =>
 some (decide (e ≤ d)))).bind (fun (f : Bool) => if f then (some (Ctl.ret false))
 else (some (Ctl.next ())))) (a.length) 0 ()) (fun r => some r) (fun (_ : Unit) => some true))
noncomputable def YH (c : (List Int)) (b : (List Fact)) : Option (Bool) :=
 ctl (Js (R := (Bool)) (fun d => fun (e : Int) => (Qz b (d : Int)).bind fun a =>
 (if decide (a.Var ≤ e) then (some true)
 else (if decide ((c.length : Int) ≤ a.Var) then (some true)
 else (if decide (a.Val < 0) then (some true)
 else ((Qz c a.Var).bind fun f =>
 some (decide (f ≤ a.Val)))))).bind (fun (g : Bool) => if g then (some (Ctl.ret false))
 else (some (Ctl.next a.Var)))) (b.length) 0 (-1)) (fun r => some r) (fun (h : Int) => some true)
noncomputable def Qa3 (a : ByteArray) : Option (Bool) :=
 (must (decide ((a.size : Int) ≤ 9223372036854775807))).bind fun e =>
 ctl (Js (R := (Bool)) (fun c => fun (_ : Unit) => ((Qz (bytesOf a) (c : Int)).bind fun b =>
 if decide (b < 32) then (some true)
 else (some (decide (126 < b)))).bind (fun (d : Bool) => if d then (some (Ctl.ret false))
 else (some (Ctl.next ())))) ((a.size : Int).toNat) 0 ()) (fun r => some r) (fun (_ : Unit) => some (decide ((a.size : Int) ≤ 256)))
noncomputable def YI (a : Task) : Option ((Option Int)) :=
 (Qa4 a).bind <| fun (o : Bool) =>
 if o then (some (some 5))
 else (ctl (Js (R := ((Option Int))) (fun g => fun (_ : Unit) => (Qz a.Vars (g : Int)).bind fun b =>
 if ((decide (b < 1)) || decide (64 < b)) then (some (Ctl.ret (some 1)))
 else (some (Ctl.next ()))) (a.Vars.length) 0 ()) (fun r => some r) (fun (_ : Unit) => ctl (Js (R := ((Option Int))) (fun h => fun (_ : Unit) => (Qz a.Ops (h : Int)).bind fun c =>
 if ((decide (c.Cost < 0)) || decide (1048576 < c.Cost)) then (some (Ctl.ret (some 1)))
 else (some (Ctl.next ()))) (a.Ops.length) 0 ()) (fun r => some r) (fun (_ : Unit) => (YY a.Vars a.Init).bind <| fun (p : Bool) =>
 if !p then (some (some 2))
 else ((Kl a).bind <| fun (f : (List (List Fact))) =>
 ctl (Js (R := ((Option Int))) (fun i => fun (_ : Unit) => (Qz f (i : Int)).bind fun m =>
 (YH a.Vars m).bind <| fun (q : Bool) =>
 if !q then (some (Ctl.ret (some 2)))
 else (some (Ctl.next ()))) (f.length) 0 ()) (fun r => some r) (fun (_ : Unit) => ctl (Js (R := ((Option Int))) (fun j => fun (_ : Unit) => (Qz a.Ops (j : Int)).bind fun d =>
 ctl (Js (R := ((Option Int))) (fun k => fun (_ : Unit) => (Qz d.Effs (k : Int)).bind fun e =>
 (YH a.Vars [(⟨e.Var, e.Val⟩ : Fact)]).bind <| fun (s : Bool) =>
 if !s then (some (Ctl.ret (some 2)))
 else (some (Ctl.next ()))) (d.Effs.length) 0 ()) (fun r => some (Ctl.ret r)) (fun (_ : Unit) => some (Ctl.next ()))) (a.Ops.length) 0 ()) (fun r => some r) (fun (_ : Unit) => ctl (Js (R := ((Option Int))) (fun l => fun (_ : Unit) => (Qz a.Ops (l : Int)).bind fun n =>
 (Qa3 n.Name).bind <| fun (t : Bool) =>
 if !t then (some (Ctl.ret (some 8)))
 else (some (Ctl.next ()))) (a.Ops.length) 0 ()) (fun r => some r) (fun (_ : Unit) => some none)))))))
def QcH (xs : List Int) : Option (List Int) := if xs.length * 8 ≤ 140737488351232 then some xs else none
noncomputable def Y5 (xs : List Int) : Option (List Int) := if xs.length < 4611686018427387904 then some (xs.mergeSort fun x y => decide (x ≤ y)) else none
noncomputable def JC (a : (List Int)) : Option ((List Int)) :=
 (QcH a).bind fun b =>
 (Y5 b).bind <| fun (c : (List Int)) =>
 some c
noncomputable def JI (e : Int) : Option ((List Int)) :=
 (mk 8 0 e).bind fun c =>
 (forS (fun b => fun (a : (List Int)) => (Qz a (b : Int)).bind fun f =>
 (JG a (b : Int) (b : Int)).bind fun d =>
 some d) (c.length) 0 c).bind (fun (a : (List Int)) => some a)
noncomputable def QZ (a : (List Int)) (c : (List Int)) : Option (Bool) :=
 if !decide ((a.length : Int) = (c.length : Int)) then (some false)
 else (ctl (Js (R := (Bool)) (fun b => fun (_ : Unit) => (Qz a (b : Int)).bind fun d =>
 (Qz c (b : Int)).bind fun e =>
 if !decide (d = e) then (some (Ctl.ret false))
 else (some (Ctl.next ()))) (a.length) 0 ()) (fun r => some r) (fun (_ : Unit) => some true))
noncomputable def Qx (b : (List Int)) : Option ((List Int)) :=
 (app 8 [] b).bind fun a =>
 some a
structure mergeshrink_stage where
 variable_ : Int
 class_ : (List Int)
 after : (List Int)
 states : Int
def encmergeshrink_stage : Enc mergeshrink_stage := Enc.iso ((U .i64).pair ((Qu (U .i64)).pair ((Qu (U .i64)).pair (U .i64)))) (fun b => (b.variable_, b.class_, b.after, b.states))
theorem Qcn {s : PHeap} {v : Value} {b : mergeshrink_stage} : encmergeshrink_stage.val s v b ↔ ∃ u1, ∃ u2, v = .agg #[.int .i64 (b.variable_), u1, u2, .int .i64 (b.states)] ∧ SliceRep (U .i64) s u1 (b.class_) ∧ SliceRep (U .i64) s u2 (b.after) := by
 simp only [Enc.iso, Enc.pair, Enc.val, U, Qu, encmergeshrink_stage, if_true, KU]
 constructor
 ·rintro ⟨cs, rfl, h⟩
  obtain ⟨cs⟩ := cs
  simp only [] at h
  obtain ⟨_, _, rfl, rfl, ⟨_, _, rfl, ⟨w1, rfl, h1⟩, ⟨_, _, rfl, ⟨w2, rfl, h2⟩, rfl⟩⟩⟩ := h
  exact ⟨w1, w2, Z, h1, h2⟩
 ·rintro ⟨w1, w2, rfl, h1, h2⟩
  exact ⟨_, Z, ⟨[.int .i64 (b.variable_)], [w1, w2, .int .i64 (b.states)], Z, Z, ⟨[w1], [w2, .int .i64 (b.states)], Z, ⟨w1, Z, h1⟩, ⟨[w2], [.int .i64 (b.states)], Z, ⟨w2, Z, h2⟩, Z⟩⟩⟩⟩
structure mergeshrink_Abstraction where
 vars : (List Int)
 stages : (List mergeshrink_stage)
 distance : (List Int)
 exact : Bool
noncomputable def Ym (d : Task) (b : (List Int)) : Option ((Option Int)) :=
 (YI d).bind <| fun (e : (Option Int)) =>
 if e.isSome then (some e)
 else (ctl (Js (R := ((Option Int))) (fun a => fun (_ : Unit) => (Qz b (a : Int)).bind fun c =>
 (if decide (c < 0) then (some true)
 else (if decide ((d.Vars.length : Int) ≤ c) then (some true)
 else (if decide (0 < (a : Int)) then ((Qz b (IntKind.i64.wrap ((a : Int) - 1))).bind fun f =>
 some (decide (c ≤ f)))
 else (some false)))).bind (fun (g : Bool) => if g then (some (Ctl.ret (some 2)))
 else (some (Ctl.next ())))) (b.length) 0 ()) (fun r => some r) (fun (_ : Unit) => some none))
noncomputable def Km (f : Task) (b : (List Int)) : Option (Int × Bool) :=
 ctl (Js (R := (Int × Bool)) (fun d => fun (a : Int) => (Qz b (d : Int)).bind fun g =>
 (Qz f.Vars g).bind fun c =>
 if decide (4096 < (IntKind.i64.wrap (a * c))) then (some (Ctl.ret (0, false)))
 else (some (Ctl.next (IntKind.i64.wrap (a * c))))) (b.length) 0 1) (fun r => some r) (fun (e : Int) => some (e, true))
noncomputable def Ka (f : Task) (b : (List Int)) (e : (List Int)) : Option (Int) :=
 (forS (fun d => fun (a : Int) => (Qz b (d : Int)).bind fun c =>
 (Qz f.Vars c).bind fun g =>
 (Qz e c).bind fun h =>
 some (IntKind.i64.wrap ((IntKind.i64.wrap (a * g)) + h))) (b.length) 0 0).bind (fun (a : Int) => some a)
noncomputable def J5 (b : (List Int)) (c : Int) : Option (Int) :=
 ctl (Js (R := (Int)) (fun a => fun (_ : Unit) => (Qz b (a : Int)).bind fun d =>
 if decide (c = d) then (some (Ctl.ret (a : Int)))
 else (some (Ctl.next ()))) (b.length) 0 ()) (fun r => some r) (fun (_ : Unit) => some (-1))
noncomputable def Q9 (a : (List Int)) (b : Int) : Option (Bool) :=
 (J5 a b).bind <| fun (c : Int) =>
 some (decide (0 ≤ c))
noncomputable def Ya (b : Fact) (a : Int) : Option (Bool) :=
 some (decide (b.Var = a))
def KZ (b : Fact) (a : Int) : Bool :=
 (decide (b.Var = a))
theorem QbR (b : Fact) (a : Int) : Ya b a = some (KZ b a) := by
 unfold Ya KZ
 (repeat' split) <;> rfl
attribute [irreducible] KZ
noncomputable def Ki (b : (List Fact)) (c : Int) : Option (Int) :=
 ctl (Js (R := (Int)) (fun a => fun (_ : Unit) => (Qz b (a : Int)).bind fun d =>
 if (KZ d c) then (some (Ctl.ret (a : Int)))
 else (some (Ctl.next ()))) (b.length) 0 ()) (fun r => some r) (fun (_ : Unit) => some (-1))
noncomputable def YN (b : (List Fact)) (a : Int) : Option (Bool) :=
 (Ki b a).bind <| fun (c : Int) =>
 some (decide (0 ≤ c))
noncomputable def Qab (a : (List Fact)) (b : Int) : Option (Bool) :=
 (YN a b).bind <| fun (c : Bool) =>
 some c
noncomputable def Ks (b : (List Int)) (c : Int) : Option (Int) :=
 ctl (Js (R := (Int)) (fun a => fun (_ : Unit) => (Qz b (a : Int)).bind fun d =>
 if decide (c = d) then (some (Ctl.ret (a : Int)))
 else (some (Ctl.next ()))) (b.length) 0 ()) (fun r => some r) (fun (_ : Unit) => some (-1))
noncomputable def J4 (a : (List Int)) (b : Int) : Option (Bool) :=
 (Ks a b).bind <| fun (c : Int) =>
 some (decide (0 ≤ c))
noncomputable def KN (d : Op) (f : (List Int)) : Option ((List Int)) :=
 (forS (fun g => fun (b : (List Int)) => (Qz d.Effs (g : Int)).bind fun e =>
 (Q9 f e.Var).bind <| fun (l : Bool) =>
 if !l then (some b)
 else ((forS (fun h => fun (a : (List Int)) => (Qz e.When (h : Int)).bind fun c =>
 ((Q9 f c.Var).bind <| fun (m : Bool) =>
 if !m then ((Qab d.Pre c.Var).bind <| fun (n : Bool) =>
 if !n then ((J4 a c.Var).bind <| fun (o : Bool) =>
 some (!o))
 else (some false))
 else (some false)).bind (fun (p : Bool) => (if p then ((app 8 a [c.Var]).bind fun i =>
 some i)
 else (some a)).bind (fun (j : (List Int)) => some j))) (e.When.length) 0 b).bind (fun (a : (List Int)) => some a))) (d.Effs.length) 0 []).bind (fun (b : (List Int)) => (Y5 b).bind <| fun (k : (List Int)) =>
 some k)
noncomputable def QdM (t : Task) (vars s : List Int) (n : Int) : Option (List Int) := (must (decide (vars.length ≤ 17592186044415))).bind fun _ => (forS (fun i => QM fun (s : List Int) (n : Int) => (Qz vars ((vars.length - 1 - i : Nat) : Int)).bind fun v => (Qz t.Vars v).bind fun d => (must (!decide (d = 0))).bind fun _ => (JG s v (n.tmod d)).bind fun s' => some (s', IntKind.i64.wrap (n.tdiv d))) vars.length 0 (s, n)).bind (QM fun (s : List Int) (_ : Int) => some s)
noncomputable def Jw (b : (List Int)) : Option ((List Int)) :=
 (app 8 [] b).bind fun a =>
 some a
noncomputable def QaA (b : (List Fact)) (c : (List Int)) : Option (Bool) :=
 ctl (Js (R := (Bool)) (fun d => fun (_ : Unit) => (Qz b (d : Int)).bind fun a =>
 (if decide (a.Var < 0) then (some true)
 else (if decide ((c.length : Int) ≤ a.Var) then (some true)
 else ((Qz c a.Var).bind fun e =>
 some (!decide (e = a.Val))))).bind (fun (f : Bool) => if f then (some (Ctl.ret false))
 else (some (Ctl.next ())))) (b.length) 0 ()) (fun r => some r) (fun (_ : Unit) => some true)
noncomputable def Jn (a : (List Int)) : Option (Nat × (List Int)) :=
 if decide ((a.length : Int) < 2) then (some ((a).length, a))
 else (ctl (J8 (R := (Nat × (List Int))) (fun (b : Int) => if decide (b < (a.length : Int)) then ((Qz a b).bind fun n =>
 (Qz a (IntKind.i64.wrap (b - 1))).bind fun o =>
 if decide (n = o) then ((QaJ a b (a.length : Int)).bind fun h =>
 ctl (J8 (R := (Nat × (List Int))) (un3 fun (g : Int) (d : Int) (c : (List Int)) => if decide (d < (h : Int)) then ((Qck c b h d).bind fun p =>
 (Qck c b h (IntKind.i64.wrap (d - 1))).bind fun q =>
 (if !decide (p = q) then ((Qck c b h d).bind fun s =>
 (Qz c g).bind fun v =>
 (JG c g s).bind fun k =>
 some (IntKind.i64.wrap (g + 1), k))
 else (some (g, c))).bind (QM fun (j : Int) (l : (List Int)) => some (Ctl.next (j, IntKind.i64.wrap (d + 1), l))))
 else (some (Ctl.brk (g, d, c)))) (b, 1, a)) (fun r => some (Ctl.ret r)) (un3 fun (e : Int) (t : Int) (f : (List Int)) => (QaJ f e (f.length : Int)).bind fun i =>
 (QaJ ((f).take (e).toNat ++ List.replicate i 0 ++ (f).drop ((e).toNat + i)) 0 e).bind fun m =>
 some (Ctl.ret (m, (f).take (e).toNat ++ List.replicate i 0 ++ (f).drop ((e).toNat + i)))))
 else (some (Ctl.next (IntKind.i64.wrap (b + 1)))))
 else (some (Ctl.brk b))) 1) (fun r => some r) (fun (u : Int) => some ((a).length, a)))
noncomputable def KM (a : Task) (ab : Int) (f : (List Int)) (j : (List Int)) (o : Int) : Option ((List Int)) :=
 (Qz a.Ops ab).bind fun g =>
 (mk 8 0 (a.Vars.length : Int)).bind fun t =>
 (QdM a f t o).bind <| fun (u : (List Int)) =>
 ctl (Js (R := ((List Int))) (fun p => fun (e : (List Int)) => (Qz g.Pre (p : Int)).bind fun b =>
 (Q9 f b.Var).bind <| fun (ad : Bool) =>
 if ad then ((Qz e b.Var).bind fun ac =>
 if !decide (ac = b.Val) then (some (Ctl.ret []))
 else (some (Ctl.next e)))
 else ((Qz e b.Var).bind fun al =>
 (JG e b.Var b.Val).bind fun v =>
 some (Ctl.next v))) (g.Pre.length) 0 u) (fun r => some r) (fun (w : (List Int)) => (Km a j).bind <| QM fun (m : Int) (an : Bool) =>
 (must (decide (m ≤ 9223372036854775807))).bind fun aj =>
 (forS (fun q => QM fun (i : (List Int)) (k : (List Int)) => (QdM a j k (q : Int)).bind <| fun (h : (List Int)) =>
 (Jw h).bind <| fun (ae : (List Int)) =>
 (forS (fun s => fun (c : (List Int)) => (Qz g.Effs (s : Int)).bind fun d =>
 ((Q9 f d.Var).bind <| fun (af : Bool) =>
 if af then ((QaA d.When h).bind <| fun (ag : Bool) =>
 some ag)
 else (some false)).bind (fun (ai : Bool) => (if ai then ((Qz c d.Var).bind fun am =>
 (JG c d.Var d.Val).bind fun x =>
 some x)
 else (some c)).bind (fun (y : (List Int)) => some y))) (g.Effs.length) 0 ae).bind (fun (c : (List Int)) => (Ka a f c).bind <| fun (ah : Int) =>
 (app 8 i [ah]).bind fun z =>
 some (z, h))) (m.toNat) 0 ([], w)).bind (QM fun (i : (List Int)) (k : (List Int)) => (Y5 i).bind <| fun (aa : (List Int)) =>
 (Jn aa).bind <| QM fun (n : Nat) (l : (List Int)) =>
 (must (decide (n ≤ l.length))).bind fun ak =>
 some ((l).take n)))
structure Edge where
 From : Int
 Label : Int
 To : Int
def encEdge : Enc Edge := Enc.iso ((U .i64).pair ((U .i64).pair (U .i64))) (fun b => (b.From, b.Label, b.To))
theorem QK {s : PHeap} {v : Value} {b : Edge} : encEdge.val s v b ↔ v = .agg #[.int .i64 (b.From), .int .i64 (b.Label), .int .i64 (b.To)] := by
 simp only [Enc.iso, Enc.pair, Enc.val, encEdge, U, if_true, KU]
 constructor
 ·rintro ⟨cs, rfl, h⟩
  obtain ⟨cs⟩ := cs
  simp only [] at h
  obtain ⟨_, _, rfl, rfl, ⟨_, _, rfl, rfl, rfl⟩⟩ := h
  rfl
 ·rintro rfl
  exact ⟨_, Z, ⟨[.int .i64 (b.From)], [.int .i64 (b.Label), .int .i64 (b.To)], Z, Z, ⟨[.int .i64 (b.Label)], [.int .i64 (b.To)], Z, Z, Z⟩⟩⟩
structure System where
 States : Int
 Init : Int
 Costs : (List Int)
 Edges : (List Edge)
 Goals : (List Bool)
noncomputable def J6 (a : Task) (b : (List Int)) : Option ((Option Int) × System) :=
 (Ym a b).bind <| fun (n : (Option Int)) =>
 if n.isSome then (some (n, (⟨0, 0, [], [], []⟩ : System)))
 else ((Km a b).bind <| QM fun (h : Int) (ah : Bool) =>
 if !ah then (some (some 5, (⟨0, 0, [], [], []⟩ : System)))
 else ((Ka a b a.Init).bind <| fun (ai : Int) =>
 (mk 24 [] (a.Ops.length : Int)).bind fun t =>
 ctl (Js (R := ((Option Int) × System)) (fun c => QM fun (am : (List Int)) (i : (List (List Int))) => (Qz a.Ops (c : Int)).bind fun m =>
 (app 8 am [m.Cost]).bind fun u =>
 (KN m b).bind <| fun (aj : (List Int)) =>
 (Qz i (c : Int)).bind fun aw =>
 (JG i (c : Int) aj).bind fun j =>
 (Qz j (c : Int)).bind fun ad =>
 (Km a ad).bind <| QM fun (ax : Int) (ak : Bool) =>
 if !ak then (some (Ctl.ret (some 5, (⟨0, 0, [], [], []⟩ : System))))
 else (some (Ctl.next (u, j)))) (a.Ops.length) 0 ([], t)) (fun r => some r) (QM fun (an : (List Int)) (v : (List (List Int))) => (mk 8 0 (a.Vars.length : Int)).bind fun w =>
 (must (decide (h ≤ 9223372036854775807))).bind fun av =>
 ctl (Js (R := ((Option Int) × System)) (fun e => un3 fun (ao : (List Edge)) (ap : (List Bool)) (x : (List Int)) => (QdM a b x (e : Int)).bind <| fun (k : (List Int)) =>
 (forS (fun q => fun (d : Bool) => (Qz a.Goal (q : Int)).bind fun g =>
 (if d then ((Q9 b g.Var).bind <| fun (al : Bool) =>
 if !al then (some true)
 else ((Qz k g.Var).bind fun ae =>
 some (decide (ae = g.Val))))
 else (some false)).bind (fun (p : Bool) => some p)) (a.Goal.length) 0 true).bind (fun (d : Bool) => (app 1 ap [d]).bind fun y =>
 ctl (Js (R := ((Option Int) × System)) (fun f => fun (z : (List Edge)) => (Qz v (f : Int)).bind fun af =>
 (KM a (f : Int) b af (e : Int)).bind <| fun (o : (List Int)) =>
 ctl (Js (R := ((Option Int) × System)) (fun s => fun (l : (List Edge)) => (Qz o (s : Int)).bind fun ag =>
 if decide ((l.length : Int) = 65536) then (some (Ctl.ret (some 5, (⟨0, 0, [], [], []⟩ : System))))
 else ((app 24 l [(⟨(e : Int), (f : Int), ag⟩ : Edge)]).bind fun aa =>
 some (Ctl.next aa))) (o.length) 0 z) (fun r => some (Ctl.ret r)) (fun (ab : (List Edge)) => some (Ctl.next ab))) (a.Ops.length) 0 ao) (fun r => some (Ctl.ret r)) (fun (ac : (List Edge)) => some (Ctl.next (ac, y, k))))) (h.toNat) 0 ([], [], w)) (fun r => some r) (un3 fun (aq : (List Edge)) (ar : (List Bool)) (au : (List Int)) => some (none, (⟨h, ai, an, aq, ar⟩ : System))))))
noncomputable def JJ (b : Int) : Option (Int) :=
 ctl (J8 (R := (Int)) (fun (a : Int) => if decide ((IntKind.i64.wrap ((IntKind.i64.wrap (a + 1)) * (IntKind.i64.wrap (a + 1)))) ≤ b) then (some (Ctl.next (IntKind.i64.wrap (a + 1))))
 else (some (Ctl.brk a))) 0) (fun r => some r) (fun (c : Int) => some c)
noncomputable def KX (a : Task) (b : Int) : Option ((Option Int) × System) :=
 (J6 a [b]).bind <| QM fun (c : (Option Int)) (d : System) =>
 some (c, d)
noncomputable def Yb (a : Int) : Option (Bool) :=
 some (!decide (a = a))
def Ju (a : Int) : Bool :=
 (!decide (a = a))
theorem Yf (a : Int) : Yb a = some (Ju a) := by
 unfold Yb Ju
 (repeat' split) <;> rfl
attribute [irreducible] Ju
noncomputable def Kd (b : Int) (a : Int) : Option (Int) :=
 if (Ju b) then (if (Ju a) then (some 0)
 else (some (-1)))
 else (if (Ju a) then (some 1)
 else (if decide (b < a) then (some (-1))
 else (if decide (a < b) then (some 1)
 else (some 0))))
def Qk (b : Int) (a : Int) : Int :=
 if (Ju b) then (if (Ju a) then (0)
 else ((-1)))
 else (if (Ju a) then (1)
 else (if decide (b < a) then ((-1))
 else (if decide (a < b) then (1)
 else (0))))
theorem Jd (a : Int) (b : Int) : Kd a b = some (Qk a b) := by
 unfold Kd Qk
 (repeat' split) <;> rfl
attribute [irreducible] Qk
noncomputable def KQ (a : (List Int)) : Option (Int) :=
 ctl (Js (R := (Int)) (fun c => fun (_ : Unit) => (Qz a (c : Int)).bind fun b =>
 if !decide (b = 0) then (some (Ctl.ret b))
 else (some (Ctl.next ()))) (a.length) 0 ()) (fun r => some r) (fun (_ : Unit) => some 0)
noncomputable def Kk (a : Edge) (b : Edge) : Option (Int) :=
 (KQ [(Qk a.From b.From), (Qk a.Label b.Label), (Qk a.To b.To)]).bind <| fun (c : Int) =>
 some c
noncomputable def JE (a : System) : Option (Bool) :=
 if ((decide (a.States < 1)) || ((decide (4096 < a.States)) || ((decide (a.Init < 0)) || ((decide (a.States ≤ a.Init)) || ((!decide ((a.Goals.length : Int) = a.States)) || ((decide (4096 < (a.Costs.length : Int))) || decide (65536 < (a.Edges.length : Int)))))))) then (some false)
 else (ctl (Js (R := (Bool)) (fun e => fun (_ : Unit) => (Qz a.Costs (e : Int)).bind fun d =>
 if ((decide (d < 0)) || decide (1048576 < d)) then (some (Ctl.ret false))
 else (some (Ctl.next ()))) (a.Costs.length) 0 ()) (fun r => some r) (fun (_ : Unit) => ctl (Js (R := (Bool)) (fun c => fun (_ : Unit) => (Qz a.Edges (c : Int)).bind fun b =>
 (if decide (b.From < 0) then (some true)
 else (if decide (a.States ≤ b.From) then (some true)
 else (if decide (b.To < 0) then (some true)
 else (if decide (a.States ≤ b.To) then (some true)
 else (if decide (b.Label < 0) then (some true)
 else (if decide ((a.Costs.length : Int) ≤ b.Label) then (some true)
 else (if decide (0 < (c : Int)) then ((Qz a.Edges (IntKind.i64.wrap ((c : Int) - 1))).bind fun f =>
 (Kk f b).bind <| fun (g : Int) =>
 some (decide (0 ≤ g)))
 else (some false)))))))).bind (fun (h : Bool) => if h then (some (Ctl.ret false))
 else (some (Ctl.next ())))) (a.Edges.length) 0 ()) (fun r => some r) (fun (_ : Unit) => some true)))
noncomputable def JB (a : Bool) : Option (ByteArray) :=
 if a then (some (⟨#[116, 114, 117, 101]⟩))
 else (some (⟨#[102, 97, 108, 115, 101]⟩))
def JA (a : Bool) : ByteArray :=
 if a then ((⟨#[116, 114, 117, 101]⟩))
 else ((⟨#[102, 97, 108, 115, 101]⟩))
theorem YC (a : Bool) : JB a = some (JA a) := by
 unfold JB JA
 (repeat' split) <;> rfl
attribute [irreducible] JA
noncomputable def Kh (a : Bool) : Option (ByteArray) :=
 some (JA a)
def Jc (a : Bool) : ByteArray :=
 (JA a)
theorem QaG (a : Bool) : Kh a = some (Jc a) := by
 unfold Kh Jc
 (repeat' split) <;> rfl
attribute [irreducible] Jc
noncomputable def JT (c : (List ByteArray)) : Option ((List Int) × Int) :=
 (forS (fun f => QM fun (b : (List Int)) (a : Qcl) => (Qz c (f : Int)).bind fun e =>
 (Qgj a e).bind fun d =>
 (if !d.2 then ((Qgi a e (a.length : Int)).bind fun j =>
 some ((a.length : Int), j))
 else (some (d.1, a))).bind (QM fun (g : Int) (h : Qcl) => (app 8 b [g]).bind fun i =>
 some (i, h))) (c.length) 0 ([], ([] : Qcl))).bind (QM fun (b : (List Int)) (a : Qcl) => some (b, (a.length : Int)))
structure Arr2_int where
 a0 : Int
 a1 : Int
def encArr2_int : Enc Arr2_int := Enc.iso ((U .i64).pair (U .i64)) (fun b => (b.a0, b.a1))
theorem Ko {s : PHeap} {v : Value} {b : Arr2_int} : encArr2_int.val s v b ↔ v = .agg #[.int .i64 (b.a0), .int .i64 (b.a1)] := by
 simp only [Enc.iso, Enc.pair, Enc.val, encArr2_int, U, if_true, KU]
 constructor
 ·rintro ⟨cs, rfl, h⟩
  obtain ⟨cs⟩ := cs
  simp only [] at h
  obtain ⟨_, _, rfl, rfl, rfl⟩ := h
  rfl
 ·rintro rfl
  exact ⟨_, Z, ⟨[.int .i64 (b.a0)], [.int .i64 (b.a1)], Z, Z, Z⟩⟩
noncomputable def Ye (a : Arr2_int) (b : Arr2_int) : Option (Int) :=
 (KQ [(Qk a.a0 b.a0), (Qk a.a1 b.a1)]).bind <| fun (c : Int) =>
 some c
def Qgf (a b : Arr2_int) : Int := if QbE a.a0 b.a0 ≠ 0 then QbE a.a0 b.a0 else QbE a.a1 b.a1
noncomputable def Qbl (xs : List Arr2_int) : Option (List Arr2_int) := if xs.length < 4611686018427387904 then some (xs.mergeSort fun x y => !decide (Qgf y x < 0)) else none
noncomputable def Qbw (a : Int) : Option (ByteArray) :=
 if decide (a < 10) then ((QmT (⟨#[48, 49, 50, 51, 52, 53, 54, 55, 56, 57, 97, 98, 99, 100, 101, 102, 103, 104, 105, 106, 107, 108, 109, 110, 111, 112, 113, 114, 115, 116, 117, 118, 119, 120, 121, 122]⟩) a (IntKind.i64.wrap (a + 1))).bind fun b =>
 some b)
 else ((QmT (⟨#[48, 48, 48, 49, 48, 50, 48, 51, 48, 52, 48, 53, 48, 54, 48, 55, 48, 56, 48, 57, 49, 48, 49, 49, 49, 50, 49, 51, 49, 52, 49, 53, 49, 54, 49, 55, 49, 56, 49, 57, 50, 48, 50, 49, 50, 50, 50, 51, 50, 52, 50, 53, 50, 54, 50, 55, 50, 56, 50, 57, 51, 48, 51, 49, 51, 50, 51, 51, 51, 52, 51, 53, 51, 54, 51, 55, 51, 56, 51, 57, 52, 48, 52, 49, 52, 50, 52, 51, 52, 52, 52, 53, 52, 54, 52, 55, 52, 56, 52, 57, 53, 48, 53, 49, 53, 50, 53, 51, 53, 52, 53, 53, 53, 54, 53, 55, 53, 56, 53, 57, 54, 48, 54, 49, 54, 50, 54, 51, 54, 52, 54, 53, 54, 54, 54, 55, 54, 56, 54, 57, 55, 48, 55, 49, 55, 50, 55, 51, 55, 52, 55, 53, 55, 54, 55, 55, 55, 56, 55, 57, 56, 48, 56, 49, 56, 50, 56, 51, 56, 52, 56, 53, 56, 54, 56, 55, 56, 56, 56, 57, 57, 48, 57, 49, 57, 50, 57, 51, 57, 52, 57, 53, 57, 54, 57, 55, 57, 56, 57, 57]⟩) (IntKind.i64.wrap (a * 2)) (IntKind.i64.wrap ((IntKind.i64.wrap (a * 2)) + 2))).bind fun c =>
 some c)
noncomputable def YR (a : Int) (b : Int) : Option (ByteArray) :=
 if decide (b = 10) then (if ((decide (0 ≤ a)) && decide (a < 100)) then ((Qbw a).bind <| fun (c : ByteArray) =>
 some c)
 else (none))
 else (none)
noncomputable def Qan (a : Int) : Option (ByteArray) :=
 (YR a 10).bind <| fun (b : ByteArray) =>
 some b
noncomputable def K4 (a : Int) : Option (ByteArray) :=
 (Qan a).bind <| fun (b : ByteArray) =>
 some b
noncomputable def Jk (a : (List Arr2_int)) : Option (Nat × (List Arr2_int)) :=
 if decide ((a.length : Int) < 2) then (some ((a).length, a))
 else (ctl (J8 (R := (Nat × (List Arr2_int))) (fun (b : Int) => if decide (b < (a.length : Int)) then ((Qz a b).bind fun j =>
 (Qz a (IntKind.i64.wrap (b - 1))).bind fun k =>
 if eqs [j.a0, j.a1] [k.a0, k.a1] then ((QaJ a b (a.length : Int)).bind fun h =>
 ctl (J8 (R := (Nat × (List Arr2_int))) (un3 fun (g : Int) (d : Int) (c : (List Arr2_int)) => if decide (d < (h : Int)) then ((Qck c b h d).bind fun l =>
 (Qck c b h (IntKind.i64.wrap (d - 1))).bind fun m =>
 (if !(eqs [l.a0, l.a1] [m.a0, m.a1]) then ((Qck c b h d).bind fun s =>
 (Qz c g).bind fun v =>
 (JG c g s).bind fun o =>
 some (IntKind.i64.wrap (g + 1), o))
 else (some (g, c))).bind (QM fun (n : Int) (p : (List Arr2_int)) => some (Ctl.next (n, IntKind.i64.wrap (d + 1), p))))
 else (some (Ctl.brk (g, d, c)))) (b, 1, a)) (fun r => some (Ctl.ret r)) (un3 fun (e : Int) (t : Int) (f : (List Arr2_int)) => (QaJ f e (f.length : Int)).bind fun i =>
 (QaJ ((f).take (e).toNat ++ List.replicate i (⟨0, 0⟩ : Arr2_int) ++ (f).drop ((e).toNat + i)) 0 e).bind fun q =>
 some (Ctl.ret (q, (f).take (e).toNat ++ List.replicate i (⟨0, 0⟩ : Arr2_int) ++ (f).drop ((e).toNat + i)))))
 else (some (Ctl.next (IntKind.i64.wrap (b + 1)))))
 else (some (Ctl.brk b))) 1) (fun r => some r) (fun (u : Int) => some ((a).length, a)))
noncomputable def KK (d : System) (i : (List Int)) : Option ((List Int) × Int) :=
 (mk 24 ([] : (List Arr2_int)) d.States).bind fun r =>
 (forS (fun p => fun (b : (List (List Arr2_int))) => (Qz d.Edges (p : Int)).bind fun e =>
 (Qz b e.From).bind fun ab =>
 (Qz i e.To).bind fun af =>
 (app 16 ab [(⟨e.Label, af⟩ : Arr2_int)]).bind fun s =>
 (JG b e.From s).bind fun t =>
 some t) (d.Edges.length) 0 r).bind (fun (b : (List (List Arr2_int))) => (mk 16 (⟨#[]⟩) d.States).bind fun u =>
 (forS (fun a => QM fun (c : (List ByteArray)) (f : (List (List Arr2_int))) => (Qz f (a : Int)).bind fun ac =>
 (Qbl ac).bind <| fun (v : (List Arr2_int)) =>
 (JG f (a : Int) v).bind fun j =>
 (Qz i (a : Int)).bind fun ag =>
 (K4 ag).bind <| fun (ah : ByteArray) =>
 (QjD ([] : List Int) ah).bind fun w =>
 (Qz j (a : Int)).bind fun ad =>
 (Jk ad).bind <| QM fun (h : Nat) (x : (List Arr2_int)) =>
 (JG j (a : Int) x).bind fun k =>
 (must (decide ((h : Int) ≤ 9223372036854775807))).bind fun am =>
 (forS (fun q => fun (g : (List Int)) => (Qz k (a : Int)).bind fun ae =>
 (Qck ae 0 h (q : Int)).bind fun l =>
 (K4 l.a0).bind <| fun (ai : ByteArray) =>
 (cat (⟨#[32]⟩) ai).bind fun m =>
 (cat m (⟨#[58]⟩)).bind fun n =>
 (K4 l.a1).bind <| fun (aj : ByteArray) =>
 (cat n aj).bind fun o =>
 (QjD g o).bind fun y =>
 some y) ((h : Int).toNat) 0 w).bind (fun (g : (List Int)) => (Qgg g).bind fun aa =>
 (Qz c (a : Int)).bind fun an =>
 (JG c (a : Int) aa).bind fun z =>
 some (z, k))) (b.length) 0 (u, b)).bind (QM fun (c : (List ByteArray)) (f : (List (List Arr2_int))) => (JT c).bind <| QM fun (ak : (List Int)) (al : Int) =>
 some (ak, al)))
noncomputable def J7 (a : System) : Option ((List Int) × (Option Int)) :=
 (JE a).bind <| fun (k : Bool) =>
 if !k then (some ([], some 2))
 else ((mk 16 (⟨#[]⟩) a.States).bind fun g =>
 (forS (fun c => fun (b : (List ByteArray)) => (Qz a.Goals (c : Int)).bind fun j =>
 (Qz b (c : Int)).bind fun p =>
 (JG b (c : Int) (Jc j)).bind fun h =>
 some h) (a.Goals.length) 0 g).bind (fun (b : (List ByteArray)) => (JT b).bind <| QM fun (l : (List Int)) (m : Int) =>
 ctl (J8 (R := ((List Int) × (Option Int))) (QM fun (f : (List Int)) (i : Int) => (KK a f).bind <| QM fun (d : (List Int)) (e : Int) =>
 if decide (e = i) then (some (Ctl.ret (d, none)))
 else (some (Ctl.next (d, e)))) (l, m)) (fun r => some r) (QM fun (n : (List Int)) (o : Int) => none)))
noncomputable def Jo (b : (List Int)) : Option (Int) :=
 (if decide ((b.length : Int) < 1) then (none)
 else (some ())).bind (fun (_ : Unit) => (Qz b 0).bind fun e =>
 ctl (J8 (R := (Int)) (QM fun (c : Int) (a : Int) => if decide (a < (b.length : Int)) then ((Qz b a).bind fun f =>
 some (Ctl.next (max c f, IntKind.i64.wrap (a + 1))))
 else (some (Ctl.brk (c, a)))) (e, 1)) (fun r => some r) (QM fun (d : Int) (g : Int) => some d))
noncomputable def Yk (c : (List Bool)) : Option (Int × Int) :=
 ctl (J8 (R := (Int × Int)) (fun (a : Int) => if decide (0 < a) then (ctl (J8 (R := (Int × Int)) (fun (b : Int) => if decide (0 ≤ b) then ((Qz c b).bind fun d =>
 (Qz c a).bind fun e =>
 if (d == e) then (some (Ctl.ret (b, a)))
 else (some (Ctl.next (IntKind.i64.wrap (b - 1)))))
 else (some (Ctl.brk b))) (IntKind.i64.wrap (a - 1))) (fun r => some (Ctl.ret r)) (fun (f : Int) => some (Ctl.next (IntKind.i64.wrap (a - 1)))))
 else (some (Ctl.brk a))) (IntKind.i64.wrap ((c.length : Int) - 1))) (fun r => some r) (fun (g : Int) => some (0, 1))
def Qgn (xs : List Bool) (i j : Int) : Option (List Bool) := if 0 ≤ i ∧ i ≤ j ∧ j ≤ xs.length ∧ 0 < xs.length then some (xs.take i.toNat ++ xs.drop j.toNat) else none
noncomputable def Y7 (k : System) (v : Int) : Option ((List Int) × (Option Int)) :=
 (J7 k).bind <| QM fun (e : (List Int)) (m : (Option Int)) =>
 if m.isSome then (some ([], m))
 else ((Jo e).bind <| fun (x : Int) =>
 (mk 1 false (IntKind.i64.wrap (x + 1))).bind fun n =>
 (forS (fun j => fun (c : (List Bool)) => (Qz e (j : Int)).bind fun l =>
 (Qz k.Goals (j : Int)).bind fun w =>
 (Qz c l).bind fun aa =>
 (JG c l w).bind fun o =>
 some o) (e.length) 0 n).bind (fun (c : (List Bool)) => ctl (J8 (R := ((List Int) × (Option Int))) (QM fun (g : (List Int)) (d : (List Bool)) => if decide ((max 1 (min v 4096)) < (d.length : Int)) then ((Yk d).bind <| QM fun (y : Int) (f : Int) =>
 (forS (fun b => fun (a : (List Int)) => (Qz a (b : Int)).bind fun i =>
 (if decide (i = f) then ((JG a (b : Int) y).bind fun p =>
 some p)
 else (some a)).bind (fun (h : (List Int)) => (if decide (f < i) then ((Qz h (b : Int)).bind fun ab =>
 (JG h (b : Int) (IntKind.i64.wrap (i - 1))).bind fun q =>
 some q)
 else (some h)).bind (fun (s : (List Int)) => some s))) (g.length) 0 g).bind (fun (a : (List Int)) => (Qgn d f (IntKind.i64.wrap (f + 1))).bind <| fun (t : (List Bool)) =>
 some (Ctl.next (a, t))))
 else (some (Ctl.brk (g, d)))) (e, c)) (fun r => some r) (QM fun (u : (List Int)) (z : (List Bool)) => some (u, none))))
noncomputable def QQ (a : (List Int)) : Option (Int) :=
 (Jo a).bind <| fun (b : Int) =>
 some (IntKind.i64.wrap (b + 1))
noncomputable def Kc (b : (List Int)) (c : Int) : Option (Int × Bool) :=
 if !decide ((b.length : Int) = c) then (some (0, false))
 else ((mk 1 false c).bind fun i =>
 ctl (Js (R := (Int × Bool)) (fun g => QM fun (l : Int) (e : (List Bool)) => (Qz b (g : Int)).bind fun a =>
 if ((decide (a < 0)) || decide (c ≤ a)) then (some (Ctl.ret (0, false)))
 else ((Qz e a).bind fun n =>
 (JG e a true).bind fun j =>
 some (Ctl.next (max l (IntKind.i64.wrap (a + 1)), j)))) (b.length) 0 (0, i)) (fun r => some r) (QM fun (f : Int) (k : (List Bool)) => (cut k 0 f).bind fun d =>
 ctl (Js (R := (Int × Bool)) (fun h => fun (_ : Unit) => (Qz d (h : Int)).bind fun m =>
 if !m then (some (Ctl.ret (0, false)))
 else (some (Ctl.next ()))) (d.length) 0 ()) (fun r => some r) (fun (_ : Unit) => some (f, true))))
noncomputable def QaD (a : Edge) (b : Edge) : Option (Int) :=
 (KQ [(Qk a.From b.From), (Qk a.Label b.Label), (Qk a.To b.To)]).bind <| fun (c : Int) =>
 some c
def Qbv (a b : Edge) : Int := if QbE a.From b.From ≠ 0 then QbE a.From b.From else if QbE a.Label b.Label ≠ 0 then QbE a.Label b.Label else QbE a.To b.To
noncomputable def Ku (xs : List Edge) : Option (List Edge) := if xs.length < 4611686018427387904 then some (xs.mergeSort fun x y => !decide (Qbv y x < 0)) else none
noncomputable def Qbd (a : (List Edge)) : Option (Nat × (List Edge)) :=
 if decide ((a.length : Int) < 2) then (some ((a).length, a))
 else (ctl (J8 (R := (Nat × (List Edge))) (fun (b : Int) => if decide (b < (a.length : Int)) then ((Qz a b).bind fun j =>
 (Qz a (IntKind.i64.wrap (b - 1))).bind fun k =>
 if eqs [j.From, j.Label, j.To] [k.From, k.Label, k.To] then ((QaJ a b (a.length : Int)).bind fun h =>
 ctl (J8 (R := (Nat × (List Edge))) (un3 fun (g : Int) (d : Int) (c : (List Edge)) => if decide (d < (h : Int)) then ((Qck c b h d).bind fun l =>
 (Qck c b h (IntKind.i64.wrap (d - 1))).bind fun m =>
 (if !(eqs [l.From, l.Label, l.To] [m.From, m.Label, m.To]) then ((Qck c b h d).bind fun s =>
 (Qz c g).bind fun v =>
 (JG c g s).bind fun o =>
 some (IntKind.i64.wrap (g + 1), o))
 else (some (g, c))).bind (QM fun (n : Int) (p : (List Edge)) => some (Ctl.next (n, IntKind.i64.wrap (d + 1), p))))
 else (some (Ctl.brk (g, d, c)))) (b, 1, a)) (fun r => some (Ctl.ret r)) (un3 fun (e : Int) (t : Int) (f : (List Edge)) => (QaJ f e (f.length : Int)).bind fun i =>
 (QaJ ((f).take (e).toNat ++ List.replicate i (⟨0, 0, 0⟩ : Edge) ++ (f).drop ((e).toNat + i)) 0 e).bind fun q =>
 some (Ctl.ret (q, (f).take (e).toNat ++ List.replicate i (⟨0, 0, 0⟩ : Edge) ++ (f).drop ((e).toNat + i)))))
 else (some (Ctl.next (IntKind.i64.wrap (b + 1)))))
 else (some (Ctl.brk b))) 1) (fun r => some r) (fun (u : Int) => some ((a).length, a)))
noncomputable def KY (c : (List Edge)) : Option ((List Edge)) :=
 (Ku c).bind <| fun (d : (List Edge)) =>
 (Qbd d).bind <| QM fun (b : Nat) (a : (List Edge)) =>
 (must (decide (b ≤ a.length))).bind fun e =>
 some ((a).take b)
noncomputable def Kr (a : System) (b : (List Int)) : Option ((Option Int) × System) :=
 (Kc b a.States).bind <| QM fun (h : Int) (u : Bool) =>
 ((JE a).bind <| fun (v : Bool) =>
 if !v then (some true)
 else (some (!u))).bind (fun (x : Bool) => if x then (some (some 2, (⟨0, 0, [], [], []⟩ : System)))
 else ((Qz b a.Init).bind fun p =>
 (Qx a.Costs).bind <| fun (w : (List Int)) =>
 (mk 1 false h).bind fun j =>
 (forS (fun g => fun (c : (List Bool)) => (Qz a.Goals (g : Int)).bind fun q =>
 ((Qz b (g : Int)).bind fun d =>
 (Qz c d).bind fun r =>
 if r then ((JG c d true).bind fun k =>
 some k)
 else ((JG c d q).bind fun l =>
 some l)).bind (fun (m : (List Bool)) => some m)) (a.Goals.length) 0 j).bind (fun (c : (List Bool)) => (forS (fun i => fun (f : (List Edge)) => (Qz a.Edges (i : Int)).bind fun e =>
 (Qz b e.From).bind fun s =>
 (Qz b e.To).bind fun t =>
 (app 24 f [(⟨s, e.Label, t⟩ : Edge)]).bind fun n =>
 some n) (a.Edges.length) 0 []).bind (fun (f : (List Edge)) => (KY f).bind <| fun (o : (List Edge)) =>
 some (none, (⟨h, p, w, o, c⟩ : System))))))
noncomputable def Q7 (b : mergeshrink_Abstraction) (a : System) (d : Int) : Option ((List Int) × (Option Int) × System × Bool) :=
 if decide (a.States ≤ d) then ((JI a.States).bind <| fun (g : (List Int)) =>
 some (g, none, a, b.exact))
 else ((Y7 a d).bind <| QM fun (c : (List Int)) (e : (Option Int)) =>
 if e.isSome then (some ([], e, (⟨0, 0, [], [], []⟩ : System), b.exact))
 else ((J7 a).bind <| QM fun (h : (List Int)) (f : (Option Int)) =>
 if f.isSome then (some ([], f, (⟨0, 0, [], [], []⟩ : System), b.exact))
 else ((if b.exact then ((QQ c).bind <| fun (i : Int) =>
 (QQ h).bind <| fun (j : Int) =>
 some (decide (i = j)))
 else (some false)).bind (fun (m : Bool) => (Kr a c).bind <| QM fun (k : (Option Int)) (l : System) =>
 some (c, k, l, m)))))
noncomputable def Kb (b : System) : Option ((List (List Edge))) :=
 (mk 24 ([] : (List Edge)) (b.Costs.length : Int)).bind fun e =>
 (forS (fun d => fun (a : (List (List Edge))) => (Qz b.Edges (d : Int)).bind fun c =>
 (Qz a c.Label).bind fun h =>
 (app 24 h [c]).bind fun f =>
 (JG a c.Label f).bind fun g =>
 some g) (b.Edges.length) 0 e).bind (fun (a : (List (List Edge))) => some a)
noncomputable def QcD (xs : List Edge) : Option (List Edge) := Ku xs
noncomputable def KJ (b : System) (a : System) : Option ((Option Int) × System) :=
 ((JE b).bind <| fun (ad : Bool) =>
 if !ad then (some true)
 else ((JE a).bind <| fun (ae : Bool) =>
 if !ae then (some true)
 else ((QZ b.Costs a.Costs).bind <| fun (af : Bool) =>
 some (!af)))).bind (fun (ah : Bool) => if ah then (some (some 2, (⟨0, 0, [], [], []⟩ : System)))
 else (if decide (4096 < (IntKind.i64.wrap (b.States * a.States))) then (some (some 5, (⟨0, 0, [], [], []⟩ : System)))
 else ((Qx b.Costs).bind <| fun (ag : (List Int)) =>
 (must (decide (b.States ≤ 9223372036854775807))).bind fun ai =>
 (forS (fun q => fun (i : (List Bool)) => (must (decide (a.States ≤ 9223372036854775807))).bind fun aj =>
 (forS (fun r => fun (c : (List Bool)) => ((Qz b.Goals (q : Int)).bind fun z =>
 if z then ((Qz a.Goals (r : Int)).bind fun aa =>
 (app 1 c [aa]).bind fun u =>
 some u)
 else ((app 1 c [false]).bind fun v =>
 some v)).bind (fun (w : (List Bool)) => some w)) (a.States.toNat) 0 i).bind (fun (c : (List Bool)) => some c)) (b.States.toNat) 0 []).bind (fun (i : (List Bool)) => (Kb b).bind <| fun (d : (List (List Edge))) =>
 (Kb a).bind <| fun (p : (List (List Edge))) =>
 (forS (fun k => fun (h : Int) => (Qz d (k : Int)).bind fun ab =>
 (Qz p (k : Int)).bind fun ac =>
 some (IntKind.i64.wrap (h + (IntKind.i64.wrap ((ab.length : Int) * (ac.length : Int)))))) (d.length) 0 0).bind (fun (h : Int) => if decide (65536 < h) then (some (some 5, (⟨0, 0, [], [], []⟩ : System)))
 else ((forS (fun e => fun (j : (List Edge)) => (Qz d (e : Int)).bind fun l =>
 (forS (fun s => fun (f : (List Edge)) => (Qz l (s : Int)).bind fun m =>
 (Qz p (e : Int)).bind fun n =>
 (forS (fun t => fun (g : (List Edge)) => (Qz n (t : Int)).bind fun o =>
 (app 24 g [(⟨IntKind.i64.wrap ((IntKind.i64.wrap (m.From * a.States)) + o.From), (e : Int), IntKind.i64.wrap ((IntKind.i64.wrap (m.To * a.States)) + o.To)⟩ : Edge)]).bind fun x =>
 some x) (n.length) 0 f).bind (fun (g : (List Edge)) => some g)) (l.length) 0 j).bind (fun (f : (List Edge)) => some f)) (d.length) 0 []).bind (fun (j : (List Edge)) => (QcD j).bind <| fun (y : (List Edge)) =>
 some (none, (⟨IntKind.i64.wrap (b.States * a.States), IntKind.i64.wrap ((IntKind.i64.wrap (b.Init * a.States)) + a.Init), ag, y, i⟩ : System)))))))))
noncomputable def QB (e : mergeshrink_Abstraction) (o : Task) (i : (List Int)) (f : Int) : Option ((Option Int) × System × (List mergeshrink_stage) × Bool) :=
 if decide ((i.length : Int) = 0) then ((J6 o ([] : (List Int))).bind <| QM fun (af : (Option Int)) (ag : System) =>
 some (af, ag, [], e.exact))
 else ((JJ f).bind <| fun (h : Int) =>
 ctl (Js (R := ((Option Int) × System × (List mergeshrink_stage) × Bool)) (fun m => un7 fun (a : (List mergeshrink_stage)) (k : Bool) (c : Int) (al : Int) (am : (List Int)) (an : (List Edge)) (ao : (List Bool)) => (Qz i (m : Int)).bind fun j =>
 (KX o j).bind <| QM fun (p : (Option Int)) (b : System) =>
 if p.isSome then (some (Ctl.ret (p, (⟨0, 0, [], [], []⟩ : System), a, k)))
 else (if decide ((m : Int) = 0) then ((Q7 (⟨e.vars, a, [], k⟩ : mergeshrink_Abstraction) b f).bind <| un4 fun (ah : (List Int)) (q : (Option Int)) (d : System) (w : Bool) =>
 if q.isSome then (some (Ctl.ret (q, (⟨0, 0, [], [], []⟩ : System), a, w)))
 else ((app 64 a ([(⟨j, ah, [], d.States⟩ : mergeshrink_stage)])).bind fun y =>
 some (Ctl.next (y, w, d.States, d.Init, d.Costs, d.Edges, d.Goals))))
 else ((if decide (f < (IntKind.i64.wrap (c * b.States))) then ((if decide (c ≤ h) then ((must (!decide (c = 0))).bind fun ay =>
 some (c, IntKind.i64.wrap (f.tdiv c)))
 else ((if decide (b.States ≤ h) then ((must (!decide (b.States = 0))).bind fun az =>
 some (IntKind.i64.wrap (f.tdiv b.States), b.States))
 else (some (h, h))).bind (QM fun (z : Int) (ac : Int) => some (z, ac)))).bind (QM fun (aa : Int) (ad : Int) => some (aa, ad)))
 else (some (c, b.States))).bind (QM fun (ab : Int) (ae : Int) => (Q7 (⟨e.vars, a, [], k⟩ : mergeshrink_Abstraction) (⟨c, al, am, an, ao⟩ : System) ab).bind <| un4 fun (ai : (List Int)) (s : (Option Int)) (aj : System) (x : Bool) =>
 if s.isSome then (some (Ctl.ret (s, (⟨0, 0, [], [], []⟩ : System), a, x)))
 else ((Q7 (⟨e.vars, a, [], x⟩ : mergeshrink_Abstraction) b ae).bind <| un4 fun (ak : (List Int)) (t : (Option Int)) (u : System) (l : Bool) =>
 if t.isSome then (some (Ctl.ret (t, (⟨0, 0, [], [], []⟩ : System), a, l)))
 else ((app 64 a [(⟨j, ak, ai, u.States⟩ : mergeshrink_stage)]).bind fun n =>
 (KJ aj u).bind <| QM fun (v : (Option Int)) (g : System) =>
 if v.isSome then (some (Ctl.ret (v, (⟨0, 0, [], [], []⟩ : System), n, l)))
 else (some (Ctl.next (n, l, g.States, g.Init, g.Costs, g.Edges, g.Goals))))))))) (i.length) 0 ([], e.exact, 0, 0, [], [], [])) (fun r => some r) (un7 fun (ap : (List mergeshrink_stage)) (aq : Bool) (ar : Int) (au : Int) (av : (List Int)) (aw : (List Edge)) (ax : (List Bool)) => some (none, (⟨ar, au, av, aw, ax⟩ : System), ap, aq)))
noncomputable def Yh (c : System) : Option ((List Int)) :=
 (forS (fun b => fun (a : (List Int)) => (Qz c.Goals (b : Int)).bind fun f =>
 (if f then ((app 8 a [(b : Int)]).bind fun d =>
 some d)
 else (some a)).bind (fun (e : (List Int)) => some e)) (c.Goals.length) 0 []).bind (fun (a : (List Int)) => some a)
structure Arc where
 From : Int
 To : Int
 Weight : Int
def encArc : Enc Arc := Enc.iso ((U .i64).pair ((U .i64).pair (U .i64))) (fun b => (b.From, b.To, b.Weight))
theorem Qki {s : PHeap} {v : Value} {b : Arc} : encArc.val s v b ↔ v = .agg #[.int .i64 (b.From), .int .i64 (b.To), .int .i64 (b.Weight)] := by
 simp only [Enc.iso, Enc.pair, Enc.val, encArc, U, if_true, KU]
 constructor
 ·rintro ⟨cs, rfl, h⟩
  obtain ⟨cs⟩ := cs
  simp only [] at h
  obtain ⟨_, _, rfl, rfl, ⟨_, _, rfl, rfl, rfl⟩⟩ := h
  rfl
 ·rintro rfl
  exact ⟨_, Z, ⟨[.int .i64 (b.From)], [.int .i64 (b.To), .int .i64 (b.Weight)], Z, Z, ⟨[.int .i64 (b.To)], [.int .i64 (b.Weight)], Z, Z, Z⟩⟩⟩
noncomputable def K7 (d : System) (n : (List Int)) (w : Bool) : Option ((List Int)) :=
 (mk 24 ([] : (List Arc)) d.States).bind fun ab =>
 (forS (fun y => fun (h : (List (List Arc))) => (Qz d.Edges (y : Int)).bind fun g =>
 (Qz d.Costs g.Label).bind fun aq =>
 (if w then (some (g.To, g.From))
 else (some (g.From, g.To))).bind (QM fun (q : Int) (aw : Int) => (Qz h q).bind fun ap =>
 (app 24 ap [(⟨q, aw, aq⟩ : Arc)]).bind fun ac =>
 (JG h q ac).bind fun ad =>
 some ad)) (d.Edges.length) 0 ab).bind (fun (h : (List (List Arc))) => (mk 8 0 d.States).bind fun t =>
 (forS (fun s => fun (i : (List Int)) => (Qz i (s : Int)).bind fun a0 =>
 (JG i (s : Int) 1125899906842624).bind fun ae =>
 some ae) (t.length) 0 t).bind (fun (i : (List Int)) => (mk 1 false d.States).bind fun af =>
 (Qx n).bind <| fun (av : (List Int)) =>
 (forS (fun z => QM fun (j : (List Int)) (k : (List Bool)) => (Qz n (z : Int)).bind fun l =>
 (Qz j l).bind fun a1 =>
 (JG j l 0).bind fun ag =>
 (Qz k l).bind fun a2 =>
 (JG k l true).bind fun ah =>
 some (ag, ah)) (n.length) 0 (i, af)).bind (QM fun (j : (List Int)) (k : (List Bool)) => ctl (J8 (R := ((List Int))) (un3 fun (u : (List Int)) (o : (List Bool)) (e : (List Int)) => if decide (0 < (e.length : Int)) then ((Qz e 0).bind fun m =>
 (cut e 1 (e.length : Int)).bind fun x =>
 (Qz o m).bind fun a3 =>
 (JG o m false).bind fun ai =>
 (Qz h m).bind fun p =>
 (must (decide (p.length ≤ 9223372036854775807))).bind fun az =>
 (forS (fun aa => un3 fun (b : (List Int)) (c : (List Bool)) (f : (List Int)) => (Qz p (aa : Int)).bind fun a =>
 (Qz b m).bind fun v =>
 (Qz b a.To).bind fun ar =>
 if decide (ar ≤ (IntKind.i64.wrap (v + a.Weight))) then (some (b, c, f))
 else ((JG b a.To (IntKind.i64.wrap (v + a.Weight))).bind fun aj =>
 (Qz c a.To).bind fun au =>
 (if !au then ((app 8 f [a.To]).bind fun ak =>
 (JG c a.To true).bind fun al =>
 some (al, ak))
 else (some (c, f))).bind (QM fun (am : (List Bool)) (an : (List Int)) => some (aj, am, an)))) (p.length) 0 (u, ai, x)).bind (un3 fun (b : (List Int)) (c : (List Bool)) (f : (List Int)) => some (Ctl.next (b, c, f))))
 else (some (Ctl.brk (u, o, e)))) (j, k, av)) (fun r => some r) (un3 fun (ao : (List Int)) (ax : (List Bool)) (ay : (List Int)) => some ao))))
noncomputable def Kq (a : System) : Option ((List Int) × (Option Int)) :=
 (JE a).bind <| fun (b : Bool) =>
 if !b then (some ([], some 2))
 else ((Yh a).bind <| fun (c : (List Int)) =>
 (K7 a c true).bind <| fun (d : (List Int)) =>
 some (d, none))
noncomputable def QR (a : Task) (b : (List Int)) (g : Int) : Option ((Option mergeshrink_Abstraction) × (Option Int)) :=
 (YI a).bind <| fun (c : (Option Int)) =>
 if c.isSome then (some (none, c))
 else ((JC b).bind <| fun (h : (List Int)) =>
 (JI (a.Vars.length : Int)).bind <| fun (i : (List Int)) =>
 (QZ h i).bind <| fun (j : Bool) =>
 if !j then (some (none, some 2))
 else ((Qx a.Vars).bind <| fun (d : (List Int)) =>
 (QB (⟨d, [], [], true⟩ : mergeshrink_Abstraction) a b (max 1 (min g 4096))).bind <| un4 fun (e : (Option Int)) (k : System) (m : (List mergeshrink_stage)) (n : Bool) =>
 if e.isSome then (some (none, e))
 else ((Kq k).bind <| QM fun (l : (List Int)) (f : (Option Int)) =>
 if f.isSome then (some (none, f))
 else (some (some (⟨d, m, l, n⟩ : mergeshrink_Abstraction), none)))))
noncomputable def Qaf (c : (List Int)) (a : (List Int)) : Option (Bool) :=
 if !decide ((a.length : Int) = (c.length : Int)) then (some false)
 else (ctl (Js (R := (Bool)) (fun b => fun (_ : Unit) => (Qz a (b : Int)).bind fun d =>
 (if decide (d < 0) then (some true)
 else ((Qz c (b : Int)).bind fun e =>
 some (decide (e ≤ d)))).bind (fun (f : Bool) => if f then (some (Ctl.ret false))
 else (some (Ctl.next ())))) (a.length) 0 ()) (fun r => some r) (fun (_ : Unit) => some true))
noncomputable def Q0 (a : mergeshrink_Abstraction) (e : (List Int)) : Option (Int) :=
 (Qaf a.vars e).bind <| fun (k : Bool) =>
 if !k then (some 1125899906842624)
 else ((forS (fun d => fun (c : Int) => (Qz a.stages (d : Int)).bind fun b =>
 (Qz e b.variable_).bind fun h =>
 (Qz b.class_ h).bind fun f =>
 (if decide ((d : Int) = 0) then (some f)
 else ((Qz b.after c).bind fun i =>
 some (IntKind.i64.wrap ((IntKind.i64.wrap (i * b.states)) + f)))).bind (fun (g : Int) => some g)) (a.stages.length) 0 0).bind (fun (c : Int) => (Qz a.distance c).bind fun j =>
 some j))
noncomputable def Jj (a : mergeshrink_Abstraction) : Option (Int) :=
 some (a.distance.length : Int)
def QE (a : mergeshrink_Abstraction) : Int :=
 (a.distance.length : Int)
theorem Jy (a : mergeshrink_Abstraction) : Jj a = some (QE a) := by
 unfold Jj QE
 (repeat' split) <;> rfl
attribute [irreducible] QE
noncomputable def Jg (a : mergeshrink_Abstraction) : Option (Bool) :=
 some a.exact
def QI (a : mergeshrink_Abstraction) : Bool :=
 a.exact
theorem Jr (a : mergeshrink_Abstraction) : Jg a = some (QI a) := by
 unfold Jg QI
 (repeat' split) <;> rfl
attribute [irreducible] QI
noncomputable def Yu  : Option (Bool) :=
 (QR Kn [0, 1] 6).bind <| QM fun (f : (Option mergeshrink_Abstraction)) (c : (Option Int)) =>
 QhT f ((must c.isSome).bind fun m =>
 (QR Kn [1, 0] 1).bind <| QM fun (g : (Option mergeshrink_Abstraction)) (d : (Option Int)) =>
 QhT g ((must d.isSome).bind fun n =>
 some false) (fun l => (must d.isNone).bind fun o =>
 some false)) (fun a => (must c.isNone).bind fun p =>
 (QR Kn [1, 0] 1).bind <| QM fun (h : (Option mergeshrink_Abstraction)) (e : (Option Int)) =>
 QhT h ((must e.isSome).bind fun q =>
 some false) (fun b => (must e.isNone).bind fun r =>
 ((Q0 a [0, 0]).bind <| fun (i : Int) =>
 if decide (i = 3) then (if decide ((QE a) = 6) then (if (QI a) then ((Q0 b [0, 0]).bind <| fun (j : Int) =>
 if decide (j = 0) then (if decide ((QE b) = 1) then (some (!(QI b)))
 else (some false))
 else (some false))
 else (some false))
 else (some false))
 else (some false)).bind (fun (k : Bool) => some k)))
noncomputable def YJ (c : (List Int)) (a : (List Int)) : Option (Bool) :=
 if !decide ((a.length : Int) = (c.length : Int)) then (some false)
 else (ctl (Js (R := (Bool)) (fun b => fun (_ : Unit) => ((Qz a (b : Int)).bind fun d =>
 if decide (d < 0) then (some true)
 else ((Qz c (b : Int)).bind fun e =>
 some (decide (e ≤ d)))).bind (fun (f : Bool) => if f then (some (Ctl.ret false))
 else (some (Ctl.next ())))) (a.length) 0 ()) (fun r => some r) (fun (_ : Unit) => some true))
noncomputable def Kv (d : (List Int)) (b : (List Fact)) : Option (Bool) :=
 ctl (Js (R := (Bool)) (fun c => fun (_ : Unit) => (Qz b (c : Int)).bind fun a =>
 (if decide (a.Var < 0) then (some true)
 else (if decide ((d.length : Int) ≤ a.Var) then (some true)
 else (if decide (a.Val < 0) then (some true)
 else ((Qz d a.Var).bind fun e =>
 if decide (e ≤ a.Val) then (some true)
 else (if decide (0 < (c : Int)) then ((Qz b (IntKind.i64.wrap ((c : Int) - 1))).bind fun f =>
 some (decide (a.Var ≤ f.Var)))
 else (some false)))))).bind (fun (g : Bool) => if g then (some (Ctl.ret false))
 else (some (Ctl.next ())))) (b.length) 0 ()) (fun r => some r) (fun (_ : Unit) => some true)
noncomputable def Yo (b : (List Int)) (a : Op) : Option (Bool) :=
 (if decide (a.Cost < 0) then (some true)
 else (if decide (1048576 < a.Cost) then (some true)
 else (if decide (64 < (a.Effs.length : Int)) then (some true)
 else (if decide (256 < (a.Name.size : Int)) then (some true)
 else ((Kv b a.Pre).bind <| fun (g : Bool) =>
 some (!g)))))).bind (fun (j : Bool) => if j then (some false)
 else ((must (decide ((a.Name.size : Int) ≤ 9223372036854775807))).bind fun m =>
 ctl (Js (R := (Bool)) (fun e => fun (_ : Unit) => ((Qz (bytesOf a.Name) (e : Int)).bind fun d =>
 if decide (d < 32) then (some true)
 else (some (decide (126 < d)))).bind (fun (k : Bool) => if k then (some (Ctl.ret false))
 else (some (Ctl.next ())))) ((a.Name.size : Int).toNat) 0 ()) (fun r => some r) (fun (_ : Unit) => ctl (Js (R := (Bool)) (fun f => fun (_ : Unit) => (Qz a.Effs (f : Int)).bind fun c =>
 ((Kv b c.When).bind <| fun (h : Bool) =>
 if !h then (some true)
 else ((Kv b [(⟨c.Var, c.Val⟩ : Fact)]).bind <| fun (i : Bool) =>
 some (!i))).bind (fun (l : Bool) => if l then (some (Ctl.ret false))
 else (some (Ctl.next ())))) (a.Effs.length) 0 ()) (fun r => some r) (fun (_ : Unit) => some true))))
noncomputable def Qbo (a : Task) : Option (Bool) :=
 if ((decide (64 < (a.Vars.length : Int))) || decide (4096 < (a.Ops.length : Int))) then (some false)
 else (ctl (Js (R := (Bool)) (fun c => fun (_ : Unit) => (Qz a.Vars (c : Int)).bind fun b =>
 if ((decide (b < 1)) || decide (64 < b)) then (some (Ctl.ret false))
 else (some (Ctl.next ()))) (a.Vars.length) 0 ()) (fun r => some r) (fun (_ : Unit) => ((YJ a.Vars a.Init).bind <| fun (f : Bool) =>
 if !f then (some true)
 else ((Kv a.Vars a.Goal).bind <| fun (g : Bool) =>
 some (!g))).bind (fun (i : Bool) => if i then (some false)
 else (ctl (Js (R := (Bool)) (fun d => fun (_ : Unit) => (Qz a.Ops (d : Int)).bind fun e =>
 (Yo a.Vars e).bind <| fun (h : Bool) =>
 if !h then (some (Ctl.ret false))
 else (some (Ctl.next ()))) (a.Ops.length) 0 ()) (fun r => some r) (fun (_ : Unit) => some true)))))
noncomputable def Y6 (c : (List Int)) (a : Int) : Option (Int) :=
 ctl (Js (R := (Int)) (fun e => fun (b : Int) => (Qz c (e : Int)).bind fun d =>
 if decide (a < (IntKind.i64.wrap (b * (min (max d 0) (IntKind.i64.wrap (a + 1)))))) then (some (Ctl.ret (IntKind.i64.wrap (a + 1))))
 else (some (Ctl.next (IntKind.i64.wrap (b * (min (max d 0) (IntKind.i64.wrap (a + 1)))))))) (c.length) 0 1) (fun r => some r) (fun (f : Int) => some f)
noncomputable def Qa5 (a : Task) : Option (Bool) :=
 if ((decide (12 < (a.Vars.length : Int))) || decide (20 < (a.Ops.length : Int))) then (some false)
 else (ctl (Js (R := (Bool)) (fun b => fun (_ : Unit) => (Qz a.Ops (b : Int)).bind fun c =>
 if decide (8 < (c.Effs.length : Int)) then (some (Ctl.ret false))
 else (some (Ctl.next ()))) (a.Ops.length) 0 ()) (fun r => some r) (fun (_ : Unit) => ((Qbo a).bind <| fun (d : Bool) =>
 if d then ((Y6 a.Vars 512).bind <| fun (e : Int) =>
 some (decide (e ≤ 512)))
 else (some false)).bind (fun (f : Bool) => some f)))
noncomputable def Qbn (a : Task) : Option (Bool) :=
 ((Qa5 a).bind <| fun (b : Bool) =>
 if b then (if decide (0 < (a.Vars.length : Int)) then ((Y6 a.Vars 100).bind <| fun (c : Int) =>
 if decide (c ≤ 100) then (some (decide ((a.Ops.length : Int) ≤ 8)))
 else (some false))
 else (some false))
 else (some false)).bind (fun (d : Bool) => some d)
noncomputable def YZ (c : (List Int)) (b : Int) : Option (Bool) :=
 if !decide ((c.length : Int) = b) then (some false)
 else ((must (decide (b ≤ 9223372036854775807))).bind fun h =>
 ctl (Js (R := (Bool)) (fun d => fun (_ : Unit) => (forS (fun e => fun (a : Int) => (Qz c (e : Int)).bind fun g =>
 (if decide ((d : Int) = g) then (some (IntKind.i64.wrap (a + 1)))
 else (some a)).bind (fun (f : Int) => some f)) (c.length) 0 0).bind (fun (a : Int) => if !decide (a = 1) then (some (Ctl.ret false))
 else (some (Ctl.next ())))) (b.toNat) 0 ()) (fun r => some r) (fun (_ : Unit) => some true))
noncomputable def Qas (c : Int) (b : Int) (a : Int) : Option (Int) :=
 some (max b (min c a))
def QN (c : Int) (b : Int) (a : Int) : Int :=
 (max b (min c a))
theorem Qbc (c : Int) (b : Int) (a : Int) : Qas c b a = some (QN c b a) := by
 unfold Qas QN
 (repeat' split) <;> rfl
attribute [irreducible] QN
noncomputable def KR (d : (List Int)) : Option ((List (List Int))) :=
 (forS (fun f => fun (a : (List (List Int))) => (Qz d (f : Int)).bind fun e =>
 (forS (fun g => fun (c : (List (List Int))) => (Qz a (g : Int)).bind fun l =>
 (must (decide (e ≤ 9223372036854775807))).bind fun m =>
 (forS (fun h => fun (b : (List (List Int))) => (app 8 [] l).bind fun i =>
 (app 8 i [(h : Int)]).bind fun j =>
 (app 24 b [j]).bind fun k =>
 some k) (e.toNat) 0 c).bind (fun (b : (List (List Int))) => some b)) (a.length) 0 []).bind (fun (c : (List (List Int))) => some c)) (d.length) 0 ([[]])).bind (fun (a : (List (List Int))) => some a)
noncomputable def YK (b : (List Fact)) (c : (List Int)) : Option (Bool) :=
 ctl (Js (R := (Bool)) (fun d => fun (_ : Unit) => (Qz b (d : Int)).bind fun a =>
 (if decide (a.Var < 0) then (some true)
 else (if decide ((c.length : Int) ≤ a.Var) then (some true)
 else ((Qz c a.Var).bind fun e =>
 some (!decide (e = a.Val))))).bind (fun (f : Bool) => if f then (some (Ctl.ret false))
 else (some (Ctl.next ())))) (b.length) 0 ()) (fun r => some r) (fun (_ : Unit) => some true)
noncomputable def Qa6 (e : Task) (d : (List Int)) (b : Int) : Option ((List Int) × Bool) :=
 (if decide (b < 0) then (some true)
 else (if decide ((e.Ops.length : Int) ≤ b) then (some true)
 else ((Qz e.Ops b).bind fun k =>
 (YK k.Pre d).bind <| fun (l : Bool) =>
 some (!l)))).bind (fun (n : Bool) => if n then (some ([], false))
 else ((app 8 [] d).bind fun h =>
 (Qz e.Ops b).bind fun f =>
 (forS (fun g => fun (a : (List Int)) => (Qz f.Effs (g : Int)).bind fun c =>
 (YK c.When d).bind <| fun (m : Bool) =>
 (if m then ((Qz a c.Var).bind fun o =>
 (JG a c.Var c.Val).bind fun i =>
 some i)
 else (some a)).bind (fun (j : (List Int)) => some j)) (f.Effs.length) 0 h).bind (fun (a : (List Int)) => some (a, true))))
noncomputable def Y8 (a : Edge) (b : Edge) : Option (Bool) :=
 if !decide (a.From = b.From) then (some (decide (a.From < b.From)))
 else (if !decide (a.Label = b.Label) then (some (decide (a.Label < b.Label)))
 else (some (decide (a.To < b.To))))
def J1 (a : Edge) (b : Edge) : Bool :=
 if !decide (a.From = b.From) then ((decide (a.From < b.From)))
 else (if !decide (a.Label = b.Label) then ((decide (a.Label < b.Label)))
 else ((decide (a.To < b.To))))
theorem QaX (a : Edge) (b : Edge) : Y8 a b = some (J1 a b) := by
 unfold Y8 J1
 (repeat' split) <;> rfl
attribute [irreducible] J1
noncomputable def K6 (a : (List Edge)) (c : Edge) : Option ((List Edge)) :=
 ctl (J8 (R := ((List Edge))) (fun (b : Int) => (if decide (0 < b) then ((Qz a (IntKind.i64.wrap (b - 1))).bind fun k =>
 some (!(J1 k c)))
 else (some false)).bind (fun (l : Bool) => if l then ((Qz a (IntKind.i64.wrap (b - 1))).bind fun d =>
 if eqs [d.From, d.Label, d.To] [c.From, c.Label, c.To] then (some (Ctl.ret a))
 else (some (Ctl.next (IntKind.i64.wrap (b - 1)))))
 else (some (Ctl.brk b)))) (a.length : Int)) (fun r => some r) (fun (e : Int) => (cut a 0 e).bind fun f =>
 (cut a e (a.length : Int)).bind fun g =>
 (app 24 [] f).bind fun h =>
 (app 24 h [c]).bind fun i =>
 (app 24 i g).bind fun j =>
 some j)
noncomputable def KW (a : Task) (b : Int) : Option (System) :=
 (Qz a.Vars b).bind fun e =>
 (Qz a.Init b).bind fun s =>
 (forS (fun m => fun (f : (List Int)) => (Qz a.Ops (m : Int)).bind fun t =>
 (app 8 f [t.Cost]).bind fun q =>
 some q) (a.Ops.length) 0 []).bind (fun (f : (List Int)) => (must (decide (e ≤ 9223372036854775807))).bind fun aa =>
 (forS (fun n => fun (g : (List Bool)) => (forS (fun o => fun (d : Bool) => (Qz a.Goal (o : Int)).bind fun j =>
 some (d && ((!decide (j.Var = b)) || decide (j.Val = (n : Int))))) (a.Goal.length) 0 true).bind (fun (d : Bool) => (app 1 g [d]).bind fun r =>
 some r)) (e.toNat) 0 []).bind (fun (g : (List Bool)) => (KR a.Vars).bind <| fun (l : (List (List Int))) =>
 (forS (fun p => fun (h : (List Edge)) => (Qz l (p : Int)).bind fun k =>
 (forS (fun i => fun (c : (List Edge)) => (Qa6 a k (i : Int)).bind <| QM fun (w : (List Int)) (x : Bool) =>
 (if x then ((Qz k b).bind fun u =>
 (Qz w b).bind fun v =>
 (K6 c (⟨u, (i : Int), v⟩ : Edge)).bind <| fun (y : (List Edge)) =>
 some y)
 else (some c)).bind (fun (z : (List Edge)) => some z)) (a.Ops.length) 0 h).bind (fun (c : (List Edge)) => some c)) (l.length) 0 []).bind (fun (h : (List Edge)) => some (⟨e, s, f, h, g⟩ : System))))
noncomputable def JV (b : System) (c : (List Int)) (f : Int) (e : Int) (g : Int) : Option (Bool) :=
 ctl (Js (R := (Bool)) (fun d => fun (_ : Unit) => (Qz b.Edges (d : Int)).bind fun a =>
 (if decide (a.From = f) then (if decide (a.Label = e) then ((Qz c a.To).bind fun h =>
 some (decide (h = g)))
 else (some false))
 else (some false)).bind (fun (i : Bool) => if i then (some (Ctl.ret true))
 else (some (Ctl.next ())))) (b.Edges.length) 0 ()) (fun r => some r) (fun (_ : Unit) => some false)
noncomputable def Yl (a : System) (c : (List Int)) (d : Int) (e : Int) : Option (Bool) :=
 (Qz a.Goals d).bind fun i =>
 (Qz a.Goals e).bind fun j =>
 if !(i == j) then (some false)
 else (ctl (Js (R := (Bool)) (fun h => fun (_ : Unit) => (Qz a.Edges (h : Int)).bind fun b =>
 (if decide (b.From = d) then ((Qz c b.To).bind fun f =>
 (JV a c d b.Label f).bind <| fun (k : Bool) =>
 (JV a c e b.Label f).bind <| fun (l : Bool) =>
 some (!(k == l)))
 else (if decide (b.From = e) then ((Qz c b.To).bind fun g =>
 (JV a c d b.Label g).bind <| fun (m : Bool) =>
 (JV a c e b.Label g).bind <| fun (n : Bool) =>
 some (!(m == n)))
 else (some false))).bind (fun (o : Bool) => if o then (some (Ctl.ret false))
 else (some (Ctl.next ())))) (a.Edges.length) 0 ()) (fun r => some r) (fun (_ : Unit) => some true))
noncomputable def Qaj (a : (List Int)) (b : (List Int)) : Option (Bool) :=
 if !decide ((a.length : Int) = (b.length : Int)) then (some false)
 else (ctl (Js (R := (Bool)) (fun c => fun (_ : Unit) => (Qz a (c : Int)).bind fun d =>
 (Qz b (c : Int)).bind fun e =>
 if !decide (d = e) then (some (Ctl.ret false))
 else (some (Ctl.next ()))) (a.length) 0 ()) (fun r => some r) (fun (_ : Unit) => some true))
noncomputable def JK (g : System) : Option ((List Int)) :=
 (mk 8 0 g.States).bind fun j =>
 ctl (J8 (R := ((List Int))) (fun (c : (List Int)) => (mk 8 0 g.States).bind fun h =>
 (forS (fun a => QM fun (e : Int) (d : (List Int)) => (Qz d (a : Int)).bind fun aa =>
 (JG d (a : Int) (-1)).bind fun k =>
 (must (decide ((a : Int) ≤ 9223372036854775807))).bind fun z =>
 (forS (fun f => fun (b : (List Int)) => ((Qz b (a : Int)).bind fun p =>
 if decide (p < 0) then ((Qz c (a : Int)).bind fun q =>
 (Qz c (f : Int)).bind fun s =>
 if decide (q = s) then ((Yl g c (a : Int) (f : Int)).bind <| fun (v : Bool) =>
 some v)
 else (some false))
 else (some false)).bind (fun (x : Bool) => (if x then ((Qz b (f : Int)).bind fun t =>
 (Qz b (a : Int)).bind fun ab =>
 (JG b (a : Int) t).bind fun l =>
 some l)
 else (some b)).bind (fun (m : (List Int)) => some m))) ((a : Int).toNat) 0 k).bind (fun (b : (List Int)) => (Qz b (a : Int)).bind fun u =>
 (if decide (u < 0) then ((JG b (a : Int) e).bind fun n =>
 some (IntKind.i64.wrap (e + 1), n))
 else (some (e, b))).bind (QM fun (i : Int) (o : (List Int)) => some (i, o)))) (h.length) 0 (0, h)).bind (QM fun (e : Int) (d : (List Int)) => (Qaj d c).bind <| fun (w : Bool) =>
 if w then (some (Ctl.ret c))
 else (some (Ctl.next d)))) j) (fun r => some r) (fun (y : (List Int)) => none)
noncomputable def JR (a : (List Int)) (d : Int) : Option (Int) :=
 if !decide ((a.length : Int) = d) then (some (-1))
 else (ctl (Js (R := (Int)) (fun f => fun (l : Int) => (Qz a (f : Int)).bind fun c =>
 if ((decide (c < 0)) || decide (d ≤ c)) then (some (Ctl.ret (-1)))
 else (some (Ctl.next (max l (IntKind.i64.wrap (c + 1)))))) (a.length) 0 0) (fun r => some r) (fun (b : Int) => (must (decide (b ≤ 9223372036854775807))).bind fun n =>
 ctl (Js (R := (Int)) (fun g => fun (_ : Unit) => ctl (Js (R := (Int)) (fun h => fun (j : Bool) => (Qz a (h : Int)).bind fun e =>
 if decide (e < 0) then (some (Ctl.ret (-1)))
 else (some (Ctl.next (j || decide (e = (g : Int)))))) (a.length) 0 false) (fun r => some (Ctl.ret r)) (fun (k : Bool) => if !k then (some (Ctl.ret (-1)))
 else (some (Ctl.next ())))) (b.toNat) 0 ()) (fun r => some r) (fun (_ : Unit) => ctl (Js (R := (Int)) (fun i => fun (_ : Unit) => (Qz a (i : Int)).bind fun m =>
 if decide (m < 0) then (some (Ctl.ret (-1)))
 else (some (Ctl.next ()))) (a.length) 0 ()) (fun r => some r) (fun (_ : Unit) => some b))))
noncomputable def K5 (d : System) (a : (List Int)) (c : Int) : Option (Bool) :=
 ctl (Js (R := (Bool)) (fun b => fun (_ : Unit) => ((Qz a (b : Int)).bind fun e =>
 if decide (e = c) then ((Qz d.Goals (b : Int)).bind fun f =>
 some f)
 else (some false)).bind (fun (g : Bool) => if g then (some (Ctl.ret true))
 else (some (Ctl.next ())))) (a.length) 0 ()) (fun r => some r) (fun (_ : Unit) => some false)
noncomputable def Qaa (f : System) (u : Int) : Option ((List Int)) :=
 (JK f).bind <| fun (m : (List Int)) =>
 (JR m f.States).bind <| fun (w : Int) =>
 ctl (J8 (R := ((List Int))) (QM fun (b : Int) (c : (List Int)) => if decide ((QN u 1 4096) < b) then ((must (decide (b ≤ 9223372036854775807))).bind fun aa =>
 (forS (fun e => QM fun (d : Int) (i : Int) => (must (decide ((e : Int) ≤ 9223372036854775807))).bind fun ab =>
 (forS (fun l => QM fun (g : Int) (j : Int) => (K5 f c (l : Int)).bind <| fun (x : Bool) =>
 (K5 f c (e : Int)).bind <| fun (y : Bool) =>
 (if (x == y) then (some ((e : Int), (l : Int)))
 else (some (g, j))).bind (QM fun (n : Int) (v : Int) => some (n, v))) ((e : Int).toNat) 0 (d, i)).bind (QM fun (g : Int) (j : Int) => some (g, j))) (b.toNat) 0 (1, 0)).bind (QM fun (d : Int) (i : Int) => (forS (fun h => fun (a : (List Int)) => (Qz a (h : Int)).bind fun k =>
 (if decide (k = d) then ((JG a (h : Int) i).bind fun o =>
 some o)
 else ((if decide (d < k) then ((JG a (h : Int) (IntKind.i64.wrap (k - 1))).bind fun p =>
 some p)
 else (some a)).bind (fun (q : (List Int)) => some q))).bind (fun (s : (List Int)) => some s)) (c.length) 0 c).bind (fun (a : (List Int)) => some (Ctl.next (IntKind.i64.wrap (b - 1), a)))))
 else (some (Ctl.brk (b, c)))) (w, m)) (fun r => some r) (QM fun (z : Int) (t : (List Int)) => some t)
noncomputable def KP (a : System) : Option (Bool) :=
 if ((decide (a.States < 1)) || ((decide (4096 < a.States)) || ((decide (a.Init < 0)) || ((decide (a.States ≤ a.Init)) || ((!decide ((a.Goals.length : Int) = a.States)) || ((decide (4096 < (a.Costs.length : Int))) || decide (65536 < (a.Edges.length : Int)))))))) then (some false)
 else (ctl (Js (R := (Bool)) (fun e => fun (_ : Unit) => (Qz a.Costs (e : Int)).bind fun d =>
 if ((decide (d < 0)) || decide (1048576 < d)) then (some (Ctl.ret false))
 else (some (Ctl.next ()))) (a.Costs.length) 0 ()) (fun r => some r) (fun (_ : Unit) => ctl (Js (R := (Bool)) (fun c => fun (_ : Unit) => (Qz a.Edges (c : Int)).bind fun b =>
 (if decide (b.From < 0) then (some true)
 else (if decide (a.States ≤ b.From) then (some true)
 else (if decide (b.To < 0) then (some true)
 else (if decide (a.States ≤ b.To) then (some true)
 else (if decide (b.Label < 0) then (some true)
 else (if decide ((a.Costs.length : Int) ≤ b.Label) then (some true)
 else (if decide (0 < (c : Int)) then ((Qz a.Edges (IntKind.i64.wrap ((c : Int) - 1))).bind fun f =>
 some (!(J1 f b)))
 else (some false)))))))).bind (fun (g : Bool) => if g then (some (Ctl.ret false))
 else (some (Ctl.next ())))) (a.Edges.length) 0 ()) (fun r => some r) (fun (_ : Unit) => some true)))
noncomputable def K8 (a : System) (b : (List Int)) : Option (Bool × System) :=
 (JR b a.States).bind <| fun (f : Int) =>
 ((KP a).bind <| fun (t : Bool) =>
 if !t then (some true)
 else (some (decide (f < 0)))).bind (fun (v : Bool) => if v then (some (false, (⟨0, 0, [], [], []⟩ : System)))
 else ((Qz b a.Init).bind fun o =>
 (app 8 [] a.Costs).bind fun j =>
 (mk 1 false f).bind fun k =>
 (forS (fun h => fun (c : (List Bool)) => (Qz a.Goals (h : Int)).bind fun p =>
 ((Qz b (h : Int)).bind fun d =>
 (Qz c d).bind fun q =>
 if q then ((JG c d true).bind fun l =>
 some l)
 else ((JG c d p).bind fun m =>
 some m)).bind (fun (n : (List Bool)) => some n)) (a.Goals.length) 0 k).bind (fun (c : (List Bool)) => (forS (fun i => fun (g : (List Edge)) => (Qz a.Edges (i : Int)).bind fun e =>
 (Qz b e.From).bind fun r =>
 (Qz b e.To).bind fun s =>
 (K6 g (⟨r, e.Label, s⟩ : Edge)).bind <| fun (u : (List Edge)) =>
 some u) (a.Edges.length) 0 []).bind (fun (g : (List Edge)) => some (true, (⟨f, o, j, g, c⟩ : System))))))
noncomputable def JQ (a : System) (c : Int) : Option ((List Int) × Bool × System) :=
 if decide (a.States ≤ c) then ((must (decide (a.States ≤ 9223372036854775807))).bind fun j =>
 (forS (fun f => fun (b : (List Int)) => (app 8 b [(f : Int)]).bind fun g =>
 some g) (a.States.toNat) 0 []).bind (fun (b : (List Int)) => some (b, true, a)))
 else ((Qaa a c).bind <| fun (d : (List Int)) =>
 (K8 a d).bind <| QM fun (k : Bool) (e : System) =>
 (JK a).bind <| fun (h : (List Int)) =>
 (JR h a.States).bind <| fun (i : Int) =>
 some (d, decide (e.States = i), e))
noncomputable def Qcf (a : (List Int)) (b : (List Int)) : Option (Bool) :=
 if !decide ((a.length : Int) = (b.length : Int)) then (some false)
 else (ctl (Js (R := (Bool)) (fun c => fun (_ : Unit) => (Qz a (c : Int)).bind fun d =>
 (Qz b (c : Int)).bind fun e =>
 if !decide (d = e) then (some (Ctl.ret false))
 else (some (Ctl.next ()))) (a.length) 0 ()) (fun r => some r) (fun (_ : Unit) => some true))
noncomputable def KF (b : System) (a : System) : Option (Int × System) :=
 ((KP b).bind <| fun (s : Bool) =>
 if !s then (some true)
 else ((KP a).bind <| fun (t : Bool) =>
 if !t then (some true)
 else ((Qcf b.Costs a.Costs).bind <| fun (u : Bool) =>
 some (!u)))).bind (fun (w : Bool) => if w then (some (2, (⟨0, 0, [], [], []⟩ : System)))
 else (if decide (4096 < (IntKind.i64.wrap (b.States * a.States))) then (some (5, (⟨0, 0, [], [], []⟩ : System)))
 else ((app 8 [] b.Costs).bind fun m =>
 (forS (fun i => fun (h : (List Bool)) => (forS (fun j => fun (c : (List Bool)) => ((Qz b.Goals (i : Int)).bind fun q =>
 if q then ((Qz a.Goals (j : Int)).bind fun r =>
 (app 1 c [r]).bind fun n =>
 some n)
 else ((app 1 c [false]).bind fun o =>
 some o)).bind (fun (p : (List Bool)) => some p)) (a.Goals.length) 0 h).bind (fun (c : (List Bool)) => some c)) (b.Goals.length) 0 []).bind (fun (h : (List Bool)) => (forS (fun k => fun (e : (List Edge)) => (Qz b.Edges (k : Int)).bind fun d =>
 (forS (fun l => fun (f : (List Edge)) => (Qz a.Edges (l : Int)).bind fun g =>
 (if decide (d.Label = g.Label) then ((K6 f (⟨IntKind.i64.wrap ((IntKind.i64.wrap (d.From * a.States)) + g.From), d.Label, IntKind.i64.wrap ((IntKind.i64.wrap (d.To * a.States)) + g.To)⟩ : Edge)).bind <| fun (v : (List Edge)) =>
 some v)
 else (some f)).bind (fun (x : (List Edge)) => some x)) (a.Edges.length) 0 e).bind (fun (f : (List Edge)) => some f)) (b.Edges.length) 0 []).bind (fun (e : (List Edge)) => if decide (65536 < (e.length : Int)) then (some (5, (⟨0, 0, [], [], []⟩ : System)))
 else (some (0, (⟨IntKind.i64.wrap (b.States * a.States), IntKind.i64.wrap ((IntKind.i64.wrap (b.Init * a.States)) + a.Init), m, e, h⟩ : System))))))))
structure ref46_Abstraction where
 System : System
 To : (List Int)
 Exact : Bool
noncomputable def Yt (v : Task) (u : (List Int)) (d : Int) : Option (ref46_Abstraction) :=
 ctl (J8 (R := (ref46_Abstraction)) (fun (g : Int) => if decide ((IntKind.i64.wrap ((IntKind.i64.wrap (g + 1)) * (IntKind.i64.wrap (g + 1)))) ≤ (QN d 1 4096)) then (some (Ctl.next (IntKind.i64.wrap (g + 1))))
 else (some (Ctl.brk g))) 1) (fun r => some r) (fun (h : Int) => (KR v.Vars).bind <| fun (i : (List (List Int))) =>
 (forS (fun k => un7 fun (a : Int) (o : Int) (p : (List Int)) (q : (List Edge)) (s : (List Bool)) (j : (List Int)) (t : Bool) => (Qz u (k : Int)).bind fun n =>
 (KW v n).bind <| fun (b : System) =>
 (if decide (0 < (k : Int)) then ((if decide ((QN d 1 4096) < (IntKind.i64.wrap (a * b.States))) then ((if decide (a ≤ h) then ((must (!decide (a = 0))).bind fun ay =>
 some (a, IntKind.i64.wrap ((QN d 1 4096).tdiv a)))
 else ((if decide (b.States ≤ h) then ((must (!decide (b.States = 0))).bind fun az =>
 some (IntKind.i64.wrap ((QN d 1 4096).tdiv b.States), b.States))
 else (some (h, h))).bind (QM fun (z : Int) (af : Int) => some (z, af)))).bind (QM fun (aa : Int) (ag : Int) => some (aa, ag)))
 else (some (a, b.States))).bind (QM fun (ab : Int) (ah : Int) => some (ab, ah)))
 else (some ((QN d 1 4096), (QN d 1 4096)))).bind (QM fun (ac : Int) (ai : Int) => (JQ b ai).bind <| un3 fun (w : (List Int)) (ar : Bool) (c : System) =>
 (if t then (some ar)
 else (some false)).bind (fun (x : Bool) => if decide ((k : Int) = 0) then ((forS (fun y => fun (m : (List Int)) => (Qz i (y : Int)).bind fun aj =>
 (Qz aj n).bind fun ak =>
 (Qz w ak).bind fun al =>
 (app 8 m [al]).bind fun ad =>
 some ad) (i.length) 0 j).bind (fun (m : (List Int)) => some (c.States, c.Init, c.Costs, c.Edges, c.Goals, m, x)))
 else ((JQ (⟨a, o, p, q, s⟩ : System) ac).bind <| un3 fun (au : (List Int)) (av : Bool) (aw : System) =>
 (if x then (some av)
 else (some false)).bind (fun (ax : Bool) => (KF aw c).bind <| QM fun (a0 : Int) (e : System) =>
 (forS (fun l => fun (f : (List Int)) => (Qz i (l : Int)).bind fun am =>
 (Qz f (l : Int)).bind fun an =>
 (Qz au an).bind fun ao =>
 (Qz am n).bind fun ap =>
 (Qz w ap).bind fun aq =>
 (JG f (l : Int) (IntKind.i64.wrap ((IntKind.i64.wrap (ao * c.States)) + aq))).bind fun ae =>
 some ae) (i.length) 0 j).bind (fun (f : (List Int)) => some (e.States, e.Init, e.Costs, e.Edges, e.Goals, f, ax))))))) (u.length) 0 (0, 0, [], [], [], [], true)).bind (un7 fun (a : Int) (o : Int) (p : (List Int)) (q : (List Edge)) (s : (List Bool)) (j : (List Int)) (t : Bool) => some (⟨(⟨a, o, p, q, s⟩ : System), j, t⟩ : ref46_Abstraction)))
noncomputable def KL (c : System) : Option ((List Int)) :=
 (forS (fun k => fun (e : (List Int)) => (Qz c.Goals (k : Int)).bind fun q =>
 (if q then (some 0)
 else (some 1125899906842624)).bind (fun (j : Int) => (app 8 e [j]).bind fun m =>
 some m)) (c.Goals.length) 0 []).bind (fun (e : (List Int)) => ctl (J8 (R := ((List Int))) (QM fun (f : Bool) (g : (List Int)) => if f then ((forS (fun l => QM fun (d : Bool) (a : (List Int)) => (Qz c.Edges (l : Int)).bind fun b =>
 ((Qz a b.To).bind fun h =>
 if decide (h < 1125899906842624) then ((Qz c.Costs b.Label).bind fun s =>
 (Qz a b.From).bind fun t =>
 some (decide ((IntKind.i64.wrap (h + s)) < t)))
 else (some false)).bind (fun (w : Bool) => (if w then ((Qz a b.To).bind fun u =>
 (Qz c.Costs b.Label).bind fun v =>
 (Qz a b.From).bind fun y =>
 (JG a b.From (IntKind.i64.wrap (u + v))).bind fun n =>
 some (true, n))
 else (some (d, a))).bind (QM fun (i : Bool) (o : (List Int)) => some (i, o)))) (c.Edges.length) 0 (false, g)).bind (QM fun (d : Bool) (a : (List Int)) => some (Ctl.next (d, a))))
 else (some (Ctl.brk (f, g)))) (true, e)) (fun r => some r) (QM fun (x : Bool) (p : (List Int)) => some p))
noncomputable def JW (t1 : Task) (order10 : (List Int)) (most13 : Int) : Option (Bool) :=
 ((Yu).bind <| fun (j : Bool) =>
 if !j then (some true)
 else ((Qbn t1).bind <| fun (k : Bool) =>
 if !k then (some true)
 else ((YZ order10 (t1.Vars.length : Int)).bind <| fun (l : Bool) =>
 some (!l)))).bind (fun (p : Bool) => if p then ((Yu).bind <| fun (m : Bool) =>
 some m)
 else ((QR t1 order10 most13).bind <| QM fun (f : (Option mergeshrink_Abstraction)) (d : (Option Int)) =>
 QhT f ((must d.isSome).bind fun s =>
 (Yt t1 order10 most13).bind <| fun (u : ref46_Abstraction) =>
 some false) (fun b => (must d.isNone).bind fun t =>
 (Yt t1 order10 most13).bind <| fun (a : ref46_Abstraction) =>
 (if !decide ((QE b) = a.System.States) then (some true)
 else (some (!((QI b) == a.Exact)))).bind (fun (q : Bool) => if q then (some false)
 else ((KL a.System).bind <| fun (n : (List Int)) =>
 (KR t1.Vars).bind <| fun (e : (List (List Int))) =>
 ctl (Js (R := (Bool)) (fun c => fun (_ : Unit) => (Qz e (c : Int)).bind fun g =>
 (Qz a.To (c : Int)).bind fun h =>
 (Qz n h).bind fun i =>
 (Q0 b g).bind <| fun (o : Int) =>
 if !decide (o = i) then (some (Ctl.ret false))
 else (some (Ctl.next ()))) (e.length) 0 ()) (fun r => some r) (fun (_ : Unit) => some true))))))
end Go.Pw
