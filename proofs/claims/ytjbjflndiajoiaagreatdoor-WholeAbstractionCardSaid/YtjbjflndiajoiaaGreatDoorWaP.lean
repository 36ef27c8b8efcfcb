/- -/
import Derived.Test.YtjbjflndiajoiaaGreatDoorLB
import Derived.Test.YtjbjflndiajoiaaGreatDoorLC
import Derived.Test.YtjbjflndiajoiaaGreatDoorLE
set_option maxRecDepth 100000
set_option maxHeartbeats 4000000
set_option linter.unusedVariables false
namespace Go.Pw
structure Fact where
 Var : Int
 Val : Int
def encFact : Enc Fact := Enc.iso ((U .i64).pair (U .i64)) (fun b => (b.Var, b.Val))
theorem JH {s : PHeap} {v : Value} {b : Fact} : encFact.val s v b ↔ v = .agg #[.int .i64 (b.Var), .int .i64 (b.Val)] := by
 simp only [Enc.iso, Enc.pair, Enc.val, encFact, U, if_true, K1]
 constructor
 ·rintro ⟨cs, rfl, h⟩
  obtain ⟨cs⟩ := cs
  simp only [] at h
  obtain ⟨_, _, rfl, rfl, rfl⟩ := h
  rfl
 ·rintro rfl
  exact ⟨_, Z, ⟨[.int .i64 (b.Var)], [.int .i64 (b.Val)], Z, Z, Z⟩⟩
structure Effect where
 When : (List Fact)
 Var : Int
 Val : Int
def encEffect : Enc Effect := Enc.iso ((Qm encFact).pair ((U .i64).pair (U .i64))) (fun b => (b.When, b.Var, b.Val))
theorem KG {s : PHeap} {v : Value} {b : Effect} : encEffect.val s v b ↔ ∃ u1, v = .agg #[u1, .int .i64 (b.Var), .int .i64 (b.Val)] ∧ SliceRep encFact s u1 (b.When) := by
 simp only [Enc.iso, Enc.pair, Enc.val, encEffect, U, Qm, if_true, K1]
 constructor
 ·rintro ⟨cs, rfl, h⟩
  obtain ⟨cs⟩ := cs
  simp only [] at h
  obtain ⟨_, _, rfl, ⟨w1, rfl, h1⟩, ⟨_, _, rfl, rfl, rfl⟩⟩ := h
  exact ⟨w1, Z, h1⟩
 ·rintro ⟨w1, rfl, h1⟩
  exact ⟨_, Z, ⟨[w1], [.int .i64 (b.Var), .int .i64 (b.Val)], Z, ⟨w1, Z, h1⟩, ⟨[.int .i64 (b.Var)], [.int .i64 (b.Val)], Z, Z, Z⟩⟩⟩
structure Op where
 Name : ByteArray
 Cost : Int
 Pre : (List Fact)
 Effs : (List Effect)
def encOp : Enc Op := Enc.iso (encStr.pair ((U .i64).pair ((Qm encFact).pair (Qm encEffect)))) (fun b => (b.Name, b.Cost, b.Pre, b.Effs))
theorem KX {s : PHeap} {v : Value} {b : Op} : encOp.val s v b ↔ ∃ u1, ∃ u2, v = .agg #[.string (b.Name), .int .i64 (b.Cost), u1, u2] ∧ SliceRep encFact s u1 (b.Pre) ∧ SliceRep encEffect s u2 (b.Effs) := by
 simp only [Enc.iso, Enc.pair, Enc.val, U, encOp, Qm, encStr, if_true, K1]
 constructor
 ·rintro ⟨cs, rfl, h⟩
  obtain ⟨cs⟩ := cs
  simp only [] at h
  obtain ⟨_, _, rfl, rfl, ⟨_, _, rfl, rfl, ⟨_, _, rfl, ⟨w1, rfl, h1⟩, ⟨w2, rfl, h2⟩⟩⟩⟩ := h
  exact ⟨w1, w2, Z, h1, h2⟩
 ·rintro ⟨w1, w2, rfl, h1, h2⟩
  exact ⟨_, Z, ⟨[.string (b.Name)], [.int .i64 (b.Cost), w1, w2], Z, Z, ⟨[.int .i64 (b.Cost)], [w1, w2], Z, Z, ⟨[w1], [w2], Z, ⟨w1, Z, h1⟩, ⟨w2, Z, h2⟩⟩⟩⟩⟩
structure Task where
 Vars : (List Int)
 Init : (List Int)
 Goal : (List Fact)
 Ops : (List Op)
def encTask : Enc Task := Enc.iso ((Qm (U .i64)).pair ((Qm (U .i64)).pair ((Qm encFact).pair (Qm encOp)))) (fun b => (b.Vars, b.Init, b.Goal, b.Ops))
theorem QkB {s : PHeap} {v : Value} {b : Task} : encTask.val s v b ↔ ∃ u1, ∃ u2, ∃ u3, ∃ u4, v = .agg #[u1, u2, u3, u4] ∧ SliceRep (U .i64) s u1 (b.Vars) ∧ SliceRep (U .i64) s u2 (b.Init) ∧ SliceRep encFact s u3 (b.Goal) ∧ SliceRep encOp s u4 (b.Ops) := by
 simp only [Enc.iso, Enc.pair, Enc.val, Qm, encTask, if_true]
 constructor
 ·rintro ⟨cs, rfl, h⟩
  obtain ⟨cs⟩ := cs
  simp only [] at h
  obtain ⟨_, _, rfl, ⟨w1, rfl, h1⟩, ⟨_, _, rfl, ⟨w2, rfl, h2⟩, ⟨_, _, rfl, ⟨w3, rfl, h3⟩, ⟨w4, rfl, h4⟩⟩⟩⟩ := h
  exact ⟨w1, w2, w3, w4, Z, h1, h2, h3, h4⟩
 ·rintro ⟨w1, w2, w3, w4, rfl, h1, h2, h3, h4⟩
  exact ⟨_, Z, ⟨[w1], [w2, w3, w4], Z, ⟨w1, Z, h1⟩, ⟨[w2], [w3, w4], Z, ⟨w2, Z, h2⟩, ⟨[w3], [w4], Z, ⟨w3, Z, h3⟩, ⟨w4, Z, h4⟩⟩⟩⟩⟩
noncomputable def Qas (c : (List Int)) (a : (List Int)) : Option (Bool) :=
 if !decide ((a.length : Int) = (c.length : Int)) then (some false)
 else (ctl (Jf (R := (Bool)) (fun b => fun (_ : Unit) => ((Q9 a (b : Int)).bind fun d =>
 if decide (d < 0) then (some true)
 else ((Q9 c (b : Int)).bind fun e =>
 some (decide (e ≤ d)))).bind (fun (f : Bool) => if f then (some (Ctl.ret false))
 else (some (Ctl.next ())))) (a.length) 0 ()) (fun r => some r) (fun (_ : Unit) => some true))
noncomputable def KI (d : (List Int)) (b : (List Fact)) : Option (Bool) :=
 ctl (Jf (R := (Bool)) (fun c => fun (_ : Unit) => (Q9 b (c : Int)).bind fun a =>
 (if decide (a.Var < 0) then (some true)
 else (if decide ((d.length : Int) ≤ a.Var) then (some true)
 else (if decide (a.Val < 0) then (some true)
 else ((Q9 d a.Var).bind fun e =>
 if decide (e ≤ a.Val) then (some true)
 else (if decide (0 < (c : Int)) then ((Q9 b (IntKind.i64.wrap ((c : Int) - 1))).bind fun f =>
 some (decide (a.Var ≤ f.Var)))
 else (some false)))))).bind (fun (g : Bool) => if g then (some (Ctl.ret false))
 else (some (Ctl.next ())))) (b.length) 0 ()) (fun r => some r) (fun (_ : Unit) => some true)
noncomputable def YQ (b : (List Int)) (a : Op) : Option (Bool) :=
 (if decide (a.Cost < 0) then (some true)
 else (if decide (1048576 < a.Cost) then (some true)
 else (if decide (64 < (a.Effs.length : Int)) then (some true)
 else (if decide (256 < (a.Name.size : Int)) then (some true)
 else ((KI b a.Pre).bind <| fun (g : Bool) =>
 some (!g)))))).bind (fun (j : Bool) => if j then (some false)
 else ((must (decide ((a.Name.size : Int) ≤ 9223372036854775807))).bind fun m =>
 ctl (Jf (R := (Bool)) (fun e => fun (_ : Unit) => ((Q9 (bytesOf a.Name) (e : Int)).bind fun d =>
 if decide (d < 32) then (some true)
 else (some (decide (126 < d)))).bind (fun (k : Bool) => if k then (some (Ctl.ret false))
 else (some (Ctl.next ())))) ((a.Name.size : Int).toNat) 0 ()) (fun r => some r) (fun (_ : Unit) => ctl (Jf (R := (Bool)) (fun f => fun (_ : Unit) => (Q9 a.Effs (f : Int)).bind fun c =>
 ((KI b c.When).bind <| fun (h : Bool) =>
 if !h then (some true)
 else ((KI b [(⟨c.Var, c.Val⟩ : Fact)]).bind <| fun (i : Bool) =>
 some (!i))).bind (fun (l : Bool) => if l then (some (Ctl.ret false))
 else (some (Ctl.next ())))) (a.Effs.length) 0 ()) (fun r => some r) (fun (_ : Unit) => some true))))
noncomputable def Qcc (a : Task) : Option (Bool) :=
 if ((decide (64 < (a.Vars.length : Int))) || decide (4096 < (a.Ops.length : Int))) then (some false)
 else (ctl (Jf (R := (Bool)) (fun c => fun (_ : Unit) => (Q9 a.Vars (c : Int)).bind fun b =>
 if ((decide (b < 1)) || decide (64 < b)) then (some (Ctl.ret false))
 else (some (Ctl.next ()))) (a.Vars.length) 0 ()) (fun r => some r) (fun (_ : Unit) => ((Qas a.Vars a.Init).bind <| fun (f : Bool) =>
 if !f then (some true)
 else ((KI a.Vars a.Goal).bind <| fun (g : Bool) =>
 some (!g))).bind (fun (i : Bool) => if i then (some false)
 else (ctl (Jf (R := (Bool)) (fun d => fun (_ : Unit) => (Q9 a.Ops (d : Int)).bind fun e =>
 (YQ a.Vars e).bind <| fun (h : Bool) =>
 if !h then (some (Ctl.ret false))
 else (some (Ctl.next ()))) (a.Ops.length) 0 ()) (fun r => some r) (fun (_ : Unit) => some true)))))
noncomputable def Qcb (c : (List Int)) (a : Int) : Option (Int) :=
 ctl (Jf (R := (Int)) (fun e => fun (b : Int) => (Q9 c (e : Int)).bind fun d =>
 if decide (a < (IntKind.i64.wrap (b * (min (max d 0) (IntKind.i64.wrap (a + 1)))))) then (some (Ctl.ret (IntKind.i64.wrap (a + 1))))
 else (some (Ctl.next (IntKind.i64.wrap (b * (min (max d 0) (IntKind.i64.wrap (a + 1)))))))) (c.length) 0 1) (fun r => some r) (fun (f : Int) => some f)
noncomputable def Qbo (t39 : Task) : Option (Bool) :=
 if ((decide (12 < (t39.Vars.length : Int))) || decide (20 < (t39.Ops.length : Int))) then (some false)
 else (ctl (Jf (R := (Bool)) (fun a => fun (_ : Unit) => (Q9 t39.Ops (a : Int)).bind fun b =>
 if decide (8 < (b.Effs.length : Int)) then (some (Ctl.ret false))
 else (some (Ctl.next ()))) (t39.Ops.length) 0 ()) (fun r => some r) (fun (_ : Unit) => ((Qcc t39).bind <| fun (c : Bool) =>
 if c then ((Qcb t39.Vars 512).bind <| fun (d : Int) =>
 some (decide (d ≤ 512)))
 else (some false)).bind (fun (e : Bool) => some e)))
noncomputable def QbZ (t22 : Task) : Option (Bool) :=
 (Qbo t22).bind <| fun (j : Bool) =>
 if !j then (some false)
 else (ctl (Jf (R := (Bool)) (fun e => fun (_ : Unit) => (Q9 t22.Vars (e : Int)).bind fun b =>
 if ((decide (b < 2)) || decide (4 < b)) then (some (Ctl.ret false))
 else (some (Ctl.next ()))) (t22.Vars.length) 0 ()) (fun r => some r) (fun (_ : Unit) => ctl (Jf (R := (Bool)) (fun f => fun (_ : Unit) => (Q9 t22.Ops (f : Int)).bind fun c =>
 ctl (Jf (R := (Bool)) (fun g => fun (a : Int) => (Q9 c.Effs (g : Int)).bind fun d =>
 if decide (2 < (d.When.length : Int)) then (some (Ctl.ret false))
 else ((if decide (0 < (d.When.length : Int)) then (some (IntKind.i64.wrap (a + 1)))
 else (some a)).bind (fun (h : Int) => some (Ctl.next h)))) (c.Effs.length) 0 0) (fun r => some (Ctl.ret r)) (fun (i : Int) => if decide (3 < i) then (some (Ctl.ret false))
 else (some (Ctl.next ())))) (t22.Ops.length) 0 ()) (fun r => some r) (fun (_ : Unit) => some true)))
noncomputable def K3 (c : Task) : Option ((List (List Fact))) :=
 (forS (fun e => fun (b : (List (List Fact))) => (Q9 c.Ops (e : Int)).bind fun d =>
 (app 24 b [d.Pre]).bind fun g =>
 (forS (fun f => fun (a : (List (List Fact))) => (Q9 d.Effs (f : Int)).bind fun i =>
 (app 24 a [i.When]).bind fun h =>
 some h) (d.Effs.length) 0 g).bind (fun (a : (List (List Fact))) => some a)) (c.Ops.length) 0 [c.Goal]).bind (fun (b : (List (List Fact))) => some b)
noncomputable def YF (a : (List Fact)) : Option (Bool) :=
 some (decide (64 < (a.length : Int)))
def YE (a : (List Fact)) : Bool :=
 (decide (64 < (a.length : Int)))
theorem Qdc (a : (List Fact)) : YF a = some (YE a) := by
 unfold YF YE
 (repeat' split) <;> rfl
attribute [irreducible] YE
noncomputable def KO (b : (List (List Fact))) : Option (Int) :=
 ctl (Jf (R := (Int)) (fun a => fun (_ : Unit) => (Q9 b (a : Int)).bind fun c =>
 if (YE c) then (some (Ctl.ret (a : Int)))
 else (some (Ctl.next ()))) (b.length) 0 ()) (fun r => some r) (fun (_ : Unit) => some (-1))
noncomputable def YS (a : (List (List Fact))) : Option (Bool) :=
 (KO a).bind <| fun (b : Int) =>
 some (decide (0 ≤ b))
noncomputable def Qbm (a : Task) : Option (Bool) :=
 if ((decide (64 < (a.Vars.length : Int))) || decide (4096 < (a.Ops.length : Int))) then (some true)
 else (ctl (Jf (R := (Bool)) (fun b => fun (_ : Unit) => (Q9 a.Ops (b : Int)).bind fun c =>
 if decide (64 < (c.Effs.length : Int)) then (some (Ctl.ret true))
 else (some (Ctl.next ()))) (a.Ops.length) 0 ()) (fun r => some r) (fun (_ : Unit) => (K3 a).bind <| fun (d : (List (List Fact))) =>
 (YS d).bind <| fun (e : Bool) =>
 some e))
noncomputable def Qa8 (c : (List Int)) (a : (List Int)) : Option (Bool) :=
 if !decide ((a.length : Int) = (c.length : Int)) then (some false)
 else (ctl (Jf (R := (Bool)) (fun b => fun (_ : Unit) => (Q9 a (b : Int)).bind fun d =>
 (if decide (d < 0) then (some true)
 else ((Q9 c (b : Int)).bind fun e =>
 some (decide (e ≤ d)))).bind (fun (f : Bool) => if f then (some (Ctl.ret false))
 else (some (Ctl.next ())))) (a.length) 0 ()) (fun r => some r) (fun (_ : Unit) => some true))
noncomputable def KB (c : (List Int)) (b : (List Fact)) : Option (Bool) :=
 ctl (Jf (R := (Bool)) (fun d => fun (e : Int) => (Q9 b (d : Int)).bind fun a =>
 (if decide (a.Var ≤ e) then (some true)
 else (if decide ((c.length : Int) ≤ a.Var) then (some true)
 else (if decide (a.Val < 0) then (some true)
 else ((Q9 c a.Var).bind fun f =>
 some (decide (f ≤ a.Val)))))).bind (fun (g : Bool) => if g then (some (Ctl.ret false))
 else (some (Ctl.next a.Var)))) (b.length) 0 (-1)) (fun r => some r) (fun (h : Int) => some true)
noncomputable def Qbl (a : ByteArray) : Option (Bool) :=
 (must (decide ((a.size : Int) ≤ 9223372036854775807))).bind fun e =>
 ctl (Jf (R := (Bool)) (fun c => fun (_ : Unit) => ((Q9 (bytesOf a) (c : Int)).bind fun b =>
 if decide (b < 32) then (some true)
 else (some (decide (126 < b)))).bind (fun (d : Bool) => if d then (some (Ctl.ret false))
 else (some (Ctl.next ())))) ((a.size : Int).toNat) 0 ()) (fun r => some r) (fun (_ : Unit) => some (decide ((a.size : Int) ≤ 256)))
noncomputable def Kr (a : Task) : Option ((Option Int)) :=
 (Qbm a).bind <| fun (o : Bool) =>
 if o then (some (some 5))
 else (ctl (Jf (R := ((Option Int))) (fun g => fun (_ : Unit) => (Q9 a.Vars (g : Int)).bind fun b =>
 if ((decide (b < 1)) || decide (64 < b)) then (some (Ctl.ret (some 1)))
 else (some (Ctl.next ()))) (a.Vars.length) 0 ()) (fun r => some r) (fun (_ : Unit) => ctl (Jf (R := ((Option Int))) (fun h => fun (_ : Unit) => (Q9 a.Ops (h : Int)).bind fun c =>
 if ((decide (c.Cost < 0)) || decide (1048576 < c.Cost)) then (some (Ctl.ret (some 1)))
 else (some (Ctl.next ()))) (a.Ops.length) 0 ()) (fun r => some r) (fun (_ : Unit) => (Qa8 a.Vars a.Init).bind <| fun (p : Bool) =>
 if !p then (some (some 2))
 else ((K3 a).bind <| fun (f : (List (List Fact))) =>
 ctl (Jf (R := ((Option Int))) (fun i => fun (_ : Unit) => (Q9 f (i : Int)).bind fun m =>
 (KB a.Vars m).bind <| fun (q : Bool) =>
 if !q then (some (Ctl.ret (some 2)))
 else (some (Ctl.next ()))) (f.length) 0 ()) (fun r => some r) (fun (_ : Unit) => ctl (Jf (R := ((Option Int))) (fun j => fun (_ : Unit) => (Q9 a.Ops (j : Int)).bind fun d =>
 ctl (Jf (R := ((Option Int))) (fun k => fun (_ : Unit) => (Q9 d.Effs (k : Int)).bind fun e =>
 (KB a.Vars [(⟨e.Var, e.Val⟩ : Fact)]).bind <| fun (s : Bool) =>
 if !s then (some (Ctl.ret (some 2)))
 else (some (Ctl.next ()))) (d.Effs.length) 0 ()) (fun r => some (Ctl.ret r)) (fun (_ : Unit) => some (Ctl.next ()))) (a.Ops.length) 0 ()) (fun r => some r) (fun (_ : Unit) => ctl (Jf (R := ((Option Int))) (fun l => fun (_ : Unit) => (Q9 a.Ops (l : Int)).bind fun n =>
 (Qbl n.Name).bind <| fun (t : Bool) =>
 if !t then (some (Ctl.ret (some 8)))
 else (some (Ctl.next ()))) (a.Ops.length) 0 ()) (fun r => some r) (fun (_ : Unit) => some none)))))))
def QdK (xs : List Int) : Option (List Int) := if xs.length * 8 ≤ 140737488351232 then some xs else none
noncomputable def Qab (xs : List Int) : Option (List Int) := if xs.length < 4611686018427387904 then some (xs.mergeSort fun x y => decide (x ≤ y)) else none
noncomputable def JT (a : (List Int)) : Option ((List Int)) :=
 (QdK a).bind fun b =>
 (Qab b).bind <| fun (c : (List Int)) =>
 some c
noncomputable def Ko (e : Int) : Option ((List Int)) :=
 (mk 8 0 e).bind fun c =>
 (forS (fun b => fun (a : (List Int)) => (Q9 a (b : Int)).bind fun f =>
 (JL a (b : Int) (b : Int)).bind fun d =>
 some d) (c.length) 0 c).bind (fun (a : (List Int)) => some a)
noncomputable def Ja (a : (List Int)) (c : (List Int)) : Option (Bool) :=
 if !decide ((a.length : Int) = (c.length : Int)) then (some false)
 else (ctl (Jf (R := (Bool)) (fun b => fun (_ : Unit) => (Q9 a (b : Int)).bind fun d =>
 (Q9 c (b : Int)).bind fun e =>
 if !decide (d = e) then (some (Ctl.ret false))
 else (some (Ctl.next ()))) (a.length) 0 ()) (fun r => some r) (fun (_ : Unit) => some true))
noncomputable def Qu (b : (List Int)) : Option ((List Int)) :=
 (app 8 [] b).bind fun a =>
 some a
structure mergeshrink_stage where
 variable_ : Int
 class_ : (List Int)
 after : (List Int)
 states : Int
def encmergeshrink_stage : Enc mergeshrink_stage := Enc.iso ((U .i64).pair ((Qm (U .i64)).pair ((Qm (U .i64)).pair (U .i64)))) (fun b => (b.variable_, b.class_, b.after, b.states))
theorem Qdk {s : PHeap} {v : Value} {b : mergeshrink_stage} : encmergeshrink_stage.val s v b ↔ ∃ u1, ∃ u2, v = .agg #[.int .i64 (b.variable_), u1, u2, .int .i64 (b.states)] ∧ SliceRep (U .i64) s u1 (b.class_) ∧ SliceRep (U .i64) s u2 (b.after) := by
 simp only [Enc.iso, Enc.pair, Enc.val, U, Qm, encmergeshrink_stage, if_true, K1]
 constructor
 ·rintro ⟨cs, rfl, h⟩
  obtain ⟨cs⟩ := cs
  simp only [] at h
  obtain ⟨_, _, rfl, rfl, ⟨_, _, rfl, ⟨w1, rfl, h1⟩, ⟨_, _, rfl, ⟨w2, rfl, h2⟩, rfl⟩⟩⟩ := h
  exact ⟨w1, w2, Z, h1, h2⟩
 ·rintro ⟨w1, w2, rfl, h1, h2⟩
  exact ⟨_, Z, ⟨[.int .i64 (b.variable_)], [w1, w2, .int .i64 (b.states)], Z, Z, ⟨[w1], [w2, .int .i64 (b.states)], Z, ⟨w1, Z, h1⟩, ⟨[w2], [.int .i64 (b.states)], Z, ⟨w2, Z, h2⟩, Z⟩⟩⟩⟩
structure mergeshrink_Abstraction where
 vars : (List Int)
 stages : (List mergeshrink_stage)
 distance : (List Int)
 exact : Bool
noncomputable def YI (d : Task) (b : (List Int)) : Option ((Option Int)) :=
 (Kr d).bind <| fun (e : (Option Int)) =>
 if e.isSome then (some e)
 else (ctl (Jf (R := ((Option Int))) (fun a => fun (_ : Unit) => (Q9 b (a : Int)).bind fun c =>
 (if decide (c < 0) then (some true)
 else (if decide ((d.Vars.length : Int) ≤ c) then (some true)
 else (if decide (0 < (a : Int)) then ((Q9 b (IntKind.i64.wrap ((a : Int) - 1))).bind fun f =>
 some (decide (c ≤ f)))
 else (some false)))).bind (fun (g : Bool) => if g then (some (Ctl.ret (some 2)))
 else (some (Ctl.next ())))) (b.length) 0 ()) (fun r => some r) (fun (_ : Unit) => some none))
noncomputable def K6 (f : Task) (b : (List Int)) : Option (Int × Bool) :=
 ctl (Jf (R := (Int × Bool)) (fun d => fun (a : Int) => (Q9 b (d : Int)).bind fun g =>
 (Q9 f.Vars g).bind fun c =>
 if decide (4096 < (IntKind.i64.wrap (a * c))) then (some (Ctl.ret (0, false)))
 else (some (Ctl.next (IntKind.i64.wrap (a * c))))) (b.length) 0 1) (fun r => some r) (fun (e : Int) => some (e, true))
noncomputable def JX (f : Task) (b : (List Int)) (e : (List Int)) : Option (Int) :=
 (forS (fun d => fun (a : Int) => (Q9 b (d : Int)).bind fun c =>
 (Q9 f.Vars c).bind fun g =>
 (Q9 e c).bind fun h =>
 some (IntKind.i64.wrap ((IntKind.i64.wrap (a * g)) + h))) (b.length) 0 0).bind (fun (a : Int) => some a)
noncomputable def JD (b : (List Int)) (c : Int) : Option (Int) :=
 ctl (Jf (R := (Int)) (fun a => fun (_ : Unit) => (Q9 b (a : Int)).bind fun d =>
 if decide (c = d) then (some (Ctl.ret (a : Int)))
 else (some (Ctl.next ()))) (b.length) 0 ()) (fun r => some r) (fun (_ : Unit) => some (-1))
noncomputable def QC (a : (List Int)) (b : Int) : Option (Bool) :=
 (JD a b).bind <| fun (c : Int) =>
 some (decide (0 ≤ c))
noncomputable def Yz (b : Fact) (a : Int) : Option (Bool) :=
 some (decide (b.Var = a))
def Yy (b : Fact) (a : Int) : Bool :=
 (decide (b.Var = a))
theorem QcL (b : Fact) (a : Int) : Yz b a = some (Yy b a) := by
 unfold Yz Yy
 (repeat' split) <;> rfl
attribute [irreducible] Yy
noncomputable def Ky (b : (List Fact)) (c : Int) : Option (Int) :=
 ctl (Jf (R := (Int)) (fun a => fun (_ : Unit) => (Q9 b (a : Int)).bind fun d =>
 if (Yy d c) then (some (Ctl.ret (a : Int)))
 else (some (Ctl.next ()))) (b.length) 0 ()) (fun r => some r) (fun (_ : Unit) => some (-1))
noncomputable def Qau (b : (List Fact)) (a : Int) : Option (Bool) :=
 (Ky b a).bind <| fun (c : Int) =>
 some (decide (0 ≤ c))
noncomputable def Qa9 (a : (List Fact)) (b : Int) : Option (Bool) :=
 (Qau a b).bind <| fun (c : Bool) =>
 some c
noncomputable def KD (b : (List Int)) (c : Int) : Option (Int) :=
 ctl (Jf (R := (Int)) (fun a => fun (_ : Unit) => (Q9 b (a : Int)).bind fun d =>
 if decide (c = d) then (some (Ctl.ret (a : Int)))
 else (some (Ctl.next ()))) (b.length) 0 ()) (fun r => some r) (fun (_ : Unit) => some (-1))
noncomputable def JC (a : (List Int)) (b : Int) : Option (Bool) :=
 (KD a b).bind <| fun (c : Int) =>
 some (decide (0 ≤ c))
noncomputable def Yf (d : Op) (f : (List Int)) : Option ((List Int)) :=
 (forS (fun g => fun (b : (List Int)) => (Q9 d.Effs (g : Int)).bind fun e =>
 (QC f e.Var).bind <| fun (l : Bool) =>
 if !l then (some b)
 else ((forS (fun h => fun (a : (List Int)) => (Q9 e.When (h : Int)).bind fun c =>
 ((QC f c.Var).bind <| fun (m : Bool) =>
 if !m then ((Qa9 d.Pre c.Var).bind <| fun (n : Bool) =>
 if !n then ((JC a c.Var).bind <| fun (o : Bool) =>
 some (!o))
 else (some false))
 else (some false)).bind (fun (p : Bool) => (if p then ((app 8 a [c.Var]).bind fun i =>
 some i)
 else (some a)).bind (fun (j : (List Int)) => some j))) (e.When.length) 0 b).bind (fun (a : (List Int)) => some a))) (d.Effs.length) 0 []).bind (fun (b : (List Int)) => (Qab b).bind <| fun (k : (List Int)) =>
 some k)
noncomputable def Qfv (t : Task) (vars s : List Int) (n : Int) : Option (List Int) := (must (decide (vars.length ≤ 17592186044415))).bind fun _ => (forS (fun i => QI fun (s : List Int) (n : Int) => (Q9 vars ((vars.length - 1 - i : Nat) : Int)).bind fun v => (Q9 t.Vars v).bind fun d => (must (!decide (d = 0))).bind fun _ => (JL s v (n.tmod d)).bind fun s' => some (s', IntKind.i64.wrap (n.tdiv d))) vars.length 0 (s, n)).bind (QI fun (s : List Int) (_ : Int) => some s)
noncomputable def J4 (b : (List Int)) : Option ((List Int)) :=
 (app 8 [] b).bind fun a =>
 some a
noncomputable def Qbt (b : (List Fact)) (c : (List Int)) : Option (Bool) :=
 ctl (Jf (R := (Bool)) (fun d => fun (_ : Unit) => (Q9 b (d : Int)).bind fun a =>
 (if decide (a.Var < 0) then (some true)
 else (if decide ((c.length : Int) ≤ a.Var) then (some true)
 else ((Q9 c a.Var).bind fun e =>
 some (!decide (e = a.Val))))).bind (fun (f : Bool) => if f then (some (Ctl.ret false))
 else (some (Ctl.next ())))) (b.length) 0 ()) (fun r => some r) (fun (_ : Unit) => some true)
noncomputable def Jr (a : (List Int)) : Option (Nat × (List Int)) :=
 if decide ((a.length : Int) < 2) then (some ((a).length, a))
 else (ctl (JN (R := (Nat × (List Int))) (fun (b : Int) => if decide (b < (a.length : Int)) then ((Q9 a b).bind fun n =>
 (Q9 a (IntKind.i64.wrap (b - 1))).bind fun o =>
 if decide (n = o) then ((Qa3 a b (a.length : Int)).bind fun h =>
 ctl (JN (R := (Nat × (List Int))) (un3 fun (g : Int) (d : Int) (c : (List Int)) => if decide (d < (h : Int)) then ((Qdf c b h d).bind fun p =>
 (Qdf c b h (IntKind.i64.wrap (d - 1))).bind fun q =>
 (if !decide (p = q) then ((Qdf c b h d).bind fun s =>
 (Q9 c g).bind fun v =>
 (JL c g s).bind fun k =>
 some (IntKind.i64.wrap (g + 1), k))
 else (some (g, c))).bind (QI fun (j : Int) (l : (List Int)) => some (Ctl.next (j, IntKind.i64.wrap (d + 1), l))))
 else (some (Ctl.brk (g, d, c)))) (b, 1, a)) (fun r => some (Ctl.ret r)) (un3 fun (e : Int) (t : Int) (f : (List Int)) => (Qa3 f e (f.length : Int)).bind fun i =>
 (Qa3 ((f).take (e).toNat ++ List.replicate i 0 ++ (f).drop ((e).toNat + i)) 0 e).bind fun m =>
 some (Ctl.ret (m, (f).take (e).toNat ++ List.replicate i 0 ++ (f).drop ((e).toNat + i)))))
 else (some (Ctl.next (IntKind.i64.wrap (b + 1)))))
 else (some (Ctl.brk b))) 1) (fun r => some r) (fun (u : Int) => some ((a).length, a)))
noncomputable def Ye (a : Task) (ab : Int) (f : (List Int)) (j : (List Int)) (o : Int) : Option ((List Int)) :=
 (Q9 a.Ops ab).bind fun g =>
 (mk 8 0 (a.Vars.length : Int)).bind fun t =>
 (Qfv a f t o).bind <| fun (u : (List Int)) =>
 ctl (Jf (R := ((List Int))) (fun p => fun (e : (List Int)) => (Q9 g.Pre (p : Int)).bind fun b =>
 (QC f b.Var).bind <| fun (ad : Bool) =>
 if ad then ((Q9 e b.Var).bind fun ac =>
 if !decide (ac = b.Val) then (some (Ctl.ret []))
 else (some (Ctl.next e)))
 else ((Q9 e b.Var).bind fun al =>
 (JL e b.Var b.Val).bind fun v =>
 some (Ctl.next v))) (g.Pre.length) 0 u) (fun r => some r) (fun (w : (List Int)) => (K6 a j).bind <| QI fun (m : Int) (an : Bool) =>
 (must (decide (m ≤ 9223372036854775807))).bind fun aj =>
 (forS (fun q => QI fun (i : (List Int)) (k : (List Int)) => (Qfv a j k (q : Int)).bind <| fun (h : (List Int)) =>
 (J4 h).bind <| fun (ae : (List Int)) =>
 (forS (fun s => fun (c : (List Int)) => (Q9 g.Effs (s : Int)).bind fun d =>
 ((QC f d.Var).bind <| fun (af : Bool) =>
 if af then ((Qbt d.When h).bind <| fun (ag : Bool) =>
 some ag)
 else (some false)).bind (fun (ai : Bool) => (if ai then ((Q9 c d.Var).bind fun am =>
 (JL c d.Var d.Val).bind fun x =>
 some x)
 else (some c)).bind (fun (y : (List Int)) => some y))) (g.Effs.length) 0 ae).bind (fun (c : (List Int)) => (JX a f c).bind <| fun (ah : Int) =>
 (app 8 i [ah]).bind fun z =>
 some (z, h))) (m.toNat) 0 ([], w)).bind (QI fun (i : (List Int)) (k : (List Int)) => (Qab i).bind <| fun (aa : (List Int)) =>
 (Jr aa).bind <| QI fun (n : Nat) (l : (List Int)) =>
 (must (decide (n ≤ l.length))).bind fun ak =>
 some ((l).take n)))
structure Edge where
 From : Int
 Label : Int
 To : Int
def encEdge : Enc Edge := Enc.iso ((U .i64).pair ((U .i64).pair (U .i64))) (fun b => (b.From, b.Label, b.To))
theorem Jz {s : PHeap} {v : Value} {b : Edge} : encEdge.val s v b ↔ v = .agg #[.int .i64 (b.From), .int .i64 (b.Label), .int .i64 (b.To)] := by
 simp only [Enc.iso, Enc.pair, Enc.val, encEdge, U, if_true, K1]
 constructor
 ·rintro ⟨cs, rfl, h⟩
  obtain ⟨cs⟩ := cs
  simp only [] at h
  obtain ⟨_, _, rfl, rfl, ⟨_, _, rfl, rfl, rfl⟩⟩ := h
  rfl
 ·rintro rfl
  exact ⟨_, Z, ⟨[.int .i64 (b.From)], [.int .i64 (b.Label), .int .i64 (b.To)], Z, Z, ⟨[.int .i64 (b.Label)], [.int .i64 (b.To)], Z, Z, Z⟩⟩⟩
structure System where
 States : Int
 Init : Int
 Costs : (List Int)
 Edges : (List Edge)
 Goals : (List Bool)
noncomputable def Ke (a : Task) (b : (List Int)) : Option ((Option Int) × System) :=
 (YI a b).bind <| fun (n : (Option Int)) =>
 if n.isSome then (some (n, (⟨0, 0, [], [], []⟩ : System)))
 else ((K6 a b).bind <| QI fun (h : Int) (ah : Bool) =>
 if !ah then (some (some 5, (⟨0, 0, [], [], []⟩ : System)))
 else ((JX a b a.Init).bind <| fun (ai : Int) =>
 (mk 24 [] (a.Ops.length : Int)).bind fun t =>
 ctl (Jf (R := ((Option Int) × System)) (fun c => QI fun (am : (List Int)) (i : (List (List Int))) => (Q9 a.Ops (c : Int)).bind fun m =>
 (app 8 am [m.Cost]).bind fun u =>
 (Yf m b).bind <| fun (aj : (List Int)) =>
 (Q9 i (c : Int)).bind fun aw =>
 (JL i (c : Int) aj).bind fun j =>
 (Q9 j (c : Int)).bind fun ad =>
 (K6 a ad).bind <| QI fun (ax : Int) (ak : Bool) =>
 if !ak then (some (Ctl.ret (some 5, (⟨0, 0, [], [], []⟩ : System))))
 else (some (Ctl.next (u, j)))) (a.Ops.length) 0 ([], t)) (fun r => some r) (QI fun (an : (List Int)) (v : (List (List Int))) => (mk 8 0 (a.Vars.length : Int)).bind fun w =>
 (must (decide (h ≤ 9223372036854775807))).bind fun av =>
 ctl (Jf (R := ((Option Int) × System)) (fun e => un3 fun (ao : (List Edge)) (ap : (List Bool)) (x : (List Int)) => (Qfv a b x (e : Int)).bind <| fun (k : (List Int)) =>
 (forS (fun q => fun (d : Bool) => (Q9 a.Goal (q : Int)).bind fun g =>
 (if d then ((QC b g.Var).bind <| fun (al : Bool) =>
 if !al then (some true)
 else ((Q9 k g.Var).bind fun ae =>
 some (decide (ae = g.Val))))
 else (some false)).bind (fun (p : Bool) => some p)) (a.Goal.length) 0 true).bind (fun (d : Bool) => (app 1 ap [d]).bind fun y =>
 ctl (Jf (R := ((Option Int) × System)) (fun f => fun (z : (List Edge)) => (Q9 v (f : Int)).bind fun af =>
 (Ye a (f : Int) b af (e : Int)).bind <| fun (o : (List Int)) =>
 ctl (Jf (R := ((Option Int) × System)) (fun s => fun (l : (List Edge)) => (Q9 o (s : Int)).bind fun ag =>
 if decide ((l.length : Int) = 65536) then (some (Ctl.ret (some 5, (⟨0, 0, [], [], []⟩ : System))))
 else ((app 24 l [(⟨(e : Int), (f : Int), ag⟩ : Edge)]).bind fun aa =>
 some (Ctl.next aa))) (o.length) 0 z) (fun r => some (Ctl.ret r)) (fun (ab : (List Edge)) => some (Ctl.next ab))) (a.Ops.length) 0 ao) (fun r => some (Ctl.ret r)) (fun (ac : (List Edge)) => some (Ctl.next (ac, y, k))))) (h.toNat) 0 ([], [], w)) (fun r => some r) (un3 fun (aq : (List Edge)) (ar : (List Bool)) (au : (List Int)) => some (none, (⟨h, ai, an, aq, ar⟩ : System))))))
noncomputable def KN (b : Int) : Option (Int) :=
 ctl (JN (R := (Int)) (fun (a : Int) => if decide ((IntKind.i64.wrap ((IntKind.i64.wrap (a + 1)) * (IntKind.i64.wrap (a + 1)))) ≤ b) then (some (Ctl.next (IntKind.i64.wrap (a + 1))))
 else (some (Ctl.brk a))) 0) (fun r => some r) (fun (c : Int) => some c)
noncomputable def Yw (a : Task) (b : Int) : Option ((Option Int) × System) :=
 (Ke a [b]).bind <| QI fun (c : (Option Int)) (d : System) =>
 some (c, d)
noncomputable def Y2 (a : Int) : Option (Bool) :=
 some (!decide (a = a))
def Jy (a : Int) : Bool :=
 (!decide (a = a))
theorem Y9 (a : Int) : Y2 a = some (Jy a) := by
 unfold Y2 Jy
 (repeat' split) <;> rfl
attribute [irreducible] Jy
noncomputable def Kp (b : Int) (a : Int) : Option (Int) :=
 if (Jy b) then (if (Jy a) then (some 0)
 else (some (-1)))
 else (if (Jy a) then (some 1)
 else (if decide (b < a) then (some (-1))
 else (if decide (a < b) then (some 1)
 else (some 0))))
def Qj (b : Int) (a : Int) : Int :=
 if (Jy b) then (if (Jy a) then (0)
 else ((-1)))
 else (if (Jy a) then (1)
 else (if decide (b < a) then ((-1))
 else (if decide (a < b) then (1)
 else (0))))
theorem Je (a : Int) (b : Int) : Kp a b = some (Qj a b) := by
 unfold Kp Qj
 (repeat' split) <;> rfl
attribute [irreducible] Qj
noncomputable def Ym (a : (List Int)) : Option (Int) :=
 ctl (Jf (R := (Int)) (fun c => fun (_ : Unit) => (Q9 a (c : Int)).bind fun b =>
 if !decide (b = 0) then (some (Ctl.ret b))
 else (some (Ctl.next ()))) (a.length) 0 ()) (fun r => some r) (fun (_ : Unit) => some 0)
noncomputable def K2 (a : Edge) (b : Edge) : Option (Int) :=
 (Ym [(Qj a.From b.From), (Qj a.Label b.Label), (Qj a.To b.To)]).bind <| fun (c : Int) =>
 some c
noncomputable def JU (a : System) : Option (Bool) :=
 if ((decide (a.States < 1)) || ((decide (4096 < a.States)) || ((decide (a.Init < 0)) || ((decide (a.States ≤ a.Init)) || ((!decide ((a.Goals.length : Int) = a.States)) || ((decide (4096 < (a.Costs.length : Int))) || decide (65536 < (a.Edges.length : Int)))))))) then (some false)
 else (ctl (Jf (R := (Bool)) (fun e => fun (_ : Unit) => (Q9 a.Costs (e : Int)).bind fun d =>
 if ((decide (d < 0)) || decide (1048576 < d)) then (some (Ctl.ret false))
 else (some (Ctl.next ()))) (a.Costs.length) 0 ()) (fun r => some r) (fun (_ : Unit) => ctl (Jf (R := (Bool)) (fun c => fun (_ : Unit) => (Q9 a.Edges (c : Int)).bind fun b =>
 (if decide (b.From < 0) then (some true)
 else (if decide (a.States ≤ b.From) then (some true)
 else (if decide (b.To < 0) then (some true)
 else (if decide (a.States ≤ b.To) then (some true)
 else (if decide (b.Label < 0) then (some true)
 else (if decide ((a.Costs.length : Int) ≤ b.Label) then (some true)
 else (if decide (0 < (c : Int)) then ((Q9 a.Edges (IntKind.i64.wrap ((c : Int) - 1))).bind fun f =>
 (K2 f b).bind <| fun (g : Int) =>
 some (decide (0 ≤ g)))
 else (some false)))))))).bind (fun (h : Bool) => if h then (some (Ctl.ret false))
 else (some (Ctl.next ())))) (a.Edges.length) 0 ()) (fun r => some r) (fun (_ : Unit) => some true)))
noncomputable def JS (a : Bool) : Option (ByteArray) :=
 if a then (some (⟨#[116, 114, 117, 101]⟩))
 else (some (⟨#[102, 97, 108, 115, 101]⟩))
def JR (a : Bool) : ByteArray :=
 if a then ((⟨#[116, 114, 117, 101]⟩))
 else ((⟨#[102, 97, 108, 115, 101]⟩))
theorem Qao (a : Bool) : JS a = some (JR a) := by
 unfold JS JR
 (repeat' split) <;> rfl
attribute [irreducible] JR
noncomputable def Kv (a : Bool) : Option (ByteArray) :=
 some (JR a)
def Jd (a : Bool) : ByteArray :=
 (JR a)
theorem Qb3 (a : Bool) : Kv a = some (Jd a) := by
 unfold Kv Jd
 (repeat' split) <;> rfl
attribute [irreducible] Jd
noncomputable def Kh (c : (List ByteArray)) : Option ((List Int) × Int) :=
 (forS (fun f => QI fun (b : (List Int)) (a : Qdg) => (Q9 c (f : Int)).bind fun e =>
 (Qhl a e).bind fun d =>
 (if !d.2 then ((Qhk a e (a.length : Int)).bind fun j =>
 some ((a.length : Int), j))
 else (some (d.1, a))).bind (QI fun (g : Int) (h : Qdg) => (app 8 b [g]).bind fun i =>
 some (i, h))) (c.length) 0 ([], ([] : Qdg))).bind (QI fun (b : (List Int)) (a : Qdg) => some (b, (a.length : Int)))
structure Arr2_int where
 a0 : Int
 a1 : Int
def encArr2_int : Enc Arr2_int := Enc.iso ((U .i64).pair (U .i64)) (fun b => (b.a0, b.a1))
theorem K7 {s : PHeap} {v : Value} {b : Arr2_int} : encArr2_int.val s v b ↔ v = .agg #[.int .i64 (b.a0), .int .i64 (b.a1)] := by
 simp only [Enc.iso, Enc.pair, Enc.val, encArr2_int, U, if_true, K1]
 constructor
 ·rintro ⟨cs, rfl, h⟩
  obtain ⟨cs⟩ := cs
  simp only [] at h
  obtain ⟨_, _, rfl, rfl, rfl⟩ := h
  rfl
 ·rintro rfl
  exact ⟨_, Z, ⟨[.int .i64 (b.a0)], [.int .i64 (b.a1)], Z, Z, Z⟩⟩
noncomputable def Y8 (a : Arr2_int) (b : Arr2_int) : Option (Int) :=
 (Ym [(Qj a.a0 b.a0), (Qj a.a1 b.a1)]).bind <| fun (c : Int) =>
 some c
def Qhe (a b : Arr2_int) : Int := if Qc7 a.a0 b.a0 ≠ 0 then Qc7 a.a0 b.a0 else Qc7 a.a1 b.a1
noncomputable def QbW (xs : List Arr2_int) : Option (List Arr2_int) := if xs.length < 4611686018427387904 then some (xs.mergeSort fun x y => !decide (Qhe y x < 0)) else none
noncomputable def Qcl (a : Int) : Option (ByteArray) :=
 if decide (a < 10) then ((Qox (⟨#[48, 49, 50, 51, 52, 53, 54, 55, 56, 57, 97, 98, 99, 100, 101, 102, 103, 104, 105, 106, 107, 108, 109, 110, 111, 112, 113, 114, 115, 116, 117, 118, 119, 120, 121, 122]⟩) a (IntKind.i64.wrap (a + 1))).bind fun b =>
 some b)
 else ((Qox (⟨#[48, 48, 48, 49, 48, 50, 48, 51, 48, 52, 48, 53, 48, 54, 48, 55, 48, 56, 48, 57, 49, 48, 49, 49, 49, 50, 49, 51, 49, 52, 49, 53, 49, 54, 49, 55, 49, 56, 49, 57, 50, 48, 50, 49, 50, 50, 50, 51, 50, 52, 50, 53, 50, 54, 50, 55, 50, 56, 50, 57, 51, 48, 51, 49, 51, 50, 51, 51, 51, 52, 51, 53, 51, 54, 51, 55, 51, 56, 51, 57, 52, 48, 52, 49, 52, 50, 52, 51, 52, 52, 52, 53, 52, 54, 52, 55, 52, 56, 52, 57, 53, 48, 53, 49, 53, 50, 53, 51, 53, 52, 53, 53, 53, 54, 53, 55, 53, 56, 53, 57, 54, 48, 54, 49, 54, 50, 54, 51, 54, 52, 54, 53, 54, 54, 54, 55, 54, 56, 54, 57, 55, 48, 55, 49, 55, 50, 55, 51, 55, 52, 55, 53, 55, 54, 55, 55, 55, 56, 55, 57, 56, 48, 56, 49, 56, 50, 56, 51, 56, 52, 56, 53, 56, 54, 56, 55, 56, 56, 56, 57, 57, 48, 57, 49, 57, 50, 57, 51, 57, 52, 57, 53, 57, 54, 57, 55, 57, 56, 57, 57]⟩) (IntKind.i64.wrap (a * 2)) (IntKind.i64.wrap ((IntKind.i64.wrap (a * 2)) + 2))).bind fun c =>
 some c)
noncomputable def Qaz (a : Int) (b : Int) : Option (ByteArray) :=
 if decide (b = 10) then (if ((decide (0 ≤ a)) && decide (a < 100)) then ((Qcl a).bind <| fun (c : ByteArray) =>
 some c)
 else (none))
 else (none)
noncomputable def QaP (a : Int) : Option (ByteArray) :=
 (Qaz a 10).bind <| fun (b : ByteArray) =>
 some b
noncomputable def J8 (a : Int) : Option (ByteArray) :=
 (QaP a).bind <| fun (b : ByteArray) =>
 some b
noncomputable def Jp (a : (List Arr2_int)) : Option (Nat × (List Arr2_int)) :=
 if decide ((a.length : Int) < 2) then (some ((a).length, a))
 else (ctl (JN (R := (Nat × (List Arr2_int))) (fun (b : Int) => if decide (b < (a.length : Int)) then ((Q9 a b).bind fun j =>
 (Q9 a (IntKind.i64.wrap (b - 1))).bind fun k =>
 if eqs [j.a0, j.a1] [k.a0, k.a1] then ((Qa3 a b (a.length : Int)).bind fun h =>
 ctl (JN (R := (Nat × (List Arr2_int))) (un3 fun (g : Int) (d : Int) (c : (List Arr2_int)) => if decide (d < (h : Int)) then ((Qdf c b h d).bind fun l =>
 (Qdf c b h (IntKind.i64.wrap (d - 1))).bind fun m =>
 (if !(eqs [l.a0, l.a1] [m.a0, m.a1]) then ((Qdf c b h d).bind fun s =>
 (Q9 c g).bind fun v =>
 (JL c g s).bind fun o =>
 some (IntKind.i64.wrap (g + 1), o))
 else (some (g, c))).bind (QI fun (n : Int) (p : (List Arr2_int)) => some (Ctl.next (n, IntKind.i64.wrap (d + 1), p))))
 else (some (Ctl.brk (g, d, c)))) (b, 1, a)) (fun r => some (Ctl.ret r)) (un3 fun (e : Int) (t : Int) (f : (List Arr2_int)) => (Qa3 f e (f.length : Int)).bind fun i =>
 (Qa3 ((f).take (e).toNat ++ List.replicate i (⟨0, 0⟩ : Arr2_int) ++ (f).drop ((e).toNat + i)) 0 e).bind fun q =>
 some (Ctl.ret (q, (f).take (e).toNat ++ List.replicate i (⟨0, 0⟩ : Arr2_int) ++ (f).drop ((e).toNat + i)))))
 else (some (Ctl.next (IntKind.i64.wrap (b + 1)))))
 else (some (Ctl.brk b))) 1) (fun r => some r) (fun (u : Int) => some ((a).length, a)))
noncomputable def Yd (d : System) (i : (List Int)) : Option ((List Int) × Int) :=
 (mk 24 ([] : (List Arr2_int)) d.States).bind fun r =>
 (forS (fun p => fun (b : (List (List Arr2_int))) => (Q9 d.Edges (p : Int)).bind fun e =>
 (Q9 b e.From).bind fun ab =>
 (Q9 i e.To).bind fun af =>
 (app 16 ab [(⟨e.Label, af⟩ : Arr2_int)]).bind fun s =>
 (JL b e.From s).bind fun t =>
 some t) (d.Edges.length) 0 r).bind (fun (b : (List (List Arr2_int))) => (mk 16 (⟨#[]⟩) d.States).bind fun u =>
 (forS (fun a => QI fun (c : (List ByteArray)) (f : (List (List Arr2_int))) => (Q9 f (a : Int)).bind fun ac =>
 (QbW ac).bind <| fun (v : (List Arr2_int)) =>
 (JL f (a : Int) v).bind fun j =>
 (Q9 i (a : Int)).bind fun ag =>
 (J8 ag).bind <| fun (ah : ByteArray) =>
 (Qhf ([] : List Int) ah).bind fun w =>
 (Q9 j (a : Int)).bind fun ad =>
 (Jp ad).bind <| QI fun (h : Nat) (x : (List Arr2_int)) =>
 (JL j (a : Int) x).bind fun k =>
 (must (decide ((h : Int) ≤ 9223372036854775807))).bind fun am =>
 (forS (fun q => fun (g : (List Int)) => (Q9 k (a : Int)).bind fun ae =>
 (Qdf ae 0 h (q : Int)).bind fun l =>
 (J8 l.a0).bind <| fun (ai : ByteArray) =>
 (cat (⟨#[32]⟩) ai).bind fun m =>
 (cat m (⟨#[58]⟩)).bind fun n =>
 (J8 l.a1).bind <| fun (aj : ByteArray) =>
 (cat n aj).bind fun o =>
 (Qhf g o).bind fun y =>
 some y) ((h : Int).toNat) 0 w).bind (fun (g : (List Int)) => (Qg1 g).bind fun aa =>
 (Q9 c (a : Int)).bind fun an =>
 (JL c (a : Int) aa).bind fun z =>
 some (z, k))) (b.length) 0 (u, b)).bind (QI fun (c : (List ByteArray)) (f : (List (List Arr2_int))) => (Kh c).bind <| QI fun (ak : (List Int)) (al : Int) =>
 some (ak, al)))
noncomputable def JK (a : System) : Option ((List Int) × (Option Int)) :=
 (JU a).bind <| fun (k : Bool) =>
 if !k then (some ([], some 2))
 else ((mk 16 (⟨#[]⟩) a.States).bind fun g =>
 (forS (fun c => fun (b : (List ByteArray)) => (Q9 a.Goals (c : Int)).bind fun j =>
 (Q9 b (c : Int)).bind fun p =>
 (JL b (c : Int) (Jd j)).bind fun h =>
 some h) (a.Goals.length) 0 g).bind (fun (b : (List ByteArray)) => (Kh b).bind <| QI fun (l : (List Int)) (m : Int) =>
 ctl (JN (R := ((List Int) × (Option Int))) (QI fun (f : (List Int)) (i : Int) => (Yd a f).bind <| QI fun (d : (List Int)) (e : Int) =>
 if decide (e = i) then (some (Ctl.ret (d, none)))
 else (some (Ctl.next (d, e)))) (l, m)) (fun r => some r) (QI fun (n : (List Int)) (o : Int) => none)))
noncomputable def Js (b : (List Int)) : Option (Int) :=
 (if decide ((b.length : Int) < 1) then (none)
 else (some ())).bind (fun (_ : Unit) => (Q9 b 0).bind fun e =>
 ctl (JN (R := (Int)) (QI fun (c : Int) (a : Int) => if decide (a < (b.length : Int)) then ((Q9 b a).bind fun f =>
 some (Ctl.next (max c f, IntKind.i64.wrap (a + 1))))
 else (some (Ctl.brk (c, a)))) (e, 1)) (fun r => some r) (QI fun (d : Int) (g : Int) => some d))
noncomputable def YG (c : (List Bool)) : Option (Int × Int) :=
 ctl (JN (R := (Int × Int)) (fun (a : Int) => if decide (0 < a) then (ctl (JN (R := (Int × Int)) (fun (b : Int) => if decide (0 ≤ b) then ((Q9 c b).bind fun d =>
 (Q9 c a).bind fun e =>
 if (d == e) then (some (Ctl.ret (b, a)))
 else (some (Ctl.next (IntKind.i64.wrap (b - 1)))))
 else (some (Ctl.brk b))) (IntKind.i64.wrap (a - 1))) (fun r => some (Ctl.ret r)) (fun (f : Int) => some (Ctl.next (IntKind.i64.wrap (a - 1)))))
 else (some (Ctl.brk a))) (IntKind.i64.wrap ((c.length : Int) - 1))) (fun r => some r) (fun (g : Int) => some (0, 1))
def Qho (xs : List Bool) (i j : Int) : Option (List Bool) := if 0 ≤ i ∧ i ≤ j ∧ j ≤ xs.length ∧ 0 < xs.length then some (xs.take i.toNat ++ xs.drop j.toNat) else none
noncomputable def Qaf (k : System) (v : Int) : Option ((List Int) × (Option Int)) :=
 (JK k).bind <| QI fun (e : (List Int)) (m : (Option Int)) =>
 if m.isSome then (some ([], m))
 else ((Js e).bind <| fun (x : Int) =>
 (mk 1 false (IntKind.i64.wrap (x + 1))).bind fun n =>
 (forS (fun j => fun (c : (List Bool)) => (Q9 e (j : Int)).bind fun l =>
 (Q9 k.Goals (j : Int)).bind fun w =>
 (Q9 c l).bind fun aa =>
 (JL c l w).bind fun o =>
 some o) (e.length) 0 n).bind (fun (c : (List Bool)) => ctl (JN (R := ((List Int) × (Option Int))) (QI fun (g : (List Int)) (d : (List Bool)) => if decide ((max 1 (min v 4096)) < (d.length : Int)) then ((YG d).bind <| QI fun (y : Int) (f : Int) =>
 (forS (fun b => fun (a : (List Int)) => (Q9 a (b : Int)).bind fun i =>
 (if decide (i = f) then ((JL a (b : Int) y).bind fun p =>
 some p)
 else (some a)).bind (fun (h : (List Int)) => (if decide (f < i) then ((Q9 h (b : Int)).bind fun ab =>
 (JL h (b : Int) (IntKind.i64.wrap (i - 1))).bind fun q =>
 some q)
 else (some h)).bind (fun (s : (List Int)) => some s))) (g.length) 0 g).bind (fun (a : (List Int)) => (Qho d f (IntKind.i64.wrap (f + 1))).bind <| fun (t : (List Bool)) =>
 some (Ctl.next (a, t))))
 else (some (Ctl.brk (g, d)))) (e, c)) (fun r => some r) (QI fun (u : (List Int)) (z : (List Bool)) => some (u, none))))
noncomputable def Jj (a : (List Int)) : Option (Int) :=
 (Js a).bind <| fun (b : Int) =>
 some (IntKind.i64.wrap (b + 1))
noncomputable def Kn (b : (List Int)) (c : Int) : Option (Int × Bool) :=
 if !decide ((b.length : Int) = c) then (some (0, false))
 else ((mk 1 false c).bind fun i =>
 ctl (Jf (R := (Int × Bool)) (fun g => QI fun (l : Int) (e : (List Bool)) => (Q9 b (g : Int)).bind fun a =>
 if ((decide (a < 0)) || decide (c ≤ a)) then (some (Ctl.ret (0, false)))
 else ((Q9 e a).bind fun n =>
 (JL e a true).bind fun j =>
 some (Ctl.next (max l (IntKind.i64.wrap (a + 1)), j)))) (b.length) 0 (0, i)) (fun r => some r) (QI fun (f : Int) (k : (List Bool)) => (cut k 0 f).bind fun d =>
 ctl (Jf (R := (Int × Bool)) (fun h => fun (_ : Unit) => (Q9 d (h : Int)).bind fun m =>
 if !m then (some (Ctl.ret (0, false)))
 else (some (Ctl.next ()))) (d.length) 0 ()) (fun r => some r) (fun (_ : Unit) => some (f, true))))
noncomputable def Qb0 (a : Edge) (b : Edge) : Option (Int) :=
 (Ym [(Qj a.From b.From), (Qj a.Label b.Label), (Qj a.To b.To)]).bind <| fun (c : Int) =>
 some c
def Qck (a b : Edge) : Int := if Qc7 a.From b.From ≠ 0 then Qc7 a.From b.From else if Qc7 a.Label b.Label ≠ 0 then Qc7 a.Label b.Label else Qc7 a.To b.To
noncomputable def KE (xs : List Edge) : Option (List Edge) := if xs.length < 4611686018427387904 then some (xs.mergeSort fun x y => !decide (Qck y x < 0)) else none
noncomputable def QbQ (a : (List Edge)) : Option (Nat × (List Edge)) :=
 if decide ((a.length : Int) < 2) then (some ((a).length, a))
 else (ctl (JN (R := (Nat × (List Edge))) (fun (b : Int) => if decide (b < (a.length : Int)) then ((Q9 a b).bind fun j =>
 (Q9 a (IntKind.i64.wrap (b - 1))).bind fun k =>
 if eqs [j.From, j.Label, j.To] [k.From, k.Label, k.To] then ((Qa3 a b (a.length : Int)).bind fun h =>
 ctl (JN (R := (Nat × (List Edge))) (un3 fun (g : Int) (d : Int) (c : (List Edge)) => if decide (d < (h : Int)) then ((Qdf c b h d).bind fun l =>
 (Qdf c b h (IntKind.i64.wrap (d - 1))).bind fun m =>
 (if !(eqs [l.From, l.Label, l.To] [m.From, m.Label, m.To]) then ((Qdf c b h d).bind fun s =>
 (Q9 c g).bind fun v =>
 (JL c g s).bind fun o =>
 some (IntKind.i64.wrap (g + 1), o))
 else (some (g, c))).bind (QI fun (n : Int) (p : (List Edge)) => some (Ctl.next (n, IntKind.i64.wrap (d + 1), p))))
 else (some (Ctl.brk (g, d, c)))) (b, 1, a)) (fun r => some (Ctl.ret r)) (un3 fun (e : Int) (t : Int) (f : (List Edge)) => (Qa3 f e (f.length : Int)).bind fun i =>
 (Qa3 ((f).take (e).toNat ++ List.replicate i (⟨0, 0, 0⟩ : Edge) ++ (f).drop ((e).toNat + i)) 0 e).bind fun q =>
 some (Ctl.ret (q, (f).take (e).toNat ++ List.replicate i (⟨0, 0, 0⟩ : Edge) ++ (f).drop ((e).toNat + i)))))
 else (some (Ctl.next (IntKind.i64.wrap (b + 1)))))
 else (some (Ctl.brk b))) 1) (fun r => some r) (fun (u : Int) => some ((a).length, a)))
noncomputable def Yx (c : (List Edge)) : Option ((List Edge)) :=
 (KE c).bind <| fun (d : (List Edge)) =>
 (QbQ d).bind <| QI fun (b : Nat) (a : (List Edge)) =>
 (must (decide (b ≤ a.length))).bind fun e =>
 some ((a).take b)
noncomputable def K9 (a : System) (b : (List Int)) : Option ((Option Int) × System) :=
 (Kn b a.States).bind <| QI fun (h : Int) (u : Bool) =>
 ((JU a).bind <| fun (v : Bool) =>
 if !v then (some true)
 else (some (!u))).bind (fun (x : Bool) => if x then (some (some 2, (⟨0, 0, [], [], []⟩ : System)))
 else ((Q9 b a.Init).bind fun p =>
 (Qu a.Costs).bind <| fun (w : (List Int)) =>
 (mk 1 false h).bind fun j =>
 (forS (fun g => fun (c : (List Bool)) => (Q9 a.Goals (g : Int)).bind fun q =>
 ((Q9 b (g : Int)).bind fun d =>
 (Q9 c d).bind fun r =>
 if r then ((JL c d true).bind fun k =>
 some k)
 else ((JL c d q).bind fun l =>
 some l)).bind (fun (m : (List Bool)) => some m)) (a.Goals.length) 0 j).bind (fun (c : (List Bool)) => (forS (fun i => fun (f : (List Edge)) => (Q9 a.Edges (i : Int)).bind fun e =>
 (Q9 b e.From).bind fun s =>
 (Q9 b e.To).bind fun t =>
 (app 24 f [(⟨s, e.Label, t⟩ : Edge)]).bind fun n =>
 some n) (a.Edges.length) 0 []).bind (fun (f : (List Edge)) => (Yx f).bind <| fun (o : (List Edge)) =>
 some (none, (⟨h, p, w, o, c⟩ : System))))))
noncomputable def QG (b : mergeshrink_Abstraction) (a : System) (d : Int) : Option ((List Int) × (Option Int) × System × Bool) :=
 if decide (a.States ≤ d) then ((Ko a.States).bind <| fun (g : (List Int)) =>
 some (g, none, a, b.exact))
 else ((Qaf a d).bind <| QI fun (c : (List Int)) (e : (Option Int)) =>
 if e.isSome then (some ([], e, (⟨0, 0, [], [], []⟩ : System), b.exact))
 else ((JK a).bind <| QI fun (h : (List Int)) (f : (Option Int)) =>
 if f.isSome then (some ([], f, (⟨0, 0, [], [], []⟩ : System), b.exact))
 else ((if b.exact then ((Jj c).bind <| fun (i : Int) =>
 (Jj h).bind <| fun (j : Int) =>
 some (decide (i = j)))
 else (some false)).bind (fun (m : Bool) => (K9 a c).bind <| QI fun (k : (Option Int)) (l : System) =>
 some (c, k, l, m)))))
noncomputable def Km (b : System) : Option ((List (List Edge))) :=
 (mk 24 ([] : (List Edge)) (b.Costs.length : Int)).bind fun e =>
 (forS (fun d => fun (a : (List (List Edge))) => (Q9 b.Edges (d : Int)).bind fun c =>
 (Q9 a c.Label).bind fun h =>
 (app 24 h [c]).bind fun f =>
 (JL a c.Label f).bind fun g =>
 some g) (b.Edges.length) 0 e).bind (fun (a : (List (List Edge))) => some a)
noncomputable def QdI (xs : List Edge) : Option (List Edge) := KE xs
noncomputable def Yc (b : System) (a : System) : Option ((Option Int) × System) :=
 ((JU b).bind <| fun (ad : Bool) =>
 if !ad then (some true)
 else ((JU a).bind <| fun (ae : Bool) =>
 if !ae then (some true)
 else ((Ja b.Costs a.Costs).bind <| fun (af : Bool) =>
 some (!af)))).bind (fun (ah : Bool) => if ah then (some (some 2, (⟨0, 0, [], [], []⟩ : System)))
 else (if decide (4096 < (IntKind.i64.wrap (b.States * a.States))) then (some (some 5, (⟨0, 0, [], [], []⟩ : System)))
 else ((Qu b.Costs).bind <| fun (ag : (List Int)) =>
 (must (decide (b.States ≤ 9223372036854775807))).bind fun ai =>
 (forS (fun q => fun (i : (List Bool)) => (must (decide (a.States ≤ 9223372036854775807))).bind fun aj =>
 (forS (fun r => fun (c : (List Bool)) => ((Q9 b.Goals (q : Int)).bind fun z =>
 if z then ((Q9 a.Goals (r : Int)).bind fun aa =>
 (app 1 c [aa]).bind fun u =>
 some u)
 else ((app 1 c [false]).bind fun v =>
 some v)).bind (fun (w : (List Bool)) => some w)) (a.States.toNat) 0 i).bind (fun (c : (List Bool)) => some c)) (b.States.toNat) 0 []).bind (fun (i : (List Bool)) => (Km b).bind <| fun (d : (List (List Edge))) =>
 (Km a).bind <| fun (p : (List (List Edge))) =>
 (forS (fun k => fun (h : Int) => (Q9 d (k : Int)).bind fun ab =>
 (Q9 p (k : Int)).bind fun ac =>
 some (IntKind.i64.wrap (h + (IntKind.i64.wrap ((ab.length : Int) * (ac.length : Int)))))) (d.length) 0 0).bind (fun (h : Int) => if decide (65536 < h) then (some (some 5, (⟨0, 0, [], [], []⟩ : System)))
 else ((forS (fun e => fun (j : (List Edge)) => (Q9 d (e : Int)).bind fun l =>
 (forS (fun s => fun (f : (List Edge)) => (Q9 l (s : Int)).bind fun m =>
 (Q9 p (e : Int)).bind fun n =>
 (forS (fun t => fun (g : (List Edge)) => (Q9 n (t : Int)).bind fun o =>
 (app 24 g [(⟨IntKind.i64.wrap ((IntKind.i64.wrap (m.From * a.States)) + o.From), (e : Int), IntKind.i64.wrap ((IntKind.i64.wrap (m.To * a.States)) + o.To)⟩ : Edge)]).bind fun x =>
 some x) (n.length) 0 f).bind (fun (g : (List Edge)) => some g)) (l.length) 0 j).bind (fun (f : (List Edge)) => some f)) (d.length) 0 []).bind (fun (j : (List Edge)) => (QdI j).bind <| fun (y : (List Edge)) =>
 some (none, (⟨IntKind.i64.wrap (b.States * a.States), IntKind.i64.wrap ((IntKind.i64.wrap (b.Init * a.States)) + a.Init), ag, y, i⟩ : System)))))))))
noncomputable def QE (e : mergeshrink_Abstraction) (o : Task) (i : (List Int)) (f : Int) : Option ((Option Int) × System × (List mergeshrink_stage) × Bool) :=
 if decide ((i.length : Int) = 0) then ((Ke o ([] : (List Int))).bind <| QI fun (af : (Option Int)) (ag : System) =>
 some (af, ag, [], e.exact))
 else ((KN f).bind <| fun (h : Int) =>
 ctl (Jf (R := ((Option Int) × System × (List mergeshrink_stage) × Bool)) (fun m => un7 fun (a : (List mergeshrink_stage)) (k : Bool) (c : Int) (al : Int) (am : (List Int)) (an : (List Edge)) (ao : (List Bool)) => (Q9 i (m : Int)).bind fun j =>
 (Yw o j).bind <| QI fun (p : (Option Int)) (b : System) =>
 if p.isSome then (some (Ctl.ret (p, (⟨0, 0, [], [], []⟩ : System), a, k)))
 else (if decide ((m : Int) = 0) then ((QG (⟨e.vars, a, [], k⟩ : mergeshrink_Abstraction) b f).bind <| un4 fun (ah : (List Int)) (q : (Option Int)) (d : System) (w : Bool) =>
 if q.isSome then (some (Ctl.ret (q, (⟨0, 0, [], [], []⟩ : System), a, w)))
 else ((app 64 a ([(⟨j, ah, [], d.States⟩ : mergeshrink_stage)])).bind fun y =>
 some (Ctl.next (y, w, d.States, d.Init, d.Costs, d.Edges, d.Goals))))
 else ((if decide (f < (IntKind.i64.wrap (c * b.States))) then ((if decide (c ≤ h) then ((must (!decide (c = 0))).bind fun ay =>
 some (c, IntKind.i64.wrap (f.tdiv c)))
 else ((if decide (b.States ≤ h) then ((must (!decide (b.States = 0))).bind fun az =>
 some (IntKind.i64.wrap (f.tdiv b.States), b.States))
 else (some (h, h))).bind (QI fun (z : Int) (ac : Int) => some (z, ac)))).bind (QI fun (aa : Int) (ad : Int) => some (aa, ad)))
 else (some (c, b.States))).bind (QI fun (ab : Int) (ae : Int) => (QG (⟨e.vars, a, [], k⟩ : mergeshrink_Abstraction) (⟨c, al, am, an, ao⟩ : System) ab).bind <| un4 fun (ai : (List Int)) (s : (Option Int)) (aj : System) (x : Bool) =>
 if s.isSome then (some (Ctl.ret (s, (⟨0, 0, [], [], []⟩ : System), a, x)))
 else ((QG (⟨e.vars, a, [], x⟩ : mergeshrink_Abstraction) b ae).bind <| un4 fun (ak : (List Int)) (t : (Option Int)) (u : System) (l : Bool) =>
 if t.isSome then (some (Ctl.ret (t, (⟨0, 0, [], [], []⟩ : System), a, l)))
 else ((app 64 a [(⟨j, ak, ai, u.States⟩ : mergeshrink_stage)]).bind fun n =>
 (Yc aj u).bind <| QI fun (v : (Option Int)) (g : System) =>
 if v.isSome then (some (Ctl.ret (v, (⟨0, 0, [], [], []⟩ : System), n, l)))
 else (some (Ctl.next (n, l, g.States, g.Init, g.Costs, g.Edges, g.Goals))))))))) (i.length) 0 ([], e.exact, 0, 0, [], [], [])) (fun r => some r) (un7 fun (ap : (List mergeshrink_stage)) (aq : Bool) (ar : Int) (au : Int) (av : (List Int)) (aw : (List Edge)) (ax : (List Bool)) => some (none, (⟨ar, au, av, aw, ax⟩ : System), ap, aq)))
noncomputable def YD (c : System) : Option ((List Int)) :=
 (forS (fun b => fun (a : (List Int)) => (Q9 c.Goals (b : Int)).bind fun f =>
 (if f then ((app 8 a [(b : Int)]).bind fun d =>
 some d)
 else (some a)).bind (fun (e : (List Int)) => some e)) (c.Goals.length) 0 []).bind (fun (a : (List Int)) => some a)
structure Arc where
 From : Int
 To : Int
 Weight : Int
def encArc : Enc Arc := Enc.iso ((U .i64).pair ((U .i64).pair (U .i64))) (fun b => (b.From, b.To, b.Weight))
theorem Qln {s : PHeap} {v : Value} {b : Arc} : encArc.val s v b ↔ v = .agg #[.int .i64 (b.From), .int .i64 (b.To), .int .i64 (b.Weight)] := by
 simp only [Enc.iso, Enc.pair, Enc.val, encArc, U, if_true, K1]
 constructor
 ·rintro ⟨cs, rfl, h⟩
  obtain ⟨cs⟩ := cs
  simp only [] at h
  obtain ⟨_, _, rfl, rfl, ⟨_, _, rfl, rfl, rfl⟩⟩ := h
  rfl
 ·rintro rfl
  exact ⟨_, Z, ⟨[.int .i64 (b.From)], [.int .i64 (b.To), .int .i64 (b.Weight)], Z, Z, ⟨[.int .i64 (b.To)], [.int .i64 (b.Weight)], Z, Z, Z⟩⟩⟩
noncomputable def KM (d : System) (n : (List Int)) (w : Bool) : Option ((List Int)) :=
 (mk 24 ([] : (List Arc)) d.States).bind fun ab =>
 (forS (fun y => fun (h : (List (List Arc))) => (Q9 d.Edges (y : Int)).bind fun g =>
 (Q9 d.Costs g.Label).bind fun aq =>
 (if w then (some (g.To, g.From))
 else (some (g.From, g.To))).bind (QI fun (q : Int) (aw : Int) => (Q9 h q).bind fun ap =>
 (app 24 ap [(⟨q, aw, aq⟩ : Arc)]).bind fun ac =>
 (JL h q ac).bind fun ad =>
 some ad)) (d.Edges.length) 0 ab).bind (fun (h : (List (List Arc))) => (mk 8 0 d.States).bind fun t =>
 (forS (fun s => fun (i : (List Int)) => (Q9 i (s : Int)).bind fun a0 =>
 (JL i (s : Int) 1125899906842624).bind fun ae =>
 some ae) (t.length) 0 t).bind (fun (i : (List Int)) => (mk 1 false d.States).bind fun af =>
 (Qu n).bind <| fun (av : (List Int)) =>
 (forS (fun z => QI fun (j : (List Int)) (k : (List Bool)) => (Q9 n (z : Int)).bind fun l =>
 (Q9 j l).bind fun a1 =>
 (JL j l 0).bind fun ag =>
 (Q9 k l).bind fun a2 =>
 (JL k l true).bind fun ah =>
 some (ag, ah)) (n.length) 0 (i, af)).bind (QI fun (j : (List Int)) (k : (List Bool)) => ctl (JN (R := ((List Int))) (un3 fun (u : (List Int)) (o : (List Bool)) (e : (List Int)) => if decide (0 < (e.length : Int)) then ((Q9 e 0).bind fun m =>
 (cut e 1 (e.length : Int)).bind fun x =>
 (Q9 o m).bind fun a3 =>
 (JL o m false).bind fun ai =>
 (Q9 h m).bind fun p =>
 (must (decide (p.length ≤ 9223372036854775807))).bind fun az =>
 (forS (fun aa => un3 fun (b : (List Int)) (c : (List Bool)) (f : (List Int)) => (Q9 p (aa : Int)).bind fun a =>
 (Q9 b m).bind fun v =>
 (Q9 b a.To).bind fun ar =>
 if decide (ar ≤ (IntKind.i64.wrap (v + a.Weight))) then (some (b, c, f))
 else ((JL b a.To (IntKind.i64.wrap (v + a.Weight))).bind fun aj =>
 (Q9 c a.To).bind fun au =>
 (if !au then ((app 8 f [a.To]).bind fun ak =>
 (JL c a.To true).bind fun al =>
 some (al, ak))
 else (some (c, f))).bind (QI fun (am : (List Bool)) (an : (List Int)) => some (aj, am, an)))) (p.length) 0 (u, ai, x)).bind (un3 fun (b : (List Int)) (c : (List Bool)) (f : (List Int)) => some (Ctl.next (b, c, f))))
 else (some (Ctl.brk (u, o, e)))) (j, k, av)) (fun r => some r) (un3 fun (ao : (List Int)) (ax : (List Bool)) (ay : (List Int)) => some ao))))
noncomputable def K8 (a : System) : Option ((List Int) × (Option Int)) :=
 (JU a).bind <| fun (b : Bool) =>
 if !b then (some ([], some 2))
 else ((YD a).bind <| fun (c : (List Int)) =>
 (KM a c true).bind <| fun (d : (List Int)) =>
 some (d, none))
noncomputable def JG (a : Task) (b : (List Int)) (g : Int) : Option ((Option mergeshrink_Abstraction) × (Option Int)) :=
 (Kr a).bind <| fun (c : (Option Int)) =>
 if c.isSome then (some (none, c))
 else ((JT b).bind <| fun (h : (List Int)) =>
 (Ko (a.Vars.length : Int)).bind <| fun (i : (List Int)) =>
 (Ja h i).bind <| fun (j : Bool) =>
 if !j then (some (none, some 2))
 else ((Qu a.Vars).bind <| fun (d : (List Int)) =>
 (QE (⟨d, [], [], true⟩ : mergeshrink_Abstraction) a b (max 1 (min g 4096))).bind <| un4 fun (e : (Option Int)) (k : System) (m : (List mergeshrink_stage)) (n : Bool) =>
 if e.isSome then (some (none, e))
 else ((K8 k).bind <| QI fun (l : (List Int)) (f : (Option Int)) =>
 if f.isSome then (some (none, f))
 else (some (some (⟨d, m, l, n⟩ : mergeshrink_Abstraction), none)))))
noncomputable def KY (c : (List Int)) (a : (List Int)) : Option (Bool) :=
 if !decide ((a.length : Int) = (c.length : Int)) then (some false)
 else (ctl (Jf (R := (Bool)) (fun b => fun (_ : Unit) => (Q9 a (b : Int)).bind fun d =>
 (if decide (d < 0) then (some true)
 else ((Q9 c (b : Int)).bind fun e =>
 some (decide (e ≤ d)))).bind (fun (f : Bool) => if f then (some (Ctl.ret false))
 else (some (Ctl.next ())))) (a.length) 0 ()) (fun r => some r) (fun (_ : Unit) => some true))
noncomputable def Qk (a : mergeshrink_Abstraction) (e : (List Int)) : Option (Int) :=
 (KY a.vars e).bind <| fun (k : Bool) =>
 if !k then (some 1125899906842624)
 else ((forS (fun d => fun (c : Int) => (Q9 a.stages (d : Int)).bind fun b =>
 (Q9 e b.variable_).bind fun h =>
 (Q9 b.class_ h).bind fun f =>
 (if decide ((d : Int) = 0) then (some f)
 else ((Q9 b.after c).bind fun i =>
 some (IntKind.i64.wrap ((IntKind.i64.wrap (i * b.states)) + f)))).bind (fun (g : Int) => some g)) (a.stages.length) 0 0).bind (fun (c : Int) => (Q9 a.distance c).bind fun j =>
 some j))
noncomputable def Jh (a : mergeshrink_Abstraction) : Option (Bool) :=
 some a.exact
def QA (a : mergeshrink_Abstraction) : Bool :=
 a.exact
theorem QJ (a : mergeshrink_Abstraction) : Jh a = some (QA a) := by
 unfold Jh QA
 (repeat' split) <;> rfl
attribute [irreducible] QA
noncomputable def Qbv (a : Int) : Option (Bool) :=
 some ((decide (a < 0)) || decide (1048576 < a))
def Qbu (a : Int) : Bool :=
 ((decide (a < 0)) || decide (1048576 < a))
theorem Qgt (a : Int) : Qbv a = some (Qbu a) := by
 unfold Qbv Qbu
 (repeat' split) <;> rfl
attribute [irreducible] Qbu
noncomputable def Jw (b : (List Int)) : Option (Int) :=
 ctl (Jf (R := (Int)) (fun a => fun (_ : Unit) => (Q9 b (a : Int)).bind fun c =>
 if (Qbu c) then (some (Ctl.ret (a : Int)))
 else (some (Ctl.next ()))) (b.length) 0 ()) (fun r => some r) (fun (_ : Unit) => some (-1))
noncomputable def QP (a : (List Int)) : Option (Bool) :=
 (Jw a).bind <| fun (b : Int) =>
 some (decide (0 ≤ b))
structure pdb_item where
 dist : Int
 state : Int
def encpdb_item : Enc pdb_item := Enc.iso ((U .i64).pair (U .i64)) (fun b => (b.dist, b.state))
theorem YO {s : PHeap} {v : Value} {b : pdb_item} : encpdb_item.val s v b ↔ v = .agg #[.int .i64 (b.dist), .int .i64 (b.state)] := by
 simp only [Enc.iso, Enc.pair, Enc.val, U, encpdb_item, if_true, K1]
 constructor
 ·rintro ⟨cs, rfl, h⟩
  obtain ⟨cs⟩ := cs
  simp only [] at h
  obtain ⟨_, _, rfl, rfl, rfl⟩ := h
  rfl
 ·rintro rfl
  exact ⟨_, Z, ⟨[.int .i64 (b.dist)], [.int .i64 (b.state)], Z, Z, Z⟩⟩
noncomputable def Qat (b : (List pdb_item)) (c : pdb_item) : Option ((List pdb_item)) :=
 (app 16 b [c]).bind fun a =>
 some a
noncomputable def Yg (a : (List pdb_item)) : Option (Int) :=
 some (a.length : Int)
def JI (a : (List pdb_item)) : Int :=
 (a.length : Int)
theorem Yr (a : (List pdb_item)) : Yg a = some (JI a) := by
 unfold Yg JI
 (repeat' split) <;> rfl
attribute [irreducible] JI
noncomputable def JA (a : (List pdb_item)) (b : Int) (c : Int) : Option (Bool) :=
 (Q9 a b).bind fun d =>
 (Q9 a c).bind fun e =>
 some (decide (d.dist < e.dist))
noncomputable def J9 (b : (List pdb_item)) (c : Int) (a : Int) : Option ((List pdb_item)) :=
 (Q9 b a).bind fun f =>
 (Q9 b c).bind fun g =>
 (JL b c f).bind fun d =>
 (Q9 d a).bind fun h =>
 (JL d a g).bind fun e =>
 some e
noncomputable def Qag (c : (List pdb_item)) (d : Int) : Option ((List pdb_item)) :=
 ctl (JN (R := ((List pdb_item))) (QI fun (a : Int) (b : (List pdb_item)) => (if decide ((IntKind.i64.wrap ((IntKind.i64.wrap (a - 1)).tdiv 2)) = a) then (some true)
 else ((JA b a (IntKind.i64.wrap ((IntKind.i64.wrap (a - 1)).tdiv 2))).bind <| fun (g : Bool) =>
 some (!g))).bind (fun (h : Bool) => if h then (some (Ctl.brk (a, b)))
 else ((J9 b (IntKind.i64.wrap ((IntKind.i64.wrap (a - 1)).tdiv 2)) a).bind <| fun (e : (List pdb_item)) =>
 some (Ctl.next (IntKind.i64.wrap ((IntKind.i64.wrap (a - 1)).tdiv 2), e))))) (d, c)) (fun r => some r) (QI fun (i : Int) (f : (List pdb_item)) => some f)
noncomputable def Kl (b : (List pdb_item)) (d : pdb_item) : Option ((List pdb_item)) :=
 (Qat b d).bind <| fun (a : (List pdb_item)) =>
 (Qag a (IntKind.i64.wrap ((JI a) - 1))).bind <| fun (c : (List pdb_item)) =>
 some c
noncomputable def Y1 (f : (List pdb_item)) (d : Int) (e : Int) : Option (Bool × (List pdb_item)) :=
 ctl (JN (R := (Bool × (List pdb_item))) (QI fun (a : Int) (b : (List pdb_item)) => if ((decide (e ≤ (IntKind.i64.wrap ((IntKind.i64.wrap (2 * a)) + 1)))) || decide ((IntKind.i64.wrap ((IntKind.i64.wrap (2 * a)) + 1)) < 0)) then (some (Ctl.brk (a, b)))
 else ((if decide ((IntKind.i64.wrap ((IntKind.i64.wrap ((IntKind.i64.wrap (2 * a)) + 1)) + 1)) < e) then ((JA b (IntKind.i64.wrap ((IntKind.i64.wrap ((IntKind.i64.wrap (2 * a)) + 1)) + 1)) (IntKind.i64.wrap ((IntKind.i64.wrap (2 * a)) + 1))).bind <| fun (j : Bool) =>
 some j)
 else (some false)).bind (fun (l : Bool) => (if l then (some (IntKind.i64.wrap ((IntKind.i64.wrap ((IntKind.i64.wrap (2 * a)) + 1)) + 1)))
 else (some (IntKind.i64.wrap ((IntKind.i64.wrap (2 * a)) + 1)))).bind (fun (c : Int) => (JA b c a).bind <| fun (k : Bool) =>
 if !k then (some (Ctl.brk (a, b)))
 else ((J9 b a c).bind <| fun (h : (List pdb_item)) =>
 some (Ctl.next (c, h))))))) (d, f)) (fun r => some r) (QI fun (g : Int) (i : (List pdb_item)) => some (decide (d < g), i))
noncomputable def QaE (a : (List pdb_item)) : Option (pdb_item × (List pdb_item)) :=
 (Q9 a (IntKind.i64.wrap ((a.length : Int) - 1))).bind fun c =>
 (Qa3 a 0 (IntKind.i64.wrap ((a.length : Int) - 1))).bind fun b =>
 (must (decide (b ≤ a.length))).bind fun d =>
 some (c, (a).take b)
noncomputable def YN (a : (List pdb_item)) : Option (pdb_item × (List pdb_item)) :=
 (J9 a 0 (IntKind.i64.wrap ((JI a) - 1))).bind <| fun (b : (List pdb_item)) =>
 (Y1 b 0 (IntKind.i64.wrap ((JI a) - 1))).bind <| QI fun (f : Bool) (c : (List pdb_item)) =>
 (QaE c).bind <| QI fun (e : pdb_item) (d : (List pdb_item)) =>
 some (e, d)
noncomputable def YJ (b : System) (q : (List Int)) : Option ((List Int)) :=
 (mk 24 ([] : (List Edge)) b.States).bind fun u =>
 (forS (fun s => fun (e : (List (List Edge))) => (Q9 b.Edges (s : Int)).bind fun n =>
 (Q9 e n.To).bind fun ah =>
 (app 24 ah [n]).bind fun v =>
 (JL e n.To v).bind fun w =>
 some w) (b.Edges.length) 0 u).bind (fun (e : (List (List Edge))) => (mk 8 0 b.States).bind fun x =>
 (forS (fun a => QI fun (f : (List Int)) (g : (List pdb_item)) => (Q9 b.Goals (a : Int)).bind fun ai =>
 (Q9 f (a : Int)).bind fun an =>
 (JL f (a : Int) 1125899906842624).bind fun k =>
 (if ai then ((Q9 k (a : Int)).bind fun ao =>
 (JL k (a : Int) 0).bind fun y =>
 (Kl g (⟨0, (a : Int)⟩ : pdb_item)).bind <| fun (z : (List pdb_item)) =>
 some (y, z))
 else (some (k, g))).bind (QI fun (aa : (List Int)) (ab : (List pdb_item)) => some (aa, ab))) (b.Goals.length) 0 (x, [])).bind (QI fun (f : (List Int)) (g : (List pdb_item)) => ctl (JN (R := ((List Int))) (QI fun (h : (List Int)) (l : (List pdb_item)) => if decide (0 < (JI l)) then ((YN l).bind <| QI fun (c : pdb_item) (p : (List pdb_item)) =>
 (Q9 h c.state).bind fun aj =>
 if decide (aj < c.dist) then (some (Ctl.next (h, p)))
 else ((Q9 e c.state).bind fun m =>
 (must (decide (m.length ≤ 9223372036854775807))).bind fun am =>
 (forS (fun t => QI fun (d : (List Int)) (i : (List pdb_item)) => (Q9 m (t : Int)).bind fun j =>
 (Q9 q j.Label).bind fun o =>
 (Q9 d j.From).bind fun ak =>
 (if decide ((IntKind.i64.wrap (c.dist + o)) < ak) then ((JL d j.From (IntKind.i64.wrap (c.dist + o))).bind fun ac =>
 (Kl i (⟨IntKind.i64.wrap (c.dist + o), j.From⟩ : pdb_item)).bind <| fun (ad : (List pdb_item)) =>
 some (ac, ad))
 else (some (d, i))).bind (QI fun (ae : (List Int)) (af : (List pdb_item)) => some (ae, af))) (m.length) 0 (h, p)).bind (QI fun (d : (List Int)) (i : (List pdb_item)) => some (Ctl.next (d, i)))))
 else (some (Ctl.brk (h, l)))) (f, g)) (fun r => some r) (QI fun (ag : (List Int)) (al : (List pdb_item)) => some ag)))
structure pdb_Database where
 vars : (List Int)
 pattern : (List Int)
 system : System
 table : (List Int)
noncomputable def Qac (b : Task) (d : (List Int)) (a : (List Int)) : Option ((Option pdb_Database) × (Option Int)) :=
 (Kr b).bind <| fun (e : (Option Int)) =>
 if e.isSome then (some (none, e))
 else (if ((decide (0 < (a.length : Int))) && !decide ((a.length : Int) = (b.Ops.length : Int))) then (some (none, some 11))
 else ((QP a).bind <| fun (h : Bool) =>
 if h then (some (none, some 1))
 else ((Ke b d).bind <| QI fun (f : (Option Int)) (c : System) =>
 if f.isSome then (some (none, f))
 else ((if decide ((a.length : Int) = 0) then (some c.Costs)
 else (some a)).bind (fun (g : (List Int)) => (Qu b.Vars).bind <| fun (i : (List Int)) =>
 (Qu d).bind <| fun (j : (List Int)) =>
 (YJ c g).bind <| fun (k : (List Int)) =>
 some (some (⟨i, j, c, k⟩ : pdb_Database), none))))))
noncomputable def Kw (a : pdb_Database) : Option ((List Int)) :=
 (Qu a.table).bind <| fun (b : (List Int)) =>
 some b
noncomputable def Qda (a : (List Int)) (b : (List Int)) : Option (Bool) :=
 if !decide ((a.length : Int) = (b.length : Int)) then (some false)
 else (ctl (Jf (R := (Bool)) (fun c => fun (_ : Unit) => (Q9 a (c : Int)).bind fun d =>
 (Q9 b (c : Int)).bind fun e =>
 if !decide (d = e) then (some (Ctl.ret false))
 else (some (Ctl.next ()))) (a.length) 0 ()) (fun r => some r) (fun (_ : Unit) => some true))
noncomputable def Yi (a : Int) : Option (Bool) :=
 some ((decide ((-1) ≤ a)) && decide (a ≤ 1099511627776))
def Yh (a : Int) : Bool :=
 ((decide ((-1) ≤ a)) && decide (a ≤ 1099511627776))
theorem Qcr (a : Int) : Yi a = some (Yh a) := by
 unfold Yi Yh
 (repeat' split) <;> rfl
attribute [irreducible] Yh
noncomputable def Qdb (b : (List Fact)) : Option ((List Fact)) :=
 (app 16 [] b).bind fun a =>
 some a
structure certify_entry where
 facts : (List Fact)
 dist : Int
 order : Int
def enccertify_entry : Enc certify_entry := Enc.iso ((Qm encFact).pair ((U .i64).pair (U .i64))) (fun b => (b.facts, b.dist, b.order))
theorem Kx {s : PHeap} {v : Value} {b : certify_entry} : enccertify_entry.val s v b ↔ ∃ u1, v = .agg #[u1, .int .i64 (b.dist), .int .i64 (b.order)] ∧ SliceRep encFact s u1 (b.facts) := by
 simp only [Enc.iso, Enc.pair, Enc.val, U, Qm, enccertify_entry, if_true, K1]
 constructor
 ·rintro ⟨cs, rfl, h⟩
  obtain ⟨cs⟩ := cs
  simp only [] at h
  obtain ⟨_, _, rfl, ⟨w1, rfl, h1⟩, ⟨_, _, rfl, rfl, rfl⟩⟩ := h
  exact ⟨w1, Z, h1⟩
 ·rintro ⟨w1, rfl, h1⟩
  exact ⟨_, Z, ⟨[w1], [.int .i64 (b.dist), .int .i64 (b.order)], Z, ⟨w1, Z, h1⟩, ⟨[.int .i64 (b.dist)], [.int .i64 (b.order)], Z, Z, Z⟩⟩⟩
noncomputable def JZ (a : (List certify_entry)) : Option (Int) :=
 some (a.length : Int)
def Jm (a : (List certify_entry)) : Int :=
 (a.length : Int)
theorem KU (a : (List certify_entry)) : JZ a = some (Jm a) := by
 unfold JZ Jm
 (repeat' split) <;> rfl
attribute [irreducible] Jm
noncomputable def Ku (b : (List certify_entry)) (c : Int) (a : Int) : Option ((List certify_entry)) :=
 (Q9 b a).bind fun f =>
 (Q9 b c).bind fun g =>
 (JL b c f).bind fun d =>
 (Q9 d a).bind fun h =>
 (JL d a g).bind fun e =>
 some e
noncomputable def Y0 (c : (List certify_entry)) (a : Int) (b : Int) : Option (Bool) :=
 ctl (JN (R := (Bool)) (fun (_ : Unit) => if ((decide (b ≤ (IntKind.i64.wrap ((IntKind.i64.wrap (2 * a)) + 1)))) || decide ((IntKind.i64.wrap ((IntKind.i64.wrap (2 * a)) + 1)) < 0)) then (some (Ctl.brk ()))
 else (none)) ()) (fun r => some r) (fun (_ : Unit) => some (decide (a < a)))
noncomputable def KQ (a : (List certify_entry)) : Option (certify_entry × (List certify_entry)) :=
 (Q9 a (IntKind.i64.wrap ((a.length : Int) - 1))).bind fun c =>
 (Qa3 a 0 (IntKind.i64.wrap ((a.length : Int) - 1))).bind fun b =>
 (must (decide (b ≤ a.length))).bind fun d =>
 some (c, (a).take b)
noncomputable def YK (a : (List certify_entry)) : Option (certify_entry × (List certify_entry)) :=
 (Ku a 0 (IntKind.i64.wrap ((Jm a) - 1))).bind <| fun (b : (List certify_entry)) =>
 (Y0 b 0 (IntKind.i64.wrap ((Jm a) - 1))).bind <| fun (e : Bool) =>
 (KQ b).bind <| QI fun (d : certify_entry) (c : (List certify_entry)) =>
 some (d, c)
structure Nogood where
 Facts : (List Fact)
 Dist : Int
def encNogood : Enc Nogood := Enc.iso ((Qm encFact).pair (U .i64)) (fun b => (b.Facts, b.Dist))
theorem KF {s : PHeap} {v : Value} {b : Nogood} : encNogood.val s v b ↔ ∃ u1, v = .agg #[u1, .int .i64 (b.Dist)] ∧ SliceRep encFact s u1 (b.Facts) := by
 simp only [Enc.iso, Enc.pair, Enc.val, U, encNogood, Qm, if_true, K1]
 constructor
 ·rintro ⟨cs, rfl, h⟩
  obtain ⟨cs⟩ := cs
  simp only [] at h
  obtain ⟨_, _, rfl, ⟨w1, rfl, h1⟩, rfl⟩ := h
  exact ⟨w1, Z, h1⟩
 ·rintro ⟨w1, rfl, h1⟩
  exact ⟨_, Z, ⟨[w1], [.int .i64 (b.Dist)], Z, ⟨w1, Z, h1⟩, Z⟩⟩
noncomputable def Qbn (b : (List Fact)) (c : (List Int)) : Option (Bool) :=
 ctl (Jf (R := (Bool)) (fun d => fun (_ : Unit) => (Q9 b (d : Int)).bind fun a =>
 (if decide (a.Var < 0) then (some true)
 else (if decide ((c.length : Int) ≤ a.Var) then (some true)
 else ((Q9 c a.Var).bind fun e =>
 some (!decide (e = a.Val))))).bind (fun (f : Bool) => if f then (some (Ctl.ret false))
 else (some (Ctl.next ())))) (b.length) 0 ()) (fun r => some r) (fun (_ : Unit) => some true)
noncomputable def Yo (a : (List Nogood)) (b : (List Fact)) : Option (Int) :=
 ctl (Jf (R := (Int)) (fun c => fun (_ : Unit) => none) (a.length) 0 ()) (fun r => some r) (fun (_ : Unit) => some (-1))
noncomputable def Qan (b : (List Nogood)) (a : (List Fact)) : Option (Bool) :=
 (Yo b a).bind <| fun (c : Int) =>
 some (decide (0 ≤ c))
noncomputable def Yj (b : (List Fact)) (a : (List Nogood)) : Option (Bool) :=
 (Qan a b).bind <| fun (c : Bool) =>
 some c
structure Certificate where
 Bound : Int
 Nogoods : (List Nogood)
noncomputable def YP (b : Task) (a : Int) (i : Int) : Option ((Option Int) × Certificate) :=
 (Kr b).bind <| fun (k : (Option Int)) =>
 if k.isSome then (none)
 else (if !(Yh a) then (none)
 else (if decide (a = 0) then (none)
 else ((Qdb b.Goal).bind <| fun (l : (List Fact)) =>
 ctl (JN (R := ((Option Int) × Certificate)) (QI fun (d : (List Nogood)) (e : (List certify_entry)) => if decide (0 < (Jm e)) then ((YK e).bind <| QI fun (c : certify_entry) (f : (List certify_entry)) =>
 (Yj c.facts d).bind <| fun (m : Bool) =>
 if m then (some (Ctl.next (d, f)))
 else ((Qbn c.facts b.Init).bind <| fun (n : Bool) =>
 if n then (none)
 else (if decide ((d.length : Int) = (max 0 (min i 4096))) then (none)
 else ((app 32 d [(⟨c.facts, c.dist⟩ : Nogood)]).bind fun h =>
 ctl (Jf (R := ((Option Int) × Certificate)) (fun g => fun (_ : Unit) => (Q9 b.Ops (g : Int)).bind fun j =>
 if decide (a < 0) then (none)
 else (if decide (a ≤ (IntKind.i64.wrap (c.dist + j.Cost))) then (some (Ctl.next ()))
 else (none))) (b.Ops.length) 0 ()) (fun r => some (Ctl.ret r)) (fun (_ : Unit) => some (Ctl.next (h, f)))))))
 else (some (Ctl.brk (d, e)))) ([], [(⟨l, 0, 0⟩ : certify_entry)])) (fun r => some r) (QI fun (o : (List Nogood)) (p : (List certify_entry)) => some (none, (⟨a, o⟩ : Certificate))))))
noncomputable def Qal (b : (List Fact)) : Option (Bool) :=
 ctl (Jf (R := (Bool)) (fun c => fun (_ : Unit) => (Q9 b (c : Int)).bind fun a =>
 (if decide (a.Var < 0) then (some true)
 else (if decide (64 ≤ a.Var) then (some true)
 else (if decide (a.Val < 0) then (some true)
 else (if decide (64 ≤ a.Val) then (some true)
 else (if decide (0 < (c : Int)) then ((Q9 b (IntKind.i64.wrap ((c : Int) - 1))).bind fun d =>
 some (decide (a.Var ≤ d.Var)))
 else (some false)))))).bind (fun (e : Bool) => if e then (none)
 else (some (Ctl.next ())))) (b.length) 0 ()) (fun r => some r) (fun (_ : Unit) => some true)
noncomputable def Ys (a : Certificate) : Option ((Option Int)) :=
 if ((decide (a.Bound < (-1))) || decide (1099511627776 < a.Bound)) then (none)
 else (if decide (4096 < (a.Nogoods.length : Int)) then (none)
 else (ctl (Jf (R := ((Option Int))) (fun c => fun (_ : Unit) => (Q9 a.Nogoods (c : Int)).bind fun e =>
 (Qal e.Facts).bind <| fun (f : Bool) =>
 if !f then (none)
 else (some (Ctl.next ()))) (a.Nogoods.length) 0 ()) (fun r => some r) (fun (_ : Unit) => ctl (Jf (R := ((Option Int))) (fun d => fun (_ : Unit) => (Q9 a.Nogoods (d : Int)).bind fun b =>
 if ((decide (b.Dist < 0)) || (bif (decide (0 ≤ a.Bound)) then ((decide (a.Bound ≤ b.Dist)) || ((decide (a.Bound < 0)) && !decide (b.Dist = 0))) else ((decide (a.Bound < 0)) && !decide (b.Dist = 0)))) then (none)
 else (some (Ctl.next ()))) (a.Nogoods.length) 0 ()) (fun r => some r) (fun (_ : Unit) => some none))))
noncomputable def Yk (a : Certificate) : Option (ByteArray × (Option Int)) :=
 (Ys a).bind <| fun (v : (Option Int)) =>
 if v.isSome then (none)
 else (if decide (a.Bound < 0) then (none)
 else ((J8 a.Bound).bind <| fun (w : ByteArray) =>
 (cat (⟨#[108, 111, 119, 101, 114, 32]⟩) w).bind fun f =>
 (cat f (⟨#[10]⟩)).bind fun g =>
 (Qhf ([] : List Int) g).bind fun o =>
 ctl (Jf (R := (ByteArray × (Option Int))) (fun m => fun (p : (List Int)) => (Q9 a.Nogoods (m : Int)).bind fun c =>
 (J8 c.Dist).bind <| fun (x : ByteArray) =>
 (cat (⟨#[110, 111, 103, 111, 111, 100, 32]⟩) x).bind fun h =>
 (cat h (⟨#[58]⟩)).bind fun i =>
 (Qhf p i).bind fun q =>
 (forS (fun n => fun (b : (List Int)) => (Q9 c.Facts (n : Int)).bind fun e =>
 (J8 e.Var).bind <| fun (y : ByteArray) =>
 (cat (⟨#[32]⟩) y).bind fun j =>
 (cat j (⟨#[61]⟩)).bind fun k =>
 (J8 e.Val).bind <| fun (z : ByteArray) =>
 (cat k z).bind fun l =>
 (Qhf b l).bind fun s =>
 some s) (c.Facts.length) 0 q).bind (fun (b : (List Int)) => (Qhf b (⟨#[10]⟩)).bind fun d =>
 if decide (65536 < (d.length : Int)) then (none)
 else (some (Ctl.next d)))) (a.Nogoods.length) 0 o) (fun r => some r) (fun (t : (List Int)) => (Qg1 t).bind fun u =>
 some (u, none))))
noncomputable def Qam (c : (List Int)) (a : Certificate) : Option ((Option Int)) :=
 (Ys a).bind <| fun (e : (Option Int)) =>
 if e.isSome then (none)
 else (ctl (Jf (R := ((Option Int))) (fun b => fun (_ : Unit) => (Q9 a.Nogoods (b : Int)).bind fun d =>
 (KB c d.Facts).bind <| fun (f : Bool) =>
 if !f then (none)
 else (some (Ctl.next ()))) (a.Nogoods.length) 0 ()) (fun r => some r) (fun (_ : Unit) => some none))
structure checker_checker where
 t : Task
 c : Certificate
 steps : Int
noncomputable def KP (b : checker_checker) (e : Int) : Option ((List (List Fact))) :=
 (forS (fun f => fun (a : (List (List Fact))) => (Q9 b.c.Nogoods (f : Int)).bind fun d =>
 (if decide (d.Dist ≤ e) then ((app 24 a [d.Facts]).bind fun g =>
 some g)
 else (some a)).bind (fun (h : (List (List Fact))) => some h)) (b.c.Nogoods.length) 0 []).bind (fun (a : (List (List Fact))) => some a)
noncomputable def Qak (b : (List Fact)) (a : (List Int)) : Option (Bool) :=
 (KB a b).bind <| fun (c : Bool) =>
 some (!c)
noncomputable def Qa2 (b : (List (List Fact))) (c : (List Int)) : Option (Int) :=
 ctl (Jf (R := (Int)) (fun a => fun (_ : Unit) => (Q9 b (a : Int)).bind fun d =>
 (Qak d c).bind <| fun (e : Bool) =>
 if e then (some (Ctl.ret (a : Int)))
 else (some (Ctl.next ()))) (b.length) 0 ()) (fun r => some r) (fun (_ : Unit) => some (-1))
noncomputable def QbJ (b : (List (List Fact))) (a : (List Int)) : Option (Bool) :=
 (Qa2 b a).bind <| fun (c : Int) =>
 some (decide (0 ≤ c))
structure partial_cover where
 vars : (List Int)
 used : Int
 steps : Int
 full : Bool
noncomputable def QcH (a : (List Fact)) (d : Int) : Option (Int) :=
 ctl (Jf (R := (Int)) (fun c => fun (_ : Unit) => (Q9 a (c : Int)).bind fun b =>
 if decide (b.Var = d) then (some (Ctl.ret b.Val))
 else (some (Ctl.next ()))) (a.length) 0 ()) (fun r => some r) (fun (_ : Unit) => some (-1))
noncomputable def QaQ (c : (List Fact)) (a : (List Fact)) : Option (Bool) :=
 ctl (Jf (R := (Bool)) (fun d => fun (_ : Unit) => (Q9 a (d : Int)).bind fun b =>
 (QcH c b.Var).bind <| fun (e : Int) =>
 if !decide (e = b.Val) then (none)
 else (some (Ctl.next ()))) (a.length) 0 ()) (fun r => some r) (fun (_ : Unit) => some true)
noncomputable def YA (a : partial_cover) (d : (List Fact)) (b : (List (List Fact))) : Option (Bool × Int) :=
 if decide (a.steps ≤ a.used) then (none)
 else (ctl (Jf (R := (Bool × Int)) (fun c => fun (_ : Unit) => (Q9 b (c : Int)).bind fun e =>
 (QaQ d e).bind <| fun (f : Bool) =>
 if f then (some (Ctl.ret (true, IntKind.i64.wrap (a.used + 1))))
 else (none)) (b.length) 0 ()) (fun r => some r) (fun (_ : Unit) => none))
noncomputable def Qb2 (a : (List Int)) (c : (List Fact)) (b : (List (List Fact))) (d : Int) : Option (Bool × Int × (Option Int)) :=
 ((KB a c).bind <| fun (e : Bool) =>
 if !e then (some true)
 else ((QbJ b a).bind <| fun (f : Bool) =>
 some f)).bind (fun (h : Bool) => if h then (none)
 else ((YA (⟨a, 0, d, false⟩ : partial_cover) c b).bind <| QI fun (g : Bool) (i : Int) =>
 some (g, i, none)))
noncomputable def KT (a : checker_checker) (c : (List Fact)) (b : Int) : Option (Bool × (Option Int) × Int) :=
 (KP a b).bind <| fun (d : (List (List Fact))) =>
 (Qb2 a.t.Vars c d a.steps).bind <| un3 fun (e : Bool) (f : Int) (g : (Option Int)) =>
 if g.isSome then (none)
 else (some (e, none, IntKind.i64.wrap (a.steps - f)))
noncomputable def KC (a : checker_checker) (b : Nogood) (d : Int) : Option ((Option Int)) :=
 if decide (0 ≤ a.c.Bound) then ((Q9 a.t.Ops d).bind fun e =>
 if decide (a.c.Bound ≤ (IntKind.i64.wrap (b.Dist + e.Cost))) then (some none)
 else (none))
 else (none)
noncomputable def QaF (b : Task) (a : Certificate) (c : Int) : Option (Int × Int × (Option Int)) :=
 (Kr b).bind <| fun (l : (Option Int)) =>
 if l.isSome then (none)
 else ((Qam b.Vars a).bind <| fun (m : (Option Int)) =>
 if m.isSome then (none)
 else (ctl (Jf (R := (Int × Int × (Option Int))) (fun d => fun (_ : Unit) => (Q9 a.Nogoods (d : Int)).bind fun i =>
 (Qbn i.Facts b.Init).bind <| fun (n : Bool) =>
 if n then (none)
 else (some (Ctl.next ()))) (a.Nogoods.length) 0 ()) (fun r => some r) (fun (_ : Unit) => if !decide (a.Bound = 0) then ((KT (⟨b, a, max 0 (min c 1048576)⟩ : checker_checker) b.Goal 0).bind <| un3 fun (o : Bool) (p : (Option Int)) (t : Int) =>
 if p.isSome then (none)
 else (if !o then (none)
 else (ctl (Jf (R := (Int × Int × (Option Int))) (fun e => fun (_ : Unit) => (Q9 a.Nogoods (e : Int)).bind fun j =>
 ctl (Jf (R := (Int × Int × (Option Int))) (fun f => fun (_ : Unit) => (KC (⟨b, a, t⟩ : checker_checker) j (f : Int)).bind <| fun (q : (Option Int)) =>
 if q.isSome then (none)
 else (some (Ctl.next ()))) (b.Ops.length) 0 ()) (fun r => some (Ctl.ret r)) (fun (_ : Unit) => some (Ctl.next ()))) (a.Nogoods.length) 0 ()) (fun r => some r) (fun (_ : Unit) => some ((-1), (-1), none)))))
 else (ctl (Jf (R := (Int × Int × (Option Int))) (fun g => fun (_ : Unit) => (Q9 a.Nogoods (g : Int)).bind fun k =>
 ctl (Jf (R := (Int × Int × (Option Int))) (fun h => fun (_ : Unit) => (KC (⟨b, a, max 0 (min c 1048576)⟩ : checker_checker) k (h : Int)).bind <| fun (s : (Option Int)) =>
 if s.isSome then (none)
 else (some (Ctl.next ()))) (b.Ops.length) 0 ()) (fun r => some (Ctl.ret r)) (fun (_ : Unit) => some (Ctl.next ()))) (a.Nogoods.length) 0 ()) (fun r => some r) (fun (_ : Unit) => some ((-1), (-1), none))))))
noncomputable def Y3 (d : Task) (a : Certificate) (c : Int) : Option ((Option Int)) :=
 (QaF d a c).bind <| un3 fun (e : Int) (f : Int) (b : (Option Int)) =>
 some b
noncomputable def J3  : Option (Bool) :=
 (YP (⟨[2], [0], [(⟨0, 1⟩ : Fact)], [(⟨⟨#[]⟩, 2, [], [(⟨[], 0, 1⟩ : Effect)]⟩ : Op)]⟩ : Task) 2 10).bind <| QI fun (b : (Option Int)) (a : Certificate) =>
 (Yk a).bind <| QI fun (c : ByteArray) (d : (Option Int)) =>
 (if b.isNone then (if d.isNone then (if decide (c = (⟨#[108, 111, 119, 101, 114, 32, 50, 10, 110, 111, 103, 111, 111, 100, 32, 48, 58, 32, 48, 61, 49, 10]⟩)) then ((Y3 (⟨[2], [0], [(⟨0, 1⟩ : Fact)], [(⟨⟨#[]⟩, 2, [], [(⟨[], 0, 1⟩ : Effect)]⟩ : Op)]⟩ : Task) a 100).bind <| fun (e : (Option Int)) =>
 some e.isNone)
 else (some false))
 else (some false))
 else (some false)).bind (fun (f : Bool) => some f)
noncomputable def Jv  : Option (Bool) :=
 (Qac (⟨[2], [0], [(⟨0, 1⟩ : Fact)], [(⟨⟨#[]⟩, 2, [], [(⟨[], 0, 1⟩ : Effect)]⟩ : Op)]⟩ : Task) [0] ([] : (List Int))).bind <| QI fun (b : (Option pdb_Database)) (c : (Option Int)) =>
 QgH b (none) (fun a => (must c.isNone).bind fun h =>
 ((Kw a).bind <| fun (d : (List Int)) =>
 (Qda d [2, 0]).bind <| fun (e : Bool) =>
 if e then ((J3).bind <| fun (f : Bool) =>
 some f)
 else (some false)).bind (fun (g : Bool) => some g))
noncomputable def Jb  : Option (Bool) :=
 (JG (⟨[2], [0], [(⟨0, 1⟩ : Fact)], [(⟨⟨#[]⟩, 2, [], [(⟨[], 0, 1⟩ : Effect)]⟩ : Op)]⟩ : Task) [0] 100).bind <| QI fun (b : (Option mergeshrink_Abstraction)) (c : (Option Int)) =>
 QgH b (none) (fun a => (must c.isNone).bind fun g =>
 ((Qk a [0]).bind <| fun (d : Int) =>
 if decide (d = 2) then (if (QA a) then ((Jv).bind <| fun (e : Bool) =>
 some e)
 else (some false))
 else (some false)).bind (fun (f : Bool) => some f))
noncomputable def KH (d : (List Int)) : Option ((List (List Int))) :=
 (forS (fun f => fun (a : (List (List Int))) => (Q9 d (f : Int)).bind fun e =>
 (forS (fun g => fun (c : (List (List Int))) => (Q9 a (g : Int)).bind fun l =>
 (must (decide (e ≤ 9223372036854775807))).bind fun m =>
 (forS (fun h => fun (b : (List (List Int))) => (app 8 [] l).bind fun i =>
 (app 8 i [(h : Int)]).bind fun j =>
 (app 24 b [j]).bind fun k =>
 some k) (e.toNat) 0 c).bind (fun (b : (List (List Int))) => some b)) (a.length) 0 []).bind (fun (c : (List (List Int))) => some c)) (d.length) 0 ([[]])).bind (fun (a : (List (List Int))) => some a)
noncomputable def Y7 (b : (List Fact)) (c : (List Int)) : Option (Bool) :=
 ctl (Jf (R := (Bool)) (fun d => fun (_ : Unit) => (Q9 b (d : Int)).bind fun a =>
 (if decide (a.Var < 0) then (some true)
 else (if decide ((c.length : Int) ≤ a.Var) then (some true)
 else ((Q9 c a.Var).bind fun e =>
 some (!decide (e = a.Val))))).bind (fun (f : Bool) => if f then (some (Ctl.ret false))
 else (some (Ctl.next ())))) (b.length) 0 ()) (fun r => some r) (fun (_ : Unit) => some true)
noncomputable def Qbq (e : Task) (d : (List Int)) (b : Int) : Option ((List Int) × Bool) :=
 (if decide (b < 0) then (some true)
 else (if decide ((e.Ops.length : Int) ≤ b) then (some true)
 else ((Q9 e.Ops b).bind fun k =>
 (Y7 k.Pre d).bind <| fun (l : Bool) =>
 some (!l)))).bind (fun (n : Bool) => if n then (some ([], false))
 else ((app 8 [] d).bind fun h =>
 (Q9 e.Ops b).bind fun f =>
 (forS (fun g => fun (a : (List Int)) => (Q9 f.Effs (g : Int)).bind fun c =>
 (Y7 c.When d).bind <| fun (m : Bool) =>
 (if m then ((Q9 a c.Var).bind fun o =>
 (JL a c.Var c.Val).bind fun i =>
 some i)
 else (some a)).bind (fun (j : (List Int)) => some j)) (f.Effs.length) 0 h).bind (fun (a : (List Int)) => some (a, true))))
noncomputable def Qca (d : (List Int)) (c : (List Int)) : Option (Int) :=
 (forS (fun b => fun (a : Int) => (Q9 d (b : Int)).bind fun e =>
 (Q9 c (b : Int)).bind fun f =>
 some (IntKind.i64.wrap ((IntKind.i64.wrap (a * e)) + f))) (c.length) 0 0).bind (fun (a : Int) => some a)
structure base_Edge where
 From : Int
 Op : Int
 To : Int
def encbase_Edge : Enc base_Edge := Enc.iso ((U .i64).pair ((U .i64).pair (U .i64))) (fun b => (b.From, b.Op, b.To))
theorem Qgx {s : PHeap} {v : Value} {b : base_Edge} : encbase_Edge.val s v b ↔ v = .agg #[.int .i64 (b.From), .int .i64 (b.Op), .int .i64 (b.To)] := by
 simp only [Enc.iso, Enc.pair, Enc.val, U, encbase_Edge, if_true, K1]
 constructor
 ·rintro ⟨cs, rfl, h⟩
  obtain ⟨cs⟩ := cs
  simp only [] at h
  obtain ⟨_, _, rfl, rfl, ⟨_, _, rfl, rfl, rfl⟩⟩ := h
  rfl
 ·rintro rfl
  exact ⟨_, Z, ⟨[.int .i64 (b.From)], [.int .i64 (b.Op), .int .i64 (b.To)], Z, Z, ⟨[.int .i64 (b.Op)], [.int .i64 (b.To)], Z, Z, Z⟩⟩⟩
noncomputable def Qbp (b : Task) : Option ((List base_Edge)) :=
 (KH b.Vars).bind <| fun (f : (List (List Int))) =>
 (forS (fun d => fun (c : (List base_Edge)) => (Q9 f (d : Int)).bind fun i =>
 (forS (fun e => fun (a : (List base_Edge)) => (Qbq b i (e : Int)).bind <| QI fun (j : (List Int)) (k : Bool) =>
 (if k then ((Qca b.Vars j).bind <| fun (l : Int) =>
 (app 24 a [(⟨(d : Int), (e : Int), l⟩ : base_Edge)]).bind fun g =>
 some g)
 else (some a)).bind (fun (h : (List base_Edge)) => some h)) (b.Ops.length) 0 c).bind (fun (a : (List base_Edge)) => some a)) (f.length) 0 []).bind (fun (c : (List base_Edge)) => some c)
noncomputable def JY (e : Task) : Option ((List Int)) :=
 (KH e.Vars).bind <| fun (h : (List (List Int))) =>
 (mk 8 0 (h.length : Int)).bind fun p =>
 (forS (fun c => fun (d : (List Int)) => (Q9 h (c : Int)).bind fun w =>
 (Q9 d (c : Int)).bind fun ac =>
 (JL d (c : Int) 1125899906842624).bind fun g =>
 (Y7 e.Goal w).bind <| fun (z : Bool) =>
 (if z then ((Q9 g (c : Int)).bind fun ad =>
 (JL g (c : Int) 0).bind fun q =>
 some q)
 else (some g)).bind (fun (s : (List Int)) => some s)) (h.length) 0 p).bind (fun (d : (List Int)) => (Qbp e).bind <| fun (m : (List base_Edge)) =>
 ctl (JN (R := ((List Int))) (QI fun (i : Bool) (j : (List Int)) => if i then ((forS (fun o => QI fun (f : Bool) (a : (List Int)) => (Q9 m (o : Int)).bind fun b =>
 (Q9 e.Ops b.Op).bind fun k =>
 ((Q9 a b.To).bind fun l =>
 if decide (l < 1125899906842624) then ((Q9 a b.From).bind fun x =>
 some (decide ((IntKind.i64.wrap (l + k.Cost)) < x)))
 else (some false)).bind (fun (aa : Bool) => (if aa then ((Q9 a b.To).bind fun y =>
 (Q9 a b.From).bind fun ae =>
 (JL a b.From (IntKind.i64.wrap (y + k.Cost))).bind fun t =>
 some (true, t))
 else (some (f, a))).bind (QI fun (n : Bool) (u : (List Int)) => some (n, u)))) (m.length) 0 (false, j)).bind (QI fun (f : Bool) (a : (List Int)) => some (Ctl.next (f, a))))
 else (some (Ctl.brk (i, j)))) (true, d)) (fun r => some r) (QI fun (ab : Bool) (v : (List Int)) => some v))
noncomputable def QR (a : pdb_Database) (c : (List Int)) : Option (Int) :=
 (KY a.vars c).bind <| fun (i : Bool) =>
 if !i then (some 1125899906842624)
 else ((forS (fun e => fun (b : Int) => (Q9 a.pattern (e : Int)).bind fun d =>
 (Q9 a.vars d).bind fun f =>
 (Q9 c d).bind fun g =>
 some (IntKind.i64.wrap ((IntKind.i64.wrap (b * f)) + g))) (a.pattern.length) 0 0).bind (fun (b : Int) => (Q9 a.table b).bind fun h =>
 some h))
noncomputable def Jo (a : mergeshrink_Abstraction) : Option (Int) :=
 some (a.distance.length : Int)
def QT (a : mergeshrink_Abstraction) : Int :=
 (a.distance.length : Int)
theorem Kg (a : mergeshrink_Abstraction) : Jo a = some (QT a) := by
 unfold Jo QT
 (repeat' split) <;> rfl
attribute [irreducible] QT
noncomputable def J6 (t1 : Task) (pattern10 : (List Int)) (most13 : Int) : Option (Bool) :=
 ((QbZ t1).bind <| fun (ae : Bool) =>
 if !ae then (some true)
 else (if decide (4 < (t1.Vars.length : Int)) then (some true)
 else (if decide (4 < (pattern10.length : Int)) then (some true)
 else ((Jb).bind <| fun (af : Bool) =>
 some (!af))))).bind (fun (a3 : Bool) => if a3 then ((Jb).bind <| fun (ag : Bool) =>
 some ag)
 else ((forS (fun u => fun (h : (List Int)) => (app 8 h [(u : Int)]).bind fun y =>
 some y) (t1.Vars.length) 0 []).bind (fun (h : (List Int)) => (forS (fun v => fun (e : Bool) => (Q9 t1.Ops (v : Int)).bind fun p =>
 (forS (fun w => fun (j : Bool) => (Q9 p.Effs (w : Int)).bind fun l =>
 (forS (fun x => fun (k : Bool) => (Q9 l.When (x : Int)).bind fun ad =>
 some (k && decide (ad.Var = l.Var))) (l.When.length) 0 j).bind (fun (k : Bool) => some k)) (p.Effs.length) 0 e).bind (fun (j : Bool) => some j)) (t1.Ops.length) 0 true).bind (fun (e : Bool) => (Qac t1 h ([] : (List Int))).bind <| QI fun (z : (Option pdb_Database)) (ah : (Option Int)) =>
 QgH z (none) (fun m => (must ah.isNone).bind fun aA =>
 (JG t1 h 4096).bind <| QI fun (aa : (Option mergeshrink_Abstraction)) (ai : (Option Int)) =>
 QgH aa (none) (fun d => (must ai.isNone).bind fun aB =>
 (JG t1 h (IntKind.i64.wrap (1 + (IntKind.i64.wrap (most13.tmod 30))))).bind <| QI fun (ab : (Option mergeshrink_Abstraction)) (aj : (Option Int)) =>
 QgH ab (none) (fun a => (must aj.isNone).bind fun aC =>
 (Qac t1 pattern10 ([] : (List Int))).bind <| QI fun (ac : (Option pdb_Database)) (q : (Option Int)) =>
 QgH ac ((must q.isSome).bind fun aD =>
 (JY t1).bind <| fun (s : (List Int)) =>
 ctl (Jf (R := (Bool)) (fun n => fun (_ : Unit) => (Q9 s (n : Int)).bind fun f =>
 (KH t1.Vars).bind <| fun (ak : (List (List Int))) =>
 (Q9 ak (n : Int)).bind fun g =>
 ((QR m g).bind <| fun (al : Int) =>
 if !decide (al = f) then (some true)
 else ((Qk d g).bind <| fun (am : Int) =>
 if decide (f < am) then (some true)
 else (if e then ((Qk d g).bind <| fun (an : Int) =>
 if !decide (an = f) then (some true)
 else ((Qk a g).bind <| fun (ao : Int) =>
 some (decide (f < ao))))
 else ((Qk a g).bind <| fun (ap : Int) =>
 some (decide (f < ap)))))).bind (fun (a4 : Bool) => if a4 then (some (Ctl.ret false))
 else ((if e then (if (QA a) then ((Qk a g).bind <| fun (aq : Int) =>
 if !decide (aq = f) then (some true)
 else (some false))
 else (some false))
 else (some false)).bind (fun (a5 : Bool) => if a5 then (some (Ctl.ret false))
 else (some (Ctl.next ())))))) (s.length) 0 ()) (fun r => some r) (fun (_ : Unit) => (if (QA d) then (some (decide ((QT a) ≤ (IntKind.i64.wrap (1 + (IntKind.i64.wrap (most13.tmod 30)))))))
 else (some false)).bind (fun (a6 : Bool) => some a6))) (fun i => (must q.isNone).bind fun aE =>
 (JY t1).bind <| fun (t : (List Int)) =>
 ctl (Jf (R := (Bool)) (fun o => fun (_ : Unit) => (Q9 t (o : Int)).bind fun b =>
 (KH t1.Vars).bind <| fun (ar : (List (List Int))) =>
 (Q9 ar (o : Int)).bind fun c =>
 ((QR m c).bind <| fun (au : Int) =>
 if !decide (au = b) then (some true)
 else ((Qk d c).bind <| fun (av : Int) =>
 if decide (b < av) then (some true)
 else (if e then ((Qk d c).bind <| fun (aw : Int) =>
 if !decide (aw = b) then (some true)
 else ((Qk a c).bind <| fun (ax : Int) =>
 some (decide (b < ax))))
 else ((Qk a c).bind <| fun (ay : Int) =>
 some (decide (b < ay)))))).bind (fun (a7 : Bool) => if a7 then (some (Ctl.ret false))
 else ((if e then (if (QA a) then ((Qk a c).bind <| fun (az : Int) =>
 if !decide (az = b) then (some true)
 else ((QR i c).bind <| fun (a0 : Int) =>
 some (decide (b < a0))))
 else ((QR i c).bind <| fun (a1 : Int) =>
 some (decide (b < a1))))
 else ((QR i c).bind <| fun (a2 : Int) =>
 some (decide (b < a2)))).bind (fun (a8 : Bool) => if a8 then (some (Ctl.ret false))
 else (some (Ctl.next ())))))) (t.length) 0 ()) (fun r => some r) (fun (_ : Unit) => (if (QA d) then (some (decide ((QT a) ≤ (IntKind.i64.wrap (1 + (IntKind.i64.wrap (most13.tmod 30)))))))
 else (some false)).bind (fun (a9 : Bool) => some a9))))))))))
end Go.Pw
