/- -/
import Derived.Test.YtpjojkomdndamaaGreatDoorLA
import Derived.Test.YtpjojkomdndamaaGreatDoorL11
import Derived.Test.YtpjojkomdndamaaGreatDoorLB
set_option maxRecDepth 100000
set_option maxHeartbeats 4000000
set_option linter.unusedVariables false
namespace Go.Pw
structure Fact where
 Var : Int
 Val : Int
def encFact : Enc Fact := Enc.iso ((Qa .i64).pair (Qa .i64)) (fun b => (b.Var, b.Val))
theorem YB {s : PHeap} {v : Value} {b : Fact} : encFact.val s v b ↔ v = .agg #[.int .i64 (b.Var), .int .i64 (b.Val)] := by
 simp only [Enc.iso, Enc.pair, Enc.val, encFact, Qa, if_true, Yi]
 constructor
 ·rintro ⟨cs, rfl, h⟩
  obtain ⟨cs⟩ := cs
  simp only [] at h
  obtain ⟨_, _, rfl, rfl, rfl⟩ := h
  rfl
 ·rintro rfl
  exact ⟨_, Z, ⟨[.int .i64 (b.Var)], [.int .i64 (b.Val)], Z, Z, Z⟩⟩
structure Effect where
 When : (List Fact)
 Var : Int
 Val : Int
def encEffect : Enc Effect := Enc.iso ((QM encFact).pair ((Qa .i64).pair (Qa .i64))) (fun b => (b.When, b.Var, b.Val))
theorem Qac {s : PHeap} {v : Value} {b : Effect} : encEffect.val s v b ↔ ∃ u1, v = .agg #[u1, .int .i64 (b.Var), .int .i64 (b.Val)] ∧ SliceRep encFact s u1 (b.When) := by
 simp only [Enc.iso, Enc.pair, Enc.val, encEffect, Qa, QM, if_true, Yi]
 constructor
 ·rintro ⟨cs, rfl, h⟩
  obtain ⟨cs⟩ := cs
  simp only [] at h
  obtain ⟨_, _, rfl, ⟨w1, rfl, h1⟩, ⟨_, _, rfl, rfl, rfl⟩⟩ := h
  exact ⟨w1, Z, h1⟩
 ·rintro ⟨w1, rfl, h1⟩
  exact ⟨_, Z, ⟨[w1], [.int .i64 (b.Var), .int .i64 (b.Val)], Z, ⟨w1, Z, h1⟩, ⟨[.int .i64 (b.Var)], [.int .i64 (b.Val)], Z, Z, Z⟩⟩⟩
structure Op where
 Name : ByteArray
 Cost : Int
 Pre : (List Fact)
 Effs : (List Effect)
def encOp : Enc Op := Enc.iso (encStr.pair ((Qa .i64).pair ((QM encFact).pair (QM encEffect)))) (fun b => (b.Name, b.Cost, b.Pre, b.Effs))
theorem YH {s : PHeap} {v : Value} {b : Op} : encOp.val s v b ↔ ∃ u1, ∃ u2, v = .agg #[.string (b.Name), .int .i64 (b.Cost), u1, u2] ∧ SliceRep encFact s u1 (b.Pre) ∧ SliceRep encEffect s u2 (b.Effs) := by
 simp only [Enc.iso, Enc.pair, Enc.val, Qa, encOp, QM, encStr, if_true, Yi]
 constructor
 ·rintro ⟨cs, rfl, h⟩
  obtain ⟨cs⟩ := cs
  simp only [] at h
  obtain ⟨_, _, rfl, rfl, ⟨_, _, rfl, rfl, ⟨_, _, rfl, ⟨w1, rfl, h1⟩, ⟨w2, rfl, h2⟩⟩⟩⟩ := h
  exact ⟨w1, w2, Z, h1, h2⟩
 ·rintro ⟨w1, w2, rfl, h1, h2⟩
  exact ⟨_, Z, ⟨[.string (b.Name)], [.int .i64 (b.Cost), w1, w2], Z, Z, ⟨[.int .i64 (b.Cost)], [w1, w2], Z, Z, ⟨[w1], [w2], Z, ⟨w1, Z, h1⟩, ⟨w2, Z, h2⟩⟩⟩⟩⟩
structure Task where
 Vars : (List Int)
 Init : (List Int)
 Goal : (List Fact)
 Ops : (List Op)
def encTask : Enc Task := Enc.iso ((QM (Qa .i64)).pair ((QM (Qa .i64)).pair ((QM encFact).pair (QM encOp)))) (fun b => (b.Vars, b.Init, b.Goal, b.Ops))
theorem QiN {s : PHeap} {v : Value} {b : Task} : encTask.val s v b ↔ ∃ u1, ∃ u2, ∃ u3, ∃ u4, v = .agg #[u1, u2, u3, u4] ∧ SliceRep (Qa .i64) s u1 (b.Vars) ∧ SliceRep (Qa .i64) s u2 (b.Init) ∧ SliceRep encFact s u3 (b.Goal) ∧ SliceRep encOp s u4 (b.Ops) := by
 simp only [Enc.iso, Enc.pair, Enc.val, QM, encTask, if_true]
 constructor
 ·rintro ⟨cs, rfl, h⟩
  obtain ⟨cs⟩ := cs
  simp only [] at h
  obtain ⟨_, _, rfl, ⟨w1, rfl, h1⟩, ⟨_, _, rfl, ⟨w2, rfl, h2⟩, ⟨_, _, rfl, ⟨w3, rfl, h3⟩, ⟨w4, rfl, h4⟩⟩⟩⟩ := h
  exact ⟨w1, w2, w3, w4, Z, h1, h2, h3, h4⟩
 ·rintro ⟨w1, w2, w3, w4, rfl, h1, h2, h3, h4⟩
  exact ⟨_, Z, ⟨[w1], [w2, w3, w4], Z, ⟨w1, Z, h1⟩, ⟨[w2], [w3, w4], Z, ⟨w2, Z, h2⟩, ⟨[w3], [w4], Z, ⟨w3, Z, h3⟩, ⟨w4, Z, h4⟩⟩⟩⟩⟩
noncomputable def Y0  : Option (Task) :=
 some (⟨[2, 3], [0, 0], [(⟨1, 1⟩ : Fact)], [(⟨⟨#[]⟩, 1, [(⟨0, 0⟩ : Fact)], [(⟨[], 0, 1⟩ : Effect)]⟩ : Op), (⟨⟨#[]⟩, 1, [(⟨0, 1⟩ : Fact)], [(⟨[], 0, 0⟩ : Effect)]⟩ : Op), (⟨⟨#[]⟩, 1, [(⟨0, 0⟩ : Fact), (⟨1, 0⟩ : Fact)], [(⟨[], 1, 2⟩ : Effect)]⟩ : Op), (⟨⟨#[]⟩, 1, [(⟨0, 1⟩ : Fact), (⟨1, 2⟩ : Fact)], [(⟨[], 1, 1⟩ : Effect)]⟩ : Op)]⟩ : Task)
def KC  : Task :=
 (⟨[2, 3], [0, 0], [(⟨1, 1⟩ : Fact)], [(⟨⟨#[]⟩, 1, [(⟨0, 0⟩ : Fact)], [(⟨[], 0, 1⟩ : Effect)]⟩ : Op), (⟨⟨#[]⟩, 1, [(⟨0, 1⟩ : Fact)], [(⟨[], 0, 0⟩ : Effect)]⟩ : Op), (⟨⟨#[]⟩, 1, [(⟨0, 0⟩ : Fact), (⟨1, 0⟩ : Fact)], [(⟨[], 1, 2⟩ : Effect)]⟩ : Op), (⟨⟨#[]⟩, 1, [(⟨0, 1⟩ : Fact), (⟨1, 2⟩ : Fact)], [(⟨[], 1, 1⟩ : Effect)]⟩ : Op)]⟩ : Task)
theorem Y7  : Y0  = some (KC ) := by
 unfold Y0 KC
 (repeat' split) <;> rfl
attribute [irreducible] KC
noncomputable def K9 (c : Task) : Option ((List (List Fact))) :=
 (forS (fun e => fun (b : (List (List Fact))) => (Jc c.Ops (e : Int)).bind fun d =>
 (app 24 b [d.Pre]).bind fun g =>
 (forS (fun f => fun (a : (List (List Fact))) => (Jc d.Effs (f : Int)).bind fun i =>
 (app 24 a [i.When]).bind fun h =>
 some h) (d.Effs.length) 0 g).bind (fun (a : (List (List Fact))) => some a)) (c.Ops.length) 0 [c.Goal]).bind (fun (b : (List (List Fact))) => some b)
noncomputable def Yx (a : (List Fact)) : Option (Bool) :=
 some (decide (64 < (a.length : Int)))
def Yw (a : (List Fact)) : Bool :=
 (decide (64 < (a.length : Int)))
theorem Qcd (a : (List Fact)) : Yx a = some (Yw a) := by
 unfold Yx Yw
 (repeat' split) <;> rfl
attribute [irreducible] Yw
noncomputable def KR (b : (List (List Fact))) : Option (Int) :=
 ctl (JS (R := (Int)) (fun a => fun (_ : Unit) => (Jc b (a : Int)).bind fun c =>
 if (Yw c) then (some (Ctl.ret (a : Int)))
 else (some (Ctl.next ()))) (b.length) 0 ()) (fun r => some r) (fun (_ : Unit) => some (-1))
noncomputable def Y3 (a : (List (List Fact))) : Option (Bool) :=
 (KR a).bind <| fun (b : Int) =>
 some (decide (0 ≤ b))
noncomputable def Qa1 (a : Task) : Option (Bool) :=
 if ((decide (64 < (a.Vars.length : Int))) || decide (4096 < (a.Ops.length : Int))) then (some true)
 else (ctl (JS (R := (Bool)) (fun b => fun (_ : Unit) => (Jc a.Ops (b : Int)).bind fun c =>
 if decide (64 < (c.Effs.length : Int)) then (some (Ctl.ret true))
 else (some (Ctl.next ()))) (a.Ops.length) 0 ()) (fun r => some r) (fun (_ : Unit) => (K9 a).bind <| fun (d : (List (List Fact))) =>
 (Y3 d).bind <| fun (e : Bool) =>
 some e))
noncomputable def Qaa (c : (List Int)) (a : (List Int)) : Option (Bool) :=
 if !decide ((a.length : Int) = (c.length : Int)) then (some false)
 else (ctl (JS (R := (Bool)) (fun b => fun (_ : Unit) => (Jc a (b : Int)).bind fun d =>
 (if decide (d < 0) then (some true)
 else ((Jc c (b : Int)).bind fun e =>
 some (decide (e ≤ d)))).bind (fun (f : Bool) => if f then (some (Ctl.ret false))
 else (some (Ctl.next ())))) (a.length) 0 ()) (fun r => some r) (fun (_ : Unit) => some true))
noncomputable def YJ (c : (List Int)) (b : (List Fact)) : Option (Bool) :=
 ctl (JS (R := (Bool)) (fun d => fun (e : Int) => (Jc b (d : Int)).bind fun a =>
 (if decide (a.Var ≤ e) then (some true)
 else (if decide ((c.length : Int) ≤ a.Var) then (some true)
 else (if decide (a.Val < 0) then (some true)
 else ((Jc c a.Var).bind fun f =>
 some (decide (f ≤ a.Val)))))).bind (fun (g : Bool) => if g then (some (Ctl.ret false))
 else (some (Ctl.next a.Var)))) (b.length) 0 (-1)) (fun r => some r) (fun (h : Int) => some true)
noncomputable def Qa0 (a : ByteArray) : Option (Bool) :=
 (must (decide ((a.size : Int) ≤ 9223372036854775807))).bind fun e =>
 ctl (JS (R := (Bool)) (fun c => fun (_ : Unit) => ((Jc (JW a) (c : Int)).bind fun b =>
 if decide (b < 32) then (some true)
 else (some (decide (126 < b)))).bind (fun (d : Bool) => if d then (some (Ctl.ret false))
 else (some (Ctl.next ())))) ((a.size : Int).toNat) 0 ()) (fun r => some r) (fun (_ : Unit) => some (decide ((a.size : Int) ≤ 256)))
noncomputable def YK (a : Task) : Option ((Option Int)) :=
 (Qa1 a).bind <| fun (o : Bool) =>
 if o then (some (some 5))
 else (ctl (JS (R := ((Option Int))) (fun g => fun (_ : Unit) => (Jc a.Vars (g : Int)).bind fun b =>
 if ((decide (b < 1)) || decide (64 < b)) then (some (Ctl.ret (some 1)))
 else (some (Ctl.next ()))) (a.Vars.length) 0 ()) (fun r => some r) (fun (_ : Unit) => ctl (JS (R := ((Option Int))) (fun h => fun (_ : Unit) => (Jc a.Ops (h : Int)).bind fun c =>
 if ((decide (c.Cost < 0)) || decide (1048576 < c.Cost)) then (some (Ctl.ret (some 1)))
 else (some (Ctl.next ()))) (a.Ops.length) 0 ()) (fun r => some r) (fun (_ : Unit) => (Qaa a.Vars a.Init).bind <| fun (p : Bool) =>
 if !p then (some (some 2))
 else ((K9 a).bind <| fun (f : (List (List Fact))) =>
 ctl (JS (R := ((Option Int))) (fun i => fun (_ : Unit) => (Jc f (i : Int)).bind fun m =>
 (YJ a.Vars m).bind <| fun (q : Bool) =>
 if !q then (some (Ctl.ret (some 2)))
 else (some (Ctl.next ()))) (f.length) 0 ()) (fun r => some r) (fun (_ : Unit) => ctl (JS (R := ((Option Int))) (fun j => fun (_ : Unit) => (Jc a.Ops (j : Int)).bind fun d =>
 ctl (JS (R := ((Option Int))) (fun k => fun (_ : Unit) => (Jc d.Effs (k : Int)).bind fun e =>
 (YJ a.Vars [(⟨e.Var, e.Val⟩ : Fact)]).bind <| fun (s : Bool) =>
 if !s then (some (Ctl.ret (some 2)))
 else (some (Ctl.next ()))) (d.Effs.length) 0 ()) (fun r => some (Ctl.ret r)) (fun (_ : Unit) => some (Ctl.next ()))) (a.Ops.length) 0 ()) (fun r => some r) (fun (_ : Unit) => ctl (JS (R := ((Option Int))) (fun l => fun (_ : Unit) => (Jc a.Ops (l : Int)).bind fun n =>
 (Qa0 n.Name).bind <| fun (t : Bool) =>
 if !t then (some (Ctl.ret (some 8)))
 else (some (Ctl.next ()))) (a.Ops.length) 0 ()) (fun r => some r) (fun (_ : Unit) => some none)))))))
def QcJ (xs : List Int) : Option (List Int) := if xs.length * 8 ≤ 140737488351232 then some xs else none
noncomputable def Yd (xs : List Int) : Option (List Int) := if xs.length < 4611686018427387904 then some (xs.mergeSort fun x y => decide (x ≤ y)) else none
noncomputable def Kd (a : (List Int)) : Option ((List Int)) :=
 (QcJ a).bind fun b =>
 (Yd b).bind <| fun (c : (List Int)) =>
 some c
noncomputable def Kz (e : Int) : Option ((List Int)) :=
 (mk 8 0 e).bind fun c =>
 (forS (fun b => fun (a : (List Int)) => (Jc a (b : Int)).bind fun f =>
 (Kv a (b : Int) (b : Int)).bind fun d =>
 some d) (c.length) 0 c).bind (fun (a : (List Int)) => some a)
noncomputable def Jv (a : (List Int)) (c : (List Int)) : Option (Bool) :=
 if !decide ((a.length : Int) = (c.length : Int)) then (some false)
 else (ctl (JS (R := (Bool)) (fun b => fun (_ : Unit) => (Jc a (b : Int)).bind fun d =>
 (Jc c (b : Int)).bind fun e =>
 if !decide (d = e) then (some (Ctl.ret false))
 else (some (Ctl.next ()))) (a.length) 0 ()) (fun r => some r) (fun (_ : Unit) => some true))
noncomputable def QA (b : (List Int)) : Option ((List Int)) :=
 (app 8 [] b).bind fun a =>
 some a
structure mergeshrink_stage where
 variable_ : Int
 class_ : (List Int)
 after : (List Int)
 states : Int
def encmergeshrink_stage : Enc mergeshrink_stage := Enc.iso ((Qa .i64).pair ((QM (Qa .i64)).pair ((QM (Qa .i64)).pair (Qa .i64)))) (fun b => (b.variable_, b.class_, b.after, b.states))
theorem Qck {s : PHeap} {v : Value} {b : mergeshrink_stage} : encmergeshrink_stage.val s v b ↔ ∃ u1, ∃ u2, v = .agg #[.int .i64 (b.variable_), u1, u2, .int .i64 (b.states)] ∧ SliceRep (Qa .i64) s u1 (b.class_) ∧ SliceRep (Qa .i64) s u2 (b.after) := by
 simp only [Enc.iso, Enc.pair, Enc.val, Qa, QM, encmergeshrink_stage, if_true, Yi]
 constructor
 ·rintro ⟨cs, rfl, h⟩
  obtain ⟨cs⟩ := cs
  simp only [] at h
  obtain ⟨_, _, rfl, rfl, ⟨_, _, rfl, ⟨w1, rfl, h1⟩, ⟨_, _, rfl, ⟨w2, rfl, h2⟩, rfl⟩⟩⟩ := h
  exact ⟨w1, w2, Z, h1, h2⟩
 ·rintro ⟨w1, w2, rfl, h1, h2⟩
  exact ⟨_, Z, ⟨[.int .i64 (b.variable_)], [w1, w2, .int .i64 (b.states)], Z, Z, ⟨[w1], [w2, .int .i64 (b.states)], Z, ⟨w1, Z, h1⟩, ⟨[w2], [.int .i64 (b.states)], Z, ⟨w2, Z, h2⟩, Z⟩⟩⟩⟩
structure mergeshrink_Abstraction where
 vars : (List Int)
 stages : (List mergeshrink_stage)
 distance : (List Int)
 exact : Bool
noncomputable def KW (d : Task) (b : (List Int)) : Option ((Option Int)) :=
 (YK d).bind <| fun (e : (Option Int)) =>
 if e.isSome then (some e)
 else (ctl (JS (R := ((Option Int))) (fun a => fun (_ : Unit) => (Jc b (a : Int)).bind fun c =>
 (if decide (c < 0) then (some true)
 else (if decide ((d.Vars.length : Int) ≤ c) then (some true)
 else (if decide (0 < (a : Int)) then ((Jc b (IntKind.i64.wrap ((a : Int) - 1))).bind fun f =>
 some (decide (c ≤ f)))
 else (some false)))).bind (fun (g : Bool) => if g then (some (Ctl.ret (some 2)))
 else (some (Ctl.next ())))) (b.length) 0 ()) (fun r => some r) (fun (_ : Unit) => some none))
noncomputable def Kf (f : Task) (b : (List Int)) : Option (Int × Bool) :=
 ctl (JS (R := (Int × Bool)) (fun d => fun (a : Int) => (Jc b (d : Int)).bind fun g =>
 (Jc f.Vars g).bind fun c =>
 if decide (4096 < (IntKind.i64.wrap (a * c))) then (some (Ctl.ret (0, false)))
 else (some (Ctl.next (IntKind.i64.wrap (a * c))))) (b.length) 0 1) (fun r => some r) (fun (e : Int) => some (e, true))
noncomputable def JO (f : Task) (b : (List Int)) (e : (List Int)) : Option (Int) :=
 (forS (fun d => fun (a : Int) => (Jc b (d : Int)).bind fun c =>
 (Jc f.Vars c).bind fun g =>
 (Jc e c).bind fun h =>
 some (IntKind.i64.wrap ((IntKind.i64.wrap (a * g)) + h))) (b.length) 0 0).bind (fun (a : Int) => some a)
noncomputable def JR (b : (List Int)) (c : Int) : Option (Int) :=
 ctl (JS (R := (Int)) (fun a => fun (_ : Unit) => (Jc b (a : Int)).bind fun d =>
 if decide (c = d) then (some (Ctl.ret (a : Int)))
 else (some (Ctl.next ()))) (b.length) 0 ()) (fun r => some r) (fun (_ : Unit) => some (-1))
noncomputable def QU (a : (List Int)) (b : Int) : Option (Bool) :=
 (JR a b).bind <| fun (c : Int) =>
 some (decide (0 ≤ c))
noncomputable def Yn (b : Fact) (a : Int) : Option (Bool) :=
 some (decide (b.Var = a))
def Ym (b : Fact) (a : Int) : Bool :=
 (decide (b.Var = a))
theorem QbN (b : Fact) (a : Int) : Yn b a = some (Ym b a) := by
 unfold Yn Ym
 (repeat' split) <;> rfl
attribute [irreducible] Ym
noncomputable def K7 (b : (List Fact)) (c : Int) : Option (Int) :=
 ctl (JS (R := (Int)) (fun a => fun (_ : Unit) => (Jc b (a : Int)).bind fun d =>
 if (Ym d c) then (some (Ctl.ret (a : Int)))
 else (some (Ctl.next ()))) (b.length) 0 ()) (fun r => some r) (fun (_ : Unit) => some (-1))
noncomputable def YN (b : (List Fact)) (a : Int) : Option (Bool) :=
 (K7 b a).bind <| fun (c : Int) =>
 some (decide (0 ≤ c))
noncomputable def Qab (a : (List Fact)) (b : Int) : Option (Bool) :=
 (YN a b).bind <| fun (c : Bool) =>
 some c
noncomputable def KI (b : (List Int)) (c : Int) : Option (Int) :=
 ctl (JS (R := (Int)) (fun a => fun (_ : Unit) => (Jc b (a : Int)).bind fun d =>
 if decide (c = d) then (some (Ctl.ret (a : Int)))
 else (some (Ctl.next ()))) (b.length) 0 ()) (fun r => some r) (fun (_ : Unit) => some (-1))
noncomputable def JP (a : (List Int)) (b : Int) : Option (Bool) :=
 (KI a b).bind <| fun (c : Int) =>
 some (decide (0 ≤ c))
noncomputable def Ko (d : Op) (f : (List Int)) : Option ((List Int)) :=
 (forS (fun g => fun (b : (List Int)) => (Jc d.Effs (g : Int)).bind fun e =>
 (QU f e.Var).bind <| fun (l : Bool) =>
 if !l then (some b)
 else ((forS (fun h => fun (a : (List Int)) => (Jc e.When (h : Int)).bind fun c =>
 ((QU f c.Var).bind <| fun (m : Bool) =>
 if !m then ((Qab d.Pre c.Var).bind <| fun (n : Bool) =>
 if !n then ((JP a c.Var).bind <| fun (o : Bool) =>
 some (!o))
 else (some false))
 else (some false)).bind (fun (p : Bool) => (if p then ((app 8 a [c.Var]).bind fun i =>
 some i)
 else (some a)).bind (fun (j : (List Int)) => some j))) (e.When.length) 0 b).bind (fun (a : (List Int)) => some a))) (d.Effs.length) 0 []).bind (fun (b : (List Int)) => (Yd b).bind <| fun (k : (List Int)) =>
 some k)
noncomputable def QcQ (t : Task) (vars s : List Int) (n : Int) : Option (List Int) := (must (decide (vars.length ≤ 17592186044415))).bind fun _ => (forS (fun i => J2 fun (s : List Int) (n : Int) => (Jc vars ((vars.length - 1 - i : Nat) : Int)).bind fun v => (Jc t.Vars v).bind fun d => (must (!decide (d = 0))).bind fun _ => (Kv s v (n.tmod d)).bind fun s' => some (s', IntKind.i64.wrap (n.tdiv d))) vars.length 0 (s, n)).bind (J2 fun (s : List Int) (_ : Int) => some s)
noncomputable def Jr (b : (List Int)) : Option ((List Int)) :=
 (app 8 [] b).bind fun a =>
 some a
noncomputable def Qa7 (b : (List Fact)) (c : (List Int)) : Option (Bool) :=
 ctl (JS (R := (Bool)) (fun d => fun (_ : Unit) => (Jc b (d : Int)).bind fun a =>
 (if decide (a.Var < 0) then (some true)
 else (if decide ((c.length : Int) ≤ a.Var) then (some true)
 else ((Jc c a.Var).bind fun e =>
 some (!decide (e = a.Val))))).bind (fun (f : Bool) => if f then (some (Ctl.ret false))
 else (some (Ctl.next ())))) (b.length) 0 ()) (fun r => some r) (fun (_ : Unit) => some true)
noncomputable def Jn (a : (List Int)) : Option (Nat × (List Int)) :=
 if decide ((a.length : Int) < 2) then (some ((a).length, a))
 else (ctl (Kw (R := (Nat × (List Int))) (fun (b : Int) => if decide (b < (a.length : Int)) then ((Jc a b).bind fun n =>
 (Jc a (IntKind.i64.wrap (b - 1))).bind fun o =>
 if decide (n = o) then ((QaG a b (a.length : Int)).bind fun h =>
 ctl (Kw (R := (Nat × (List Int))) (un3 fun (g : Int) (d : Int) (c : (List Int)) => if decide (d < (h : Int)) then ((Qcf c b h d).bind fun p =>
 (Qcf c b h (IntKind.i64.wrap (d - 1))).bind fun q =>
 (if !decide (p = q) then ((Qcf c b h d).bind fun s =>
 (Jc c g).bind fun v =>
 (Kv c g s).bind fun k =>
 some (IntKind.i64.wrap (g + 1), k))
 else (some (g, c))).bind (J2 fun (j : Int) (l : (List Int)) => some (Ctl.next (j, IntKind.i64.wrap (d + 1), l))))
 else (some (Ctl.brk (g, d, c)))) (b, 1, a)) (fun r => some (Ctl.ret r)) (un3 fun (e : Int) (t : Int) (f : (List Int)) => (QaG f e (f.length : Int)).bind fun i =>
 (QaG ((f).take (e).toNat ++ List.replicate i 0 ++ (f).drop ((e).toNat + i)) 0 e).bind fun m =>
 some (Ctl.ret (m, (f).take (e).toNat ++ List.replicate i 0 ++ (f).drop ((e).toNat + i)))))
 else (some (Ctl.next (IntKind.i64.wrap (b + 1)))))
 else (some (Ctl.brk b))) 1) (fun r => some r) (fun (u : Int) => some ((a).length, a)))
noncomputable def Kn (a : Task) (ab : Int) (f : (List Int)) (j : (List Int)) (o : Int) : Option ((List Int)) :=
 (Jc a.Ops ab).bind fun g =>
 (mk 8 0 (a.Vars.length : Int)).bind fun t =>
 (QcQ a f t o).bind <| fun (u : (List Int)) =>
 ctl (JS (R := ((List Int))) (fun p => fun (e : (List Int)) => (Jc g.Pre (p : Int)).bind fun b =>
 (QU f b.Var).bind <| fun (ad : Bool) =>
 if ad then ((Jc e b.Var).bind fun ac =>
 if !decide (ac = b.Val) then (some (Ctl.ret []))
 else (some (Ctl.next e)))
 else ((Jc e b.Var).bind fun al =>
 (Kv e b.Var b.Val).bind fun v =>
 some (Ctl.next v))) (g.Pre.length) 0 u) (fun r => some r) (fun (w : (List Int)) => (Kf a j).bind <| J2 fun (m : Int) (an : Bool) =>
 (must (decide (m ≤ 9223372036854775807))).bind fun aj =>
 (forS (fun q => J2 fun (i : (List Int)) (k : (List Int)) => (QcQ a j k (q : Int)).bind <| fun (h : (List Int)) =>
 (Jr h).bind <| fun (ae : (List Int)) =>
 (forS (fun s => fun (c : (List Int)) => (Jc g.Effs (s : Int)).bind fun d =>
 ((QU f d.Var).bind <| fun (af : Bool) =>
 if af then ((Qa7 d.When h).bind <| fun (ag : Bool) =>
 some ag)
 else (some false)).bind (fun (ai : Bool) => (if ai then ((Jc c d.Var).bind fun am =>
 (Kv c d.Var d.Val).bind fun x =>
 some x)
 else (some c)).bind (fun (y : (List Int)) => some y))) (g.Effs.length) 0 ae).bind (fun (c : (List Int)) => (JO a f c).bind <| fun (ah : Int) =>
 (app 8 i [ah]).bind fun z =>
 some (z, h))) (m.toNat) 0 ([], w)).bind (J2 fun (i : (List Int)) (k : (List Int)) => (Yd i).bind <| fun (aa : (List Int)) =>
 (Jn aa).bind <| J2 fun (n : Nat) (l : (List Int)) =>
 (must (decide (n ≤ l.length))).bind fun ak =>
 some ((l).take n)))
structure Edge where
 From : Int
 Label : Int
 To : Int
def encEdge : Enc Edge := Enc.iso ((Qa .i64).pair ((Qa .i64).pair (Qa .i64))) (fun b => (b.From, b.Label, b.To))
theorem JX {s : PHeap} {v : Value} {b : Edge} : encEdge.val s v b ↔ v = .agg #[.int .i64 (b.From), .int .i64 (b.Label), .int .i64 (b.To)] := by
 simp only [Enc.iso, Enc.pair, Enc.val, encEdge, Qa, if_true, Yi]
 constructor
 ·rintro ⟨cs, rfl, h⟩
  obtain ⟨cs⟩ := cs
  simp only [] at h
  obtain ⟨_, _, rfl, rfl, ⟨_, _, rfl, rfl, rfl⟩⟩ := h
  rfl
 ·rintro rfl
  exact ⟨_, Z, ⟨[.int .i64 (b.From)], [.int .i64 (b.Label), .int .i64 (b.To)], Z, Z, ⟨[.int .i64 (b.Label)], [.int .i64 (b.To)], Z, Z, Z⟩⟩⟩
structure System where
 States : Int
 Init : Int
 Costs : (List Int)
 Edges : (List Edge)
 Goals : (List Bool)
noncomputable def J6 (a : Task) (b : (List Int)) : Option ((Option Int) × System) :=
 (KW a b).bind <| fun (n : (Option Int)) =>
 if n.isSome then (some (n, (⟨0, 0, [], [], []⟩ : System)))
 else ((Kf a b).bind <| J2 fun (h : Int) (ah : Bool) =>
 if !ah then (some (some 5, (⟨0, 0, [], [], []⟩ : System)))
 else ((JO a b a.Init).bind <| fun (ai : Int) =>
 (mk 24 [] (a.Ops.length : Int)).bind fun t =>
 ctl (JS (R := ((Option Int) × System)) (fun c => J2 fun (am : (List Int)) (i : (List (List Int))) => (Jc a.Ops (c : Int)).bind fun m =>
 (app 8 am [m.Cost]).bind fun u =>
 (Ko m b).bind <| fun (aj : (List Int)) =>
 (Jc i (c : Int)).bind fun aw =>
 (Kv i (c : Int) aj).bind fun j =>
 (Jc j (c : Int)).bind fun ad =>
 (Kf a ad).bind <| J2 fun (ax : Int) (ak : Bool) =>
 if !ak then (some (Ctl.ret (some 5, (⟨0, 0, [], [], []⟩ : System))))
 else (some (Ctl.next (u, j)))) (a.Ops.length) 0 ([], t)) (fun r => some r) (J2 fun (an : (List Int)) (v : (List (List Int))) => (mk 8 0 (a.Vars.length : Int)).bind fun w =>
 (must (decide (h ≤ 9223372036854775807))).bind fun av =>
 ctl (JS (R := ((Option Int) × System)) (fun e => un3 fun (ao : (List Edge)) (ap : (List Bool)) (x : (List Int)) => (QcQ a b x (e : Int)).bind <| fun (k : (List Int)) =>
 (forS (fun q => fun (d : Bool) => (Jc a.Goal (q : Int)).bind fun g =>
 (if d then ((QU b g.Var).bind <| fun (al : Bool) =>
 if !al then (some true)
 else ((Jc k g.Var).bind fun ae =>
 some (decide (ae = g.Val))))
 else (some false)).bind (fun (p : Bool) => some p)) (a.Goal.length) 0 true).bind (fun (d : Bool) => (app 1 ap [d]).bind fun y =>
 ctl (JS (R := ((Option Int) × System)) (fun f => fun (z : (List Edge)) => (Jc v (f : Int)).bind fun af =>
 (Kn a (f : Int) b af (e : Int)).bind <| fun (o : (List Int)) =>
 ctl (JS (R := ((Option Int) × System)) (fun s => fun (l : (List Edge)) => (Jc o (s : Int)).bind fun ag =>
 if decide ((l.length : Int) = 65536) then (some (Ctl.ret (some 5, (⟨0, 0, [], [], []⟩ : System))))
 else ((app 24 l [(⟨(e : Int), (f : Int), ag⟩ : Edge)]).bind fun aa =>
 some (Ctl.next aa))) (o.length) 0 z) (fun r => some (Ctl.ret r)) (fun (ab : (List Edge)) => some (Ctl.next ab))) (a.Ops.length) 0 ao) (fun r => some (Ctl.ret r)) (fun (ac : (List Edge)) => some (Ctl.next (ac, y, k))))) (h.toNat) 0 ([], [], w)) (fun r => some r) (un3 fun (aq : (List Edge)) (ar : (List Bool)) (au : (List Int)) => some (none, (⟨h, ai, an, aq, ar⟩ : System))))))
noncomputable def KQ (b : Int) : Option (Int) :=
 ctl (Kw (R := (Int)) (fun (a : Int) => if decide ((IntKind.i64.wrap ((IntKind.i64.wrap (a + 1)) * (IntKind.i64.wrap (a + 1)))) ≤ b) then (some (Ctl.next (IntKind.i64.wrap (a + 1))))
 else (some (Ctl.brk a))) 0) (fun r => some r) (fun (c : Int) => some c)
noncomputable def Yk (a : Task) (b : Int) : Option ((Option Int) × System) :=
 (J6 a [b]).bind <| J2 fun (c : (Option Int)) (d : System) =>
 some (c, d)
noncomputable def Yo (a : Int) : Option (Bool) :=
 some (!decide (a = a))
def Jm (a : Int) : Bool :=
 (!decide (a = a))
theorem Yt (a : Int) : Yo a = some (Jm a) := by
 unfold Yo Jm
 (repeat' split) <;> rfl
attribute [irreducible] Jm
noncomputable def K1 (b : Int) (a : Int) : Option (Int) :=
 if (Jm b) then (if (Jm a) then (some 0)
 else (some (-1)))
 else (if (Jm a) then (some 1)
 else (if decide (b < a) then (some (-1))
 else (if decide (a < b) then (some 1)
 else (some 0))))
def Qp (b : Int) (a : Int) : Int :=
 if (Jm b) then (if (Jm a) then (0)
 else ((-1)))
 else (if (Jm a) then (1)
 else (if decide (b < a) then ((-1))
 else (if decide (a < b) then (1)
 else (0))))
theorem Jy (a : Int) (b : Int) : K1 a b = some (Qp a b) := by
 unfold K1 Qp
 (repeat' split) <;> rfl
attribute [irreducible] Qp
noncomputable def Ye (a : (List Int)) : Option (Int) :=
 ctl (JS (R := (Int)) (fun c => fun (_ : Unit) => (Jc a (c : Int)).bind fun b =>
 if !decide (b = 0) then (some (Ctl.ret b))
 else (some (Ctl.next ()))) (a.length) 0 ()) (fun r => some r) (fun (_ : Unit) => some 0)
noncomputable def K8 (a : Edge) (b : Edge) : Option (Int) :=
 (Ye [(Qp a.From b.From), (Qp a.Label b.Label), (Qp a.To b.To)]).bind <| fun (c : Int) =>
 some c
noncomputable def Ke (a : System) : Option (Bool) :=
 if ((decide (a.States < 1)) || ((decide (4096 < a.States)) || ((decide (a.Init < 0)) || ((decide (a.States ≤ a.Init)) || ((!decide ((a.Goals.length : Int) = a.States)) || ((decide (4096 < (a.Costs.length : Int))) || decide (65536 < (a.Edges.length : Int)))))))) then (some false)
 else (ctl (JS (R := (Bool)) (fun e => fun (_ : Unit) => (Jc a.Costs (e : Int)).bind fun d =>
 if ((decide (d < 0)) || decide (1048576 < d)) then (some (Ctl.ret false))
 else (some (Ctl.next ()))) (a.Costs.length) 0 ()) (fun r => some r) (fun (_ : Unit) => ctl (JS (R := (Bool)) (fun c => fun (_ : Unit) => (Jc a.Edges (c : Int)).bind fun b =>
 (if decide (b.From < 0) then (some true)
 else (if decide (a.States ≤ b.From) then (some true)
 else (if decide (b.To < 0) then (some true)
 else (if decide (a.States ≤ b.To) then (some true)
 else (if decide (b.Label < 0) then (some true)
 else (if decide ((a.Costs.length : Int) ≤ b.Label) then (some true)
 else (if decide (0 < (c : Int)) then ((Jc a.Edges (IntKind.i64.wrap ((c : Int) - 1))).bind fun f =>
 (K8 f b).bind <| fun (g : Int) =>
 some (decide (0 ≤ g)))
 else (some false)))))))).bind (fun (h : Bool) => if h then (some (Ctl.ret false))
 else (some (Ctl.next ())))) (a.Edges.length) 0 ()) (fun r => some r) (fun (_ : Unit) => some true)))
noncomputable def Kc (a : Bool) : Option (ByteArray) :=
 if a then (some (⟨#[116, 114, 117, 101]⟩))
 else (some (⟨#[102, 97, 108, 115, 101]⟩))
def JK (a : Bool) : ByteArray :=
 if a then ((⟨#[116, 114, 117, 101]⟩))
 else ((⟨#[102, 97, 108, 115, 101]⟩))
theorem YF (a : Bool) : Kc a = some (JK a) := by
 unfold Kc JK
 (repeat' split) <;> rfl
attribute [irreducible] JK
noncomputable def K6 (a : Bool) : Option (ByteArray) :=
 some (JK a)
def Jw (a : Bool) : ByteArray :=
 (JK a)
theorem QaD (a : Bool) : K6 a = some (Jw a) := by
 unfold K6 Jw
 (repeat' split) <;> rfl
attribute [irreducible] Jw
noncomputable def Ks (c : (List ByteArray)) : Option ((List Int) × Int) :=
 (forS (fun f => J2 fun (b : (List Int)) (a : Qcg) => (Jc c (f : Int)).bind fun e =>
 (QfH a e).bind fun d =>
 (if !d.2 then ((QfG a e (a.length : Int)).bind fun j =>
 some ((a.length : Int), j))
 else (some (d.1, a))).bind (J2 fun (g : Int) (h : Qcg) => (app 8 b [g]).bind fun i =>
 some (i, h))) (c.length) 0 ([], ([] : Qcg))).bind (J2 fun (b : (List Int)) (a : Qcg) => some (b, (a.length : Int)))
structure Arr2_int where
 a0 : Int
 a1 : Int
def encArr2_int : Enc Arr2_int := Enc.iso ((Qa .i64).pair (Qa .i64)) (fun b => (b.a0, b.a1))
theorem KD {s : PHeap} {v : Value} {b : Arr2_int} : encArr2_int.val s v b ↔ v = .agg #[.int .i64 (b.a0), .int .i64 (b.a1)] := by
 simp only [Enc.iso, Enc.pair, Enc.val, encArr2_int, Qa, if_true, Yi]
 constructor
 ·rintro ⟨cs, rfl, h⟩
  obtain ⟨cs⟩ := cs
  simp only [] at h
  obtain ⟨_, _, rfl, rfl, rfl⟩ := h
  rfl
 ·rintro rfl
  exact ⟨_, Z, ⟨[.int .i64 (b.a0)], [.int .i64 (b.a1)], Z, Z, Z⟩⟩
noncomputable def Ys (a : Arr2_int) (b : Arr2_int) : Option (Int) :=
 (Ye [(Qp a.a0 b.a0), (Qp a.a1 b.a1)]).bind <| fun (c : Int) =>
 some c
def QfB (a b : Arr2_int) : Int := if QbB a.a0 b.a0 ≠ 0 then QbB a.a0 b.a0 else QbB a.a1 b.a1
noncomputable def Qbf (xs : List Arr2_int) : Option (List Arr2_int) := if xs.length < 4611686018427387904 then some (xs.mergeSort fun x y => !decide (QfB y x < 0)) else none
noncomputable def Qbu (a : Int) : Option (ByteArray) :=
 if decide (a < 10) then ((Qms (⟨#[48, 49, 50, 51, 52, 53, 54, 55, 56, 57, 97, 98, 99, 100, 101, 102, 103, 104, 105, 106, 107, 108, 109, 110, 111, 112, 113, 114, 115, 116, 117, 118, 119, 120, 121, 122]⟩) a (IntKind.i64.wrap (a + 1))).bind fun b =>
 some b)
 else ((Qms (⟨#[48, 48, 48, 49, 48, 50, 48, 51, 48, 52, 48, 53, 48, 54, 48, 55, 48, 56, 48, 57, 49, 48, 49, 49, 49, 50, 49, 51, 49, 52, 49, 53, 49, 54, 49, 55, 49, 56, 49, 57, 50, 48, 50, 49, 50, 50, 50, 51, 50, 52, 50, 53, 50, 54, 50, 55, 50, 56, 50, 57, 51, 48, 51, 49, 51, 50, 51, 51, 51, 52, 51, 53, 51, 54, 51, 55, 51, 56, 51, 57, 52, 48, 52, 49, 52, 50, 52, 51, 52, 52, 52, 53, 52, 54, 52, 55, 52, 56, 52, 57, 53, 48, 53, 49, 53, 50, 53, 51, 53, 52, 53, 53, 53, 54, 53, 55, 53, 56, 53, 57, 54, 48, 54, 49, 54, 50, 54, 51, 54, 52, 54, 53, 54, 54, 54, 55, 54, 56, 54, 57, 55, 48, 55, 49, 55, 50, 55, 51, 55, 52, 55, 53, 55, 54, 55, 55, 55, 56, 55, 57, 56, 48, 56, 49, 56, 50, 56, 51, 56, 52, 56, 53, 56, 54, 56, 55, 56, 56, 56, 57, 57, 48, 57, 49, 57, 50, 57, 51, 57, 52, 57, 53, 57, 54, 57, 55, 57, 56, 57, 57]⟩) (IntKind.i64.wrap (a * 2)) (IntKind.i64.wrap ((IntKind.i64.wrap (a * 2)) + 2))).bind fun c =>
 some c)
noncomputable def YT (a : Int) (b : Int) : Option (ByteArray) :=
 if decide (b = 10) then (if ((decide (0 ≤ a)) && decide (a < 100)) then ((Qbu a).bind <| fun (c : ByteArray) =>
 some c)
 else (none))
 else (none)
noncomputable def Qal (a : Int) : Option (ByteArray) :=
 (YT a 10).bind <| fun (b : ByteArray) =>
 some b
noncomputable def KO (a : Int) : Option (ByteArray) :=
 (Qal a).bind <| fun (b : ByteArray) =>
 some b
noncomputable def J7 (a : (List Arr2_int)) : Option (Nat × (List Arr2_int)) :=
 if decide ((a.length : Int) < 2) then (some ((a).length, a))
 else (ctl (Kw (R := (Nat × (List Arr2_int))) (fun (b : Int) => if decide (b < (a.length : Int)) then ((Jc a b).bind fun j =>
 (Jc a (IntKind.i64.wrap (b - 1))).bind fun k =>
 if eqs [j.a0, j.a1] [k.a0, k.a1] then ((QaG a b (a.length : Int)).bind fun h =>
 ctl (Kw (R := (Nat × (List Arr2_int))) (un3 fun (g : Int) (d : Int) (c : (List Arr2_int)) => if decide (d < (h : Int)) then ((Qcf c b h d).bind fun l =>
 (Qcf c b h (IntKind.i64.wrap (d - 1))).bind fun m =>
 (if !(eqs [l.a0, l.a1] [m.a0, m.a1]) then ((Qcf c b h d).bind fun s =>
 (Jc c g).bind fun v =>
 (Kv c g s).bind fun o =>
 some (IntKind.i64.wrap (g + 1), o))
 else (some (g, c))).bind (J2 fun (n : Int) (p : (List Arr2_int)) => some (Ctl.next (n, IntKind.i64.wrap (d + 1), p))))
 else (some (Ctl.brk (g, d, c)))) (b, 1, a)) (fun r => some (Ctl.ret r)) (un3 fun (e : Int) (t : Int) (f : (List Arr2_int)) => (QaG f e (f.length : Int)).bind fun i =>
 (QaG ((f).take (e).toNat ++ List.replicate i (⟨0, 0⟩ : Arr2_int) ++ (f).drop ((e).toNat + i)) 0 e).bind fun q =>
 some (Ctl.ret (q, (f).take (e).toNat ++ List.replicate i (⟨0, 0⟩ : Arr2_int) ++ (f).drop ((e).toNat + i)))))
 else (some (Ctl.next (IntKind.i64.wrap (b + 1)))))
 else (some (Ctl.brk b))) 1) (fun r => some r) (fun (u : Int) => some ((a).length, a)))
noncomputable def Yb (d : System) (i : (List Int)) : Option ((List Int) × Int) :=
 (mk 24 ([] : (List Arr2_int)) d.States).bind fun r =>
 (forS (fun p => fun (b : (List (List Arr2_int))) => (Jc d.Edges (p : Int)).bind fun e =>
 (Jc b e.From).bind fun ab =>
 (Jc i e.To).bind fun af =>
 (app 16 ab [(⟨e.Label, af⟩ : Arr2_int)]).bind fun s =>
 (Kv b e.From s).bind fun t =>
 some t) (d.Edges.length) 0 r).bind (fun (b : (List (List Arr2_int))) => (mk 16 (⟨#[]⟩) d.States).bind fun u =>
 (forS (fun a => J2 fun (c : (List ByteArray)) (f : (List (List Arr2_int))) => (Jc f (a : Int)).bind fun ac =>
 (Qbf ac).bind <| fun (v : (List Arr2_int)) =>
 (Kv f (a : Int) v).bind fun j =>
 (Jc i (a : Int)).bind fun ag =>
 (KO ag).bind <| fun (ah : ByteArray) =>
 (Qjb ([] : List Int) ah).bind fun w =>
 (Jc j (a : Int)).bind fun ad =>
 (J7 ad).bind <| J2 fun (h : Nat) (x : (List Arr2_int)) =>
 (Kv j (a : Int) x).bind fun k =>
 (must (decide ((h : Int) ≤ 9223372036854775807))).bind fun am =>
 (forS (fun q => fun (g : (List Int)) => (Jc k (a : Int)).bind fun ae =>
 (Qcf ae 0 h (q : Int)).bind fun l =>
 (KO l.a0).bind <| fun (ai : ByteArray) =>
 (cat (⟨#[32]⟩) ai).bind fun m =>
 (cat m (⟨#[58]⟩)).bind fun n =>
 (KO l.a1).bind <| fun (aj : ByteArray) =>
 (cat n aj).bind fun o =>
 (Qjb g o).bind fun y =>
 some y) ((h : Int).toNat) 0 w).bind (fun (g : (List Int)) => (QfC g).bind fun aa =>
 (Jc c (a : Int)).bind fun an =>
 (Kv c (a : Int) aa).bind fun z =>
 some (z, k))) (b.length) 0 (u, b)).bind (J2 fun (c : (List ByteArray)) (f : (List (List Arr2_int))) => (Ks c).bind <| J2 fun (ak : (List Int)) (al : Int) =>
 some (ak, al)))
noncomputable def JY (a : System) : Option ((List Int) × (Option Int)) :=
 (Ke a).bind <| fun (k : Bool) =>
 if !k then (some ([], some 2))
 else ((mk 16 (⟨#[]⟩) a.States).bind fun g =>
 (forS (fun c => fun (b : (List ByteArray)) => (Jc a.Goals (c : Int)).bind fun j =>
 (Jc b (c : Int)).bind fun p =>
 (Kv b (c : Int) (Jw j)).bind fun h =>
 some h) (a.Goals.length) 0 g).bind (fun (b : (List ByteArray)) => (Ks b).bind <| J2 fun (l : (List Int)) (m : Int) =>
 ctl (Kw (R := ((List Int) × (Option Int))) (J2 fun (f : (List Int)) (i : Int) => (Yb a f).bind <| J2 fun (d : (List Int)) (e : Int) =>
 if decide (e = i) then (some (Ctl.ret (d, none)))
 else (some (Ctl.next (d, e)))) (l, m)) (fun r => some r) (J2 fun (n : (List Int)) (o : Int) => none)))
noncomputable def JD (b : (List Int)) : Option (Int) :=
 (if decide ((b.length : Int) < 1) then (none)
 else (some ())).bind (fun (_ : Unit) => (Jc b 0).bind fun e =>
 ctl (Kw (R := (Int)) (J2 fun (c : Int) (a : Int) => if decide (a < (b.length : Int)) then ((Jc b a).bind fun f =>
 some (Ctl.next (max c f, IntKind.i64.wrap (a + 1))))
 else (some (Ctl.brk (c, a)))) (e, 1)) (fun r => some r) (J2 fun (d : Int) (g : Int) => some d))
noncomputable def Yz (c : (List Bool)) : Option (Int × Int) :=
 ctl (Kw (R := (Int × Int)) (fun (a : Int) => if decide (0 < a) then (ctl (Kw (R := (Int × Int)) (fun (b : Int) => if decide (0 ≤ b) then ((Jc c b).bind fun d =>
 (Jc c a).bind fun e =>
 if (d == e) then (some (Ctl.ret (b, a)))
 else (some (Ctl.next (IntKind.i64.wrap (b - 1)))))
 else (some (Ctl.brk b))) (IntKind.i64.wrap (a - 1))) (fun r => some (Ctl.ret r)) (fun (f : Int) => some (Ctl.next (IntKind.i64.wrap (a - 1)))))
 else (some (Ctl.brk a))) (IntKind.i64.wrap ((c.length : Int) - 1))) (fun r => some r) (fun (g : Int) => some (0, 1))
def QfK (xs : List Bool) (i j : Int) : Option (List Bool) := if 0 ≤ i ∧ i ≤ j ∧ j ≤ xs.length ∧ 0 < xs.length then some (xs.take i.toNat ++ xs.drop j.toNat) else none
noncomputable def YD (k : System) (v : Int) : Option ((List Int) × (Option Int)) :=
 (JY k).bind <| J2 fun (e : (List Int)) (m : (Option Int)) =>
 if m.isSome then (some ([], m))
 else ((JD e).bind <| fun (x : Int) =>
 (mk 1 false (IntKind.i64.wrap (x + 1))).bind fun n =>
 (forS (fun j => fun (c : (List Bool)) => (Jc e (j : Int)).bind fun l =>
 (Jc k.Goals (j : Int)).bind fun w =>
 (Jc c l).bind fun aa =>
 (Kv c l w).bind fun o =>
 some o) (e.length) 0 n).bind (fun (c : (List Bool)) => ctl (Kw (R := ((List Int) × (Option Int))) (J2 fun (g : (List Int)) (d : (List Bool)) => if decide ((max 1 (min v 4096)) < (d.length : Int)) then ((Yz d).bind <| J2 fun (y : Int) (f : Int) =>
 (forS (fun b => fun (a : (List Int)) => (Jc a (b : Int)).bind fun i =>
 (if decide (i = f) then ((Kv a (b : Int) y).bind fun p =>
 some p)
 else (some a)).bind (fun (h : (List Int)) => (if decide (f < i) then ((Jc h (b : Int)).bind fun ab =>
 (Kv h (b : Int) (IntKind.i64.wrap (i - 1))).bind fun q =>
 some q)
 else (some h)).bind (fun (s : (List Int)) => some s))) (g.length) 0 g).bind (fun (a : (List Int)) => (QfK d f (IntKind.i64.wrap (f + 1))).bind <| fun (t : (List Bool)) =>
 some (Ctl.next (a, t))))
 else (some (Ctl.brk (g, d)))) (e, c)) (fun r => some r) (J2 fun (u : (List Int)) (z : (List Bool)) => some (u, none))))
noncomputable def J1 (a : (List Int)) : Option (Int) :=
 (JD a).bind <| fun (b : Int) =>
 some (IntKind.i64.wrap (b + 1))
noncomputable def Ky (b : (List Int)) (c : Int) : Option (Int × Bool) :=
 if !decide ((b.length : Int) = c) then (some (0, false))
 else ((mk 1 false c).bind fun i =>
 ctl (JS (R := (Int × Bool)) (fun g => J2 fun (l : Int) (e : (List Bool)) => (Jc b (g : Int)).bind fun a =>
 if ((decide (a < 0)) || decide (c ≤ a)) then (some (Ctl.ret (0, false)))
 else ((Jc e a).bind fun n =>
 (Kv e a true).bind fun j =>
 some (Ctl.next (max l (IntKind.i64.wrap (a + 1)), j)))) (b.length) 0 (0, i)) (fun r => some r) (J2 fun (f : Int) (k : (List Bool)) => (cut k 0 f).bind fun d =>
 ctl (JS (R := (Int × Bool)) (fun h => fun (_ : Unit) => (Jc d (h : Int)).bind fun m =>
 if !m then (some (Ctl.ret (0, false)))
 else (some (Ctl.next ()))) (d.length) 0 ()) (fun r => some r) (fun (_ : Unit) => some (f, true))))
noncomputable def QaA (a : Edge) (b : Edge) : Option (Int) :=
 (Ye [(Qp a.From b.From), (Qp a.Label b.Label), (Qp a.To b.To)]).bind <| fun (c : Int) =>
 some c
def Qbs (a b : Edge) : Int := if QbB a.From b.From ≠ 0 then QbB a.From b.From else if QbB a.Label b.Label ≠ 0 then QbB a.Label b.Label else QbB a.To b.To
noncomputable def KJ (xs : List Edge) : Option (List Edge) := if xs.length < 4611686018427387904 then some (xs.mergeSort fun x y => !decide (Qbs y x < 0)) else none
noncomputable def QaY (a : (List Edge)) : Option (Nat × (List Edge)) :=
 if decide ((a.length : Int) < 2) then (some ((a).length, a))
 else (ctl (Kw (R := (Nat × (List Edge))) (fun (b : Int) => if decide (b < (a.length : Int)) then ((Jc a b).bind fun j =>
 (Jc a (IntKind.i64.wrap (b - 1))).bind fun k =>
 if eqs [j.From, j.Label, j.To] [k.From, k.Label, k.To] then ((QaG a b (a.length : Int)).bind fun h =>
 ctl (Kw (R := (Nat × (List Edge))) (un3 fun (g : Int) (d : Int) (c : (List Edge)) => if decide (d < (h : Int)) then ((Qcf c b h d).bind fun l =>
 (Qcf c b h (IntKind.i64.wrap (d - 1))).bind fun m =>
 (if !(eqs [l.From, l.Label, l.To] [m.From, m.Label, m.To]) then ((Qcf c b h d).bind fun s =>
 (Jc c g).bind fun v =>
 (Kv c g s).bind fun o =>
 some (IntKind.i64.wrap (g + 1), o))
 else (some (g, c))).bind (J2 fun (n : Int) (p : (List Edge)) => some (Ctl.next (n, IntKind.i64.wrap (d + 1), p))))
 else (some (Ctl.brk (g, d, c)))) (b, 1, a)) (fun r => some (Ctl.ret r)) (un3 fun (e : Int) (t : Int) (f : (List Edge)) => (QaG f e (f.length : Int)).bind fun i =>
 (QaG ((f).take (e).toNat ++ List.replicate i (⟨0, 0, 0⟩ : Edge) ++ (f).drop ((e).toNat + i)) 0 e).bind fun q =>
 some (Ctl.ret (q, (f).take (e).toNat ++ List.replicate i (⟨0, 0, 0⟩ : Edge) ++ (f).drop ((e).toNat + i)))))
 else (some (Ctl.next (IntKind.i64.wrap (b + 1)))))
 else (some (Ctl.brk b))) 1) (fun r => some r) (fun (u : Int) => some ((a).length, a)))
noncomputable def Yl (c : (List Edge)) : Option ((List Edge)) :=
 (KJ c).bind <| fun (d : (List Edge)) =>
 (QaY d).bind <| J2 fun (b : Nat) (a : (List Edge)) =>
 (must (decide (b ≤ a.length))).bind fun e =>
 some ((a).take b)
noncomputable def KF (a : System) (b : (List Int)) : Option ((Option Int) × System) :=
 (Ky b a.States).bind <| J2 fun (h : Int) (u : Bool) =>
 ((Ke a).bind <| fun (v : Bool) =>
 if !v then (some true)
 else (some (!u))).bind (fun (x : Bool) => if x then (some (some 2, (⟨0, 0, [], [], []⟩ : System)))
 else ((Jc b a.Init).bind fun p =>
 (QA a.Costs).bind <| fun (w : (List Int)) =>
 (mk 1 false h).bind fun j =>
 (forS (fun g => fun (c : (List Bool)) => (Jc a.Goals (g : Int)).bind fun q =>
 ((Jc b (g : Int)).bind fun d =>
 (Jc c d).bind fun r =>
 if r then ((Kv c d true).bind fun k =>
 some k)
 else ((Kv c d q).bind fun l =>
 some l)).bind (fun (m : (List Bool)) => some m)) (a.Goals.length) 0 j).bind (fun (c : (List Bool)) => (forS (fun i => fun (f : (List Edge)) => (Jc a.Edges (i : Int)).bind fun e =>
 (Jc b e.From).bind fun s =>
 (Jc b e.To).bind fun t =>
 (app 24 f [(⟨s, e.Label, t⟩ : Edge)]).bind fun n =>
 some n) (a.Edges.length) 0 []).bind (fun (f : (List Edge)) => (Yl f).bind <| fun (o : (List Edge)) =>
 some (none, (⟨h, p, w, o, c⟩ : System))))))
noncomputable def Jk (b : mergeshrink_Abstraction) (a : System) (d : Int) : Option ((List Int) × (Option Int) × System × Bool) :=
 if decide (a.States ≤ d) then ((Kz a.States).bind <| fun (g : (List Int)) =>
 some (g, none, a, b.exact))
 else ((YD a d).bind <| J2 fun (c : (List Int)) (e : (Option Int)) =>
 if e.isSome then (some ([], e, (⟨0, 0, [], [], []⟩ : System), b.exact))
 else ((JY a).bind <| J2 fun (h : (List Int)) (f : (Option Int)) =>
 if f.isSome then (some ([], f, (⟨0, 0, [], [], []⟩ : System), b.exact))
 else ((if b.exact then ((J1 c).bind <| fun (i : Int) =>
 (J1 h).bind <| fun (j : Int) =>
 some (decide (i = j)))
 else (some false)).bind (fun (m : Bool) => (KF a c).bind <| J2 fun (k : (Option Int)) (l : System) =>
 some (c, k, l, m)))))
noncomputable def Kx (b : System) : Option ((List (List Edge))) :=
 (mk 24 ([] : (List Edge)) (b.Costs.length : Int)).bind fun e =>
 (forS (fun d => fun (a : (List (List Edge))) => (Jc b.Edges (d : Int)).bind fun c =>
 (Jc a c.Label).bind fun h =>
 (app 24 h [c]).bind fun f =>
 (Kv a c.Label f).bind fun g =>
 some g) (b.Edges.length) 0 e).bind (fun (a : (List (List Edge))) => some a)
noncomputable def QcG (xs : List Edge) : Option (List Edge) := KJ xs
noncomputable def Ya (b : System) (a : System) : Option ((Option Int) × System) :=
 ((Ke b).bind <| fun (ad : Bool) =>
 if !ad then (some true)
 else ((Ke a).bind <| fun (ae : Bool) =>
 if !ae then (some true)
 else ((Jv b.Costs a.Costs).bind <| fun (af : Bool) =>
 some (!af)))).bind (fun (ah : Bool) => if ah then (some (some 2, (⟨0, 0, [], [], []⟩ : System)))
 else (if decide (4096 < (IntKind.i64.wrap (b.States * a.States))) then (some (some 5, (⟨0, 0, [], [], []⟩ : System)))
 else ((QA b.Costs).bind <| fun (ag : (List Int)) =>
 (must (decide (b.States ≤ 9223372036854775807))).bind fun ai =>
 (forS (fun q => fun (i : (List Bool)) => (must (decide (a.States ≤ 9223372036854775807))).bind fun aj =>
 (forS (fun r => fun (c : (List Bool)) => ((Jc b.Goals (q : Int)).bind fun z =>
 if z then ((Jc a.Goals (r : Int)).bind fun aa =>
 (app 1 c [aa]).bind fun u =>
 some u)
 else ((app 1 c [false]).bind fun v =>
 some v)).bind (fun (w : (List Bool)) => some w)) (a.States.toNat) 0 i).bind (fun (c : (List Bool)) => some c)) (b.States.toNat) 0 []).bind (fun (i : (List Bool)) => (Kx b).bind <| fun (d : (List (List Edge))) =>
 (Kx a).bind <| fun (p : (List (List Edge))) =>
 (forS (fun k => fun (h : Int) => (Jc d (k : Int)).bind fun ab =>
 (Jc p (k : Int)).bind fun ac =>
 some (IntKind.i64.wrap (h + (IntKind.i64.wrap ((ab.length : Int) * (ac.length : Int)))))) (d.length) 0 0).bind (fun (h : Int) => if decide (65536 < h) then (some (some 5, (⟨0, 0, [], [], []⟩ : System)))
 else ((forS (fun e => fun (j : (List Edge)) => (Jc d (e : Int)).bind fun l =>
 (forS (fun s => fun (f : (List Edge)) => (Jc l (s : Int)).bind fun m =>
 (Jc p (e : Int)).bind fun n =>
 (forS (fun t => fun (g : (List Edge)) => (Jc n (t : Int)).bind fun o =>
 (app 24 g [(⟨IntKind.i64.wrap ((IntKind.i64.wrap (m.From * a.States)) + o.From), (e : Int), IntKind.i64.wrap ((IntKind.i64.wrap (m.To * a.States)) + o.To)⟩ : Edge)]).bind fun x =>
 some x) (n.length) 0 f).bind (fun (g : (List Edge)) => some g)) (l.length) 0 j).bind (fun (f : (List Edge)) => some f)) (d.length) 0 []).bind (fun (j : (List Edge)) => (QcG j).bind <| fun (y : (List Edge)) =>
 some (none, (⟨IntKind.i64.wrap (b.States * a.States), IntKind.i64.wrap ((IntKind.i64.wrap (b.Init * a.States)) + a.Init), ag, y, i⟩ : System)))))))))
noncomputable def Ja (e : mergeshrink_Abstraction) (o : Task) (i : (List Int)) (f : Int) : Option ((Option Int) × System × (List mergeshrink_stage) × Bool) :=
 if decide ((i.length : Int) = 0) then ((J6 o ([] : (List Int))).bind <| J2 fun (af : (Option Int)) (ag : System) =>
 some (af, ag, [], e.exact))
 else ((KQ f).bind <| fun (h : Int) =>
 ctl (JS (R := ((Option Int) × System × (List mergeshrink_stage) × Bool)) (fun m => un7 fun (a : (List mergeshrink_stage)) (k : Bool) (c : Int) (al : Int) (am : (List Int)) (an : (List Edge)) (ao : (List Bool)) => (Jc i (m : Int)).bind fun j =>
 (Yk o j).bind <| J2 fun (p : (Option Int)) (b : System) =>
 if p.isSome then (some (Ctl.ret (p, (⟨0, 0, [], [], []⟩ : System), a, k)))
 else (if decide ((m : Int) = 0) then ((Jk (⟨e.vars, a, [], k⟩ : mergeshrink_Abstraction) b f).bind <| un4 fun (ah : (List Int)) (q : (Option Int)) (d : System) (w : Bool) =>
 if q.isSome then (some (Ctl.ret (q, (⟨0, 0, [], [], []⟩ : System), a, w)))
 else ((app 64 a ([(⟨j, ah, [], d.States⟩ : mergeshrink_stage)])).bind fun y =>
 some (Ctl.next (y, w, d.States, d.Init, d.Costs, d.Edges, d.Goals))))
 else ((if decide (f < (IntKind.i64.wrap (c * b.States))) then ((if decide (c ≤ h) then ((must (!decide (c = 0))).bind fun ay =>
 some (c, IntKind.i64.wrap (f.tdiv c)))
 else ((if decide (b.States ≤ h) then ((must (!decide (b.States = 0))).bind fun az =>
 some (IntKind.i64.wrap (f.tdiv b.States), b.States))
 else (some (h, h))).bind (J2 fun (z : Int) (ac : Int) => some (z, ac)))).bind (J2 fun (aa : Int) (ad : Int) => some (aa, ad)))
 else (some (c, b.States))).bind (J2 fun (ab : Int) (ae : Int) => (Jk (⟨e.vars, a, [], k⟩ : mergeshrink_Abstraction) (⟨c, al, am, an, ao⟩ : System) ab).bind <| un4 fun (ai : (List Int)) (s : (Option Int)) (aj : System) (x : Bool) =>
 if s.isSome then (some (Ctl.ret (s, (⟨0, 0, [], [], []⟩ : System), a, x)))
 else ((Jk (⟨e.vars, a, [], x⟩ : mergeshrink_Abstraction) b ae).bind <| un4 fun (ak : (List Int)) (t : (Option Int)) (u : System) (l : Bool) =>
 if t.isSome then (some (Ctl.ret (t, (⟨0, 0, [], [], []⟩ : System), a, l)))
 else ((app 64 a [(⟨j, ak, ai, u.States⟩ : mergeshrink_stage)]).bind fun n =>
 (Ya aj u).bind <| J2 fun (v : (Option Int)) (g : System) =>
 if v.isSome then (some (Ctl.ret (v, (⟨0, 0, [], [], []⟩ : System), n, l)))
 else (some (Ctl.next (n, l, g.States, g.Init, g.Costs, g.Edges, g.Goals))))))))) (i.length) 0 ([], e.exact, 0, 0, [], [], [])) (fun r => some r) (un7 fun (ap : (List mergeshrink_stage)) (aq : Bool) (ar : Int) (au : Int) (av : (List Int)) (aw : (List Edge)) (ax : (List Bool)) => some (none, (⟨ar, au, av, aw, ax⟩ : System), ap, aq)))
noncomputable def Yv (c : System) : Option ((List Int)) :=
 (forS (fun b => fun (a : (List Int)) => (Jc c.Goals (b : Int)).bind fun f =>
 (if f then ((app 8 a [(b : Int)]).bind fun d =>
 some d)
 else (some a)).bind (fun (e : (List Int)) => some e)) (c.Goals.length) 0 []).bind (fun (a : (List Int)) => some a)
structure Arc where
 From : Int
 To : Int
 Weight : Int
def encArc : Enc Arc := Enc.iso ((Qa .i64).pair ((Qa .i64).pair (Qa .i64))) (fun b => (b.From, b.To, b.Weight))
theorem Qj5 {s : PHeap} {v : Value} {b : Arc} : encArc.val s v b ↔ v = .agg #[.int .i64 (b.From), .int .i64 (b.To), .int .i64 (b.Weight)] := by
 simp only [Enc.iso, Enc.pair, Enc.val, encArc, Qa, if_true, Yi]
 constructor
 ·rintro ⟨cs, rfl, h⟩
  obtain ⟨cs⟩ := cs
  simp only [] at h
  obtain ⟨_, _, rfl, rfl, ⟨_, _, rfl, rfl, rfl⟩⟩ := h
  rfl
 ·rintro rfl
  exact ⟨_, Z, ⟨[.int .i64 (b.From)], [.int .i64 (b.To), .int .i64 (b.Weight)], Z, Z, ⟨[.int .i64 (b.To)], [.int .i64 (b.Weight)], Z, Z, Z⟩⟩⟩
noncomputable def KP (d : System) (n : (List Int)) (w : Bool) : Option ((List Int)) :=
 (mk 24 ([] : (List Arc)) d.States).bind fun ab =>
 (forS (fun y => fun (h : (List (List Arc))) => (Jc d.Edges (y : Int)).bind fun g =>
 (Jc d.Costs g.Label).bind fun aq =>
 (if w then (some (g.To, g.From))
 else (some (g.From, g.To))).bind (J2 fun (q : Int) (aw : Int) => (Jc h q).bind fun ap =>
 (app 24 ap [(⟨q, aw, aq⟩ : Arc)]).bind fun ac =>
 (Kv h q ac).bind fun ad =>
 some ad)) (d.Edges.length) 0 ab).bind (fun (h : (List (List Arc))) => (mk 8 0 d.States).bind fun t =>
 (forS (fun s => fun (i : (List Int)) => (Jc i (s : Int)).bind fun a0 =>
 (Kv i (s : Int) 1125899906842624).bind fun ae =>
 some ae) (t.length) 0 t).bind (fun (i : (List Int)) => (mk 1 false d.States).bind fun af =>
 (QA n).bind <| fun (av : (List Int)) =>
 (forS (fun z => J2 fun (j : (List Int)) (k : (List Bool)) => (Jc n (z : Int)).bind fun l =>
 (Jc j l).bind fun a1 =>
 (Kv j l 0).bind fun ag =>
 (Jc k l).bind fun a2 =>
 (Kv k l true).bind fun ah =>
 some (ag, ah)) (n.length) 0 (i, af)).bind (J2 fun (j : (List Int)) (k : (List Bool)) => ctl (Kw (R := ((List Int))) (un3 fun (u : (List Int)) (o : (List Bool)) (e : (List Int)) => if decide (0 < (e.length : Int)) then ((Jc e 0).bind fun m =>
 (cut e 1 (e.length : Int)).bind fun x =>
 (Jc o m).bind fun a3 =>
 (Kv o m false).bind fun ai =>
 (Jc h m).bind fun p =>
 (must (decide (p.length ≤ 9223372036854775807))).bind fun az =>
 (forS (fun aa => un3 fun (b : (List Int)) (c : (List Bool)) (f : (List Int)) => (Jc p (aa : Int)).bind fun a =>
 (Jc b m).bind fun v =>
 (Jc b a.To).bind fun ar =>
 if decide (ar ≤ (IntKind.i64.wrap (v + a.Weight))) then (some (b, c, f))
 else ((Kv b a.To (IntKind.i64.wrap (v + a.Weight))).bind fun aj =>
 (Jc c a.To).bind fun au =>
 (if !au then ((app 8 f [a.To]).bind fun ak =>
 (Kv c a.To true).bind fun al =>
 some (al, ak))
 else (some (c, f))).bind (J2 fun (am : (List Bool)) (an : (List Int)) => some (aj, am, an)))) (p.length) 0 (u, ai, x)).bind (un3 fun (b : (List Int)) (c : (List Bool)) (f : (List Int)) => some (Ctl.next (b, c, f))))
 else (some (Ctl.brk (u, o, e)))) (j, k, av)) (fun r => some r) (un3 fun (ao : (List Int)) (ax : (List Bool)) (ay : (List Int)) => some ao))))
noncomputable def KE (a : System) : Option ((List Int) × (Option Int)) :=
 (Ke a).bind <| fun (b : Bool) =>
 if !b then (some ([], some 2))
 else ((Yv a).bind <| fun (c : (List Int)) =>
 (KP a c true).bind <| fun (d : (List Int)) =>
 some (d, none))
noncomputable def Jf (a : Task) (b : (List Int)) (g : Int) : Option ((Option mergeshrink_Abstraction) × (Option Int)) :=
 (YK a).bind <| fun (c : (Option Int)) =>
 if c.isSome then (some (none, c))
 else ((Kd b).bind <| fun (h : (List Int)) =>
 (Kz (a.Vars.length : Int)).bind <| fun (i : (List Int)) =>
 (Jv h i).bind <| fun (j : Bool) =>
 if !j then (some (none, some 2))
 else ((QA a.Vars).bind <| fun (d : (List Int)) =>
 (Ja (⟨d, [], [], true⟩ : mergeshrink_Abstraction) a b (max 1 (min g 4096))).bind <| un4 fun (e : (Option Int)) (k : System) (m : (List mergeshrink_stage)) (n : Bool) =>
 if e.isSome then (some (none, e))
 else ((KE k).bind <| J2 fun (l : (List Int)) (f : (Option Int)) =>
 if f.isSome then (some (none, f))
 else (some (some (⟨d, m, l, n⟩ : mergeshrink_Abstraction), none)))))
noncomputable def Yy (c : (List Int)) (a : (List Int)) : Option (Bool) :=
 if !decide ((a.length : Int) = (c.length : Int)) then (some false)
 else (ctl (JS (R := (Bool)) (fun b => fun (_ : Unit) => (Jc a (b : Int)).bind fun d =>
 (if decide (d < 0) then (some true)
 else ((Jc c (b : Int)).bind fun e =>
 some (decide (e ≤ d)))).bind (fun (f : Bool) => if f then (some (Ctl.ret false))
 else (some (Ctl.next ())))) (a.length) 0 ()) (fun r => some r) (fun (_ : Unit) => some true))
noncomputable def Q1 (a : mergeshrink_Abstraction) (e : (List Int)) : Option (Int) :=
 (Yy a.vars e).bind <| fun (k : Bool) =>
 if !k then (some 1125899906842624)
 else ((forS (fun d => fun (c : Int) => (Jc a.stages (d : Int)).bind fun b =>
 (Jc e b.variable_).bind fun h =>
 (Jc b.class_ h).bind fun f =>
 (if decide ((d : Int) = 0) then (some f)
 else ((Jc b.after c).bind fun i =>
 some (IntKind.i64.wrap ((IntKind.i64.wrap (i * b.states)) + f)))).bind (fun (g : Int) => some g)) (a.stages.length) 0 0).bind (fun (c : Int) => (Jc a.distance c).bind fun j =>
 some j))
noncomputable def J4 (a : mergeshrink_Abstraction) : Option (Int) :=
 some (a.distance.length : Int)
def QY (a : mergeshrink_Abstraction) : Int :=
 (a.distance.length : Int)
theorem JN (a : mergeshrink_Abstraction) : J4 a = some (QY a) := by
 unfold J4 QY
 (repeat' split) <;> rfl
attribute [irreducible] QY
noncomputable def Jz (a : mergeshrink_Abstraction) : Option (Bool) :=
 some a.exact
def Jl (a : mergeshrink_Abstraction) : Bool :=
 a.exact
theorem JJ (a : mergeshrink_Abstraction) : Jz a = some (Jl a) := by
 unfold Jz Jl
 (repeat' split) <;> rfl
attribute [irreducible] Jl
noncomputable def Y4  : Option (Bool) :=
 (Jf KC [0, 1] 6).bind <| J2 fun (f : (Option mergeshrink_Abstraction)) (c : (Option Int)) =>
 Qfp f ((must c.isSome).bind fun m =>
 (Jf KC [1, 0] 1).bind <| J2 fun (g : (Option mergeshrink_Abstraction)) (d : (Option Int)) =>
 Qfp g ((must d.isSome).bind fun n =>
 some false) (fun l => (must d.isNone).bind fun o =>
 some false)) (fun a => (must c.isNone).bind fun p =>
 (Jf KC [1, 0] 1).bind <| J2 fun (h : (Option mergeshrink_Abstraction)) (e : (Option Int)) =>
 Qfp h ((must e.isSome).bind fun q =>
 some false) (fun b => (must e.isNone).bind fun r =>
 ((Q1 a [0, 0]).bind <| fun (i : Int) =>
 if decide (i = 3) then (if decide ((QY a) = 6) then (if (Jl a) then ((Q1 b [0, 0]).bind <| fun (j : Int) =>
 if decide (j = 0) then (if decide ((QY b) = 1) then (some (!(Jl b)))
 else (some false))
 else (some false))
 else (some false))
 else (some false))
 else (some false)).bind (fun (k : Bool) => some k)))
noncomputable def KY (c : (List Int)) (a : (List Int)) : Option (Bool) :=
 if !decide ((a.length : Int) = (c.length : Int)) then (some false)
 else (ctl (JS (R := (Bool)) (fun b => fun (_ : Unit) => ((Jc a (b : Int)).bind fun d =>
 if decide (d < 0) then (some true)
 else ((Jc c (b : Int)).bind fun e =>
 some (decide (e ≤ d)))).bind (fun (f : Bool) => if f then (some (Ctl.ret false))
 else (some (Ctl.next ())))) (a.length) 0 ()) (fun r => some r) (fun (_ : Unit) => some true))
noncomputable def KK (d : (List Int)) (b : (List Fact)) : Option (Bool) :=
 ctl (JS (R := (Bool)) (fun c => fun (_ : Unit) => (Jc b (c : Int)).bind fun a =>
 (if decide (a.Var < 0) then (some true)
 else (if decide ((d.length : Int) ≤ a.Var) then (some true)
 else (if decide (a.Val < 0) then (some true)
 else ((Jc d a.Var).bind fun e =>
 if decide (e ≤ a.Val) then (some true)
 else (if decide (0 < (c : Int)) then ((Jc b (IntKind.i64.wrap ((c : Int) - 1))).bind fun f =>
 some (decide (a.Var ≤ f.Var)))
 else (some false)))))).bind (fun (g : Bool) => if g then (some (Ctl.ret false))
 else (some (Ctl.next ())))) (b.length) 0 ()) (fun r => some r) (fun (_ : Unit) => some true)
noncomputable def Y1 (b : (List Int)) (a : Op) : Option (Bool) :=
 (if decide (a.Cost < 0) then (some true)
 else (if decide (1048576 < a.Cost) then (some true)
 else (if decide (64 < (a.Effs.length : Int)) then (some true)
 else (if decide (256 < (a.Name.size : Int)) then (some true)
 else ((KK b a.Pre).bind <| fun (g : Bool) =>
 some (!g)))))).bind (fun (j : Bool) => if j then (some false)
 else ((must (decide ((a.Name.size : Int) ≤ 9223372036854775807))).bind fun m =>
 ctl (JS (R := (Bool)) (fun e => fun (_ : Unit) => ((Jc (JW a.Name) (e : Int)).bind fun d =>
 if decide (d < 32) then (some true)
 else (some (decide (126 < d)))).bind (fun (k : Bool) => if k then (some (Ctl.ret false))
 else (some (Ctl.next ())))) ((a.Name.size : Int).toNat) 0 ()) (fun r => some r) (fun (_ : Unit) => ctl (JS (R := (Bool)) (fun f => fun (_ : Unit) => (Jc a.Effs (f : Int)).bind fun c =>
 ((KK b c.When).bind <| fun (h : Bool) =>
 if !h then (some true)
 else ((KK b [(⟨c.Var, c.Val⟩ : Fact)]).bind <| fun (i : Bool) =>
 some (!i))).bind (fun (l : Bool) => if l then (some (Ctl.ret false))
 else (some (Ctl.next ())))) (a.Effs.length) 0 ()) (fun r => some r) (fun (_ : Unit) => some true))))
noncomputable def Yq (a : Task) : Option (Bool) :=
 if ((decide (64 < (a.Vars.length : Int))) || decide (4096 < (a.Ops.length : Int))) then (some false)
 else (ctl (JS (R := (Bool)) (fun c => fun (_ : Unit) => (Jc a.Vars (c : Int)).bind fun b =>
 if ((decide (b < 1)) || decide (64 < b)) then (some (Ctl.ret false))
 else (some (Ctl.next ()))) (a.Vars.length) 0 ()) (fun r => some r) (fun (_ : Unit) => ((KY a.Vars a.Init).bind <| fun (f : Bool) =>
 if !f then (some true)
 else ((KK a.Vars a.Goal).bind <| fun (g : Bool) =>
 some (!g))).bind (fun (i : Bool) => if i then (some false)
 else (ctl (JS (R := (Bool)) (fun d => fun (_ : Unit) => (Jc a.Ops (d : Int)).bind fun e =>
 (Y1 a.Vars e).bind <| fun (h : Bool) =>
 if !h then (some (Ctl.ret false))
 else (some (Ctl.next ()))) (a.Ops.length) 0 ()) (fun r => some r) (fun (_ : Unit) => some true)))))
noncomputable def YC (c : (List Int)) (a : Int) : Option (Int) :=
 ctl (JS (R := (Int)) (fun e => fun (b : Int) => (Jc c (e : Int)).bind fun d =>
 if decide (a < (IntKind.i64.wrap (b * (min (max d 0) (IntKind.i64.wrap (a + 1)))))) then (some (Ctl.ret (IntKind.i64.wrap (a + 1))))
 else (some (Ctl.next (IntKind.i64.wrap (b * (min (max d 0) (IntKind.i64.wrap (a + 1)))))))) (c.length) 0 1) (fun r => some r) (fun (f : Int) => some f)
noncomputable def Qa2 (a : Task) : Option (Bool) :=
 if ((decide (12 < (a.Vars.length : Int))) || decide (20 < (a.Ops.length : Int))) then (some false)
 else (ctl (JS (R := (Bool)) (fun b => fun (_ : Unit) => (Jc a.Ops (b : Int)).bind fun c =>
 if decide (8 < (c.Effs.length : Int)) then (some (Ctl.ret false))
 else (some (Ctl.next ()))) (a.Ops.length) 0 ()) (fun r => some r) (fun (_ : Unit) => ((Yq a).bind <| fun (d : Bool) =>
 if d then ((YC a.Vars 512).bind <| fun (e : Int) =>
 some (decide (e ≤ 512)))
 else (some false)).bind (fun (f : Bool) => some f)))
noncomputable def Qbj (a : Task) : Option (Bool) :=
 ((Qa2 a).bind <| fun (b : Bool) =>
 if b then (if decide (0 < (a.Vars.length : Int)) then ((YC a.Vars 100).bind <| fun (c : Int) =>
 if decide (c ≤ 100) then (some (decide ((a.Ops.length : Int) ≤ 8)))
 else (some false))
 else (some false))
 else (some false)).bind (fun (d : Bool) => some d)
noncomputable def QaW (d : (List Int)) : Option ((List (List Int))) :=
 (forS (fun f => fun (a : (List (List Int))) => (Jc d (f : Int)).bind fun e =>
 (forS (fun g => fun (c : (List (List Int))) => (Jc a (g : Int)).bind fun l =>
 (must (decide (e ≤ 9223372036854775807))).bind fun m =>
 (forS (fun h => fun (b : (List (List Int))) => (app 8 [] l).bind fun i =>
 (app 8 i [(h : Int)]).bind fun j =>
 (app 24 b [j]).bind fun k =>
 some k) (e.toNat) 0 c).bind (fun (b : (List (List Int))) => some b)) (a.length) 0 []).bind (fun (c : (List (List Int))) => some c)) (d.length) 0 ([[]])).bind (fun (a : (List (List Int))) => some a)
noncomputable def Qa3 (b : (List Fact)) (c : (List Int)) : Option (Bool) :=
 ctl (JS (R := (Bool)) (fun d => fun (_ : Unit) => (Jc b (d : Int)).bind fun a =>
 (if decide (a.Var < 0) then (some true)
 else (if decide ((c.length : Int) ≤ a.Var) then (some true)
 else ((Jc c a.Var).bind fun e =>
 some (!decide (e = a.Val))))).bind (fun (f : Bool) => if f then (some (Ctl.ret false))
 else (some (Ctl.next ())))) (b.length) 0 ()) (fun r => some r) (fun (_ : Unit) => some true)
noncomputable def QcN (e : Task) (d : (List Int)) (b : Int) : Option ((List Int) × Bool) :=
 (if decide (b < 0) then (some true)
 else (if decide ((e.Ops.length : Int) ≤ b) then (some true)
 else ((Jc e.Ops b).bind fun k =>
 (Qa3 k.Pre d).bind <| fun (l : Bool) =>
 some (!l)))).bind (fun (n : Bool) => if n then (some ([], false))
 else ((app 8 [] d).bind fun h =>
 (Jc e.Ops b).bind fun f =>
 (forS (fun g => fun (a : (List Int)) => (Jc f.Effs (g : Int)).bind fun c =>
 (Qa3 c.When d).bind <| fun (m : Bool) =>
 (if m then ((Jc a c.Var).bind fun o =>
 (Kv a c.Var c.Val).bind fun i =>
 some i)
 else (some a)).bind (fun (j : (List Int)) => some j)) (f.Effs.length) 0 h).bind (fun (a : (List Int)) => some (a, true))))
noncomputable def Qdj (d : (List Int)) (c : (List Int)) : Option (Int) :=
 (forS (fun b => fun (a : Int) => (Jc d (b : Int)).bind fun e =>
 (Jc c (b : Int)).bind fun f =>
 some (IntKind.i64.wrap ((IntKind.i64.wrap (a * e)) + f))) (c.length) 0 0).bind (fun (a : Int) => some a)
structure base_Edge where
 From : Int
 Op : Int
 To : Int
noncomputable def QcM (b : Task) : Option ((List base_Edge)) :=
 (QaW b.Vars).bind <| fun (f : (List (List Int))) =>
 (forS (fun d => fun (c : (List base_Edge)) => (Jc f (d : Int)).bind fun i =>
 (forS (fun e => fun (a : (List base_Edge)) => (QcN b i (e : Int)).bind <| J2 fun (j : (List Int)) (k : Bool) =>
 (if k then ((Qdj b.Vars j).bind <| fun (l : Int) =>
 (app 24 a [(⟨(d : Int), (e : Int), l⟩ : base_Edge)]).bind fun g =>
 some g)
 else (some a)).bind (fun (h : (List base_Edge)) => some h)) (b.Ops.length) 0 c).bind (fun (a : (List base_Edge)) => some a)) (f.length) 0 []).bind (fun (c : (List base_Edge)) => some c)
noncomputable def J8 (a : (List Int)) : Option (Int) :=
 some 1125899906842624
def QO (a : (List Int)) : Int :=
 1125899906842624
theorem KA (a : (List Int)) : J8 a = some (QO a) := by
 unfold J8 QO
 (repeat' split) <;> rfl
attribute [irreducible] QO
noncomputable def JE  : Option (Int) :=
 some 0
def Jd  : Int :=
 0
theorem KG  : JE  = some (Jd ) := by
 unfold JE Jd
 (repeat' split) <;> rfl
attribute [irreducible] Jd
noncomputable def J9  : Option (Bool) :=
 some false
def Jb  : Bool :=
 false
theorem KB  : J9  = some (Jb ) := by
 unfold J9 Jb
 (repeat' split) <;> rfl
attribute [irreducible] Jb
noncomputable def K4 (a : Task) (c : (List Int)) (f : Int) : Option (Bool) :=
 ((Y4).bind <| fun (m : Bool) =>
 if !m then (some true)
 else (if decide (5 < (a.Vars.length : Int)) then (some true)
 else (if decide (8 < (a.Ops.length : Int)) then (some true)
 else (some (decide (50 < (c.length : Int))))))).bind (fun (w : Bool) => if w then ((Y4).bind <| fun (n : Bool) =>
 some n)
 else (if ((!decide ((QO c) = 1125899906842624)) || ((!decide (Jd = 0)) || Jb)) then (some false)
 else ((forS (fun i => fun (d : (List Int)) => (app 8 d [(i : Int)]).bind fun j =>
 some j) (a.Vars.length) 0 []).bind (fun (d : (List Int)) => ((Yq a).bind <| fun (o : Bool) =>
 if o then (if decide (0 < (a.Vars.length : Int)) then ((Qbj a).bind <| fun (p : Bool) =>
 some (!p))
 else (some false))
 else (some false)).bind (fun (x : Bool) => if x then (some true)
 else ((Jf a d f).bind <| J2 fun (k : (Option mergeshrink_Abstraction)) (e : (Option Int)) =>
 Qfp k ((must e.isSome).bind fun aa =>
 (Yq a).bind <| fun (q : Bool) =>
 if !q then (some e.isSome)
 else (some false)) (fun h => (must e.isNone).bind fun ab =>
 (Yq a).bind <| fun (r : Bool) =>
 if !r then (some false)
 else (((KY a.Vars c).bind <| fun (s : Bool) =>
 if !s then ((Q1 h c).bind <| fun (t : Int) =>
 some (!decide (t = 1125899906842624)))
 else (some false)).bind (fun (y : Bool) => if y then (some false)
 else ((Jf (⟨[], [], [], []⟩ : Task) ([] : (List Int)) f).bind <| J2 fun (l : (Option mergeshrink_Abstraction)) (g : (Option Int)) =>
 Qfp l ((must g.isSome).bind fun ac =>
 some false) (fun b => (must g.isNone).bind fun ad =>
 (if decide ((QY b) = 1) then (if (Jl b) then ((Q1 b ([] : (List Int))).bind <| fun (u : Int) =>
 if decide (u = 0) then ((Q1 b [0]).bind <| fun (v : Int) =>
 some (decide (v = 1125899906842624)))
 else (some false))
 else (some false))
 else (some false)).bind (fun (z : Bool) => some z))))))))))))
noncomputable def Qbm (e : Task) : Option ((List Int)) :=
 (QaW e.Vars).bind <| fun (h : (List (List Int))) =>
 (mk 8 0 (h.length : Int)).bind fun p =>
 (forS (fun c => fun (d : (List Int)) => (Jc h (c : Int)).bind fun w =>
 (Jc d (c : Int)).bind fun ac =>
 (Kv d (c : Int) 1125899906842624).bind fun g =>
 (Qa3 e.Goal w).bind <| fun (z : Bool) =>
 (if z then ((Jc g (c : Int)).bind fun ad =>
 (Kv g (c : Int) 0).bind fun q =>
 some q)
 else (some g)).bind (fun (s : (List Int)) => some s)) (h.length) 0 p).bind (fun (d : (List Int)) => (QcM e).bind <| fun (m : (List base_Edge)) =>
 ctl (Kw (R := ((List Int))) (J2 fun (i : Bool) (j : (List Int)) => if i then ((forS (fun o => J2 fun (f : Bool) (a : (List Int)) => (Jc m (o : Int)).bind fun b =>
 (Jc e.Ops b.Op).bind fun k =>
 ((Jc a b.To).bind fun l =>
 if decide (l < 1125899906842624) then ((Jc a b.From).bind fun x =>
 some (decide ((IntKind.i64.wrap (l + k.Cost)) < x)))
 else (some false)).bind (fun (aa : Bool) => (if aa then ((Jc a b.To).bind fun y =>
 (Jc a b.From).bind fun ae =>
 (Kv a b.From (IntKind.i64.wrap (y + k.Cost))).bind fun t =>
 some (true, t))
 else (some (f, a))).bind (J2 fun (n : Bool) (u : (List Int)) => some (n, u)))) (m.length) 0 (false, j)).bind (J2 fun (f : Bool) (a : (List Int)) => some (Ctl.next (f, a))))
 else (some (Ctl.brk (i, j)))) (true, d)) (fun r => some r) (J2 fun (ab : Bool) (v : (List Int)) => some v))
end Go.Pw
