/- -/
import Derived.Test.YtfcmpbkafbhdgaaGreatDoorLB
import Derived.Test.YtfcmpbkafbhdgaaGreatDoorLC
import Derived.Test.YtfcmpbkafbhdgaaGreatDoorLE
import Derived.Test.YtfcmpbkafbhdgaaGreatDoorLG
import Derived.Lib.ItoaNum
set_option maxRecDepth 100000
set_option maxHeartbeats 4000000
set_option linter.unusedVariables false
namespace Go.Pw
structure Fact where
 Var : Int
 Val : Int
def encFact : Enc Fact := Enc.iso ((Qc .i64).pair (Qc .i64)) (fun b => (b.Var, b.Val))
theorem Q9 {s : PHeap} {v : Value} {b : Fact} : encFact.val s v b ↔ v = .agg #[.int .i64 (b.Var), .int .i64 (b.Val)] := by
 simp only [Enc.iso, Enc.pair, Enc.val, encFact, Qc, if_true, Y7]
 constructor
 ·rintro ⟨cs, rfl, h⟩
  obtain ⟨cs⟩ := cs
  simp only [] at h
  obtain ⟨_, _, rfl, rfl, rfl⟩ := h
  rfl
 ·rintro rfl
  exact ⟨_, Z, ⟨[.int .i64 (b.Var)], [.int .i64 (b.Val)], Z, Z, Z⟩⟩
structure Effect where
 When : (List Fact)
 Var : Int
 Val : Int
def encEffect : Enc Effect := Enc.iso ((Qa encFact).pair ((Qc .i64).pair (Qc .i64))) (fun b => (b.When, b.Var, b.Val))
theorem JW {s : PHeap} {v : Value} {b : Effect} : encEffect.val s v b ↔ ∃ u1, v = .agg #[u1, .int .i64 (b.Var), .int .i64 (b.Val)] ∧ SliceRep encFact s u1 (b.When) := by
 simp only [Enc.iso, Enc.pair, Enc.val, encEffect, Qc, Qa, if_true, Y7]
 constructor
 ·rintro ⟨cs, rfl, h⟩
  obtain ⟨cs⟩ := cs
  simp only [] at h
  obtain ⟨_, _, rfl, ⟨w1, rfl, h1⟩, ⟨_, _, rfl, rfl, rfl⟩⟩ := h
  exact ⟨w1, Z, h1⟩
 ·rintro ⟨w1, rfl, h1⟩
  exact ⟨_, Z, ⟨[w1], [.int .i64 (b.Var), .int .i64 (b.Val)], Z, ⟨w1, Z, h1⟩, ⟨[.int .i64 (b.Var)], [.int .i64 (b.Val)], Z, Z, Z⟩⟩⟩
structure Op where
 Name : ByteArray
 Cost : Int
 Pre : (List Fact)
 Effs : (List Effect)
def encOp : Enc Op := Enc.iso (encStr.pair ((Qc .i64).pair ((Qa encFact).pair (Qa encEffect)))) (fun b => (b.Name, b.Cost, b.Pre, b.Effs))
theorem KY {s : PHeap} {v : Value} {b : Op} : encOp.val s v b ↔ ∃ u1, ∃ u2, v = .agg #[.string (b.Name), .int .i64 (b.Cost), u1, u2] ∧ SliceRep encFact s u1 (b.Pre) ∧ SliceRep encEffect s u2 (b.Effs) := by
 simp only [Enc.iso, Enc.pair, Enc.val, Qc, encOp, Qa, encStr, if_true, Y7]
 constructor
 ·rintro ⟨cs, rfl, h⟩
  obtain ⟨cs⟩ := cs
  simp only [] at h
  obtain ⟨_, _, rfl, rfl, ⟨_, _, rfl, rfl, ⟨_, _, rfl, ⟨w1, rfl, h1⟩, ⟨w2, rfl, h2⟩⟩⟩⟩ := h
  exact ⟨w1, w2, Z, h1, h2⟩
 ·rintro ⟨w1, w2, rfl, h1, h2⟩
  exact ⟨_, Z, ⟨[.string (b.Name)], [.int .i64 (b.Cost), w1, w2], Z, Z, ⟨[.int .i64 (b.Cost)], [w1, w2], Z, Z, ⟨[w1], [w2], Z, ⟨w1, Z, h1⟩, ⟨w2, Z, h2⟩⟩⟩⟩⟩
structure Task where
 Vars : (List Int)
 Init : (List Int)
 Goal : (List Fact)
 Ops : (List Op)
def encTask : Enc Task := Enc.iso ((Qa (Qc .i64)).pair ((Qa (Qc .i64)).pair ((Qa encFact).pair (Qa encOp)))) (fun b => (b.Vars, b.Init, b.Goal, b.Ops))
theorem QhS {s : PHeap} {v : Value} {b : Task} : encTask.val s v b ↔ ∃ u1, ∃ u2, ∃ u3, ∃ u4, v = .agg #[u1, u2, u3, u4] ∧ SliceRep (Qc .i64) s u1 (b.Vars) ∧ SliceRep (Qc .i64) s u2 (b.Init) ∧ SliceRep encFact s u3 (b.Goal) ∧ SliceRep encOp s u4 (b.Ops) := by
 simp only [Enc.iso, Enc.pair, Enc.val, Qa, encTask, if_true]
 constructor
 ·rintro ⟨cs, rfl, h⟩
  obtain ⟨cs⟩ := cs
  simp only [] at h
  obtain ⟨_, _, rfl, ⟨w1, rfl, h1⟩, ⟨_, _, rfl, ⟨w2, rfl, h2⟩, ⟨_, _, rfl, ⟨w3, rfl, h3⟩, ⟨w4, rfl, h4⟩⟩⟩⟩ := h
  exact ⟨w1, w2, w3, w4, Z, h1, h2, h3, h4⟩
 ·rintro ⟨w1, w2, w3, w4, rfl, h1, h2, h3, h4⟩
  exact ⟨_, Z, ⟨[w1], [w2, w3, w4], Z, ⟨w1, Z, h1⟩, ⟨[w2], [w3, w4], Z, ⟨w2, Z, h2⟩, ⟨[w3], [w4], Z, ⟨w3, Z, h3⟩, ⟨w4, Z, h4⟩⟩⟩⟩⟩
noncomputable def Yt (c : (List Int)) (a : (List Int)) : Option (Bool) :=
 if !decide ((a.length : Int) = (c.length : Int)) then (some false)
 else (ctl (QI (R := (Bool)) (fun b => fun (_ : Unit) => ((QD a (b : Int)).bind fun d =>
 if decide (d < 0) then (some true)
 else ((QD c (b : Int)).bind fun e =>
 some (decide (e ≤ d)))).bind (fun (f : Bool) => if f then (some (Ctl.ret false))
 else (some (Ctl.next ())))) (a.length) 0 ()) (fun r => some r) (fun (_ : Unit) => some true))
noncomputable def JX (d : (List Int)) (b : (List Fact)) : Option (Bool) :=
 ctl (QI (R := (Bool)) (fun c => fun (_ : Unit) => (QD b (c : Int)).bind fun a =>
 (if decide (a.Var < 0) then (some true)
 else (if decide ((d.length : Int) ≤ a.Var) then (some true)
 else (if decide (a.Val < 0) then (some true)
 else ((QD d a.Var).bind fun e =>
 if decide (e ≤ a.Val) then (some true)
 else (if decide (0 < (c : Int)) then ((QD b (IntKind.i64.wrap ((c : Int) - 1))).bind fun f =>
 some (decide (a.Var ≤ f.Var)))
 else (some false)))))).bind (fun (g : Bool) => if g then (some (Ctl.ret false))
 else (some (Ctl.next ())))) (b.length) 0 ()) (fun r => some r) (fun (_ : Unit) => some true)
noncomputable def KV (b : (List Int)) (a : Op) : Option (Bool) :=
 (if decide (a.Cost < 0) then (some true)
 else (if decide (1048576 < a.Cost) then (some true)
 else (if decide (64 < (a.Effs.length : Int)) then (some true)
 else (if decide (256 < (a.Name.size : Int)) then (some true)
 else ((JX b a.Pre).bind <| fun (g : Bool) =>
 some (!g)))))).bind (fun (j : Bool) => if j then (some false)
 else ((must (decide ((a.Name.size : Int) ≤ 9223372036854775807))).bind fun m =>
 ctl (QI (R := (Bool)) (fun e => fun (_ : Unit) => ((QD (QJ a.Name) (e : Int)).bind fun d =>
 if decide (d < 32) then (some true)
 else (some (decide (126 < d)))).bind (fun (k : Bool) => if k then (some (Ctl.ret false))
 else (some (Ctl.next ())))) ((a.Name.size : Int).toNat) 0 ()) (fun r => some r) (fun (_ : Unit) => ctl (QI (R := (Bool)) (fun f => fun (_ : Unit) => (QD a.Effs (f : Int)).bind fun c =>
 ((JX b c.When).bind <| fun (h : Bool) =>
 if !h then (some true)
 else ((JX b [(⟨c.Var, c.Val⟩ : Fact)]).bind <| fun (i : Bool) =>
 some (!i))).bind (fun (l : Bool) => if l then (some (Ctl.ret false))
 else (some (Ctl.next ())))) (a.Effs.length) 0 ()) (fun r => some r) (fun (_ : Unit) => some true))))
noncomputable def Qax (a : Task) : Option (Bool) :=
 if ((decide (64 < (a.Vars.length : Int))) || decide (4096 < (a.Ops.length : Int))) then (some false)
 else (ctl (QI (R := (Bool)) (fun c => fun (_ : Unit) => (QD a.Vars (c : Int)).bind fun b =>
 if ((decide (b < 1)) || decide (64 < b)) then (some (Ctl.ret false))
 else (some (Ctl.next ()))) (a.Vars.length) 0 ()) (fun r => some r) (fun (_ : Unit) => ((Yt a.Vars a.Init).bind <| fun (f : Bool) =>
 if !f then (some true)
 else ((JX a.Vars a.Goal).bind <| fun (g : Bool) =>
 some (!g))).bind (fun (i : Bool) => if i then (some false)
 else (ctl (QI (R := (Bool)) (fun d => fun (_ : Unit) => (QD a.Ops (d : Int)).bind fun e =>
 (KV a.Vars e).bind <| fun (h : Bool) =>
 if !h then (some (Ctl.ret false))
 else (some (Ctl.next ()))) (a.Ops.length) 0 ()) (fun r => some r) (fun (_ : Unit) => some true)))))
noncomputable def KI (c : (List Int)) (a : Int) : Option (Int) :=
 ctl (QI (R := (Int)) (fun e => fun (b : Int) => (QD c (e : Int)).bind fun d =>
 if decide (a < (IntKind.i64.wrap (b * (min (max d 0) (IntKind.i64.wrap (a + 1)))))) then (some (Ctl.ret (IntKind.i64.wrap (a + 1))))
 else (some (Ctl.next (IntKind.i64.wrap (b * (min (max d 0) (IntKind.i64.wrap (a + 1)))))))) (c.length) 0 1) (fun r => some r) (fun (f : Int) => some f)
noncomputable def YW (t35 : Task) : Option (Bool) :=
 if ((decide (12 < (t35.Vars.length : Int))) || decide (20 < (t35.Ops.length : Int))) then (some false)
 else (ctl (QI (R := (Bool)) (fun a => fun (_ : Unit) => (QD t35.Ops (a : Int)).bind fun b =>
 if decide (8 < (b.Effs.length : Int)) then (some (Ctl.ret false))
 else (some (Ctl.next ()))) (t35.Ops.length) 0 ()) (fun r => some r) (fun (_ : Unit) => ((Qax t35).bind <| fun (c : Bool) =>
 if c then ((KI t35.Vars 512).bind <| fun (d : Int) =>
 some (decide (d ≤ 512)))
 else (some false)).bind (fun (e : Bool) => some e)))
noncomputable def Qaw (t18 : Task) : Option (Bool) :=
 (YW t18).bind <| fun (j : Bool) =>
 if !j then (some false)
 else (ctl (QI (R := (Bool)) (fun e => fun (_ : Unit) => (QD t18.Vars (e : Int)).bind fun b =>
 if ((decide (b < 2)) || decide (4 < b)) then (some (Ctl.ret false))
 else (some (Ctl.next ()))) (t18.Vars.length) 0 ()) (fun r => some r) (fun (_ : Unit) => ctl (QI (R := (Bool)) (fun f => fun (_ : Unit) => (QD t18.Ops (f : Int)).bind fun c =>
 ctl (QI (R := (Bool)) (fun g => fun (a : Int) => (QD c.Effs (g : Int)).bind fun d =>
 if decide (2 < (d.When.length : Int)) then (some (Ctl.ret false))
 else ((if decide (0 < (d.When.length : Int)) then (some (IntKind.i64.wrap (a + 1)))
 else (some a)).bind (fun (h : Int) => some (Ctl.next h)))) (c.Effs.length) 0 0) (fun r => some (Ctl.ret r)) (fun (i : Int) => if decide (3 < i) then (some (Ctl.ret false))
 else (some (Ctl.next ())))) (t18.Ops.length) 0 ()) (fun r => some r) (fun (_ : Unit) => some true)))
noncomputable def JK (c : Task) : Option ((List (List Fact))) :=
 (forS (fun e => fun (b : (List (List Fact))) => (QD c.Ops (e : Int)).bind fun d =>
 (app 24 b [d.Pre]).bind fun g =>
 (forS (fun f => fun (a : (List (List Fact))) => (QD d.Effs (f : Int)).bind fun i =>
 (app 24 a [i.When]).bind fun h =>
 some h) (d.Effs.length) 0 g).bind (fun (a : (List (List Fact))) => some a)) (c.Ops.length) 0 [c.Goal]).bind (fun (b : (List (List Fact))) => some b)
noncomputable def KP (a : (List Fact)) : Option (Bool) :=
 some (decide (64 < (a.length : Int)))
def KO (a : (List Fact)) : Bool :=
 (decide (64 < (a.length : Int)))
theorem Qbk (a : (List Fact)) : KP a = some (KO a) := by
 unfold KP KO
 (repeat' split) <;> rfl
attribute [irreducible] KO
noncomputable def Kh (b : (List (List Fact))) : Option (Int) :=
 ctl (QI (R := (Int)) (fun a => fun (_ : Unit) => (QD b (a : Int)).bind fun c =>
 if (KO c) then (some (Ctl.ret (a : Int)))
 else (some (Ctl.next ()))) (b.length) 0 ()) (fun r => some r) (fun (_ : Unit) => some (-1))
noncomputable def KX (a : (List (List Fact))) : Option (Bool) :=
 (Kh a).bind <| fun (b : Int) =>
 some (decide (0 ≤ b))
noncomputable def YU (a : Task) : Option (Bool) :=
 if ((decide (64 < (a.Vars.length : Int))) || decide (4096 < (a.Ops.length : Int))) then (some true)
 else (ctl (QI (R := (Bool)) (fun b => fun (_ : Unit) => (QD a.Ops (b : Int)).bind fun c =>
 if decide (64 < (c.Effs.length : Int)) then (some (Ctl.ret true))
 else (some (Ctl.next ()))) (a.Ops.length) 0 ()) (fun r => some r) (fun (_ : Unit) => (JK a).bind <| fun (d : (List (List Fact))) =>
 (KX d).bind <| fun (e : Bool) =>
 some e))
noncomputable def Y2 (c : (List Int)) (a : (List Int)) : Option (Bool) :=
 if !decide ((a.length : Int) = (c.length : Int)) then (some false)
 else (ctl (QI (R := (Bool)) (fun b => fun (_ : Unit) => (QD a (b : Int)).bind fun d =>
 (if decide (d < 0) then (some true)
 else ((QD c (b : Int)).bind fun e =>
 some (decide (e ≤ d)))).bind (fun (f : Bool) => if f then (some (Ctl.ret false))
 else (some (Ctl.next ())))) (a.length) 0 ()) (fun r => some r) (fun (_ : Unit) => some true))
noncomputable def J6 (c : (List Int)) (b : (List Fact)) : Option (Bool) :=
 ctl (QI (R := (Bool)) (fun d => fun (e : Int) => (QD b (d : Int)).bind fun a =>
 (if decide (a.Var ≤ e) then (some true)
 else (if decide ((c.length : Int) ≤ a.Var) then (some true)
 else (if decide (a.Val < 0) then (some true)
 else ((QD c a.Var).bind fun f =>
 some (decide (f ≤ a.Val)))))).bind (fun (g : Bool) => if g then (some (Ctl.ret false))
 else (some (Ctl.next a.Var)))) (b.length) 0 (-1)) (fun r => some r) (fun (h : Int) => some true)
noncomputable def YT (a : ByteArray) : Option (Bool) :=
 (must (decide ((a.size : Int) ≤ 9223372036854775807))).bind fun e =>
 ctl (QI (R := (Bool)) (fun c => fun (_ : Unit) => ((QD (QJ a) (c : Int)).bind fun b =>
 if decide (b < 32) then (some true)
 else (some (decide (126 < b)))).bind (fun (d : Bool) => if d then (some (Ctl.ret false))
 else (some (Ctl.next ())))) ((a.size : Int).toNat) 0 ()) (fun r => some r) (fun (_ : Unit) => some (decide ((a.size : Int) ≤ 256)))
noncomputable def Ks (a : Task) : Option ((Option Int)) :=
 (YU a).bind <| fun (o : Bool) =>
 if o then (some (some 5))
 else (ctl (QI (R := ((Option Int))) (fun g => fun (_ : Unit) => (QD a.Vars (g : Int)).bind fun b =>
 if ((decide (b < 1)) || decide (64 < b)) then (some (Ctl.ret (some 1)))
 else (some (Ctl.next ()))) (a.Vars.length) 0 ()) (fun r => some r) (fun (_ : Unit) => ctl (QI (R := ((Option Int))) (fun h => fun (_ : Unit) => (QD a.Ops (h : Int)).bind fun c =>
 if ((decide (c.Cost < 0)) || decide (1048576 < c.Cost)) then (some (Ctl.ret (some 1)))
 else (some (Ctl.next ()))) (a.Ops.length) 0 ()) (fun r => some r) (fun (_ : Unit) => (Y2 a.Vars a.Init).bind <| fun (p : Bool) =>
 if !p then (some (some 2))
 else ((JK a).bind <| fun (f : (List (List Fact))) =>
 ctl (QI (R := ((Option Int))) (fun i => fun (_ : Unit) => (QD f (i : Int)).bind fun m =>
 (J6 a.Vars m).bind <| fun (q : Bool) =>
 if !q then (some (Ctl.ret (some 2)))
 else (some (Ctl.next ()))) (f.length) 0 ()) (fun r => some r) (fun (_ : Unit) => ctl (QI (R := ((Option Int))) (fun j => fun (_ : Unit) => (QD a.Ops (j : Int)).bind fun d =>
 ctl (QI (R := ((Option Int))) (fun k => fun (_ : Unit) => (QD d.Effs (k : Int)).bind fun e =>
 (J6 a.Vars [(⟨e.Var, e.Val⟩ : Fact)]).bind <| fun (s : Bool) =>
 if !s then (some (Ctl.ret (some 2)))
 else (some (Ctl.next ()))) (d.Effs.length) 0 ()) (fun r => some (Ctl.ret r)) (fun (_ : Unit) => some (Ctl.next ()))) (a.Ops.length) 0 ()) (fun r => some r) (fun (_ : Unit) => ctl (QI (R := ((Option Int))) (fun l => fun (_ : Unit) => (QD a.Ops (l : Int)).bind fun n =>
 (YT n.Name).bind <| fun (t : Bool) =>
 if !t then (some (Ctl.ret (some 8)))
 else (some (Ctl.next ()))) (a.Ops.length) 0 ()) (fun r => some r) (fun (_ : Unit) => some none)))))))
noncomputable def Ky (a : Int) : Option (Bool) :=
 some ((decide ((-1) ≤ a)) && decide (a ≤ 1099511627776))
def Kx (a : Int) : Bool :=
 ((decide ((-1) ≤ a)) && decide (a ≤ 1099511627776))
theorem Qa6 (a : Int) : Ky a = some (Kx a) := by
 unfold Ky Kx
 (repeat' split) <;> rfl
attribute [irreducible] Kx
noncomputable def Jz (b : (List Fact)) : Option ((List Fact)) :=
 (app 16 [] b).bind fun a =>
 some a
structure certify_entry where
 facts : (List Fact)
 dist : Int
 order : Int
def enccertify_entry : Enc certify_entry := Enc.iso ((Qa encFact).pair ((Qc .i64).pair (Qc .i64))) (fun b => (b.facts, b.dist, b.order))
theorem JB {s : PHeap} {v : Value} {b : certify_entry} : enccertify_entry.val s v b ↔ ∃ u1, v = .agg #[u1, .int .i64 (b.dist), .int .i64 (b.order)] ∧ SliceRep encFact s u1 (b.facts) := by
 simp only [Enc.iso, Enc.pair, Enc.val, Qc, Qa, enccertify_entry, if_true, Y7]
 constructor
 ·rintro ⟨cs, rfl, h⟩
  obtain ⟨cs⟩ := cs
  simp only [] at h
  obtain ⟨_, _, rfl, ⟨w1, rfl, h1⟩, ⟨_, _, rfl, rfl, rfl⟩⟩ := h
  exact ⟨w1, Z, h1⟩
 ·rintro ⟨w1, rfl, h1⟩
  exact ⟨_, Z, ⟨[w1], [.int .i64 (b.dist), .int .i64 (b.order)], Z, ⟨w1, Z, h1⟩, ⟨[.int .i64 (b.dist)], [.int .i64 (b.order)], Z, Z, Z⟩⟩⟩
noncomputable def Jq (a : (List certify_entry)) : Option (Int) :=
 some (a.length : Int)
def QH (a : (List certify_entry)) : Int :=
 (a.length : Int)
theorem J0 (a : (List certify_entry)) : Jq a = some (QH a) := by
 unfold Jq QH
 (repeat' split) <;> rfl
attribute [irreducible] QH
noncomputable def Q8 (b : (List certify_entry)) (c : Int) (a : Int) : Option ((List certify_entry)) :=
 (QD b a).bind fun f =>
 (QD b c).bind fun g =>
 (YO b c f).bind fun d =>
 (QD d a).bind fun h =>
 (YO d a g).bind fun e =>
 some e
noncomputable def QF (c : (List certify_entry)) (d : Int) (e : Int) : Option (Bool) :=
 ((QD c d).bind fun a =>
 (QD c e).bind fun b =>
 if decide (a.dist < b.dist) then (some true)
 else (if decide (a.dist = b.dist) then (some (decide (a.order < b.order)))
 else (some false))).bind (fun (f : Bool) => some f)
noncomputable def KT (f : (List certify_entry)) (d : Int) (e : Int) : Option (Bool × (List certify_entry)) :=
 ctl (J7 (R := (Bool × (List certify_entry))) (QK fun (a : Int) (b : (List certify_entry)) => if ((decide (e ≤ (IntKind.i64.wrap ((IntKind.i64.wrap (2 * a)) + 1)))) || decide ((IntKind.i64.wrap ((IntKind.i64.wrap (2 * a)) + 1)) < 0)) then (some (Ctl.brk (a, b)))
 else ((if decide ((IntKind.i64.wrap ((IntKind.i64.wrap ((IntKind.i64.wrap (2 * a)) + 1)) + 1)) < e) then ((QF b (IntKind.i64.wrap ((IntKind.i64.wrap ((IntKind.i64.wrap (2 * a)) + 1)) + 1)) (IntKind.i64.wrap ((IntKind.i64.wrap (2 * a)) + 1))).bind <| fun (j : Bool) =>
 some j)
 else (some false)).bind (fun (l : Bool) => (if l then (some (IntKind.i64.wrap ((IntKind.i64.wrap ((IntKind.i64.wrap (2 * a)) + 1)) + 1)))
 else (some (IntKind.i64.wrap ((IntKind.i64.wrap (2 * a)) + 1)))).bind (fun (c : Int) => (QF b c a).bind <| fun (k : Bool) =>
 if !k then (some (Ctl.brk (a, b)))
 else ((Q8 b a c).bind <| fun (h : (List certify_entry)) =>
 some (Ctl.next (c, h))))))) (d, f)) (fun r => some r) (QK fun (g : Int) (i : (List certify_entry)) => some (decide (d < g), i))
noncomputable def Kk (a : (List certify_entry)) : Option (certify_entry × (List certify_entry)) :=
 (QD a (IntKind.i64.wrap ((a.length : Int) - 1))).bind fun c =>
 (Yy a 0 (IntKind.i64.wrap ((a.length : Int) - 1))).bind fun b =>
 (must (decide (b ≤ a.length))).bind fun d =>
 some (c, (a).take b)
noncomputable def Yl (a : (List certify_entry)) : Option (certify_entry × (List certify_entry)) :=
 (Q8 a 0 (IntKind.i64.wrap ((QH a) - 1))).bind <| fun (b : (List certify_entry)) =>
 (KT b 0 (IntKind.i64.wrap ((QH a) - 1))).bind <| QK fun (f : Bool) (c : (List certify_entry)) =>
 (Kk c).bind <| QK fun (e : certify_entry) (d : (List certify_entry)) =>
 some (e, d)
structure Nogood where
 Facts : (List Fact)
 Dist : Int
def encNogood : Enc Nogood := Enc.iso ((Qa encFact).pair (Qc .i64)) (fun b => (b.Facts, b.Dist))
theorem Jr {s : PHeap} {v : Value} {b : Nogood} : encNogood.val s v b ↔ ∃ u1, v = .agg #[u1, .int .i64 (b.Dist)] ∧ SliceRep encFact s u1 (b.Facts) := by
 simp only [Enc.iso, Enc.pair, Enc.val, Qc, encNogood, Qa, if_true, Y7]
 constructor
 ·rintro ⟨cs, rfl, h⟩
  obtain ⟨cs⟩ := cs
  simp only [] at h
  obtain ⟨_, _, rfl, ⟨w1, rfl, h1⟩, rfl⟩ := h
  exact ⟨w1, Z, h1⟩
 ·rintro ⟨w1, rfl, h1⟩
  exact ⟨_, Z, ⟨[w1], [.int .i64 (b.Dist)], Z, ⟨w1, Z, h1⟩, Z⟩⟩
noncomputable def Jf (b : (List Fact)) : Option (Bool) :=
 ctl (QI (R := (Bool)) (fun a => fun (_ : Unit) => (QD b (a : Int)).bind fun c =>
 (if decide (c.Var < 0) then (some true)
 else (if decide (c.Val < 0) then (some true)
 else (if decide (0 < (a : Int)) then ((QD b (IntKind.i64.wrap ((a : Int) - 1))).bind fun d =>
 some (decide (c.Var ≤ d.Var)))
 else (some false)))).bind (fun (e : Bool) => if e then (some (Ctl.ret false))
 else (some (Ctl.next ())))) (b.length) 0 ()) (fun r => some r) (fun (_ : Unit) => some true)
noncomputable def Kc (a : (List Fact)) (d : Int) : Option (Int) :=
 ctl (QI (R := (Int)) (fun c => fun (_ : Unit) => (QD a (c : Int)).bind fun b =>
 if decide (b.Var = d) then (some (Ctl.ret b.Val))
 else (some (Ctl.next ()))) (a.length) 0 ()) (fun r => some r) (fun (_ : Unit) => some (-1))
noncomputable def Jp (c : (List Fact)) (a : (List Fact)) : Option (Bool) :=
 ctl (QI (R := (Bool)) (fun d => fun (_ : Unit) => (QD a (d : Int)).bind fun b =>
 (Kc c b.Var).bind <| fun (e : Int) =>
 if !decide (e = b.Val) then (some (Ctl.ret false))
 else (some (Ctl.next ()))) (a.length) 0 ()) (fun r => some r) (fun (_ : Unit) => some true)
noncomputable def Kf (a : (List Fact)) (b : (List Fact)) : Option (Bool) :=
 ((Jf a).bind <| fun (c : Bool) =>
 if c then ((Jf b).bind <| fun (d : Bool) =>
 if d then ((Jp a b).bind <| fun (e : Bool) =>
 some e)
 else (some false))
 else (some false)).bind (fun (f : Bool) => some f)
noncomputable def Kl (b : Nogood) (a : (List Fact)) : Option (Bool) :=
 (Kf a b.Facts).bind <| fun (c : Bool) =>
 some c
noncomputable def Ys (b : (List Fact)) (c : (List Int)) : Option (Bool) :=
 ctl (QI (R := (Bool)) (fun d => fun (_ : Unit) => (QD b (d : Int)).bind fun a =>
 (if decide (a.Var < 0) then (some true)
 else (if decide ((c.length : Int) ≤ a.Var) then (some true)
 else ((QD c a.Var).bind fun e =>
 some (!decide (e = a.Val))))).bind (fun (f : Bool) => if f then (some (Ctl.ret false))
 else (some (Ctl.next ())))) (b.length) 0 ()) (fun r => some r) (fun (_ : Unit) => some true)
noncomputable def J2 (j : (List Int)) (d : Effect) : Option ((List (List Fact)) × (Option Int)) :=
 (forS (fun g => fun (b : (List (List Fact))) => (QD d.When (g : Int)).bind fun c =>
 (QD j c.Var).bind fun f =>
 (must (decide (f ≤ 9223372036854775807))).bind fun k =>
 (forS (fun e => fun (a : (List (List Fact))) => (if !decide ((e : Int) = c.Val) then ((app 24 a ([[(⟨c.Var, (e : Int)⟩ : Fact)]])).bind fun h =>
 some h)
 else (some a)).bind (fun (i : (List (List Fact))) => some i)) (f.toNat) 0 b).bind (fun (a : (List (List Fact))) => some a)) (d.When.length) 0 []).bind (fun (b : (List (List Fact))) => if decide (1024 < (b.length : Int)) then (some ([], some 5))
 else (some (b, none)))
noncomputable def Y5 (b : (List Fact)) : Option ((List Fact)) :=
 (app 16 [] b).bind fun a =>
 some a
noncomputable def Yv (a : Int) : Option (Bool) :=
 some (!decide (a = a))
def QW (a : Int) : Bool :=
 (!decide (a = a))
theorem QaQ (a : Int) : Yv a = some (QW a) := by
 unfold Yv QW
 (repeat' split) <;> rfl
attribute [irreducible] QW
noncomputable def KM (b : Int) (a : Int) : Option (Int) :=
 if (QW b) then (if (QW a) then (some 0)
 else (some (-1)))
 else (if (QW a) then (some 1)
 else (if decide (b < a) then (some (-1))
 else (if decide (a < b) then (some 1)
 else (some 0))))
def Qn (b : Int) (a : Int) : Int :=
 if (QW b) then (if (QW a) then (0)
 else ((-1)))
 else (if (QW a) then (1)
 else (if decide (b < a) then ((-1))
 else (if decide (a < b) then (1)
 else (0))))
theorem K1 (a : Int) (b : Int) : KM a b = some (Qn a b) := by
 unfold KM Qn
 (repeat' split) <;> rfl
attribute [irreducible] Qn
noncomputable def Ya (a : (List Int)) : Option (Int) :=
 ctl (QI (R := (Int)) (fun c => fun (_ : Unit) => (QD a (c : Int)).bind fun b =>
 if !decide (b = 0) then (some (Ctl.ret b))
 else (some (Ctl.next ()))) (a.length) 0 ()) (fun r => some r) (fun (_ : Unit) => some 0)
noncomputable def Yg (a : Fact) (b : Fact) : Option (Int) :=
 (Ya [(Qn a.Var b.Var), (Qn a.Val b.Val)]).bind <| fun (c : Int) =>
 some c
def Qbr (a b : Fact) : Int := if Qfe a.Var b.Var ≠ 0 then Qfe a.Var b.Var else Qfe a.Val b.Val
noncomputable def Qat (xs : List Fact) : Option (List Fact) := if xs.length < 4611686018427387904 then some (xs.mergeSort fun x y => !decide (Qbr y x < 0)) else none
noncomputable def Yi (a : (List Fact)) : Option (Nat × (List Fact)) :=
 if decide ((a.length : Int) < 2) then (some ((a).length, a))
 else (ctl (J7 (R := (Nat × (List Fact))) (fun (b : Int) => if decide (b < (a.length : Int)) then ((QD a b).bind fun j =>
 (QD a (IntKind.i64.wrap (b - 1))).bind fun k =>
 if eqs [j.Var, j.Val] [k.Var, k.Val] then ((Yy a b (a.length : Int)).bind fun h =>
 ctl (J7 (R := (Nat × (List Fact))) (K3 fun (g : Int) (d : Int) (c : (List Fact)) => if decide (d < (h : Int)) then ((QeE c b h d).bind fun l =>
 (QeE c b h (IntKind.i64.wrap (d - 1))).bind fun m =>
 (if !(eqs [l.Var, l.Val] [m.Var, m.Val]) then ((QeE c b h d).bind fun s =>
 (QD c g).bind fun v =>
 (YO c g s).bind fun o =>
 some (IntKind.i64.wrap (g + 1), o))
 else (some (g, c))).bind (QK fun (n : Int) (p : (List Fact)) => some (Ctl.next (n, IntKind.i64.wrap (d + 1), p))))
 else (some (Ctl.brk (g, d, c)))) (b, 1, a)) (fun r => some (Ctl.ret r)) (K3 fun (e : Int) (t : Int) (f : (List Fact)) => (Yy f e (f.length : Int)).bind fun i =>
 (Yy ((f).take (e).toNat ++ List.replicate i (⟨0, 0⟩ : Fact) ++ (f).drop ((e).toNat + i)) 0 e).bind fun q =>
 some (Ctl.ret (q, (f).take (e).toNat ++ List.replicate i (⟨0, 0⟩ : Fact) ++ (f).drop ((e).toNat + i)))))
 else (some (Ctl.next (IntKind.i64.wrap (b + 1)))))
 else (some (Ctl.brk b))) 1) (fun r => some r) (fun (u : Int) => some ((a).length, a)))
noncomputable def Yf (b : (List Fact)) : Option (Bool) :=
 ctl (QI (R := (Bool)) (fun a => fun (_ : Unit) => (QD b (a : Int)).bind fun c =>
 (if decide (c.Var < 0) then (some true)
 else (if decide (c.Val < 0) then (some true)
 else (if decide (0 < (a : Int)) then ((QD b (IntKind.i64.wrap ((a : Int) - 1))).bind fun d =>
 some (decide (c.Var ≤ d.Var)))
 else (some false)))).bind (fun (e : Bool) => if e then (some (Ctl.ret false))
 else (some (Ctl.next ())))) (b.length) 0 ()) (fun r => some r) (fun (_ : Unit) => some true)
noncomputable def KE (a : (List Fact)) : Option ((List Fact) × (Option Int)) :=
 ctl (QI (R := ((List Fact) × (Option Int))) (fun e => fun (_ : Unit) => (QD a (e : Int)).bind fun d =>
 if ((decide (d.Var < 0)) || decide (d.Val < 0)) then (some (Ctl.ret ([], some 1)))
 else (some (Ctl.next ()))) (a.length) 0 ()) (fun r => some r) (fun (_ : Unit) => (Y5 a).bind <| fun (g : (List Fact)) =>
 (Qat g).bind <| fun (f : (List Fact)) =>
 (Yi f).bind <| QK fun (c : Nat) (b : (List Fact)) =>
 (must (decide (c ≤ b.length))).bind fun i =>
 (Yf ((b).take c)).bind <| fun (h : Bool) =>
 if !h then (some ([], some 2))
 else (some ((b).take c, none)))
noncomputable def Yk (a : (List Fact)) (b : (List Fact)) : Option ((List Fact) × Bool) :=
 ((Jf a).bind <| fun (d : Bool) =>
 if !d then (some true)
 else ((Jf b).bind <| fun (e : Bool) =>
 some (!e))).bind (fun (i : Bool) => if i then (some ([], false))
 else ((Jz a).bind <| fun (f : (List Fact)) =>
 (app 16 f b).bind fun c =>
 (KE c).bind <| QK fun (g : (List Fact)) (h : (Option Int)) =>
 some (g, h.isNone)))
noncomputable def JA (a : Fact) (b : Fact) : Option (Int) :=
 (Ya [(Qn a.Var b.Var), (Qn a.Val b.Val)]).bind <| fun (c : Int) =>
 some c
noncomputable def KW (b : (List Fact)) (c : (List Fact)) : Option (Int) :=
 ctl (QI (R := (Int)) (fun a => fun (_ : Unit) => (QD b (a : Int)).bind fun e =>
 if decide ((c.length : Int) ≤ (a : Int)) then (some (Ctl.ret 1))
 else ((QD c (a : Int)).bind fun f =>
 (JA e f).bind <| fun (d : Int) =>
 if !decide (d = 0) then (some (Ctl.ret d))
 else (some (Ctl.next ())))) (b.length) 0 ()) (fun r => some r) (fun (_ : Unit) => if decide ((b.length : Int) < (c.length : Int)) then (some (-1))
 else (some 0))
noncomputable def Jv (a : (List Fact)) (b : (List Fact)) : Option (Int) :=
 (KW a b).bind <| fun (c : Int) =>
 some c
def QgL (xs : List (List Fact)) (i : Int) (ys : List (List Fact)) : Option (List (List Fact)) := if 0 ≤ i ∧ i ≤ xs.length ∧ (xs.length + ys.length) * 24 ≤ 140737488355328 then some (xs.take i.toNat ++ ys ++ xs.drop i.toNat) else none
noncomputable def Kz (c : (List (List Fact))) (e : (List Fact)) : Option (Int × Bool) :=
 ctl (J7 (R := (Int × Bool)) (QK fun (a : Int) (b : Int) => if decide (a < b) then ((QD c (IntKind.i64.wrap ((IntKind.u64.wrap (IntKind.i64.wrap (a + b))).fdiv (2 ^ 1)))).bind fun h =>
 (Jv h e).bind <| fun (j : Int) =>
 (if decide (j < 0) then (some (IntKind.i64.wrap ((IntKind.i64.wrap ((IntKind.u64.wrap (IntKind.i64.wrap (a + b))).fdiv (2 ^ 1))) + 1), b))
 else (some (a, IntKind.i64.wrap ((IntKind.u64.wrap (IntKind.i64.wrap (a + b))).fdiv (2 ^ 1))))).bind (QK fun (f : Int) (g : Int) => some (Ctl.next (f, g))))
 else (some (Ctl.brk (a, b)))) (0, (c.length : Int))) (fun r => some r) (QK fun (d : Int) (m : Int) => (if decide (d < (c.length : Int)) then ((QD c d).bind fun i =>
 (Jv i e).bind <| fun (k : Int) =>
 some (decide (k = 0)))
 else (some false)).bind (fun (l : Bool) => some (d, l)))
noncomputable def Ju (d : (List (List Fact))) (e : (List (List Fact))) : Option ((List (List Fact)) × (Option Int)) :=
 ctl (QI (R := ((List (List Fact)) × (Option Int))) (fun f => QK fun (l : (List (List Fact))) (n : (List (List Fact))) => (QD d (f : Int)).bind fun o =>
 ctl (QI (R := ((List (List Fact)) × (Option Int))) (fun g => QK fun (a : (List (List Fact))) (b : (List (List Fact))) => (QD e (g : Int)).bind fun p =>
 (Yk o p).bind <| QK fun (c : (List Fact)) (q : Bool) =>
 if !q then (some (Ctl.next (a, b)))
 else ((Kz b c).bind <| QK fun (s : Int) (t : Bool) =>
 if t then (some (Ctl.next (a, b)))
 else (if decide ((a.length : Int) = 1024) then (some (Ctl.ret ([], some 5)))
 else ((QgL b s [c]).bind <| fun (h : (List (List Fact))) =>
 (app 24 a [c]).bind fun i =>
 some (Ctl.next (i, h)))))) (e.length) 0 (l, n)) (fun r => some (Ctl.ret r)) (QK fun (j : (List (List Fact))) (k : (List (List Fact))) => some (Ctl.next (j, k)))) (d.length) 0 ([], [])) (fun r => some r) (QK fun (m : (List (List Fact))) (u : (List (List Fact))) => some (m, none))
noncomputable def KL (b : (List Fact)) (a : (List Fact)) : Option (Bool) :=
 (Jv b a).bind <| fun (c : Int) =>
 some (decide (c = 0))
noncomputable def JH (b : (List (List Fact))) (c : (List Fact)) : Option (Int) :=
 ctl (QI (R := (Int)) (fun a => fun (_ : Unit) => (QD b (a : Int)).bind fun d =>
 (KL d c).bind <| fun (e : Bool) =>
 if e then (some (Ctl.ret (a : Int)))
 else (some (Ctl.next ()))) (b.length) 0 ()) (fun r => some r) (fun (_ : Unit) => some (-1))
noncomputable def Jw (b : (List (List Fact))) (a : (List Fact)) : Option (Bool) :=
 (JH b a).bind <| fun (c : Int) =>
 some (decide (0 ≤ c))
noncomputable def KS (p : (List Int)) (n : Op) (d : Fact) : Option ((List (List Fact)) × (Option Int)) :=
 (forS (fun ab => fun (c : (List Effect)) => (QD n.Effs (ab : Int)).bind fun q =>
 (if decide (q.Var = d.Var) then ((app 40 c [q]).bind fun ag =>
 some ag)
 else (some c)).bind (fun (ah : (List Effect)) => some ah)) (n.Effs.length) 0 []).bind (fun (c : (List Effect)) => ctl (J7 (R := ((List (List Fact)) × (Option Int))) (K3 fun (a : (List Effect)) (g : (List (List Fact))) (b : Int) => if decide ((-1) ≤ b) then (if decide (0 ≤ b) then ((QD a b).bind fun s =>
 if !decide (s.Val = d.Val) then (some (Ctl.next (a, g, IntKind.i64.wrap (b - 1))))
 else ((cut a (IntKind.i64.wrap (b + 1)) (a.length : Int)).bind fun h =>
 ctl (QI (R := ((List (List Fact)) × (Option Int))) (fun ac => fun (j : (List (List Fact))) => (QD h (ac : Int)).bind fun t =>
 if decide (t.Val = d.Val) then (some (Ctl.next j))
 else ((J2 p t).bind <| QK fun (am : (List (List Fact))) (x : (Option Int)) =>
 if x.isSome then (some (Ctl.ret ([], x)))
 else ((Ju j am).bind <| QK fun (an : (List (List Fact))) (y : (Option Int)) =>
 if y.isSome then (some (Ctl.ret ([], y)))
 else (some (Ctl.next an))))) (h.length) 0 [s.When]) (fun r => some (Ctl.ret r)) (fun (k : (List (List Fact))) => (forS (fun ad => fun (e : (List (List Fact))) => (QD k (ad : Int)).bind fun u =>
 (Jw e u).bind <| fun (ao : Bool) =>
 (if !ao then ((app 24 e [u]).bind fun ai =>
 some ai)
 else (some e)).bind (fun (aj : (List (List Fact))) => some aj)) (k.length) 0 g).bind (fun (e : (List (List Fact))) => some (Ctl.next (a, e, IntKind.i64.wrap (b - 1)))))))
 else ((cut a (IntKind.i64.wrap (b + 1)) (a.length : Int)).bind fun i =>
 ctl (QI (R := ((List (List Fact)) × (Option Int))) (fun ae => fun (l : (List (List Fact))) => (QD i (ae : Int)).bind fun v =>
 if decide (v.Val = d.Val) then (some (Ctl.next l))
 else ((J2 p v).bind <| QK fun (ap : (List (List Fact))) (z : (Option Int)) =>
 if z.isSome then (some (Ctl.ret ([], z)))
 else ((Ju l ap).bind <| QK fun (aq : (List (List Fact))) (aa : (Option Int)) =>
 if aa.isSome then (some (Ctl.ret ([], aa)))
 else (some (Ctl.next aq))))) (i.length) 0 ([[d]])) (fun r => some (Ctl.ret r)) (fun (m : (List (List Fact))) => (forS (fun af => fun (f : (List (List Fact))) => (QD m (af : Int)).bind fun w =>
 (Jw f w).bind <| fun (ar : Bool) =>
 (if !ar then ((app 24 f [w]).bind fun ak =>
 some ak)
 else (some f)).bind (fun (al : (List (List Fact))) => some al)) (m.length) 0 g).bind (fun (f : (List (List Fact))) => some (Ctl.next (a, f, IntKind.i64.wrap (b - 1)))))))
 else (some (Ctl.brk (a, g, b)))) (c, [], IntKind.i64.wrap ((c.length : Int) - 1))) (fun r => some r) (K3 fun (au : (List Effect)) (o : (List (List Fact))) (av : Int) => if decide (1024 < (o.length : Int)) then (some ([], some 5))
 else (some (o, none))))
noncomputable def Kd (a : Task) (d : Int) (b : (List Fact)) : Option ((List (List Fact)) × (Option Int)) :=
 (Ks a).bind <| fun (h : (Option Int)) =>
 if h.isSome then (some ([], h))
 else (if ((decide (d < 0)) || decide ((a.Ops.length : Int) ≤ d)) then (some ([], some 1))
 else ((J6 a.Vars b).bind <| fun (s : Bool) =>
 if !s then (some ([], some 2))
 else ((QD a.Ops d).bind fun g =>
 (mk 24 [] (b.length : Int)).bind fun l =>
 ctl (QI (R := ((List (List Fact)) × (Option Int))) (fun c => fun (e : (List (List (List Fact)))) => (QD b (c : Int)).bind fun p =>
 (KS a.Vars g p).bind <| QK fun (t : (List (List Fact))) (i : (Option Int)) =>
 if i.isSome then (some (Ctl.ret ([], i)))
 else ((QD e (c : Int)).bind fun w =>
 (YO e (c : Int) t).bind fun m =>
 some (Ctl.next m))) (b.length) 0 l) (fun r => some r) (fun (f : (List (List (List Fact)))) => (Jz g.Pre).bind <| fun (u : (List Fact)) =>
 ctl (QI (R := ((List (List Fact)) × (Option Int))) (fun k => fun (n : (List (List Fact))) => (QD f (k : Int)).bind fun q =>
 (Ju n q).bind <| QK fun (v : (List (List Fact))) (j : (Option Int)) =>
 if j.isSome then (some (Ctl.ret ([], j)))
 else (some (Ctl.next v))) (f.length) 0 [u]) (fun r => some r) (fun (o : (List (List Fact))) => some (o, none))))))
noncomputable def Kv (b : (List (List Fact))) : Option ((List (List Fact))) :=
 (forS (fun d => fun (a : (List (List Fact))) => (QD b (d : Int)).bind fun c =>
 (Jf c).bind <| fun (k : Bool) =>
 if !k then (some a)
 else (ctl (QI (R := ((List (List Fact)))) (fun e => fun (g : Bool) => (QD b (e : Int)).bind fun f =>
 (if !decide ((d : Int) = (e : Int)) then ((Jf f).bind <| fun (l : Bool) =>
 if l then ((Jp c f).bind <| fun (m : Bool) =>
 if m then (if decide ((f.length : Int) < (c.length : Int)) then (some true)
 else (some (decide ((e : Int) < (d : Int)))))
 else (some false))
 else (some false))
 else (some false)).bind (fun (o : Bool) => if o then (some (Ctl.brk false))
 else (some (Ctl.next g)))) (b.length) 0 true) (fun r => none) (fun (h : Bool) => (if h then ((Jz c).bind <| fun (n : (List Fact)) =>
 (app 24 a [n]).bind fun i =>
 some i)
 else (some a)).bind (fun (j : (List (List Fact))) => some j)))) (b.length) 0 []).bind (fun (a : (List (List Fact))) => some a)
def K5 : List Fact → List Fact → Int
 | [], [] => 0
 | [], _ :: _ => -1
 | _ :: _, [] => 1
 | x :: xs, y :: ys => if Qbr x y ≠ 0 then Qbr x y else K5 xs ys
noncomputable def Qas (xs : List (List Fact)) : Option (List (List Fact)) := if xs.length < 4611686018427387904 then some (xs.mergeSort fun x y => !decide (K5 y x < 0)) else none
noncomputable def Q3 (h : Task) (f : Int) (g : (List Fact)) : Option ((List (List Fact)) × (Option Int)) :=
 (Kd h f g).bind <| QK fun (j : (List (List Fact))) (d : (Option Int)) =>
 if d.isSome then (some ([], d))
 else ((Kv j).bind <| fun (k : (List (List Fact))) =>
 (Qas k).bind <| fun (c : (List (List Fact))) =>
 (forS (fun b => fun (a : (List (List Fact))) => (QD a (b : Int)).bind fun i =>
 (Jz i).bind <| fun (l : (List Fact)) =>
 (YO a (b : Int) l).bind fun e =>
 some e) (c.length) 0 c).bind (fun (a : (List (List Fact))) => some (a, none)))
noncomputable def JT (a : (List certify_entry)) (c : certify_entry) : Option ((List certify_entry)) :=
 (app 40 a [c]).bind fun b =>
 some b
noncomputable def Y3 (c : (List certify_entry)) (d : Int) : Option ((List certify_entry)) :=
 ctl (J7 (R := ((List certify_entry))) (QK fun (a : Int) (b : (List certify_entry)) => (if decide ((IntKind.i64.wrap ((IntKind.i64.wrap (a - 1)).tdiv 2)) = a) then (some true)
 else ((QF b a (IntKind.i64.wrap ((IntKind.i64.wrap (a - 1)).tdiv 2))).bind <| fun (g : Bool) =>
 some (!g))).bind (fun (h : Bool) => if h then (some (Ctl.brk (a, b)))
 else ((Q8 b (IntKind.i64.wrap ((IntKind.i64.wrap (a - 1)).tdiv 2)) a).bind <| fun (e : (List certify_entry)) =>
 some (Ctl.next (IntKind.i64.wrap ((IntKind.i64.wrap (a - 1)).tdiv 2), e))))) (d, c)) (fun r => some r) (QK fun (i : Int) (f : (List certify_entry)) => some f)
noncomputable def Jo (b : (List certify_entry)) (d : certify_entry) : Option ((List certify_entry)) :=
 (JT b d).bind <| fun (a : (List certify_entry)) =>
 (Y3 a (IntKind.i64.wrap ((QH a) - 1))).bind <| fun (c : (List certify_entry)) =>
 some c
noncomputable def Jx (b : (List Nogood)) (c : (List Fact)) : Option (Int) :=
 ctl (QI (R := (Int)) (fun a => fun (_ : Unit) => (QD b (a : Int)).bind fun d =>
 (Kl d c).bind <| fun (e : Bool) =>
 if e then (some (Ctl.ret (a : Int)))
 else (some (Ctl.next ()))) (b.length) 0 ()) (fun r => some r) (fun (_ : Unit) => some (-1))
noncomputable def K9 (b : (List Nogood)) (a : (List Fact)) : Option (Bool) :=
 (Jx b a).bind <| fun (c : Int) =>
 some (decide (0 ≤ c))
noncomputable def JC (b : (List Fact)) (a : (List Nogood)) : Option (Bool) :=
 (K9 a b).bind <| fun (c : Bool) =>
 some c
structure Certificate where
 Bound : Int
 Nogoods : (List Nogood)
noncomputable def Jg (b : Task) (c : Int) (ab : Int) : Option ((Option Int) × Certificate) :=
 (Ks b).bind <| fun (p : (Option Int)) =>
 if p.isSome then (some (p, (⟨0, []⟩ : Certificate)))
 else (if !(Kx c) then (some (some 1, (⟨0, []⟩ : Certificate)))
 else (if decide (c = 0) then (some (none, (⟨c, []⟩ : Certificate)))
 else ((Jz b.Goal).bind <| fun (af : (List Fact)) =>
 ctl (J7 (R := ((Option Int) × Certificate)) (K3 fun (l : Int) (d : (List Nogood)) (h : (List certify_entry)) => if decide (0 < (QH h)) then ((Yl h).bind <| QK fun (a : certify_entry) (n : (List certify_entry)) =>
 (JC a.facts d).bind <| fun (ag : Bool) =>
 if ag then (some (Ctl.next (l, d, n)))
 else ((Ys a.facts b.Init).bind <| fun (ah : Bool) =>
 if ah then (some (Ctl.ret (some 13, (⟨0, []⟩ : Certificate))))
 else (if decide ((d.length : Int) = (max 0 (min ab 4096))) then (some (Ctl.ret (some 10, (⟨0, []⟩ : Certificate))))
 else ((app 32 d [(⟨a.facts, a.dist⟩ : Nogood)]).bind fun x =>
 ctl (QI (R := ((Option Int) × Certificate)) (fun g => QK fun (m : Int) (i : (List certify_entry)) => (QD b.Ops (g : Int)).bind fun o =>
 if decide (c < 0) then ((Q3 b (g : Int) a.facts).bind <| QK fun (q : (List (List Fact))) (s : (Option Int)) =>
 if s.isSome then (some (Ctl.ret (s, (⟨0, []⟩ : Certificate))))
 else ((forS (fun v => QK fun (e : Int) (j : (List certify_entry)) => (QD q (v : Int)).bind fun ad =>
 (Jo j (⟨ad, 0, e⟩ : certify_entry)).bind <| fun (y : (List certify_entry)) =>
 some (IntKind.i64.wrap (e + 1), y)) (q.length) 0 (m, i)).bind (QK fun (e : Int) (j : (List certify_entry)) => some (Ctl.next (e, j)))))
 else (if decide (c ≤ (IntKind.i64.wrap (a.dist + o.Cost))) then (some (Ctl.next (m, i)))
 else ((Q3 b (g : Int) a.facts).bind <| QK fun (t : (List (List Fact))) (u : (Option Int)) =>
 if u.isSome then (some (Ctl.ret (u, (⟨0, []⟩ : Certificate))))
 else ((forS (fun w => QK fun (f : Int) (k : (List certify_entry)) => (QD t (w : Int)).bind fun ae =>
 (Jo k (⟨ae, IntKind.i64.wrap (a.dist + o.Cost), f⟩ : certify_entry)).bind <| fun (z : (List certify_entry)) =>
 some (IntKind.i64.wrap (f + 1), z)) (t.length) 0 (m, i)).bind (QK fun (f : Int) (k : (List certify_entry)) => some (Ctl.next (f, k))))))) (b.Ops.length) 0 (l, n)) (fun r => some (Ctl.ret r)) (QK fun (ac : Int) (aa : (List certify_entry)) => some (Ctl.next (ac, x, aa)))))))
 else (some (Ctl.brk (l, d, h)))) (1, [], [(⟨af, 0, 0⟩ : certify_entry)])) (fun r => some r) (K3 fun (ak : Int) (ai : (List Nogood)) (aj : (List certify_entry)) => some (none, (⟨c, ai⟩ : Certificate))))))
noncomputable def JE (b : (List Fact)) : Option (Bool) :=
 ctl (QI (R := (Bool)) (fun c => fun (_ : Unit) => (QD b (c : Int)).bind fun a =>
 (if decide (a.Var < 0) then (some true)
 else (if decide (64 ≤ a.Var) then (some true)
 else (if decide (a.Val < 0) then (some true)
 else (if decide (64 ≤ a.Val) then (some true)
 else (if decide (0 < (c : Int)) then ((QD b (IntKind.i64.wrap ((c : Int) - 1))).bind fun d =>
 some (decide (a.Var ≤ d.Var)))
 else (some false)))))).bind (fun (e : Bool) => if e then (some (Ctl.ret false))
 else (some (Ctl.next ())))) (b.length) 0 ()) (fun r => some r) (fun (_ : Unit) => some true)
noncomputable def QY (a : Certificate) : Option ((Option Int)) :=
 if ((decide (a.Bound < (-1))) || decide (1099511627776 < a.Bound)) then (some (some 1))
 else (if decide (4096 < (a.Nogoods.length : Int)) then (some (some 5))
 else (ctl (QI (R := ((Option Int))) (fun c => fun (_ : Unit) => (QD a.Nogoods (c : Int)).bind fun e =>
 (JE e.Facts).bind <| fun (f : Bool) =>
 if !f then (some (Ctl.ret (some 2)))
 else (some (Ctl.next ()))) (a.Nogoods.length) 0 ()) (fun r => some r) (fun (_ : Unit) => ctl (QI (R := ((Option Int))) (fun d => fun (_ : Unit) => (QD a.Nogoods (d : Int)).bind fun b =>
 if ((decide (b.Dist < 0)) || (bif (decide (0 ≤ a.Bound)) then ((decide (a.Bound ≤ b.Dist)) || ((decide (a.Bound < 0)) && !decide (b.Dist = 0))) else ((decide (a.Bound < 0)) && !decide (b.Dist = 0)))) then (some (Ctl.ret (some 1)))
 else (some (Ctl.next ()))) (a.Nogoods.length) 0 ()) (fun r => some r) (fun (_ : Unit) => some none))))
def Jc (n : Int) : Option ByteArray := if -9223372036854775808 ≤ n ∧ n ≤ 9223372036854775807 then some ⟨(Lib.itoa n).toArray⟩ else none
noncomputable def QU (a : Certificate) : Option (ByteArray × (Option Int)) :=
 (QY a).bind <| fun (f : (Option Int)) =>
 if f.isSome then (some (⟨#[]⟩, f))
 else ((if decide (a.Bound < 0) then ((QdZ ([] : List Int) (⟨#[117, 110, 115, 111, 108, 118, 97, 98, 108, 101, 10]⟩)).bind fun p =>
 some p)
 else ((Jc a.Bound).bind <| fun (y : ByteArray) =>
 (cat (⟨#[108, 111, 119, 101, 114, 32]⟩) y).bind fun g =>
 (cat g (⟨#[10]⟩)).bind fun h =>
 (QdZ ([] : List Int) h).bind fun q =>
 some q)).bind (fun (s : (List Int)) => ctl (QI (R := (ByteArray × (Option Int))) (fun n => fun (t : (List Int)) => (QD a.Nogoods (n : Int)).bind fun c =>
 (Jc c.Dist).bind <| fun (z : ByteArray) =>
 (cat (⟨#[110, 111, 103, 111, 111, 100, 32]⟩) z).bind fun i =>
 (cat i (⟨#[58]⟩)).bind fun j =>
 (QdZ t j).bind fun u =>
 (forS (fun o => fun (b : (List Int)) => (QD c.Facts (o : Int)).bind fun e =>
 (Jc e.Var).bind <| fun (aa : ByteArray) =>
 (cat (⟨#[32]⟩) aa).bind fun k =>
 (cat k (⟨#[61]⟩)).bind fun l =>
 (Jc e.Val).bind <| fun (ab : ByteArray) =>
 (cat l ab).bind fun m =>
 (QdZ b m).bind fun v =>
 some v) (c.Facts.length) 0 u).bind (fun (b : (List Int)) => (QdZ b (⟨#[10]⟩)).bind fun d =>
 if decide (65536 < (d.length : Int)) then (some (Ctl.ret (⟨#[]⟩, some 5)))
 else (some (Ctl.next d)))) (a.Nogoods.length) 0 s) (fun r => some r) (fun (w : (List Int)) => (Qff w).bind fun x =>
 some (x, none))))
noncomputable def JF (d : (List Int)) (a : Certificate) : Option ((Option Int)) :=
 (QY a).bind <| fun (b : (Option Int)) =>
 if b.isSome then (some b)
 else (ctl (QI (R := ((Option Int))) (fun c => fun (_ : Unit) => (QD a.Nogoods (c : Int)).bind fun e =>
 (J6 d e.Facts).bind <| fun (f : Bool) =>
 if !f then (some (Ctl.ret (some 2)))
 else (some (Ctl.next ()))) (a.Nogoods.length) 0 ()) (fun r => some r) (fun (_ : Unit) => some none))
structure checker_checker where
 t : Task
 c : Certificate
 steps : Int
noncomputable def Je (b : checker_checker) (e : Int) : Option ((List (List Fact))) :=
 (forS (fun f => fun (a : (List (List Fact))) => (QD b.c.Nogoods (f : Int)).bind fun d =>
 (if decide (d.Dist ≤ e) then ((app 24 a [d.Facts]).bind fun g =>
 some g)
 else (some a)).bind (fun (h : (List (List Fact))) => some h)) (b.c.Nogoods.length) 0 []).bind (fun (a : (List (List Fact))) => some a)
noncomputable def K0 (b : (List Fact)) (a : (List Int)) : Option (Bool) :=
 (J6 a b).bind <| fun (c : Bool) =>
 some (!c)
noncomputable def JQ (b : (List (List Fact))) (c : (List Int)) : Option (Int) :=
 ctl (QI (R := (Int)) (fun a => fun (_ : Unit) => (QD b (a : Int)).bind fun d =>
 (K0 d c).bind <| fun (e : Bool) =>
 if e then (some (Ctl.ret (a : Int)))
 else (some (Ctl.next ()))) (b.length) 0 ()) (fun r => some r) (fun (_ : Unit) => some (-1))
noncomputable def KF (b : (List (List Fact))) (a : (List Int)) : Option (Bool) :=
 (JQ b a).bind <| fun (c : Int) =>
 some (decide (0 ≤ c))
structure partial_cover where
 vars : (List Int)
 used : Int
 steps : Int
 full : Bool
noncomputable def Ke (d : (List Fact)) (a : (List Fact)) : Option (Bool) :=
 ctl (QI (R := (Bool)) (fun e => fun (_ : Unit) => (QD a (e : Int)).bind fun b =>
 (Kc d b.Var).bind <| fun (c : Int) =>
 if ((decide (0 ≤ c)) && !decide (c = b.Val)) then (some (Ctl.ret true))
 else (some (Ctl.next ()))) (a.length) 0 ()) (fun r => some r) (fun (_ : Unit) => some false)
def QgM (xs : List Fact) (i : Int) (ys : List Fact) : Option (List Fact) := if 0 ≤ i ∧ i ≤ xs.length ∧ (xs.length + ys.length) * 16 ≤ 140737488355328 then some (xs.take i.toNat ++ ys ++ xs.drop i.toNat) else none
noncomputable def KD (b : (List Fact)) (c : Fact) : Option ((List Fact)) :=
 ctl (J7 (R := ((List Fact))) (fun (a : Int) => (if decide (a < (b.length : Int)) then ((QD b a).bind fun f =>
 some (decide (f.Var < c.Var)))
 else (some false)).bind (fun (h : Bool) => if h then (some (Ctl.next (IntKind.i64.wrap (a + 1))))
 else (some (Ctl.brk a)))) 0) (fun r => some r) (fun (d : Int) => (Jz b).bind <| fun (g : (List Fact)) =>
 (QgM g d [c]).bind <| fun (e : (List Fact)) =>
 some e)
noncomputable def Q4 : Nat → partial_cover → (List Fact) → (List (List Fact)) → Option (Bool × Int × Bool)
 | 0, _, _, _ => none
 | fu + 1, a, c, h =>
 if decide (a.steps ≤ a.used) then (some (false, a.used, true))
 else (ctl (QI (R := (Bool × Int × Bool)) (fun o => fun (i : (List (List Fact))) => (QD h (o : Int)).bind fun f =>
 (Jp c f).bind <| fun (w : Bool) =>
 if w then (some (Ctl.ret (true, IntKind.i64.wrap (a.used + 1), a.full)))
 else ((Ke c f).bind <| fun (x : Bool) =>
 (if !x then ((app 24 i [f]).bind fun t =>
 some t)
 else (some i)).bind (fun (u : (List (List Fact))) => some (Ctl.next u)))) (h.length) 0 []) (fun r => some r) (fun (e : (List (List Fact))) => (forS (fun p => fun (b : Int) => (QD e (p : Int)).bind fun k =>
 (forS (fun q => fun (d : Int) => (QD k (q : Int)).bind fun g =>
 (if decide (g.Var < d) then ((Kc c g.Var).bind <| fun (y : Int) =>
 some (decide (y < 0)))
 else (some false)).bind (fun (ab : Bool) => (if ab then (some g.Var)
 else (some d)).bind (fun (v : Int) => some v))) (k.length) 0 b).bind (fun (d : Int) => some d)) (e.length) 0 (a.vars.length : Int)).bind (fun (b : Int) => if decide (b = (a.vars.length : Int)) then (some (false, IntKind.i64.wrap (a.used + 1), a.full))
 else ((QD a.vars b).bind fun l =>
 (must (decide (l ≤ 9223372036854775807))).bind fun ah =>
 ctl (QI (R := (Bool × Int × Bool)) (fun s => K3 fun (j : (List (List Fact))) (ac : Int) (ad : Bool) => (KD c (⟨b, (s : Int)⟩ : Fact)).bind <| fun (z : (List Fact)) =>
 (Q4 fu (⟨a.vars, ac, a.steps, ad⟩ : partial_cover) z j).bind <| K3 fun (aa : Bool) (m : Int) (n : Bool) =>
 if !aa then (some (Ctl.ret (false, m, n)))
 else (some (Ctl.next (j, m, n)))) (l.toNat) 0 (e, IntKind.i64.wrap (a.used + 1), a.full)) (fun r => some r) (K3 fun (ag : (List (List Fact))) (ae : Int) (af : Bool) => some (true, ae, af))))))
noncomputable def Kw (fu : Nat) (a : (List Int)) (c : (List Fact)) (b : (List (List Fact))) (d : Int) : Option (Bool × Int × (Option Int)) :=
 ((J6 a c).bind <| fun (e : Bool) =>
 if !e then (some true)
 else ((KF b a).bind <| fun (f : Bool) =>
 some f)).bind (fun (h : Bool) => if h then (some (false, 0, some 2))
 else ((Q4 fu (⟨a, 0, d, false⟩ : partial_cover) c b).bind <| K3 fun (g : Bool) (i : Int) (j : Bool) =>
 if j then (some (false, 0, some 10))
 else (some (g, i, none))))
noncomputable def Qx (fu : Nat) (a : checker_checker) (d : (List Fact)) (c : Int) : Option (Bool × (Option Int) × Int) :=
 (Je a c).bind <| fun (e : (List (List Fact))) =>
 (Kw fu a.t.Vars d e a.steps).bind <| K3 fun (f : Bool) (g : Int) (b : (Option Int)) =>
 if b.isSome then (some (false, b, a.steps))
 else (some (f, none, IntKind.i64.wrap (a.steps - g)))
noncomputable def Q7 (fu : Nat) (a : checker_checker) (b : Nogood) (d : Int) : Option ((Option Int) × Int) :=
 if decide (0 ≤ a.c.Bound) then ((QD a.t.Ops d).bind fun g =>
 if decide (a.c.Bound ≤ (IntKind.i64.wrap (b.Dist + g.Cost))) then (some (none, a.steps))
 else ((Q3 a.t d b.Facts).bind <| QK fun (h : (List (List Fact))) (i : (Option Int)) =>
 if i.isSome then (some (i, a.steps))
 else (ctl (QI (R := ((Option Int) × Int)) (fun n => fun (v : Int) => (QD h (n : Int)).bind fun p =>
 (Qx fu (⟨a.t, a.c, v⟩ : checker_checker) p (IntKind.i64.wrap (b.Dist + g.Cost))).bind <| K3 fun (s : Bool) (j : (Option Int)) (e : Int) =>
 if j.isSome then (some (Ctl.ret (j, e)))
 else (if !s then (some (Ctl.ret (some 19, e)))
 else (some (Ctl.next e)))) (h.length) 0 a.steps) (fun r => some r) (fun (w : Int) => some (none, w)))))
 else ((Q3 a.t d b.Facts).bind <| QK fun (k : (List (List Fact))) (l : (Option Int)) =>
 if l.isSome then (some (l, a.steps))
 else (ctl (QI (R := ((Option Int) × Int)) (fun o => fun (x : Int) => (QD k (o : Int)).bind fun q =>
 (Qx fu (⟨a.t, a.c, x⟩ : checker_checker) q 0).bind <| K3 fun (u : Bool) (m : (Option Int)) (f : Int) =>
 if m.isSome then (some (Ctl.ret (m, f)))
 else (if !u then (some (Ctl.ret (some 19, f)))
 else (some (Ctl.next f)))) (k.length) 0 a.steps) (fun r => some r) (fun (y : Int) => some (none, y))))
noncomputable def KU (fu : Nat) (b : Task) (a : Certificate) (g : Int) : Option (Int × Int × (Option Int)) :=
 (Ks b).bind <| fun (h : (Option Int)) =>
 if h.isSome then (some ((-1), (-1), h))
 else ((JF b.Vars a).bind <| fun (i : (Option Int)) =>
 if i.isSome then (some ((-1), (-1), i))
 else (ctl (QI (R := (Int × Int × (Option Int))) (fun m => fun (_ : Unit) => (QD a.Nogoods (m : Int)).bind fun n =>
 (Ys n.Facts b.Init).bind <| fun (q : Bool) =>
 if q then (some (Ctl.ret ((-1), (-1), some 20)))
 else (some (Ctl.next ()))) (a.Nogoods.length) 0 ()) (fun r => some r) (fun (_ : Unit) => if !decide (a.Bound = 0) then ((Qx fu (⟨b, a, max 0 (min g 1048576)⟩ : checker_checker) b.Goal 0).bind <| K3 fun (s : Bool) (j : (Option Int)) (t : Int) =>
 if j.isSome then (some ((-1), (-1), j))
 else (if !s then (some ((-1), (-1), some 13))
 else (ctl (QI (R := (Int × Int × (Option Int))) (fun c => fun (u : Int) => (QD a.Nogoods (c : Int)).bind fun o =>
 ctl (QI (R := (Int × Int × (Option Int))) (fun d => fun (v : Int) => (Q7 fu (⟨b, a, v⟩ : checker_checker) o (d : Int)).bind <| QK fun (k : (Option Int)) (w : Int) =>
 if k.isSome then (some (Ctl.ret ((c : Int), (d : Int), k)))
 else (some (Ctl.next w))) (b.Ops.length) 0 u) (fun r => some (Ctl.ret r)) (fun (x : Int) => some (Ctl.next x))) (a.Nogoods.length) 0 t) (fun r => some r) (fun (ac : Int) => some ((-1), (-1), none)))))
 else (ctl (QI (R := (Int × Int × (Option Int))) (fun e => fun (y : Int) => (QD a.Nogoods (e : Int)).bind fun p =>
 ctl (QI (R := (Int × Int × (Option Int))) (fun f => fun (z : Int) => (Q7 fu (⟨b, a, z⟩ : checker_checker) p (f : Int)).bind <| QK fun (l : (Option Int)) (aa : Int) =>
 if l.isSome then (some (Ctl.ret ((e : Int), (f : Int), l)))
 else (some (Ctl.next aa))) (b.Ops.length) 0 y) (fun r => some (Ctl.ret r)) (fun (ab : Int) => some (Ctl.next ab))) (a.Nogoods.length) 0 (max 0 (min g 1048576))) (fun r => some r) (fun (ad : Int) => some ((-1), (-1), none))))))
noncomputable def Qq (fu : Nat) (d : Task) (a : Certificate) (c : Int) : Option ((Option Int)) :=
 (KU fu d a c).bind <| K3 fun (e : Int) (f : Int) (b : (Option Int)) =>
 some b
noncomputable def QN (fu : Nat) : Option (Bool) :=
 (Jg (⟨[2], [0], [(⟨0, 1⟩ : Fact)], [(⟨⟨#[]⟩, 2, [], [(⟨[], 0, 1⟩ : Effect)]⟩ : Op)]⟩ : Task) 2 10).bind <| QK fun (b : (Option Int)) (a : Certificate) =>
 (QU a).bind <| QK fun (c : ByteArray) (d : (Option Int)) =>
 (if b.isNone then (if d.isNone then (if decide (c = (⟨#[108, 111, 119, 101, 114, 32, 50, 10, 110, 111, 103, 111, 111, 100, 32, 48, 58, 32, 48, 61, 49, 10]⟩)) then ((Qq fu (⟨[2], [0], [(⟨0, 1⟩ : Fact)], [(⟨⟨#[]⟩, 2, [], [(⟨[], 0, 1⟩ : Effect)]⟩ : Op)]⟩ : Task) a 100).bind <| fun (e : (Option Int)) =>
 some e.isNone)
 else (some false))
 else (some false))
 else (some false)).bind (fun (f : Bool) => some f)
noncomputable def Yb (d : (List Int)) : Option ((List (List Int))) :=
 (forS (fun f => fun (a : (List (List Int))) => (QD d (f : Int)).bind fun e =>
 (forS (fun g => fun (c : (List (List Int))) => (QD a (g : Int)).bind fun l =>
 (must (decide (e ≤ 9223372036854775807))).bind fun m =>
 (forS (fun h => fun (b : (List (List Int))) => (app 8 [] l).bind fun i =>
 (app 8 i [(h : Int)]).bind fun j =>
 (app 24 b [j]).bind fun k =>
 some k) (e.toNat) 0 c).bind (fun (b : (List (List Int))) => some b)) (a.length) 0 []).bind (fun (c : (List (List Int))) => some c)) (d.length) 0 ([[]])).bind (fun (a : (List (List Int))) => some a)
noncomputable def Kt (b : (List Fact)) (c : (List Int)) : Option (Bool) :=
 ctl (QI (R := (Bool)) (fun d => fun (_ : Unit) => (QD b (d : Int)).bind fun a =>
 (if decide (a.Var < 0) then (some true)
 else (if decide ((c.length : Int) ≤ a.Var) then (some true)
 else ((QD c a.Var).bind fun e =>
 some (!decide (e = a.Val))))).bind (fun (f : Bool) => if f then (some (Ctl.ret false))
 else (some (Ctl.next ())))) (b.length) 0 ()) (fun r => some r) (fun (_ : Unit) => some true)
noncomputable def YY (e : Task) (d : (List Int)) (b : Int) : Option ((List Int) × Bool) :=
 (if decide (b < 0) then (some true)
 else (if decide ((e.Ops.length : Int) ≤ b) then (some true)
 else ((QD e.Ops b).bind fun k =>
 (Kt k.Pre d).bind <| fun (l : Bool) =>
 some (!l)))).bind (fun (n : Bool) => if n then (some ([], false))
 else ((app 8 [] d).bind fun h =>
 (QD e.Ops b).bind fun f =>
 (forS (fun g => fun (a : (List Int)) => (QD f.Effs (g : Int)).bind fun c =>
 (Kt c.When d).bind <| fun (m : Bool) =>
 (if m then ((QD a c.Var).bind fun o =>
 (YO a c.Var c.Val).bind fun i =>
 some i)
 else (some a)).bind (fun (j : (List Int)) => some j)) (f.Effs.length) 0 h).bind (fun (a : (List Int)) => some (a, true))))
noncomputable def YK (d : (List Int)) (c : (List Int)) : Option (Int) :=
 (forS (fun b => fun (a : Int) => (QD d (b : Int)).bind fun e =>
 (QD c (b : Int)).bind fun f =>
 some (IntKind.i64.wrap ((IntKind.i64.wrap (a * e)) + f))) (c.length) 0 0).bind (fun (a : Int) => some a)
structure base_Edge where
 From : Int
 Op : Int
 To : Int
def encbase_Edge : Enc base_Edge := Enc.iso ((Qc .i64).pair ((Qc .i64).pair (Qc .i64))) (fun b => (b.From, b.Op, b.To))
theorem Qeu {s : PHeap} {v : Value} {b : base_Edge} : encbase_Edge.val s v b ↔ v = .agg #[.int .i64 (b.From), .int .i64 (b.Op), .int .i64 (b.To)] := by
 simp only [Enc.iso, Enc.pair, Enc.val, Qc, encbase_Edge, if_true, Y7]
 constructor
 ·rintro ⟨cs, rfl, h⟩
  obtain ⟨cs⟩ := cs
  simp only [] at h
  obtain ⟨_, _, rfl, rfl, ⟨_, _, rfl, rfl, rfl⟩⟩ := h
  rfl
 ·rintro rfl
  exact ⟨_, Z, ⟨[.int .i64 (b.From)], [.int .i64 (b.Op), .int .i64 (b.To)], Z, Z, ⟨[.int .i64 (b.Op)], [.int .i64 (b.To)], Z, Z, Z⟩⟩⟩
noncomputable def YX (b : Task) : Option ((List base_Edge)) :=
 (Yb b.Vars).bind <| fun (f : (List (List Int))) =>
 (forS (fun d => fun (c : (List base_Edge)) => (QD f (d : Int)).bind fun i =>
 (forS (fun e => fun (a : (List base_Edge)) => (YY b i (e : Int)).bind <| QK fun (j : (List Int)) (k : Bool) =>
 (if k then ((YK b.Vars j).bind <| fun (l : Int) =>
 (app 24 a [(⟨(d : Int), (e : Int), l⟩ : base_Edge)]).bind fun g =>
 some g)
 else (some a)).bind (fun (h : (List base_Edge)) => some h)) (b.Ops.length) 0 c).bind (fun (a : (List base_Edge)) => some a)) (f.length) 0 []).bind (fun (c : (List base_Edge)) => some c)
noncomputable def JG (e : Task) : Option ((List Int)) :=
 (Yb e.Vars).bind <| fun (h : (List (List Int))) =>
 (mk 8 0 (h.length : Int)).bind fun p =>
 (forS (fun c => fun (d : (List Int)) => (QD h (c : Int)).bind fun w =>
 (QD d (c : Int)).bind fun ac =>
 (YO d (c : Int) 1125899906842624).bind fun g =>
 (Kt e.Goal w).bind <| fun (z : Bool) =>
 (if z then ((QD g (c : Int)).bind fun ad =>
 (YO g (c : Int) 0).bind fun q =>
 some q)
 else (some g)).bind (fun (s : (List Int)) => some s)) (h.length) 0 p).bind (fun (d : (List Int)) => (YX e).bind <| fun (m : (List base_Edge)) =>
 ctl (J7 (R := ((List Int))) (QK fun (i : Bool) (j : (List Int)) => if i then ((forS (fun o => QK fun (f : Bool) (a : (List Int)) => (QD m (o : Int)).bind fun b =>
 (QD e.Ops b.Op).bind fun k =>
 ((QD a b.To).bind fun l =>
 if decide (l < 1125899906842624) then ((QD a b.From).bind fun x =>
 some (decide ((IntKind.i64.wrap (l + k.Cost)) < x)))
 else (some false)).bind (fun (aa : Bool) => (if aa then ((QD a b.To).bind fun y =>
 (QD a b.From).bind fun ae =>
 (YO a b.From (IntKind.i64.wrap (y + k.Cost))).bind fun t =>
 some (true, t))
 else (some (f, a))).bind (QK fun (n : Bool) (u : (List Int)) => some (n, u)))) (m.length) 0 (false, j)).bind (QK fun (f : Bool) (a : (List Int)) => some (Ctl.next (f, a))))
 else (some (Ctl.brk (i, j)))) (true, d)) (fun r => some r) (QK fun (ab : Bool) (v : (List Int)) => some v))
noncomputable def Qay (a : Task) : Option (Int) :=
 (JG a).bind <| fun (c : (List Int)) =>
 (YK a.Vars a.Init).bind <| fun (d : Int) =>
 (QD c d).bind fun b =>
 some b
noncomputable def KQ (b : ByteArray) (a : ByteArray) : Option (Int) :=
 if decide ((a.size : Int) = 0) then (none)
 else (if decide ((a.size : Int) = 1) then ((QD (QJ a) 0).bind fun c =>
 (Qel b c).bind fun d =>
 some d)
 else (none))
noncomputable def JN (b : ByteArray) (a : Int) : Option (Int) :=
 (Qef b a).bind fun c =>
 some c
noncomputable def QX (b : ByteArray) (a : ByteArray) : Option (Int) :=
 if ((decide ((a.size : Int) = 0)) || decide (a = b)) then (some 0)
 else (if decide ((a.size : Int) = 1) then ((QD (QJ a) 0).bind fun c =>
 (JN b c).bind <| fun (d : Int) =>
 some d)
 else (none))
noncomputable def Y9 (a : ByteArray) (b : ByteArray) : Option (Int) :=
 (QX a b).bind <| fun (c : Int) =>
 some c
noncomputable def KK (d : ByteArray) (e : ByteArray) (s : Int) (h : Int) : Option ((List ByteArray)) :=
 if decide (h = 0) then (none)
 else (if decide (e = (⟨#[]⟩)) then (none)
 else ((if decide (h < 0) then ((KQ d e).bind <| fun (t : Int) =>
 some (IntKind.i64.wrap (t + 1)))
 else (some h)).bind (fun (k : Int) => (mk 16 (⟨#[]⟩) (min k (IntKind.i64.wrap ((d.size : Int) + 1)))).bind fun o =>
 ctl (J7 (R := ((List ByteArray))) (K3 fun (b : ByteArray) (a : Int) (c : (List ByteArray)) => if decide (a < (IntKind.i64.wrap ((min k (IntKind.i64.wrap ((d.size : Int) + 1))) - 1))) then ((Y9 b e).bind <| fun (i : Int) =>
 if decide (i < 0) then (some (Ctl.brk (b, a, c)))
 else ((Qdb b 0 (IntKind.i64.wrap (i + s))).bind fun m =>
 (QD c a).bind fun v =>
 (YO c a m).bind fun p =>
 (Qdb b (IntKind.i64.wrap (i + (e.size : Int))) (b.size : Int)).bind fun n =>
 some (Ctl.next (n, IntKind.i64.wrap (a + 1), p))))
 else (some (Ctl.brk (b, a, c)))) (d, 0, o)) (fun r => some r) (K3 fun (q : ByteArray) (f : Int) (j : (List ByteArray)) => (QD j f).bind fun w =>
 (YO j f q).bind fun g =>
 (Yy g 0 (IntKind.i64.wrap (f + 1))).bind fun l =>
 (must (decide (l ≤ g.length))).bind fun u =>
 some ((g).take l)))))
noncomputable def Ko (a : ByteArray) (b : ByteArray) : Option ((List ByteArray)) :=
 (KK a b 0 (-1)).bind <| fun (c : (List ByteArray)) =>
 some c
noncomputable def JO (b : ByteArray) (a : ByteArray) : Option (Bool) :=
 (if decide ((a.size : Int) ≤ (b.size : Int)) then ((Qdb b 0 (a.size : Int)).bind fun c =>
 some (decide (c = a)))
 else (some false)).bind (fun (d : Bool) => some d)
noncomputable def JP (a : ByteArray) (b : ByteArray) : Option (ByteArray × Bool) :=
 (JO a b).bind <| fun (d : Bool) =>
 if !d then (some (a, false))
 else ((Qdb a (b.size : Int) (a.size : Int)).bind fun c =>
 some (c, true))
noncomputable def Jy (d : ByteArray) (c : ByteArray) : Option (ByteArray × Bool) :=
 (JP d c).bind <| QK fun (a : ByteArray) (b : Bool) =>
 some (a, b)
noncomputable def QL (a : ByteArray) : Option (Int × Bool) :=
 (if decide ((a.size : Int) < 1) then (some true)
 else (if decide (13 < (a.size : Int)) then (some true)
 else (if decide (1 < (a.size : Int)) then ((QD (QJ a) 0).bind fun g =>
 some (decide (g = 48)))
 else (some false)))).bind (fun (h : Bool) => if h then (some (0, false))
 else ((Qfk a).bind fun c =>
 ctl (QI (R := (Int × Bool)) (fun d => fun (e : Int) => (QD c (d : Int)).bind fun b =>
 if ((decide (b < 48)) || decide (57 < b)) then (some (Ctl.ret (0, false)))
 else (some (Ctl.next (IntKind.i64.wrap ((IntKind.i64.wrap (10 * e)) + (IntKind.i64.wrap (IntKind.u8.wrap (b - 48)))))))) (c.length) 0 0) (fun r => some r) (fun (f : Int) => some (f, true))))
noncomputable def Kg (a : ByteArray) : Option (Int × Bool) :=
 if decide (a = (⟨#[117, 110, 115, 111, 108, 118, 97, 98, 108, 101]⟩)) then (some ((-1), true))
 else ((Jy a (⟨#[108, 111, 119, 101, 114, 32]⟩)).bind <| QK fun (b : ByteArray) (c : Bool) =>
 if !c then (some (0, false))
 else ((QL b).bind <| QK fun (d : Int) (e : Bool) =>
 some (d, e)))
noncomputable def Ye (a : ByteArray) (c : ByteArray) : Option (ByteArray × ByteArray × Bool) :=
 (QX a c).bind <| fun (b : Int) =>
 if decide (0 ≤ b) then ((Qdb a 0 b).bind fun d =>
 (Qdb a (IntKind.i64.wrap (b + (c.size : Int))) (a.size : Int)).bind fun e =>
 some (d, e, true))
 else (some (a, ⟨#[]⟩, false))
noncomputable def KZ (d : ByteArray) (e : ByteArray) : Option (ByteArray × ByteArray × Bool) :=
 (Ye d e).bind <| K3 fun (b : ByteArray) (a : ByteArray) (c : Bool) =>
 some (b, a, c)
noncomputable def JD (n : ByteArray) : Option (Bool × Nogood) :=
 (Jy n (⟨#[110, 111, 103, 111, 111, 100, 32]⟩)).bind <| QK fun (d : ByteArray) (i : Bool) =>
 (KZ d (⟨#[58]⟩)).bind <| K3 fun (f : ByteArray) (a : ByteArray) (j : Bool) =>
 (QL f).bind <| QK fun (b : Int) (q : Bool) =>
 if ((!i) || ((!j) || !q)) then (some (false, (⟨[], 0⟩ : Nogood)))
 else (if decide (a = (⟨#[]⟩)) then (some (true, (⟨[], b⟩ : Nogood)))
 else ((QD (QJ a) 0).bind fun o =>
 if !decide (o = 32) then (some (false, (⟨[], 0⟩ : Nogood)))
 else ((Qdb a 1 (a.size : Int)).bind fun h =>
 (Ko h (⟨#[32]⟩)).bind <| fun (c : (List ByteArray)) =>
 ctl (QI (R := (Bool × Nogood)) (fun l => fun (w : (List Fact)) => (QD c (l : Int)).bind fun p =>
 (KZ p (⟨#[61]⟩)).bind <| K3 fun (g : ByteArray) (e : ByteArray) (k : Bool) =>
 (QL g).bind <| QK fun (s : Int) (t : Bool) =>
 (QL e).bind <| QK fun (u : Int) (v : Bool) =>
 if ((!k) || ((!t) || !v)) then (some (Ctl.ret (false, (⟨[], 0⟩ : Nogood))))
 else ((app 16 w [(⟨s, u⟩ : Fact)]).bind fun m =>
 some (Ctl.next m))) (c.length) 0 []) (fun r => some r) (fun (x : (List Fact)) => some (true, (⟨x, b⟩ : Nogood))))))
noncomputable def Ji (e : ByteArray) : Option (Int × (Option Int) × Certificate) :=
 if decide (65536 < (e.size : Int)) then (some (0, some 5, (⟨0, []⟩ : Certificate)))
 else ((Ko e (⟨#[10]⟩)).bind <| fun (b : (List ByteArray)) =>
 ctl (QI (R := (Int × (Option Int) × Certificate)) (fun a => QK fun (g : Int) (d : (List Nogood)) => (QD b (a : Int)).bind fun c =>
 if ((!(decide ((a : Int) < (IntKind.i64.wrap ((b.length : Int) - 1))))) && ((decide (c = (⟨#[]⟩))) && decide (0 < (a : Int)))) then (some (Ctl.brk (g, d)))
 else ((if decide ((a : Int) = 0) then ((Kg c).bind <| QK fun (m : Int) (n : Bool) =>
 some (n, m, d))
 else ((JD c).bind <| QK fun (o : Bool) (p : Nogood) =>
 (app 32 d [p]).bind fun j =>
 some (o, g, j))).bind (K3 fun (l : Bool) (q : Int) (k : (List Nogood)) => if ((!l) || !(decide ((a : Int) < (IntKind.i64.wrap ((b.length : Int) - 1))))) then (some (Ctl.ret (IntKind.i64.wrap ((a : Int) + 1), some 2, (⟨0, []⟩ : Certificate))))
 else (some (Ctl.next (q, k)))))) (b.length) 0 (0, [])) (fun r => some r) (QK fun (h : Int) (i : (List Nogood)) => (QY (⟨h, i⟩ : Certificate)).bind <| fun (f : (Option Int)) =>
 if f.isSome then (some (0, f, (⟨0, []⟩ : Certificate)))
 else (some (0, none, (⟨h, i⟩ : Certificate)))))
noncomputable def J3 (a : Certificate) : Option (Certificate) :=
 (forS (fun d => fun (b : (List Nogood)) => (QD a.Nogoods (d : Int)).bind fun c =>
 (Jz c.Facts).bind <| fun (f : (List Fact)) =>
 (app 32 b [(⟨f, c.Dist⟩ : Nogood)]).bind fun e =>
 some e) (a.Nogoods.length) 0 ([] : (List Nogood))).bind (fun (b : (List Nogood)) => some (⟨a.Bound, b⟩ : Certificate))
def Qfi (xs : List Fact) (i j : Int) : Option (List Fact) := if 0 ≤ i ∧ i ≤ j ∧ j ≤ xs.length ∧ 0 < xs.length then some (xs.take i.toNat ++ xs.drop j.toNat) else none
def Qfh (xs : List Nogood) (i j : Int) : Option (List Nogood) := if 0 ≤ i ∧ i ≤ j ∧ j ≤ xs.length ∧ 0 < xs.length then some (xs.take i.toNat ++ xs.drop j.toNat) else none
noncomputable def J4 (fu : Nat) (h : Task) (o : Certificate) (g : Int) : Option ((Option Int) × Certificate) :=
 (Qq fu h o g).bind <| fun (t : (Option Int)) =>
 if t.isSome then (some (t, (⟨0, []⟩ : Certificate)))
 else ((J3 o).bind <| fun (i : Certificate) =>
 (forS (fun f => QK fun (k : Int) (l : (List Nogood)) => ctl (J7 (R := ((Option Int) × Certificate)) (K3 fun (b : Int) (m : Int) (d : (List Nogood)) => (QD d (f : Int)).bind fun x =>
 if decide (b < (x.Facts.length : Int)) then ((J3 (⟨m, d⟩ : Certificate)).bind <| fun (c : Certificate) =>
 (QD c.Nogoods (f : Int)).bind fun s =>
 (Qfi s.Facts b (IntKind.i64.wrap (b + 1))).bind <| fun (w : (List Fact)) =>
 (YO c.Nogoods (f : Int) ({ s with Facts := w } : Nogood)).bind fun p =>
 (Qq fu h (⟨c.Bound, p⟩ : Certificate) g).bind <| fun (y : (Option Int)) =>
 (if y.isNone then (some (b, c.Bound, p))
 else (some (IntKind.i64.wrap (b + 1), m, d))).bind (K3 fun (v : Int) (aa : Int) (ab : (List Nogood)) => some (Ctl.next (v, aa, ab))))
 else (some (Ctl.brk (b, m, d)))) (0, k, l)) (fun r => none) (K3 fun (aj : Int) (ac : Int) (ad : (List Nogood)) => some (ac, ad))) (i.Nogoods.length) 0 (i.Bound, i.Nogoods)).bind (QK fun (k : Int) (l : (List Nogood)) => ctl (J7 (R := ((Option Int) × Certificate)) (K3 fun (a : Int) (n : Int) (e : (List Nogood)) => if decide (a < (e.length : Int)) then ((J3 (⟨n, e⟩ : Certificate)).bind <| fun (j : Certificate) =>
 (Qfh j.Nogoods a (IntKind.i64.wrap (a + 1))).bind <| fun (q : (List Nogood)) =>
 (Qq fu h (⟨j.Bound, q⟩ : Certificate) g).bind <| fun (z : (Option Int)) =>
 (if z.isNone then (some (a, j.Bound, q))
 else (some (IntKind.i64.wrap (a + 1), n, e))).bind (K3 fun (u : Int) (ae : Int) (af : (List Nogood)) => some (Ctl.next (u, ae, af))))
 else (some (Ctl.brk (a, n, e)))) (0, k, l)) (fun r => some r) (K3 fun (ai : Int) (ag : Int) (ah : (List Nogood)) => some (none, (⟨ag, ah⟩ : Certificate)))))
noncomputable def QaJ (a : (Option Int)) : Option (Int) :=
 if a.isNone then (some 0)
 else (if a.isSome then (some (a.getD 0))
 else (some (-1)))
def Yj (a : (Option Int)) : Int :=
 if a.isNone then (0)
 else (if a.isSome then ((a.getD 0))
 else ((-1)))
theorem QdJ (a : (Option Int)) : QaJ a = some (Yj a) := by
 unfold QaJ Yj
 (repeat' split) <;> rfl
attribute [irreducible] Yj
noncomputable def Qb5 (a : (Option Int)) (b : Int) : Option (Bool) :=
 some (a.isSome && decide ((Yj a) = b))
def Yq (a : (Option Int)) (b : Int) : Bool :=
 (a.isSome && decide ((Yj a) = b))
theorem Qbj (b : (Option Int)) (a : Int) : Qb5 b a = some (Yq b a) := by
 unfold Qb5 Yq
 (repeat' split) <;> rfl
attribute [irreducible] Yq
noncomputable def Jb (fu : Nat) (t1 : Task) : Option (Bool) :=
 ((Qaw t1).bind <| fun (j : Bool) =>
 if !j then (some true)
 else (if decide (6 < (t1.Ops.length : Int)) then (some true)
 else ((KI t1.Vars 36).bind <| fun (k : Int) =>
 if decide (36 < k) then (some true)
 else ((QN fu).bind <| fun (l : Bool) =>
 some (!l))))).bind (fun (ac : Bool) => if ac then ((QN fu).bind <| fun (m : Bool) =>
 some m)
 else ((Qay t1).bind <| fun (a : Int) =>
 if decide (a = 1125899906842624) then ((Jg t1 (-1) 4096).bind <| QK fun (n : (Option Int)) (b : Certificate) =>
 (if n.isSome then (some true)
 else ((Qq fu t1 b 1048576).bind <| fun (o : (Option Int)) =>
 some o.isSome)).bind (fun (ad : Bool) => if ad then (some false)
 else ((QU b).bind <| QK fun (p : ByteArray) (q : (Option Int)) =>
 if q.isSome then (some false)
 else ((Ji p).bind <| K3 fun (aj : Int) (r : (Option Int)) (d : Certificate) =>
 (if r.isSome then (some true)
 else ((Qq fu t1 d 1048576).bind <| fun (s : (Option Int)) =>
 some s.isSome)).bind (fun (ae : Bool) => if ae then (some false)
 else (if decide (8 < (b.Nogoods.length : Int)) then (some true)
 else ((J4 fu t1 d 20000).bind <| QK fun (e : (Option Int)) (f : Certificate) =>
 if (Yq e 10) then (some true)
 else ((if e.isNone then ((Qq fu t1 f 20000).bind <| fun (t : (Option Int)) =>
 if t.isNone then (some (decide (f.Bound = (-1))))
 else (some false))
 else (some false)).bind (fun (af : Bool) => some af)))))))))
 else ((Jg t1 (IntKind.i64.wrap (a + 1)) 4096).bind <| QK fun (u : (Option Int)) (ak : Certificate) =>
 if !(Yq u 13) then (some false)
 else ((Jg t1 a 4096).bind <| QK fun (v : (Option Int)) (c : Certificate) =>
 (if v.isSome then (some true)
 else ((Qq fu t1 c 1048576).bind <| fun (w : (Option Int)) =>
 some w.isSome)).bind (fun (ag : Bool) => if ag then (some false)
 else ((QU c).bind <| QK fun (x : ByteArray) (y : (Option Int)) =>
 if y.isSome then (some false)
 else ((Ji x).bind <| K3 fun (al : Int) (z : (Option Int)) (g : Certificate) =>
 (if z.isSome then (some true)
 else ((Qq fu t1 g 1048576).bind <| fun (aa : (Option Int)) =>
 some aa.isSome)).bind (fun (ah : Bool) => if ah then (some false)
 else (if decide (8 < (c.Nogoods.length : Int)) then (some true)
 else ((J4 fu t1 g 20000).bind <| QK fun (h : (Option Int)) (i : Certificate) =>
 if (Yq h 10) then (some true)
 else ((if h.isNone then ((Qq fu t1 i 20000).bind <| fun (ab : (Option Int)) =>
 if ab.isNone then (some (decide (i.Bound = a)))
 else (some false))
 else (some false)).bind (fun (ai : Bool) => some ai))))))))))))
end Go.Pw
