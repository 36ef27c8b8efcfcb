/- -/
import Derived.Test.YtalfjlihddgooaaGreatDoorLE
import Derived.Test.YtalfjlihddgooaaGreatDoorLB
import Derived.Test.YtalfjlihddgooaaGreatDoorLC
import Derived.Test.YtalfjlihddgooaaGreatDoorLF
set_option maxRecDepth 100000
set_option maxHeartbeats 4000000
set_option linter.unusedVariables false
namespace Go.Pw
structure Gj where
 Var:Int
 Val:Int
def Gd:Enc Gj:=Enc.iso ((Qc .i64).pair (Qc .i64)) (fun b=>(b.Var,b.Val))
theorem J2 {s:Gc} {v:Value} {b:Gj}:Gd.val s v b↔v= .agg #[.int .i64 (b.Var), .int .i64 (b.Val)]:=by
 simp only [Enc.iso,Enc.pair,Enc.val,Gd,Qc,if_true,Y8]
 constructor
 ·rintro ⟨cs,rfl,h⟩
  obtain ⟨cs⟩:=cs
  simp only [] at h
  obtain ⟨_,_,rfl,rfl,rfl⟩:=h
  rfl
 ·rintro rfl
  exact ⟨_,Z,⟨[_],_,Z,Z,Z⟩⟩
structure Job where
 Name:ByteArray
 Duration:Int
 Start:(List Gj)
 Over:(List Gj)
 End:(List Gj)
 AtStart:(List Gj)
 AtEnd:(List Gj)
def Gw:Enc Job:=Enc.iso (encStr.pair ((Qc .i64).pair ((Qk Gd).pair ((Qk Gd).pair ((Qk Gd).pair ((Qk Gd).pair (Qk Gd))))))) (fun b=>(b.Name,b.Duration,b.Start,b.Over,b.End,b.AtStart,b.AtEnd))
theorem K9 {s:Gc} {v:Value} {b:Job}:Gw.val s v b↔∃u1,∃u2,∃u3,∃u4,∃u5,v= .agg #[.string (b.Name), .int .i64 (b.Duration),u1,u2,u3,u4,u5]∧Ga Gd s u1 (b.Start)∧Ga Gd s u2 (b.Over)∧Ga Gd s u3 (b.End)∧Ga Gd s u4 (b.AtStart)∧Ga Gd s u5 (b.AtEnd):=by
 simp only [Enc.iso,Enc.pair,Enc.val,Qc,Gw,Qk,encStr,if_true,Y8]
 constructor
 ·rintro ⟨cs,rfl,h⟩
  obtain ⟨cs⟩:=cs
  simp only [] at h
  obtain ⟨_,_,rfl,rfl,_,_,rfl,rfl,_,_,rfl,⟨w1,rfl,h1⟩,_,_,rfl,⟨w2,rfl,h2⟩,_,_,rfl,⟨w3,rfl,h3⟩,_,_,rfl,⟨w4,rfl,h4⟩,⟨w5,rfl,h5⟩⟩:=h
  exact ⟨w1,w2,w3,w4,w5,Z,h1,h2,h3,h4,h5⟩
 ·rintro ⟨w1,w2,w3,w4,w5,rfl,h1,h2,h3,h4,h5⟩
  exact ⟨_,Z,⟨[_],_,Z,Z,[_],_,Z,Z,[_],_,Z,⟨w1,Z,h1⟩,[_],_,Z,⟨w2,Z,h2⟩,[_],_,Z,⟨w3,Z,h3⟩,[_],_,Z,⟨w4,Z,h4⟩,w5,Z,h5⟩⟩
structure Ge where
 Vars:(List Int)
 Init:(List Int)
 Goal:(List Gj)
 Jobs:(List Job)
def GE:Enc Ge:=Enc.iso ((Qk (Qc .i64)).pair ((Qk (Qc .i64)).pair ((Qk Gd).pair (Qk Gw)))) (fun b=>(b.Vars,b.Init,b.Goal,b.Jobs))
theorem Qfs {s:Gc} {v:Value} {b:Ge}:GE.val s v b↔∃u1,∃u2,∃u3,∃u4,v= .agg #[u1,u2,u3,u4]∧Ga (Qc .i64) s u1 (b.Vars)∧Ga (Qc .i64) s u2 (b.Init)∧Ga Gd s u3 (b.Goal)∧Ga Gw s u4 (b.Jobs):=by
 simp only [Enc.iso,Enc.pair,Enc.val,Qk,GE,if_true]
 constructor
 ·rintro ⟨cs,rfl,h⟩
  obtain ⟨cs⟩:=cs
  simp only [] at h
  obtain ⟨_,_,rfl,⟨w1,rfl,h1⟩,_,_,rfl,⟨w2,rfl,h2⟩,_,_,rfl,⟨w3,rfl,h3⟩,⟨w4,rfl,h4⟩⟩:=h
  exact ⟨w1,w2,w3,w4,Z,h1,h2,h3,h4⟩
 ·rintro ⟨w1,w2,w3,w4,rfl,h1,h2,h3,h4⟩
  exact ⟨_,Z,⟨[_],_,Z,⟨w1,Z,h1⟩,[_],_,Z,⟨w2,Z,h2⟩,[_],_,Z,⟨w3,Z,h3⟩,w4,Z,h4⟩⟩
structure Launch where
 At:Int
 Job:Int
def Gg:Enc Launch:=Enc.iso ((Qc .i64).pair (Qc .i64)) (fun b=>(b.At,b.Job))
theorem QH {s:Gc} {v:Value} {b:Launch}:Gg.val s v b↔v= .agg #[.int .i64 (b.At), .int .i64 (b.Job)]:=by
 simp only [Enc.iso,Enc.pair,Enc.val,Qc,Gg,if_true,Y8]
 constructor
 ·rintro ⟨cs,rfl,h⟩
  obtain ⟨cs⟩:=cs
  simp only [] at h
  obtain ⟨_,_,rfl,rfl,rfl⟩:=h
  rfl
 ·rintro rfl
  exact ⟨_,Z,⟨[_],_,Z,Z,Z⟩⟩
def Qj1:Option Bool:=some true
noncomputable def Qar (c:Ge):Option ((List (List Gj))) :=
 (forS (fun d=>fun (b:(List (List Gj)))=>(idx c.Jobs (d:Int)).bind fun a =>
 (app 24 b [a.Start,a.Over,a.End,a.AtStart,a.AtEnd]).bind fun e =>
 some e) (c.Jobs.length) 0 [c.Goal]).bind (fun (b:(List (List Gj)))=>some b)
noncomputable def Qaj (a:(List Gj)):Option (Bool) :=
 some (decide (64<(a.length:Int)))
def Y4 (a:(List Gj)):Bool :=
 (decide (64<(a.length:Int)))
theorem Qfy (a:(List Gj)):Qaj a=some (Y4 a):=by
 unfold Qaj Y4
 (repeat' split) <;> rfl
attribute [irreducible] Y4
noncomputable def JB (b:(List (List Gj))):Option (Int) :=
 ctl (Jf (R:=(Int)) (fun a=>fun (_:Unit)=>(idx b (a:Int)).bind fun c =>
 if (Y4 c) then (some (Ctl.ret (a:Int)))
 else (some (Ctl.next ()))) (b.length) 0 ()) (fun r=>some r) (fun (_:Unit)=>some (-1))
noncomputable def Ja (a:(List (List Gj))):Option (Bool) :=
 (JB a).bind <|fun (b:Int) =>
 some (decide (0<=b))
noncomputable def Kc (c:(List Int)) (a:(List Int)):Option (Bool) :=
 if !decide ((a.length:Int)=(c.length:Int)) then (some false)
 else (ctl (Jf (R:=(Bool)) (fun b=>fun (_:Unit)=>(idx a (b:Int)).bind fun d =>
 (if decide (d<0) then (some true)
 else ((idx c (b:Int)).bind fun e =>
 some (decide (e<=d)))).bind (fun (f:Bool)=>if f then (some (Ctl.ret false))
 else (some (Ctl.next ())))) (a.length) 0 ()) (fun r=>some r) (fun (_:Unit)=>some true))
noncomputable def Ku (c:(List Int)) (b:(List Gj)):Option (Bool) :=
 ctl (Jf (R:=(Bool)) (fun d=>fun (e:Int)=>(idx b (d:Int)).bind fun a =>
 (if decide (a.Var<=e) then (some true)
 else (if decide ((c.length:Int)<=a.Var) then (some true)
 else (if decide (a.Val<0) then (some true)
 else ((idx c a.Var).bind fun f =>
 some (decide (f<=a.Val)))))).bind (fun (g:Bool)=>if g then (some (Ctl.ret false))
 else (some (Ctl.next a.Var)))) (b.length) 0 (-1)) (fun r=>some r) (fun (h:Int)=>some true)
noncomputable def Y3 (b:(List Gj)) (a:Ge):Option (Bool) :=
 (Ku a.Vars b).bind <|fun (c:Bool) =>
 some (!c)
noncomputable def JA (b:(List (List Gj))) (c:Ge):Option (Int) :=
 ctl (Jf (R:=(Int)) (fun a=>fun (_:Unit)=>(idx b (a:Int)).bind fun d =>
 (Y3 d c).bind <|fun (e:Bool) =>
 if e then (some (Ctl.ret (a:Int)))
 else (some (Ctl.next ()))) (b.length) 0 ()) (fun r=>some r) (fun (_:Unit)=>some (-1))
noncomputable def QJ (b:(List (List Gj))) (a:Ge):Option (Bool) :=
 (JA b a).bind <|fun (c:Int) =>
 some (decide (0<=c))
noncomputable def Yb (a:ByteArray):Option (Bool) :=
 (must (decide ((a.size:Int)<=9223372036854775807))).bind fun e =>
 ctl (Jf (R:=(Bool)) (fun c=>fun (_:Unit)=>((idx (QcJ a) (c:Int)).bind fun b =>
 if decide (b<32) then (some true)
 else (some (decide (126<b)))).bind (fun (d:Bool)=>if d then (some (Ctl.ret false))
 else (some (Ctl.next ())))) ((a.size:Int).toNat) 0 ()) (fun r=>some r) (fun (_:Unit)=>some (decide ((a.size:Int)<=256)))
noncomputable def JN (a:Ge):Option ((Option Int)) :=
 (Qar a).bind <|fun (d:(List (List Gj))) =>
 (if decide (64<(a.Vars.length:Int)) then (some true)
 else (if decide (24<(a.Jobs.length:Int)) then (some true)
 else ((Ja d).bind <|fun (i:Bool) =>
 some i))).bind (fun (m:Bool)=>if m then (some (some 5))
 else (ctl (Jf (R:=((Option Int))) (fun e=>fun (_:Unit)=>(idx a.Vars (e:Int)).bind fun b =>
 if ((decide (b<1)) ||decide (64<b)) then (some (Ctl.ret (some 1)))
 else (some (Ctl.next ()))) (a.Vars.length) 0 ()) (fun r=>some r) (fun (_:Unit)=>ctl (Jf (R:=((Option Int))) (fun f=>fun (_:Unit)=>(idx a.Jobs (f:Int)).bind fun c =>
 if ((decide (c.Duration<1)) ||decide (62<c.Duration)) then (some (Ctl.ret (some 1)))
 else (some (Ctl.next ()))) (a.Jobs.length) 0 ()) (fun r=>some r) (fun (_:Unit)=>((Kc a.Vars a.Init).bind <|fun (j:Bool) =>
 if !j then (some true)
 else ((QJ d a).bind <|fun (k:Bool) =>
 some k)).bind (fun (n:Bool)=>if n then (some (some 2))
 else (ctl (Jf (R:=((Option Int))) (fun g=>fun (_:Unit)=>(idx a.Jobs (g:Int)).bind fun h =>
 (Yb h.Name).bind <|fun (l:Bool) =>
 if !l then (some (Ctl.ret (some 8)))
 else (some (Ctl.next ()))) (a.Jobs.length) 0 ()) (fun r=>some r) (fun (_:Unit)=>some none)))))))
noncomputable def KC (t97:Ge) (b:(List Launch)):Option ((Option Int)) :=
 (JN t97).bind <|fun (c:(Option Int)) =>
 if c.isSome then (some c)
 else (if decide (4096<(b.length:Int)) then (some (some 5))
 else (ctl (Jf (R:=((Option Int))) (fun d=>fun (_:Unit)=>(idx b (d:Int)).bind fun a =>
 if ((decide (a.Job<0)) ||((decide ((t97.Jobs.length:Int)<=a.Job)) ||((decide (a.At<0)) ||decide (1048576<a.At)))) then (some (Ctl.ret (some 1)))
 else (some (Ctl.next ()))) (b.length) 0 ()) (fun r=>some r) (fun (_:Unit)=>some none)))
structure Gh where
 job:Int
 end_:Bool
def Gv:Enc Gh:=Enc.iso ((Qc .i64).pair GL) (fun b=>(b.job,b.end_))
theorem KP {s:Gc} {v:Value} {b:Gh}:Gv.val s v b↔v= .agg #[.int .i64 (b.job), .bool (b.end_)]:=by
 simp only [Enc.iso,Enc.pair,Enc.val,GL,Qc,Gv,if_true,Y8]
 constructor
 ·rintro ⟨cs,rfl,h⟩
  obtain ⟨cs⟩:=cs
  simp only [] at h
  obtain ⟨_,_,rfl,rfl,rfl⟩:=h
  rfl
 ·rintro rfl
  exact ⟨_,Z,⟨[_],_,Z,Z,Z⟩⟩
noncomputable def Kq (b:Ge) (a:Launch):Option (Int) :=
 (idx b.Jobs a.Job).bind fun c =>
 some (IntKind.i64.wrap (a.At+c.Duration))
noncomputable def QeY (xs:List Int):Option (List Int):=if xs.length<4611686018427387904 then some (xs.mergeSort fun x y=>decide (x<=y)) else none
noncomputable def KT (p:Ge) (d:(List Launch)):Option ((List (Int×(List Gh)))×(List Int)) :=
 (forS (fun g=>fun (a:(List (Int×(List Gh))))=>(idx d (g:Int)).bind fun b =>
 (YZ a b.At).bind fun n =>
 (app 16 n [(⟨b.Job,false⟩:Gh)]).bind fun h =>
 (QdW a b.At h).bind fun e =>
 (Kq p b).bind <|fun (f:Int) =>
 (YZ e f).bind fun o =>
 (app 16 o [(⟨b.Job,true⟩:Gh)]).bind fun i =>
 (QdW e f i).bind fun l =>
 some l) (d.length) 0 ([]:(List (Int×(List Gh))))).bind (fun (a:(List (Int×(List Gh))))=>Qih (a.map Prod.fst) fun m=>(QgC (fun q=>fun (c:(List Int))=>(app 8 c [q]).bind fun j =>
 some j) m []).bind (fun (c:(List Int))=>(QeY c).bind <|fun (k:(List Int)) =>
 some (a,k)))
noncomputable def Y1 (g:Ge) (a:(List Launch)) (b:Int):Option (Bool) :=
 ctl (Jf (R:=(Bool)) (fun d=>fun (_:Unit)=>(idx a (d:Int)).bind fun f =>
 if !decide (f.At=b) then (some (Ctl.next ()))
 else (ctl (Jf (R:=(Bool)) (fun e=>fun (_:Unit)=>(idx a (e:Int)).bind fun c =>
 (if !decide ((d:Int)=(e:Int)) then (if decide (f.Job=c.Job) then (if decide (c.At<=b) then ((Kq g c).bind <|fun (h:Int) =>
 some (decide (b<=h)))
 else (some false))
 else (some false))
 else (some false)).bind (fun (i:Bool)=>if i then (some (Ctl.ret true))
 else (some (Ctl.next ())))) (a.length) 0 ()) (fun r=>some (Ctl.ret r)) (fun (_:Unit)=>some (Ctl.next ())))) (a.length) 0 ()) (fun r=>some r) (fun (_:Unit)=>some false)
noncomputable def KB (b:Ge) (a:Gh):Option ((List Gj)) :=
 if a.end_ then ((idx b.Jobs a.job).bind fun c =>
 some c.AtEnd)
 else ((idx b.Jobs a.job).bind fun d =>
 some d.AtStart)
noncomputable def YO (b a:Gj):Option (Bool) :=
 some (decide (a.Var=b.Var))
def KQ (b a:Gj):Bool :=
 (decide (a.Var=b.Var))
theorem QeF (b a:Gj):YO b a=some (KQ b a):=by
 unfold YO KQ
 (repeat' split) <;> rfl
attribute [irreducible] KQ
noncomputable def Jz (b:(List Gj)) (c:Gj):Option (Int) :=
 ctl (Jf (R:=(Int)) (fun a=>fun (_:Unit)=>(idx b (a:Int)).bind fun d =>
 if (KQ d c) then (some (Ctl.ret (a:Int)))
 else (some (Ctl.next ()))) (b.length) 0 ()) (fun r=>some r) (fun (_:Unit)=>some (-1))
noncomputable def QS (b:(List Gj)) (a:Gj):Option (Bool) :=
 (Jz b a).bind <|fun (c:Int) =>
 some (decide (0<=c))
noncomputable def Qa3 (b:Gj) (a:(List Gj)):Option (Bool) :=
 (QS a b).bind <|fun (c:Bool) =>
 some c
noncomputable def JE (b:(List Gj)) (c:(List Gj)):Option (Int) :=
 ctl (Jf (R:=(Int)) (fun a=>fun (_:Unit)=>(idx b (a:Int)).bind fun d =>
 (Qa3 d c).bind <|fun (e:Bool) =>
 if e then (some (Ctl.ret (a:Int)))
 else (some (Ctl.next ()))) (b.length) 0 ()) (fun r=>some r) (fun (_:Unit)=>some (-1))
noncomputable def Jd (b:(List Gj)) (a:(List Gj)):Option (Bool) :=
 (JE b a).bind <|fun (c:Int) =>
 some (decide (0<=c))
noncomputable def Yy (a:(List Gj)) (b:(List Gj)):Option (Bool) :=
 (Jd a b).bind <|fun (c:Bool) =>
 some c
noncomputable def Ya (b:Ge) (a:Gh):Option ((List Gj)) :=
 if a.end_ then ((idx b.Jobs a.job).bind fun c =>
 some c.End)
 else ((idx b.Jobs a.job).bind fun d =>
 some d.Start)
noncomputable def K1 (a:Ge) (b c:Gh):Option (Bool) :=
 ((KB a b).bind <|fun (d:(List Gj)) =>
 (KB a c).bind <|fun (e:(List Gj)) =>
 (Yy d e).bind <|fun (f:Bool) =>
 if f then (some true)
 else ((Ya a c).bind <|fun (g:(List Gj)) =>
 (Yy d g).bind <|fun (h:Bool) =>
 if h then (some true)
 else ((Ya a b).bind <|fun (i:(List Gj)) =>
 (Yy i e).bind <|fun (j:Bool) =>
 some j))).bind (fun (k:Bool)=>some k)
noncomputable def Kt (b:(List Gj)) (c:(List Int)):Option (Bool) :=
 ctl (Jf (R:=(Bool)) (fun d=>fun (_:Unit)=>(idx b (d:Int)).bind fun a =>
 (if decide (a.Var<0) then (some true)
 else (if decide ((c.length:Int)<=a.Var) then (some true)
 else ((idx c a.Var).bind fun e =>
 some (!decide (e=a.Val))))).bind (fun (f:Bool)=>if f then (some (Ctl.ret false))
 else (some (Ctl.next ())))) (b.length) 0 ()) (fun r=>some r) (fun (_:Unit)=>some true)
noncomputable def QW (b:(List Int)):Option ((List Int)) :=
 (app 8 [] b).bind fun a =>
 some a
noncomputable def Qas (h:Ge) (o:(List Int)) (g:(List Gh)):Option ((List Int)) :=
 (QW o).bind <|fun (q:(List Int)) =>
 (forS (fun j=>fun (c:(List Int))=>(idx [true,false] (j:Int)).bind fun p =>
 (forS (fun k=>fun (d:(List Int))=>(forS (fun l=>fun (a:(List Int))=>(idx g (l:Int)).bind fun e =>
 if ((!decide (e.job=(k:Int))) ||!(e.end_ == p)) then (some a)
 else ((KB h e).bind <|fun (i:(List Gj)) =>
 (forS (fun m=>fun (b:(List Int))=>(idx i (m:Int)).bind fun f =>
 (idx b f.Var).bind fun r =>
 (QbN b f.Var f.Val).bind fun n =>
 some n) (i.length) 0 a).bind (fun (b:(List Int))=>some b))) (g.length) 0 d).bind (fun (a:(List Int))=>some a)) (h.Jobs.length) 0 c).bind (fun (d:(List Int))=>some d)) ([true,false].length) 0 q).bind (fun (c:(List Int))=>some c)
noncomputable def QaG (b:Ge) (e:(List Launch)) (c:Int) (g:(List Int)) (a:(List Gh)):Option ((List Int)×(Option Int)) :=
 (Y1 b e c).bind <|fun (p:Bool) =>
 if p then (some ([],some 18))
 else (ctl (Jf (R:=((List Int)×(Option Int))) (fun d=>fun (_:Unit)=>(must (decide ((d:Int)<=9223372036854775807))).bind fun x =>
 ctl (Jf (R:=((List Int)×(Option Int))) (fun i=>fun (_:Unit)=>(idx a (d:Int)).bind fun l =>
 (idx a (i:Int)).bind fun m =>
 (K1 b l m).bind <|fun (q:Bool) =>
 if q then (some (Ctl.ret ([],some 17)))
 else (some (Ctl.next ()))) ((d:Int).toNat) 0 ()) (fun r=>some (Ctl.ret r)) (fun (_:Unit)=>some (Ctl.next ()))) (a.length) 0 ()) (fun r=>some r) (fun (_:Unit)=>ctl (Jf (R:=((List Int)×(Option Int))) (fun j=>fun (_:Unit)=>(idx a (j:Int)).bind fun n =>
 (Ya b n).bind <|fun (s:(List Gj)) =>
 (Kt s g).bind <|fun (t:Bool) =>
 if !t then (some (Ctl.ret ([],some 12)))
 else (some (Ctl.next ()))) (a.length) 0 ()) (fun r=>some r) (fun (_:Unit)=>(Qas b g a).bind <|fun (h:(List Int)) =>
 ctl (Jf (R:=((List Int)×(Option Int))) (fun k=>fun (_:Unit)=>(idx e (k:Int)).bind fun f =>
 (if decide (f.At<=c) then ((Kq b f).bind <|fun (u:Int) =>
 if decide (c<u) then ((idx b.Jobs f.Job).bind fun o =>
 (Kt o.Over h).bind <|fun (v:Bool) =>
 some (!v))
 else (some false))
 else (some false)).bind (fun (w:Bool)=>if w then (some (Ctl.ret ([],some 16)))
 else (some (Ctl.next ())))) (e.length) 0 ()) (fun r=>some r) (fun (_:Unit)=>some (h,none)))))
noncomputable def Y2 (d:Ge) (b:(List Launch)):Option (Int) :=
 (forS (fun c=>fun (a:Int)=>(idx b (c:Int)).bind fun e =>
 (Kq d e).bind <|fun (f:Int) =>
 some (max a f)) (b.length) 0 0).bind (fun (a:Int)=>some a)
noncomputable def Ji (t76:Ge) (launches85:(List Launch)):Option (Int×(Option Int)) :=
 (KC t76 launches85).bind <|fun (b:(Option Int)) =>
 if b.isSome then (some (0,b))
 else ((KT t76 launches85).bind <|J5 fun (i:(List (Int×(List Gh)))) (c:(List Int)) =>
 ctl (Jf (R:=(Int×(Option Int))) (fun e=>fun (g:(List Int))=>(idx c (e:Int)).bind fun a =>
 (YZ i a).bind fun f =>
 (QaG t76 launches85 a g f).bind <|J5 fun (j:(List Int)) (d:(Option Int)) =>
 if d.isSome then (some (Ctl.ret (0,d)))
 else (some (Ctl.next j))) (c.length) 0 t76.Init) (fun r=>some r) (fun (h:(List Int))=>(Kt t76.Goal h).bind <|fun (k:Bool) =>
 if !k then (some (0,some 13))
 else ((Y2 t76 launches85).bind <|fun (l:Int) =>
 some (l,none))))
noncomputable def Yg (b:(List Launch)):Option ((List Launch)) :=
 (app 16 [] b).bind fun a =>
 some a
noncomputable def QaI (a:Int):Option (Bool) :=
 some (!decide (a=a))
def Kd (a:Int):Bool :=
 (!decide (a=a))
theorem QaY (a:Int):QaI a=some (Kd a):=by
 unfold QaI Kd
 (repeat' split) <;> rfl
attribute [irreducible] Kd
noncomputable def Yt (b a:Int):Option (Int) :=
 if (Kd b) then (if (Kd a) then (some 0)
 else (some (-1)))
 else (if (Kd a) then (some 1)
 else (if decide (b<a) then (some (-1))
 else (if decide (a<b) then (some 1)
 else (some 0))))
def Qx (b a:Int):Int :=
 if (Kd b) then (if (Kd a) then (0)
 else ((-1)))
 else (if (Kd a) then (1)
 else (if decide (b<a) then ((-1))
 else (if decide (a<b) then (1)
 else (0))))
theorem Jj (a b:Int):Yt a b=some (Qx a b):=by
 unfold Yt Qx
 (repeat' split) <;> rfl
attribute [irreducible] Qx
noncomputable def Y9 (a:(List Int)):Option (Int) :=
 ctl (Jf (R:=(Int)) (fun c=>fun (_:Unit)=>(idx a (c:Int)).bind fun b =>
 if !decide (b=0) then (some (Ctl.ret b))
 else (some (Ctl.next ()))) (a.length) 0 ()) (fun r=>some r) (fun (_:Unit)=>some 0)
noncomputable def Qa6 (a b:Launch):Option (Int) :=
 (Y9 [(Qx a.At b.At),(Qx a.Job b.Job)]).bind <|fun (c:Int) =>
 some c
def Qf6 (a b:Launch):Int:=if Qc1 a.At b.At≠0 then Qc1 a.At b.At else Qc1 a.Job b.Job
noncomputable def Qdq (xs:List Launch):Option (List Launch):=if xs.length<4611686018427387904 then some (xs.mergeSort fun x y=>!decide (Qf6 y x<0)) else none
noncomputable def Qbq (a:Int):Option (Int) :=
 some (IntKind.i64.wrap ((IntKind.i64.wrap (2 * a))+1))
def Qr (a:Int):Int :=
 (IntKind.i64.wrap ((IntKind.i64.wrap (2 * a))+1))
theorem JZ (a:Int):Qbq a=some (Qr a):=by
 unfold Qbq Qr
 (repeat' split) <;> rfl
attribute [irreducible] Qr
structure Gq where
 point:Int
 at_:Int
 job:Int
 end_:Bool
def Gb:Enc Gq:=Enc.iso ((Qc .i64).pair ((Qc .i64).pair ((Qc .i64).pair GL))) (fun b=>(b.point,b.at_,b.job,b.end_))
theorem QF {s:Gc} {v:Value} {b:Gq}:Gb.val s v b↔v= .agg #[.int .i64 (b.point), .int .i64 (b.at_), .int .i64 (b.job), .bool (b.end_)]:=by
 simp only [Enc.iso,Enc.pair,Enc.val,GL,Qc,Gb,if_true,Y8]
 constructor
 ·rintro ⟨cs,rfl,h⟩
  obtain ⟨cs⟩:=cs
  simp only [] at h
  obtain ⟨_,_,rfl,rfl,_,_,rfl,rfl,_,_,rfl,rfl,rfl⟩:=h
  rfl
 ·rintro rfl
  exact ⟨_,Z,⟨[_],_,Z,Z,[_],_,Z,Z,[_],_,Z,Z,Z⟩⟩
noncomputable def Qcq (a:Int):Option (Int) :=
 some (IntKind.i64.wrap ((IntKind.i64.wrap (2 * a))+2))
def Q0 (a:Int):Int :=
 (IntKind.i64.wrap ((IntKind.i64.wrap (2 * a))+2))
theorem YE (a:Int):Qcq a=some (Q0 a):=by
 unfold Qcq Q0
 (repeat' split) <;> rfl
attribute [irreducible] Q0
structure Gx where
 t:Ge
 launches:(List Launch)
 starts:(List Gq)
 ends:(List Gq)
noncomputable def YW (e:Ge) (d:(List Launch)):Option (Gx×(Option Int)) :=
 (Ji e d).bind <|J5 fun (m:Int) (k:(Option Int)) =>
 if k.isSome then (none)
 else (if decide (63<(d.length:Int)) then (none)
 else ((Yg d).bind <|fun (l:(List Launch)) =>
 (Qdq l).bind <|fun (c:(List Launch)) =>
 (forS (fun b=>J5 fun (f:(List Gq)) (g:(List Gq))=>(idx c (b:Int)).bind fun a =>
 (app 32 f [(⟨(Qr (b:Int)),a.At,a.Job,false⟩:Gq)]).bind fun h =>
 (idx e.Jobs a.Job).bind fun j =>
 (app 32 g [(⟨(Q0 (b:Int)),IntKind.i64.wrap (a.At+j.Duration),a.Job,true⟩:Gq)]).bind fun i =>
 some (h,i)) (c.length) 0 ([],[])).bind (J5 fun (f:(List Gq)) (g:(List Gq))=>some ((⟨e,c,f,g⟩:Gx),none))))
structure Gk where
 a0:Gq
 a1:Gq
def G9:Enc Gk:=Enc.iso (Gb.pair Gb) (fun b=>(b.a0,b.a1))
theorem QcZ {s:Gc} {v:Value} {b:Gk}:G9.val s v b↔v= .agg #[.int .i64 (b.a0.point), .int .i64 (b.a0.at_), .int .i64 (b.a0.job), .bool (b.a0.end_), .int .i64 (b.a1.point), .int .i64 (b.a1.at_), .int .i64 (b.a1.job), .bool (b.a1.end_)]:=by
 simp only [Enc.iso,Enc.pair,Enc.val,G9,GL,Qc,Gb,if_true,Y8]
 constructor
 ·rintro ⟨cs,rfl,h⟩
  obtain ⟨cs⟩:=cs
  simp only [] at h
  obtain ⟨_,_,rfl,⟨_,_,rfl,rfl,_,_,rfl,rfl,_,_,rfl,rfl,rfl⟩,_,_,rfl,rfl,_,_,rfl,rfl,_,_,rfl,rfl,rfl⟩:=h
  rfl
 ·rintro rfl
  exact ⟨_,Z,⟨[_,_,_,_],_,Z,⟨[_],_,Z,Z,[_],_,Z,Z,[_],_,Z,Z,Z⟩,[_],_,Z,Z,[_],_,Z,Z,[_],_,Z,Z,Z⟩⟩
noncomputable def Kb (a:Ge) (b c:Int) (d e:Bool):Option (Bool×(Option Int)) :=
 (JN a).bind <|fun (f:(Option Int)) =>
 if f.isSome then (none)
 else (if ((decide (b<0)) ||((decide ((a.Jobs.length:Int)<=b)) ||((decide (c<0)) ||decide ((a.Jobs.length:Int)<=c)))) then (none)
 else ((K1 a (⟨b,d⟩:Gh) (⟨c,e⟩:Gh)).bind <|fun (g:Bool) =>
 some (g,none)))
structure Gp where
 A:Int
 B:Int
 Most:Int
def Gz:Enc Gp:=Enc.iso ((Qc .i64).pair ((Qc .i64).pair (Qc .i64))) (fun b=>(b.A,b.B,b.Most))
theorem QmE {s:Gc} {v:Value} {b:Gp}:Gz.val s v b↔v= .agg #[.int .i64 (b.A), .int .i64 (b.B), .int .i64 (b.Most)]:=by
 simp only [Enc.iso,Enc.pair,Enc.val,Gz,Qc,if_true,Y8]
 constructor
 ·rintro ⟨cs,rfl,h⟩
  obtain ⟨cs⟩:=cs
  simp only [] at h
  obtain ⟨_,_,rfl,rfl,_,_,rfl,rfl,rfl⟩:=h
  rfl
 ·rintro rfl
  exact ⟨_,Z,⟨[_],_,Z,Z,[_],_,Z,Z,Z⟩⟩
noncomputable def Qbr (c b a:Int):Option (Gp) :=
 some (⟨c,b,IntKind.i64.wrap (0 - a)⟩:Gp)
def Qp (c b a:Int):Gp :=
 (⟨c,b,IntKind.i64.wrap (0 - a)⟩:Gp)
theorem Ky (c b a:Int):Qbr c b a=some (Qp c b a):=by
 unfold Qbr Qp
 (repeat' split) <;> rfl
attribute [irreducible] Qp
noncomputable def KH (b:Gx):Option ((List Gp)×(Option Int)) :=
 ctl (Jf (R:=((List Gp)×(Option Int))) (fun h=>fun (q:(List Gp))=>ctl (Yw (R:=((List Gp)×(Option Int))) (J5 fun (c:Int) (j:(List Gp))=>if decide (c<(b.launches.length:Int)) then ((idx b.starts (h:Int)).bind fun d =>
 (idx b.starts c).bind fun e =>
 (idx b.ends c).bind fun f =>
 (idx b.ends (h:Int)).bind fun g =>
 ctl (Jf (R:=((List Gp)×(Option Int))) (fun k=>fun (i:(List Gp))=>(idx [(⟨d,e⟩:Gk),(⟨d,f⟩:Gk),(⟨g,e⟩:Gk),(⟨g,f⟩:Gk)] (k:Int)).bind fun a =>
 (Kb b.t a.a0.job a.a1.job a.a0.end_ a.a1.end_).bind <|J5 fun (u:Bool) (v:(Option Int)) =>
 if v.isSome then (none)
 else (if !u then (some (Ctl.next i))
 else ((if decide (a.a0.at_<a.a1.at_) then ((app 24 i [(Qp a.a1.point a.a0.point 1)]).bind fun l =>
 some l)
 else ((app 24 i [(Qp a.a0.point a.a1.point 1)]).bind fun m =>
 some m)).bind (fun (n:(List Gp))=>some (Ctl.next n))))) ([(⟨d,e⟩:Gk),(⟨d,f⟩:Gk),(⟨g,e⟩:Gk),(⟨g,f⟩:Gk)].length) 0 j) (fun r=>some (Ctl.ret r)) (fun (o:(List Gp))=>some (Ctl.next (IntKind.i64.wrap (c+1),o))))
 else (some (Ctl.brk (c,j)))) (IntKind.i64.wrap ((h:Int)+1),q)) (fun r=>some (Ctl.ret r)) (J5 fun (w:Int) (p:(List Gp))=>some (Ctl.next p))) (b.launches.length) 0 []) (fun r=>some r) (fun (s:(List Gp))=>some (s,none))
noncomputable def Kj (c:Gx):Option ((List Gp)) :=
 (forS (fun a=>fun (b:(List Gp))=>(idx c.launches (a:Int)).bind fun f =>
 (idx c.t.Jobs f.Job).bind fun d =>
 (app 24 b [(Qp (Qr (a:Int)) 0 0),(Qp (Q0 (a:Int)) (Qr (a:Int)) d.Duration),(⟨(Qr (a:Int)),(Q0 (a:Int)),d.Duration⟩:Gp)]).bind fun e =>
 some e) (c.launches.length) 0 []).bind (fun (b:(List Gp))=>some b)
noncomputable def Kw (b a:Gj):Option (Bool) :=
 some (decide (a.Var=b.Var))
def JK (b a:Gj):Bool :=
 (decide (a.Var=b.Var))
theorem QcD (b a:Gj):Kw b a=some (JK b a):=by
 unfold Kw JK
 (repeat' split) <;> rfl
attribute [irreducible] JK
noncomputable def Jr (b:(List Gj)) (c:Gj):Option (Int) :=
 ctl (Jf (R:=(Int)) (fun a=>fun (_:Unit)=>(idx b (a:Int)).bind fun d =>
 if (JK d c) then (some (Ctl.ret (a:Int)))
 else (some (Ctl.next ()))) (b.length) 0 ()) (fun r=>some r) (fun (_:Unit)=>some (-1))
noncomputable def QN (b:(List Gj)) (a:Gj):Option (Bool) :=
 (Jr b a).bind <|fun (c:Int) =>
 some (decide (0<=c))
noncomputable def KN (b:Gj) (a:(List Gj)):Option (Bool) :=
 (QN a b).bind <|fun (c:Bool) =>
 some c
noncomputable def J4 (b:(List Gj)) (c:(List Gj)):Option (Int) :=
 ctl (Jf (R:=(Int)) (fun a=>fun (_:Unit)=>(idx b (a:Int)).bind fun d =>
 (KN d c).bind <|fun (e:Bool) =>
 if e then (some (Ctl.ret (a:Int)))
 else (some (Ctl.next ()))) (b.length) 0 ()) (fun r=>some r) (fun (_:Unit)=>some (-1))
noncomputable def QX (b:(List Gj)) (a:(List Gj)):Option (Bool) :=
 (J4 b a).bind <|fun (c:Int) =>
 some (decide (0<=c))
noncomputable def Kh (e:Gx) (a:Gq) (d:(List Gj)):Option (Bool) :=
 (idx e.t.Jobs a.job).bind fun b =>
 (if a.end_ then (some b.AtEnd)
 else (some b.AtStart)).bind (fun (c:(List Gj))=>(QX c d).bind <|fun (f:Bool) =>
 some f)
noncomputable def KW (a:Gx):Option ((List Gp)) :=
 (forS (fun b=>fun (g:(List Gp))=>(idx a.launches (b:Int)).bind fun p =>
 (forS (fun f=>fun (e:(List Gp))=>if decide ((f:Int)=(b:Int)) then (some e)
 else ((idx a.starts (f:Int)).bind fun h =>
 (idx a.ends (f:Int)).bind fun i =>
 (forS (fun j=>fun (c:(List Gp))=>(idx [h,i] (j:Int)).bind fun d =>
 (idx a.t.Jobs p.Job).bind fun q =>
 (Kh a d q.Over).bind <|fun (u:Bool) =>
 (if !u then (some c)
 else ((idx a.starts (b:Int)).bind fun r =>
 (if decide (d.at_<=r.at_) then ((app 24 c [(Qp (Qr (b:Int)) d.point 0)]).bind fun k =>
 some k)
 else ((idx a.ends (b:Int)).bind fun s =>
 (if decide (s.at_<=d.at_) then ((app 24 c [(Qp d.point (Q0 (b:Int)) 0)]).bind fun l =>
 some l)
 else (some c)).bind (fun (m:(List Gp))=>some m))).bind (fun (n:(List Gp))=>some n))).bind (fun (o:(List Gp))=>some o)) ([h,i].length) 0 e).bind (fun (c:(List Gp))=>some c))) (a.launches.length) 0 g).bind (fun (e:(List Gp))=>some e)) (a.launches.length) 0 []).bind (fun (g:(List Gp))=>some g)
noncomputable def K6 (b:Gx):Option ((List Gp)) :=
 (forS (fun c=>fun (e:(List Gp))=>(idx b.launches (c:Int)).bind fun h =>
 ctl (Yw (R:=((List Gp))) (J5 fun (a:Int) (d:(List Gp))=>if decide (a<(b.launches.length:Int)) then ((idx b.launches a).bind fun i =>
 if decide (i.Job=h.Job) then ((app 24 d [(Qp (Qr a) (Q0 (c:Int)) 1)]).bind fun f =>
 some (Ctl.brk (a,f)))
 else (some (Ctl.next (IntKind.i64.wrap (a+1),d))))
 else (some (Ctl.brk (a,d)))) (IntKind.i64.wrap ((c:Int)+1),e)) (fun r=>none) (J5 fun (j:Int) (g:(List Gp))=>some g)) (b.launches.length) 0 []).bind (fun (e:(List Gp))=>some e)
noncomputable def KI (a:Gx):Option ((List Gp)×(Option Int)) :=
 (KH a).bind <|J5 fun (e:(List Gp)) (f:(Option Int)) =>
 if f.isSome then (none)
 else ((Kj a).bind <|fun (g:(List Gp)) =>
 (app 24 g e).bind fun b =>
 (KW a).bind <|fun (h:(List Gp)) =>
 (app 24 b h).bind fun c =>
 (K6 a).bind <|fun (i:(List Gp)) =>
 (app 24 c i).bind fun d =>
 some (d,none))
structure Gu where
 d:(List (List Int))
noncomputable def Qe7 (b:Int):Option (Gu×(Option Int)) :=
 if ((decide (b<1)) ||decide (128<b)) then (none)
 else ((must (decide (b<=9223372036854775807))).bind fun j =>
 (forS (fun f=>fun (d:(List (List Int)))=>(mk 8 0 b).bind fun e =>
 (forS (fun c=>fun (a:(List Int))=>(if !decide ((c:Int)=(f:Int)) then ((idx a (c:Int)).bind fun k =>
 (QbN a (c:Int) 1125899906842624).bind fun g =>
 some g)
 else (some a)).bind (fun (h:(List Int))=>some h)) (e.length) 0 e).bind (fun (a:(List Int))=>(app 24 d [a]).bind fun i =>
 some i)) (b.toNat) 0 []).bind (fun (d:(List (List Int)))=>some ((⟨d⟩:Gu),none)))
noncomputable def Qal (b:Gu) (a:Int):Option (Bool) :=
 some ((decide (0<=a)) && decide (a<(b.d.length:Int)))
def QI (b:Gu) (a:Int):Bool :=
 ((decide (0<=a)) && decide (a<(b.d.length:Int)))
theorem YP (a:Gu) (b:Int):Qal a b=some (QI a b):=by
 unfold Qal QI
 (repeat' split) <;> rfl
attribute [irreducible] QI
noncomputable def J8 (e:Gu) (a:Gp):Option ((Option Int)×(List (List Int))) :=
 (if !(QI e a.A) then (some true)
 else (if !(QI e a.B) then (some true)
 else (if decide (a.Most<(-1099511627776)) then (some true)
 else (some (decide (1099511627776<a.Most)))))).bind (fun (u:Bool)=>if u then (none)
 else ((idx e.d a.B).bind fun o =>
 (idx o a.A).bind fun j =>
 if ((decide (j<1125899906842624)) && decide ((IntKind.i64.wrap (j+a.Most))<0)) then (none)
 else ((forS (fun f=>fun (b:(List (List Int)))=>(idx b (f:Int)).bind fun p =>
 (idx p a.A).bind fun r =>
 if decide (1125899906842624<=r) then (some b)
 else ((idx b a.B).bind fun i =>
 (must (decide (i.length<=9223372036854775807))).bind fun v =>
 (forS (fun g=>fun (c:(List (List Int)))=>(idx c a.B).bind fun q =>
 (idx q (g:Int)).bind fun k =>
 (if decide (k<1125899906842624) then ((idx c (f:Int)).bind fun h =>
 (idx h (g:Int)).bind fun s =>
 (idx h a.A).bind fun t =>
 (QbN h (g:Int) (min s (IntKind.i64.wrap ((IntKind.i64.wrap (t+a.Most))+k)))).bind fun l =>
 (QbN c (f:Int) l).bind fun m =>
 some m)
 else (some c)).bind (fun (n:(List (List Int)))=>some n)) (i.length) 0 b).bind (fun (c:(List (List Int)))=>some c))) (e.d.length) 0 e.d).bind (fun (b:(List (List Int)))=>some (none,b)))))
noncomputable def J6 (a:Gx):Option (Gu×(Option Int)) :=
 (KI a).bind <|J5 fun (b:(List Gp)) (j:(Option Int)) =>
 if j.isSome then (none)
 else ((Qe7 (IntKind.i64.wrap ((IntKind.i64.wrap (2 * (a.launches.length:Int)))+1))).bind <|J5 fun (c:Gu) (k:(Option Int)) =>
 if k.isSome then (none)
 else (ctl (Jf (R:=(Gu×(Option Int))) (fun e=>fun (f:(List (List Int)))=>(idx b (e:Int)).bind fun i =>
 (J8 (⟨f⟩:Gu) i).bind <|J5 fun (l:(Option Int)) (g:(List (List Int))) =>
 if l.isSome then (none)
 else (some (Ctl.next g))) (b.length) 0 c.d) (fun r=>some r) (fun (h:(List (List Int)))=>some ((⟨h⟩:Gu),none))))
noncomputable def Kg (a:Gu) (b c:Int):Option (Int×(Option Int)) :=
 if ((!(QI a b)) ||!(QI a c)) then (none)
 else ((idx a.d b).bind fun e =>
 (idx e c).bind fun f =>
 some (f,none))
noncomputable def KE (b:Gu) (c:Int):Option (Int×(Option Int)) :=
 (Kg b c 0).bind <|J5 fun (a:Int) (d:(Option Int)) =>
 if d.isSome then (none)
 else (if decide (1125899906842624<=a) then (none)
 else (some (IntKind.i64.wrap (0 - a),none)))
noncomputable def JP (b:Gx) (d:Gu):Option ((List Launch)×(Option Int)) :=
 ctl (Jf (R:=((List Launch)×(Option Int))) (fun a=>fun (e:(List Launch))=>(idx b.launches (a:Int)).bind fun g =>
 (KE d (Qr (a:Int))).bind <|J5 fun (h:Int) (i:(Option Int)) =>
 if i.isSome then (none)
 else ((app 16 e [(⟨h,g.Job⟩:Launch)]).bind fun c =>
 some (Ctl.next c))) (b.launches.length) 0 []) (fun r=>some r) (fun (f:(List Launch))=>some (f,none))
noncomputable def YG (d:Ge) (c:(List Launch)):Option ((List Launch)×(Option Int)) :=
 (YW d c).bind <|J5 fun (a:Gx) (e:(Option Int)) =>
 if e.isSome then (none)
 else ((J6 a).bind <|J5 fun (b:Gu) (f:(Option Int)) =>
 if f.isSome then (none)
 else ((JP a b).bind <|J5 fun (g:(List Launch)) (h:(Option Int)) =>
 some (g,h)))
noncomputable def Qa5 (a:(Option Int)):Option (Bool) :=
 some ((decide (a=some 18)) ||((decide (a=some 17)) ||((decide (a=some 12)) ||((decide (a=some 16)) ||decide (a=some 13)))))
def YM (a:(Option Int)):Bool :=
 ((decide (a=some 18)) ||((decide (a=some 17)) ||((decide (a=some 12)) ||((decide (a=some 16)) ||decide (a=some 13)))))
theorem Qge (a:(Option Int)):Qa5 a=some (YM a):=by
 unfold Qa5 YM
 (repeat' split) <;> rfl
attribute [irreducible] YM
structure Gf where
 At:Int
 Launch:Int
 End:Bool
def Gi:Enc Gf:=Enc.iso ((Qc .i64).pair ((Qc .i64).pair GL)) (fun b=>(b.At,b.Launch,b.End))
theorem Je {s:Gc} {v:Value} {b:Gf}:Gi.val s v b↔v= .agg #[.int .i64 (b.At), .int .i64 (b.Launch), .bool (b.End)]:=by
 simp only [Enc.iso,Enc.pair,Enc.val,GL,Qc,Gi,if_true,Y8]
 constructor
 ·rintro ⟨cs,rfl,h⟩
  obtain ⟨cs⟩:=cs
  simp only [] at h
  obtain ⟨_,_,rfl,rfl,_,_,rfl,rfl,rfl⟩:=h
  rfl
 ·rintro rfl
  exact ⟨_,Z,⟨[_],_,Z,Z,[_],_,Z,Z,Z⟩⟩
structure G2 where
 At:Int
 Kind:Int
 Launch:Int
 Other:Int
 Var:Int
def Ql:Enc G2:=Enc.iso ((Qc .i64).pair ((Qc .i64).pair ((Qc .i64).pair ((Qc .i64).pair (Qc .i64))))) (fun b=>(b.At,b.Kind,b.Launch,b.Other,b.Var))
structure G1 where
 Events:(List Gf)
 States:(List (List Int))
 Problems:(List G2)
 Makespan:Int
structure Gt where
 t:Ge
 l:(List Launch)
 out:G1
noncomputable def Yc (a:Gt) (c:Int):Option (Int) :=
 (idx a.l c).bind fun b =>
 (idx a.t.Jobs b.Job).bind fun d =>
 some (IntKind.i64.wrap (b.At+d.Duration))
noncomputable def QbM (a:Bool):Option (Int) :=
 if a then (some 0)
 else (some 1)
def Q9 (a:Bool):Int :=
 if a then (0)
 else (1)
theorem QaW (a:Bool):QbM a=some (Q9 a):=by
 unfold QbM Q9
 (repeat' split) <;> rfl
attribute [irreducible] Q9
noncomputable def Yh (a b:Gf):Option (Int) :=
 (Y9 [(Qx a.At b.At),(Qx (Q9 a.End) (Q9 b.End)),(Qx a.Launch b.Launch)]).bind <|fun (c:Int) =>
 some c
def rkE (a:Gf):Int:=if a.End then 0 else 1
def Qla (a b:Gf):Int:=if Qc1 a.At b.At≠0 then Qc1 a.At b.At else if Qc1 (rkE a) (rkE b)≠0 then Qc1 (rkE a) (rkE b) else Qc1 a.Launch b.Launch
noncomputable def QcU (xs:List Gf):Option (List Gf):=if xs.length<4611686018427387904 then some (xs.mergeSort fun x y=>!decide (Qla y x<0)) else none
noncomputable def KU (a:Gt):Option (Int×(List Gf)) :=
 (forS (fun b=>J5 fun (c:Int) (d:(List Gf))=>(idx a.l (b:Int)).bind fun g =>
 (Yc (⟨a.t,a.l,(⟨d,a.out.States,a.out.Problems,c⟩:G1)⟩:Gt) (b:Int)).bind <|fun (h:Int) =>
 (app 24 d [(⟨g.At,(b:Int),false⟩:Gf),(⟨h,(b:Int),true⟩:Gf)]).bind fun e =>
 (Yc (⟨a.t,a.l,(⟨e,a.out.States,a.out.Problems,c⟩:G1)⟩:Gt) (b:Int)).bind <|fun (i:Int) =>
 some (max c i,e)) (a.l.length) 0 (a.out.Makespan,a.out.Events)).bind (J5 fun (c:Int) (d:(List Gf))=>(QcU d).bind <|fun (f:(List Gf)) =>
 some (c,f))
noncomputable def Kn (a:Gt) (c:Int):Option (Int) :=
 (idx a.l c).bind fun b =>
 (idx a.t.Jobs b.Job).bind fun d =>
 some (IntKind.i64.wrap (b.At+d.Duration))
noncomputable def K5 (c:Gt) (b:Int):Option (Unit) :=
 (forS (fun d=>fun (_:Unit)=>(idx c.l (d:Int)).bind fun f =>
 (forS (fun a=>fun (_:Unit)=>(idx c.l (a:Int)).bind fun e =>
 (if decide (f.At=b) then (if !decide ((a:Int)=(d:Int)) then (if decide (f.Job=e.Job) then (if decide (e.At<b) then ((Kn c (a:Int)).bind <|fun (g:Int) =>
 if decide (b<=g) then (some true)
 else (if decide (e.At=b) then (some (decide ((a:Int)<(d:Int))))
 else (some false)))
 else (if decide (e.At=b) then (some (decide ((a:Int)<(d:Int))))
 else (some false)))
 else (some false))
 else (some false))
 else (some false)).bind (fun (h:Bool)=>if h then (none)
 else (some ()))) (c.l.length) 0 ()).bind (fun (_:Unit)=>some ())) (c.l.length) 0 ()).bind (fun (_:Unit)=>some ())
noncomputable def JY (a:Gt) (b:Gf):Option (Job) :=
 (idx a.l b.Launch).bind fun c =>
 (idx a.t.Jobs c.Job).bind fun d =>
 some d
noncomputable def Qae (a:Job) (b:Bool):Option ((List Gj)×(List Gj)) :=
 if b then (some (a.End,a.AtEnd))
 else (some (a.Start,a.AtStart))
def QE (a:Job) (b:Bool):(List Gj)×(List Gj) :=
 if b then ((a.End,a.AtEnd))
 else ((a.Start,a.AtStart))
theorem YA (b:Job) (a:Bool):Qae b a=some (QE b a):=by
 unfold Qae QE
 (repeat' split) <;> rfl
attribute [irreducible] QE
noncomputable def KD (a:(List Gj)) (b:(List Gj)):Option (Int) :=
 (forS (fun d=>fun (_:Unit)=>(idx a (d:Int)).bind fun c =>
 (forS (fun e=>fun (_:Unit)=>(idx b (e:Int)).bind fun f =>
 if ((decide (c.Var=f.Var)) && ((decide ((-1)<0)) ||decide (c.Var<(-1)))) then (none)
 else (some ())) (b.length) 0 ()).bind (fun (_:Unit)=>some ())) (a.length) 0 ()).bind (fun (_:Unit)=>some (-1))
noncomputable def YL (a:Job) (c:Bool) (b:Job) (d:Bool):Option (Int) :=
 (KD ((QE a c).2) ((QE b d).2)).bind <|fun (f:Int) =>
 (KD ((QE a c).2) ((QE b d).1)).bind <|fun (g:Int) =>
 (KD ((QE b d).2) ((QE a c).1)).bind <|fun (h:Int) =>
 (forS (fun i=>fun (_:Unit)=>(idx [f,g,h] (i:Int)).bind fun e =>
 if ((decide (0<=e)) && ((decide ((-1)<0)) ||decide (e<(-1)))) then (none)
 else (some ())) ([f,g,h].length) 0 ()).bind (fun (_:Unit)=>some (-1))
noncomputable def Kx (a:(List Gj)) (c:(List Int)):Option ((List Gj)) :=
 (forS (fun b=>fun (_:Unit)=>(idx a (b:Int)).bind fun d =>
 (Kt [d] c).bind <|fun (e:Bool) =>
 if !e then (none)
 else (some ())) (a.length) 0 ()).bind (fun (_:Unit)=>some [])
noncomputable def JI (b:(List Gf)):Option ((List Gf)) :=
 (app 24 [] b).bind fun a =>
 some a
noncomputable def K4 (a b:Gf) (c:Gt):Option (Int) :=
 (idx c.l a.Launch).bind fun d =>
 (idx c.l b.Launch).bind fun e =>
 (Y9 [(Qx (Q9 a.End) (Q9 b.End)),(Qx d.Job e.Job)]).bind <|fun (f:Int) =>
 some f
noncomputable def QA (i:(List Gf)) (d g:Int) (h:Gt):Option ((List Gf)) :=
 ctl (Yw (R:=((List Gf))) (J5 fun (c:Int) (e:(List Gf))=>if decide (c<g) then (ctl (Yw (R:=((List Gf))) (J5 fun (a:Int) (b:(List Gf))=>(if decide (d<a) then ((idx b a).bind fun m =>
 (idx b (IntKind.i64.wrap (a - 1))).bind fun n =>
 (K4 m n h).bind <|fun (q:Int) =>
 some (decide (q<0)))
 else (some false)).bind (fun (s:Bool)=>if s then ((idx b (IntKind.i64.wrap (a - 1))).bind fun o =>
 (idx b a).bind fun p =>
 (QbN b a o).bind fun f =>
 (idx f (IntKind.i64.wrap (a - 1))).bind fun v =>
 (QbN f (IntKind.i64.wrap (a - 1)) p).bind fun j =>
 some (Ctl.next (IntKind.i64.wrap (a - 1),j)))
 else (some (Ctl.brk (a,b))))) (c,e)) (fun r=>some (Ctl.ret r)) (J5 fun (u:Int) (k:(List Gf))=>some (Ctl.next (IntKind.i64.wrap (c+1),k))))
 else (some (Ctl.brk (c,e)))) (IntKind.i64.wrap (d+1),i)) (fun r=>some r) (J5 fun (t:Int) (l:(List Gf))=>some l)
noncomputable def QU (c:(List Gf)) (a:Int) (b:Gt):Option ((List Gf)) :=
 ctl (Yw (R:=((List Gf))) (fun (_:Unit)=>if decide (20<=a) then (none)
 else (some (Ctl.brk ()))) ()) (fun r=>some r) (fun (_:Unit)=>(QA c 0 a b).bind <|fun (d:(List Gf)) =>
 ctl (Yw (R:=((List Gf))) (fun (_:Unit)=>if decide (20<a) then (none)
 else (some (Ctl.brk ()))) ()) (fun r=>some r) (fun (_:Unit)=>some d))
noncomputable def QG (a:(List Gf)) (b:Gt):Option ((List Gf)) :=
 (QU a (a.length:Int) b).bind <|fun (c:(List Gf)) =>
 some c
noncomputable def Yn (f:Gt) (l:(List Int)) (j:(List Gf)):Option ((List Int)) :=
 (JI j).bind <|fun (m:(List Gf)) =>
 (QG m f).bind <|fun (e:(List Gf)) =>
 (QW l).bind <|fun (n:(List Int)) =>
 (forS (fun h=>fun (b:(List Int))=>(idx e (h:Int)).bind fun c =>
 (JY f c).bind <|fun (g:Job) =>
 (forS (fun i=>fun (a:(List Int))=>(idx ((QE g c.End).2) (i:Int)).bind fun d =>
 (idx a d.Var).bind fun o =>
 (QbN a d.Var d.Val).bind fun k =>
 some k) (((QE g c.End).2).length) 0 b).bind (fun (a:(List Int))=>some a)) (e.length) 0 n).bind (fun (b:(List Int))=>some b)
noncomputable def Y5 (a:Gt) (c:Int) (b:(List Gf)) (h:(List Int)):Option ((List Int)×(List (List Int))) :=
 (K5 a c).bind <|fun (_:Unit) =>
 (forS (fun f=>fun (_:Unit)=>(idx b (f:Int)).bind fun i =>
 (cut b (IntKind.i64.wrap ((f:Int)+1)) (b.length:Int)).bind fun e =>
 (forS (fun p=>fun (_:Unit)=>(idx e (p:Int)).bind fun j =>
 (JY a i).bind <|fun (w:Job) =>
 (JY a j).bind <|fun (x:Job) =>
 (YL w i.End x j.End).bind <|fun (y:Int) =>
 if decide (0<=y) then (none)
 else (some ())) (e.length) 0 ()).bind (fun (_:Unit)=>some ())) (b.length) 0 ()).bind (fun (_:Unit)=>(forS (fun q=>fun (_:Unit)=>(idx b (q:Int)).bind fun k =>
 (JY a k).bind <|fun (z:Job) =>
 (Kx ((QE z k.End).1) h).bind <|fun (n:(List Gj)) =>
 (forS (fun r=>fun (_:Unit)=>(idx n (r:Int)).bind fun ac =>
 none) (n.length) 0 ()).bind (fun (_:Unit)=>some ())) (b.length) 0 ()).bind (fun (_:Unit)=>(Yn a h b).bind <|fun (d:(List Int)) =>
 (forS (fun g=>fun (_:Unit)=>(idx a.l (g:Int)).bind fun m =>
 (if decide (c<m.At) then (some true)
 else ((Kn a (g:Int)).bind <|fun (aa:Int) =>
 some (decide (aa<=c)))).bind (fun (ab:Bool)=>if ab then (some ())
 else ((idx a.t.Jobs m.Job).bind fun v =>
 (Kx v.Over d).bind <|fun (o:(List Gj)) =>
 (forS (fun s=>fun (_:Unit)=>(idx o (s:Int)).bind fun ad =>
 none) (o.length) 0 ()).bind (fun (_:Unit)=>some ())))) (a.l.length) 0 ()).bind (fun (_:Unit)=>(app 24 a.out.States [d]).bind fun u =>
 some (d,u))))
noncomputable def Qbj (c:Ge) (f:(List Launch)):Option ((Option Int)×G1) :=
 (Ji c f).bind <|J5 fun (ag:Int) (l:(Option Int)) =>
 if (l.isSome && !(YM l)) then (none)
 else ((KU (⟨c,f,(⟨([]:(List Gf)),([]:(List (List Int))),([]:(List G2)),0⟩:G1)⟩:Gt)).bind <|J5 fun (n:Int) (q:(List Gf)) =>
 (QW c.Init).bind <|fun (z:(List Int)) =>
 ctl (Yw (R:=((Option Int)×G1)) (un4 fun (k:(List Int)) (b:Int) (a:(List Gf)) (i:(List (List Int)))=>if decide (b<(a.length:Int)) then (ctl (Yw (R:=((Option Int)×G1)) (fun (d:Int)=>(if decide (d<(a.length:Int)) then ((idx a d).bind fun v =>
 (idx a b).bind fun w =>
 some (decide (v.At=w.At)))
 else (some false)).bind (fun (ac:Bool)=>if ac then (some (Ctl.next (IntKind.i64.wrap (d+1))))
 else (some (Ctl.brk d)))) b) (fun r=>some (Ctl.ret r)) (fun (h:Int)=>(idx a b).bind fun x =>
 (cut a b h).bind fun o =>
 (Y5 (⟨c,f,(⟨a,i,([]:(List G2)),n⟩:G1)⟩:Gt) x.At o k).bind <|J5 fun (aa:(List Int)) (s:(List (List Int))) =>
 some (Ctl.next (aa,h,a,s))))
 else (some (Ctl.brk (k,b,a,i)))) (z,0,q,([]:(List (List Int))))) (fun r=>some r) (un4 fun (u:(List Int)) (ae:Int) (ad:(List Gf)) (j:(List (List Int)))=>(Kx c.Goal u).bind <|fun (m:(List Gj)) =>
 (forS (fun p=>fun (_:Unit)=>(idx m (p:Int)).bind fun af =>
 none) (m.length) 0 ()).bind (fun (_:Unit)=>(forS (fun g=>fun (e:(List (List Int)))=>(idx e (g:Int)).bind fun y =>
 (QW y).bind <|fun (ab:(List Int)) =>
 (QbN e (g:Int) ab).bind fun t =>
 some t) (j.length) 0 j).bind (fun (e:(List (List Int)))=>some (none,(⟨ad,e,([]:(List G2)),n⟩:G1))))))
noncomputable def Ym (b:Gu) (c:Int):Option (Int×(Option Int)) :=
 (Kg b 0 c).bind <|J5 fun (a:Int) (d:(Option Int)) =>
 if d.isSome then (none)
 else (if decide (1125899906842624<=a) then (none)
 else (some (a,none)))
noncomputable def Qat (g:Ge) (o:(List Launch)):Option ((List Int)×(Option Int)) :=
 (YW g o).bind <|J5 fun (c:Gx) (u:(Option Int)) =>
 if u.isSome then (none)
 else ((J6 c).bind <|J5 fun (e:Gu) (v:(Option Int)) =>
 if v.isSome then (none)
 else ((JP c e).bind <|J5 fun (a:(List Launch)) (w:(Option Int)) =>
 if w.isSome then (none)
 else ((forS (fun i=>fun (b:Int)=>(idx a (i:Int)).bind fun h =>
 (idx g.Jobs h.Job).bind fun s =>
 some (max b (IntKind.i64.wrap (h.At+s.Duration)))) (a.length) 0 0).bind (fun (b:Int)=>ctl (Jf (R:=((List Int)×(Option Int))) (fun j=>fun (k:(List (List Int)))=>(J8 (⟨k⟩:Gu) (⟨0,(Q0 (j:Int)),b⟩:Gp)).bind <|J5 fun (x:(Option Int)) (l:(List (List Int))) =>
 if x.isSome then (none)
 else (some (Ctl.next l))) (a.length) 0 e.d) (fun r=>some r) (fun (m:(List (List Int)))=>ctl (Jf (R:=((List Int)×(Option Int))) (fun f=>fun (p:(List Int))=>(idx a (f:Int)).bind fun t =>
 (Ym (⟨m⟩:Gu) (Qr (f:Int))).bind <|J5 fun (y:Int) (z:(Option Int)) =>
 if z.isSome then (none)
 else ((app 8 p [IntKind.i64.wrap (y - t.At)]).bind fun n =>
 some (Ctl.next n))) (a.length) 0 []) (fun r=>some r) (fun (q:(List Int))=>some (q,none)))))))
noncomputable def Yl (a b:Job):Option (Bool) :=
 ctl (Jf (R:=(Bool)) (fun e=>fun (_:Unit)=>(idx [a.Start,a.Over,a.End,a.AtStart,a.AtEnd] (e:Int)).bind fun c =>
 ctl (Jf (R:=(Bool)) (fun f=>fun (_:Unit)=>(idx [b.Start,b.Over,b.End,b.AtStart,b.AtEnd] (f:Int)).bind fun d =>
 ctl (Jf (R:=(Bool)) (fun g=>fun (_:Unit)=>(idx c (g:Int)).bind fun i =>
 ctl (Jf (R:=(Bool)) (fun h=>fun (_:Unit)=>(idx d (h:Int)).bind fun j =>
 if decide (i.Var=j.Var) then (some (Ctl.ret true))
 else (some (Ctl.next ()))) (d.length) 0 ()) (fun r=>some (Ctl.ret r)) (fun (_:Unit)=>some (Ctl.next ()))) (c.length) 0 ()) (fun r=>some (Ctl.ret r)) (fun (_:Unit)=>some (Ctl.next ()))) ((5:Int).toNat) 0 ()) (fun r=>some (Ctl.ret r)) (fun (_:Unit)=>some (Ctl.next ()))) ((5:Int).toNat) 0 ()) (fun r=>some r) (fun (_:Unit)=>some false)
noncomputable def K2 (d:Ge) (a:(List Launch)) (b:Int):Option (Bool) :=
 ctl (Jf (R:=(Bool)) (fun c=>fun (_:Unit)=>if decide ((c:Int)=b) then (some (Ctl.next ()))
 else (((idx a (c:Int)).bind fun e =>
 (idx a b).bind fun f =>
 if decide (e.Job=f.Job) then (some true)
 else ((idx d.Jobs e.Job).bind fun g =>
 (idx d.Jobs f.Job).bind fun h =>
 (Yl g h).bind <|fun (i:Bool) =>
 some i)).bind (fun (j:Bool)=>if j then (some (Ctl.ret false))
 else (some (Ctl.next ()))))) (a.length) 0 ()) (fun r=>some r) (fun (_:Unit)=>some true)
noncomputable def Qaf (b:Gj) (a:Int):Option (Bool) :=
 some (decide (b.Var=a))
def Yo (b:Gj) (a:Int):Bool :=
 (decide (b.Var=a))
theorem Qfo (b:Gj) (a:Int):Qaf b a=some (Yo b a):=by
 unfold Qaf Yo
 (repeat' split) <;> rfl
attribute [irreducible] Yo
noncomputable def Jy (b:(List Gj)) (c:Int):Option (Int) :=
 ctl (Jf (R:=(Int)) (fun a=>fun (_:Unit)=>(idx b (a:Int)).bind fun d =>
 if (Yo d c) then (some (Ctl.ret (a:Int)))
 else (some (Ctl.next ()))) (b.length) 0 ()) (fun r=>some r) (fun (_:Unit)=>some (-1))
noncomputable def QR (b:(List Gj)) (a:Int):Option (Bool) :=
 (Jy b a).bind <|fun (c:Int) =>
 some (decide (0<=c))
noncomputable def Js (a:(List Gj)) (b:Int):Option (Bool) :=
 (QR a b).bind <|fun (c:Bool) =>
 some c
noncomputable def Qbt (b:Job) (a:Int):Option (Bool) :=
 ((Js b.AtStart a).bind <|fun (c:Bool) =>
 if c then (some true)
 else ((Js b.AtEnd a).bind <|fun (d:Bool) =>
 some d)).bind (fun (e:Bool)=>some e)
noncomputable def JT (b:(List Job)) (c:Int):Option (Int) :=
 ctl (Jf (R:=(Int)) (fun a=>fun (_:Unit)=>(idx b (a:Int)).bind fun d =>
 (Qbt d c).bind <|fun (e:Bool) =>
 if e then (some (Ctl.ret (a:Int)))
 else (some (Ctl.next ()))) (b.length) 0 ()) (fun r=>some r) (fun (_:Unit)=>some (-1))
noncomputable def QP (b:(List Job)) (a:Int):Option (Bool) :=
 (JT b a).bind <|fun (c:Int) =>
 some (decide (0<=c))
noncomputable def Qbs (b:Job) (a:Int):Option (Bool) :=
 ((Js b.Start a).bind <|fun (c:Bool) =>
 if c then (some true)
 else ((Js b.End a).bind <|fun (d:Bool) =>
 some d)).bind (fun (e:Bool)=>some e)
noncomputable def JS (b:(List Job)) (c:Int):Option (Int) :=
 ctl (Jf (R:=(Int)) (fun a=>fun (_:Unit)=>(idx b (a:Int)).bind fun d =>
 (Qbs d c).bind <|fun (e:Bool) =>
 if e then (some (Ctl.ret (a:Int)))
 else (some (Ctl.next ()))) (b.length) 0 ()) (fun r=>some r) (fun (_:Unit)=>some (-1))
noncomputable def Jk (b:(List Job)) (a:Int):Option (Bool) :=
 (JS b a).bind <|fun (c:Int) =>
 some (decide (0<=c))
structure Gl where
 jobs:Int
 write:(List Int)
 read:(List Int)
 phase:Int
 vars:(List Int)
noncomputable def QaM (a:Ge):Option (Gl) :=
 (QW a.Vars).bind <|fun (t:(List Int)) =>
 (forS (fun h=>fun (c:(List Int))=>(idx a.Jobs (h:Int)).bind fun s =>
 (app 8 c [IntKind.i64.wrap (s.Duration+2),2]).bind fun i =>
 some i) (a.Jobs.length) 0 t).bind (fun (c:(List Int))=>(forS (fun g=>un3 fun (e:(List Int)) (f:(List Int)) (b:(List Int))=>(QP a.Jobs (g:Int)).bind <|fun (u:Bool) =>
 (if u then ((app 8 b [2]).bind fun d =>
 (Jk a.Jobs (g:Int)).bind <|fun (v:Bool) =>
 (if v then ((app 8 d [2]).bind fun j =>
 some ((d.length:Int),j))
 else (some ((-1),d))).bind (J5 fun (p:Int) (k:(List Int))=>some ((b.length:Int),p,k)))
 else (some ((-1),(-1),b))).bind (un3 fun (r:Int) (q:Int) (l:(List Int))=>(app 8 e [r]).bind fun m =>
 (app 8 f [q]).bind fun n =>
 some (m,n,l))) (a.Vars.length) 0 ([],[],c)).bind (un3 fun (e:(List Int)) (f:(List Int)) (b:(List Int))=>(app 8 b [IntKind.i64.wrap ((a.Jobs.length:Int)+2)]).bind fun o =>
 some (⟨(a.Vars.length:Int),e,f,(b.length:Int),o⟩:Gl)))
noncomputable def Ju (b:(List Gj)):Option ((List Gj)) :=
 (app 16 [] b).bind fun a =>
 some a
noncomputable def YC (b:Gl) (a:Int):Option (Int) :=
 some (IntKind.i64.wrap (b.jobs+(IntKind.i64.wrap (2 * a))))
def Qf (b:Gl) (a:Int):Int :=
 (IntKind.i64.wrap (b.jobs+(IntKind.i64.wrap (2 * a))))
theorem Jw (b:Gl) (a:Int):YC b a=some (Qf b a):=by
 unfold YC Qf
 (repeat' split) <;> rfl
attribute [irreducible] Qf
noncomputable def YR (b:Gl) (a:Int):Option (Int) :=
 some (IntKind.i64.wrap ((IntKind.i64.wrap (b.jobs+(IntKind.i64.wrap (2 * a))))+1))
def Qz (b:Gl) (a:Int):Int :=
 (IntKind.i64.wrap ((IntKind.i64.wrap (b.jobs+(IntKind.i64.wrap (2 * a))))+1))
theorem Qau (b:Gl) (a:Int):YR b a=some (Qz b a):=by
 unfold YR Qz
 (repeat' split) <;> rfl
attribute [irreducible] Qz
structure Gn where
 When:(List Gj)
 Var:Int
 Val:Int
def Gm:Enc Gn:=Enc.iso ((Qk Gd).pair ((Qc .i64).pair (Qc .i64))) (fun b=>(b.When,b.Var,b.Val))
theorem Qeo {s:Gc} {v:Value} {b:Gn}:Gm.val s v b↔∃u1,v= .agg #[u1, .int .i64 (b.Var), .int .i64 (b.Val)]∧Ga Gd s u1 (b.When):=by
 simp only [Enc.iso,Enc.pair,Enc.val,Gm,Qc,Qk,if_true,Y8]
 constructor
 ·rintro ⟨cs,rfl,h⟩
  obtain ⟨cs⟩:=cs
  simp only [] at h
  obtain ⟨_,_,rfl,⟨w1,rfl,h1⟩,_,_,rfl,rfl,rfl⟩:=h
  exact ⟨w1,Z,h1⟩
 ·rintro ⟨w1,rfl,h1⟩
  exact ⟨_,Z,⟨[_],_,Z,⟨w1,Z,h1⟩,[_],_,Z,Z,Z⟩⟩
noncomputable def K3 (b:(List (List Gj))):Option ((List Gj)) :=
 (forS (fun e=>fun (a:Int)=>(idx b (e:Int)).bind fun d =>
 (if decide ((IntKind.i64.wrap (a+(d.length:Int)))<0) then (none)
 else (some ())).bind (fun (_:Unit)=>some (IntKind.i64.wrap (a+(d.length:Int))))) (b.length) 0 0).bind (fun (a:Int)=>(QgB 16 a).bind fun i =>
 (forS (fun f=>fun (c:(List Gj))=>(idx b (f:Int)).bind fun h =>
 (app 16 c h).bind fun g =>
 some g) (b.length) 0 ([]:List Gj)).bind (fun (c:(List Gj))=>some c))
noncomputable def KJ (b:Gl) (q:(List Gj)) (r:(List Gj)):Option ((List Gj)×(List Gn)) :=
 (forS (fun a=>J5 fun (d:(List Gj)) (c:(List Gn))=>(Js r (a:Int)).bind <|fun (v:Bool) =>
 (if v then ((idx b.write (a:Int)).bind fun f =>
 (app 16 d [(⟨f,0⟩:Gj)]).bind fun e =>
 (idx b.read (a:Int)).bind fun g =>
 (if decide (0<=g) then ((app 16 e [(⟨g,0⟩:Gj)]).bind fun h =>
 some h)
 else (some e)).bind (fun (i:(List Gj))=>(app 40 c ([(⟨[],f,1⟩:Gn)])).bind fun j =>
 some (i,j)))
 else (((Js q (a:Int)).bind <|fun (w:Bool) =>
 if w then ((idx b.write (a:Int)).bind fun s =>
 some (decide (0<=s)))
 else (some false)).bind (fun (x:Bool)=>(if x then ((idx b.write (a:Int)).bind fun t =>
 (app 16 d [(⟨t,0⟩:Gj)]).bind fun k =>
 (idx b.read (a:Int)).bind fun u =>
 (app 40 c ([(⟨[],u,1⟩:Gn)])).bind fun l =>
 some (k,l))
 else (some (d,c))).bind (J5 fun (m:(List Gj)) (n:(List Gn))=>some (m,n))))).bind (J5 fun (o:(List Gj)) (p:(List Gn))=>some (o,p))) (b.write.length) 0 ([],[])).bind (J5 fun (d:(List Gj)) (c:(List Gn))=>some (d,c))
noncomputable def Ki (b:(List (List Gn))):Option ((List Gn)) :=
 (forS (fun e=>fun (a:Int)=>(idx b (e:Int)).bind fun d =>
 (if decide ((IntKind.i64.wrap (a+(d.length:Int)))<0) then (none)
 else (some ())).bind (fun (_:Unit)=>some (IntKind.i64.wrap (a+(d.length:Int))))) (b.length) 0 0).bind (fun (a:Int)=>(QgB 40 a).bind fun i =>
 (forS (fun f=>fun (c:(List Gn))=>(idx b (f:Int)).bind fun h =>
 (app 40 c h).bind fun g =>
 some g) (b.length) 0 ([]:List Gn)).bind (fun (c:(List Gn))=>some c))
noncomputable def Yp (a b:Gj):Option (Int) :=
 some (Qx a.Var b.Var)
instance inhFact:Inhabited Gj:=⟨⟨0,0⟩⟩
noncomputable def QeZ (xs:List Gj):Option (List Gj):=if xs.length<4611686018427387904 then some (QkX (fun x y=>decide (Qc1 x.Var y.Var<0)) xs) else none
structure Op where
 Name:ByteArray
 Cost:Int
 Pre:(List Gj)
 Effs:(List Gn)
def GC:Enc Op:=Enc.iso (encStr.pair ((Qc .i64).pair ((Qk Gd).pair (Qk Gm)))) (fun b=>(b.Name,b.Cost,b.Pre,b.Effs))
theorem QeB {s:Gc} {v:Value} {b:Op}:GC.val s v b↔∃u1,∃u2,v= .agg #[.string (b.Name), .int .i64 (b.Cost),u1,u2]∧Ga Gd s u1 (b.Pre)∧Ga Gm s u2 (b.Effs):=by
 simp only [Enc.iso,Enc.pair,Enc.val,Qc,GC,Qk,encStr,if_true,Y8]
 constructor
 ·rintro ⟨cs,rfl,h⟩
  obtain ⟨cs⟩:=cs
  simp only [] at h
  obtain ⟨_,_,rfl,rfl,_,_,rfl,rfl,_,_,rfl,⟨w1,rfl,h1⟩,⟨w2,rfl,h2⟩⟩:=h
  exact ⟨w1,w2,Z,h1,h2⟩
 ·rintro ⟨w1,w2,rfl,h1,h2⟩
  exact ⟨_,Z,⟨[_],_,Z,Z,[_],_,Z,Z,[_],_,Z,⟨w1,Z,h1⟩,w2,Z,h2⟩⟩
noncomputable def QY (d:Gl) (m:ByteArray) (c:(List Gj)) (a:(List Gj)) (l:(List Gj)) (f:(List Gn)):Option (Op) :=
 (K3 ([c,l,[(⟨d.phase,0⟩:Gj)]])).bind <|fun (o:(List Gj)) =>
 (forS (fun h=>fun (b:(List Gn))=>(idx a (h:Int)).bind fun e =>
 (app 40 b ([(⟨[],e.Var,e.Val⟩:Gn)])).bind fun i =>
 some i) (a.length) 0 []).bind (fun (b:(List Gn))=>(KJ d c a).bind <|J5 fun (n:(List Gj)) (g:(List Gn)) =>
 (app 16 o n).bind fun j =>
 (Ki [b,f,g]).bind <|fun (p:(List Gn)) =>
 (QeZ j).bind <|fun (k:(List Gj)) =>
 some (⟨m,0,k,p⟩:Op))
noncomputable def QaH (a:Int):Option (ByteArray) :=
 if decide (a<10) then ((Qqo (⟨#[48,49,50,51,52,53,54,55,56,57,97,98,99,100,101,102,103,104,105,106,107,108,109,110,111,112,113,114,115,116,117,118,119,120,121,122]⟩) a (IntKind.i64.wrap (a+1))).bind fun b =>
 some b)
 else ((Qqo (⟨#[48,48,48,49,48,50,48,51,48,52,48,53,48,54,48,55,48,56,48,57,49,48,49,49,49,50,49,51,49,52,49,53,49,54,49,55,49,56,49,57,50,48,50,49,50,50,50,51,50,52,50,53,50,54,50,55,50,56,50,57,51,48,51,49,51,50,51,51,51,52,51,53,51,54,51,55,51,56,51,57,52,48,52,49,52,50,52,51,52,52,52,53,52,54,52,55,52,56,52,57,53,48,53,49,53,50,53,51,53,52,53,53,53,54,53,55,53,56,53,57,54,48,54,49,54,50,54,51,54,52,54,53,54,54,54,55,54,56,54,57,55,48,55,49,55,50,55,51,55,52,55,53,55,54,55,55,55,56,55,57,56,48,56,49,56,50,56,51,56,52,56,53,56,54,56,55,56,56,56,57,57,48,57,49,57,50,57,51,57,52,57,53,57,54,57,55,57,56,57,57]⟩) (IntKind.i64.wrap (a * 2)) (IntKind.i64.wrap ((IntKind.i64.wrap (a * 2))+2))).bind fun c =>
 some c)
noncomputable def Qak (a b:Int):Option (ByteArray) :=
 if decide (b=10) then (if ((decide (0<=a)) && decide (a<100)) then ((QaH a).bind <|fun (c:ByteArray) =>
 some c)
 else (none))
 else (none)
noncomputable def Qa4 (a:Int):Option (ByteArray) :=
 (Qak a 10).bind <|fun (b:ByteArray) =>
 some b
noncomputable def Qbi (a:Int):Option (ByteArray) :=
 (Qa4 a).bind <|fun (b:ByteArray) =>
 some b
noncomputable def Ko (c:Gl) (d:Job) (b a:Int):Option (Op) :=
 (cat (⟨#[119,97,105,116,32]⟩) d.Name).bind fun e =>
 (cat e (⟨#[32]⟩)).bind fun f =>
 (Qbi a).bind <|fun (l:ByteArray) =>
 (cat f l).bind fun g =>
 (if decide (0<a) then ((Ju d.Over).bind <|fun (m:(List Gj)) =>
 some m)
 else (some [])).bind (fun (n:(List Gj))=>(app 16 n [(⟨(Qf c b),a⟩:Gj),(⟨c.phase,IntKind.i64.wrap (b+1)⟩:Gj)]).bind fun h =>
 (if decide (1<a) then ((app 40 ([]:(List Gn)) ([(⟨[],(Qf c b),IntKind.i64.wrap (a - 1)⟩:Gn)])).bind fun i =>
 some i)
 else ((if decide (a=1) then ((app 40 ([]:(List Gn)) ([(⟨[],(Qf c b),IntKind.i64.wrap (d.Duration+1)⟩:Gn)])).bind fun j =>
 some j)
 else (some [])).bind (fun (o:(List Gn))=>some o))).bind (fun (p:(List Gn))=>(app 40 p ([(⟨[],c.phase,IntKind.i64.wrap (b+2)⟩:Gn)])).bind fun k =>
 some (⟨g,0,h,k⟩:Op)))
noncomputable def JO (a:Gl) (c:Int):Option (Op) :=
 (must (decide (c<=9223372036854775807))).bind fun o =>
 (forS (fun i=>fun (d:(List Gn))=>(app 40 d ([(⟨[],(Qz a (i:Int)),0⟩:Gn)])).bind fun j =>
 some j) (c.toNat) 0 []).bind (fun (d:(List Gn))=>(forS (fun e=>fun (b:(List Gn))=>(idx a.write (e:Int)).bind fun g =>
 (if decide (0<=g) then ((app 40 b ([(⟨[],g,0⟩:Gn)])).bind fun k =>
 some k)
 else (some b)).bind (fun (f:(List Gn))=>(idx a.read (e:Int)).bind fun h =>
 (if decide (0<=h) then ((app 40 f ([(⟨[],h,0⟩:Gn)])).bind fun l =>
 some l)
 else (some f)).bind (fun (m:(List Gn))=>some m))) (a.write.length) 0 d).bind (fun (b:(List Gn))=>(app 40 b ([(⟨[],a.phase,0⟩:Gn)])).bind fun n =>
 some (⟨⟨#[97,100,118,97,110,99,101]⟩,1,[(⟨a.phase,IntKind.i64.wrap (c+1)⟩:Gj)],n⟩:Op)))
structure GD where
 Vars:(List Int)
 Init:(List Int)
 Goal:(List Gj)
 Ops:(List Op)
noncomputable def Ys (c:GD):Option ((List (List Gj))) :=
 (forS (fun e=>fun (b:(List (List Gj)))=>(idx c.Ops (e:Int)).bind fun d =>
 (app 24 b [d.Pre]).bind fun g =>
 (forS (fun f=>fun (a:(List (List Gj)))=>(idx d.Effs (f:Int)).bind fun i =>
 (app 24 a [i.When]).bind fun h =>
 some h) (d.Effs.length) 0 g).bind (fun (a:(List (List Gj)))=>some a)) (c.Ops.length) 0 [c.Goal]).bind (fun (b:(List (List Gj)))=>some b)
noncomputable def QbK (a:(List Gj)):Option (Bool) :=
 some (decide (64<(a.length:Int)))
def QbJ (a:(List Gj)):Bool :=
 (decide (64<(a.length:Int)))
theorem QhY (a:(List Gj)):QbK a=some (QbJ a):=by
 unfold QbK QbJ
 (repeat' split) <;> rfl
attribute [irreducible] QbJ
noncomputable def J9 (b:(List (List Gj))):Option (Int) :=
 ctl (Jf (R:=(Int)) (fun a=>fun (_:Unit)=>(idx b (a:Int)).bind fun c =>
 if (QbJ c) then (some (Ctl.ret (a:Int)))
 else (some (Ctl.next ()))) (b.length) 0 ()) (fun r=>some r) (fun (_:Unit)=>some (-1))
noncomputable def QZ (a:(List (List Gj))):Option (Bool) :=
 (J9 a).bind <|fun (b:Int) =>
 some (decide (0<=b))
noncomputable def Qcn (a:GD):Option (Bool) :=
 if ((decide (64<(a.Vars.length:Int))) ||decide (4096<(a.Ops.length:Int))) then (some true)
 else (ctl (Jf (R:=(Bool)) (fun b=>fun (_:Unit)=>(idx a.Ops (b:Int)).bind fun c =>
 if decide (64<(c.Effs.length:Int)) then (some (Ctl.ret true))
 else (some (Ctl.next ()))) (a.Ops.length) 0 ()) (fun r=>some r) (fun (_:Unit)=>(Ys a).bind <|fun (d:(List (List Gj))) =>
 (QZ d).bind <|fun (e:Bool) =>
 some e))
noncomputable def Qcm (a:ByteArray):Option (Bool) :=
 (must (decide ((a.size:Int)<=9223372036854775807))).bind fun e =>
 ctl (Jf (R:=(Bool)) (fun c=>fun (_:Unit)=>((idx (QcJ a) (c:Int)).bind fun b =>
 if decide (b<32) then (some true)
 else (some (decide (126<b)))).bind (fun (d:Bool)=>if d then (some (Ctl.ret false))
 else (some (Ctl.next ())))) ((a.size:Int).toNat) 0 ()) (fun r=>some r) (fun (_:Unit)=>some (decide ((a.size:Int)<=256)))
noncomputable def Jb (a:GD):Option ((Option Int)) :=
 (Qcn a).bind <|fun (o:Bool) =>
 if o then (some (some 5))
 else (ctl (Jf (R:=((Option Int))) (fun g=>fun (_:Unit)=>(idx a.Vars (g:Int)).bind fun b =>
 if ((decide (b<1)) ||decide (64<b)) then (some (Ctl.ret (some 1)))
 else (some (Ctl.next ()))) (a.Vars.length) 0 ()) (fun r=>some r) (fun (_:Unit)=>ctl (Jf (R:=((Option Int))) (fun h=>fun (_:Unit)=>(idx a.Ops (h:Int)).bind fun c =>
 if ((decide (c.Cost<0)) ||decide (1048576<c.Cost)) then (some (Ctl.ret (some 1)))
 else (some (Ctl.next ()))) (a.Ops.length) 0 ()) (fun r=>some r) (fun (_:Unit)=>(Kc a.Vars a.Init).bind <|fun (p:Bool) =>
 if !p then (some (some 2))
 else ((Ys a).bind <|fun (f:(List (List Gj))) =>
 ctl (Jf (R:=((Option Int))) (fun i=>fun (_:Unit)=>(idx f (i:Int)).bind fun m =>
 (Ku a.Vars m).bind <|fun (q:Bool) =>
 if !q then (some (Ctl.ret (some 2)))
 else (some (Ctl.next ()))) (f.length) 0 ()) (fun r=>some r) (fun (_:Unit)=>ctl (Jf (R:=((Option Int))) (fun j=>fun (_:Unit)=>(idx a.Ops (j:Int)).bind fun d =>
 ctl (Jf (R:=((Option Int))) (fun k=>fun (_:Unit)=>(idx d.Effs (k:Int)).bind fun e =>
 (Ku a.Vars [(⟨e.Var,e.Val⟩:Gj)]).bind <|fun (s:Bool) =>
 if !s then (some (Ctl.ret (some 2)))
 else (some (Ctl.next ()))) (d.Effs.length) 0 ()) (fun r=>some (Ctl.ret r)) (fun (_:Unit)=>some (Ctl.next ()))) (a.Ops.length) 0 ()) (fun r=>some r) (fun (_:Unit)=>ctl (Jf (R:=((Option Int))) (fun l=>fun (_:Unit)=>(idx a.Ops (l:Int)).bind fun n =>
 (Qcm n.Name).bind <|fun (t:Bool) =>
 if !t then (some (Ctl.ret (some 8)))
 else (some (Ctl.next ()))) (a.Ops.length) 0 ()) (fun r=>some r) (fun (_:Unit)=>some none)))))))
noncomputable def Jc (b:Ge):Option ((Option Int)×GD) :=
 (JN b).bind <|fun (y:(Option Int)) =>
 if y.isSome then (none)
 else ((QaM b).bind <|fun (a:Gl) =>
 (mk 8 0 (a.vars.length:Int)).bind fun r =>
 (Ju b.Goal).bind <|fun (z:(List Gj)) =>
 (Qni r b.Init).bind fun k =>
 (forS (fun c=>J5 fun (e:(List Op)) (f:(List Gj))=>(idx b.Jobs (c:Int)).bind fun d =>
 (cat (⟨#[115,116,97,114,116,32]⟩) d.Name).bind fun o =>
 (QY a o d.Start d.AtStart [(⟨(Qf a (c:Int)),0⟩:Gj),(⟨(Qz a (c:Int)),0⟩:Gj)] ([(⟨[],(Qf a (c:Int)),d.Duration⟩:Gn)])).bind <|fun (aa:Op) =>
 (app 72 e [aa]).bind fun s =>
 (cat (⟨#[101,110,100,32]⟩) d.Name).bind fun p =>
 (QY a p d.End d.AtEnd [(⟨(Qf a (c:Int)),IntKind.i64.wrap (d.Duration+1)⟩:Gj)] ([(⟨[],(Qf a (c:Int)),0⟩:Gn),(⟨[],(Qz a (c:Int)),1⟩:Gn)])).bind <|fun (ab:Op) =>
 (app 72 s [ab]).bind fun t =>
 (app 16 f [(⟨(Qf a (c:Int)),0⟩:Gj)]).bind fun u =>
 some (t,u)) (b.Jobs.length) 0 ([],z)).bind (J5 fun (e:(List Op)) (f:(List Gj))=>(app 16 f [(⟨a.phase,0⟩:Gj)]).bind fun l =>
 (if decide (0<(b.Jobs.length:Int)) then ((app 72 e ([(⟨⟨#[116,105,99,107]⟩,0,[(⟨a.phase,0⟩:Gj)],[(⟨[],a.phase,1⟩:Gn)]⟩:Op)])).bind fun v =>
 (forS (fun j=>fun (g:(List Op))=>(idx b.Jobs (j:Int)).bind fun i =>
 (must (decide (IntKind.i64.wrap (i.Duration+1)<=9223372036854775807))).bind fun ae =>
 (forS (fun q=>fun (h:(List Op))=>(Ko a i (j:Int) (q:Int)).bind <|fun (ac:Op) =>
 (app 72 h [ac]).bind fun w =>
 some w) ((IntKind.i64.wrap (i.Duration+1)).toNat) 0 g).bind (fun (h:(List Op))=>some h)) (b.Jobs.length) 0 v).bind (fun (g:(List Op))=>(JO a (b.Jobs.length:Int)).bind <|fun (ad:Op) =>
 (app 72 g [ad]).bind fun x =>
 some x))
 else (some e)).bind (fun (m:(List Op))=>(Jb (⟨a.vars,k,l,m⟩:GD)).bind <|fun (n:(Option Int)) =>
 if n.isSome then (some (n,(⟨[],[],[],[]⟩:GD)))
 else (some (none,(⟨a.vars,k,l,m⟩:GD))))))
noncomputable def Qb8 (a b:Launch):Option (Int) :=
 (Y9 [(Qx a.At b.At),(Qx a.Job b.Job)]).bind <|fun (c:Int) =>
 some c
noncomputable def Qdx (xs:List Launch):Option (List Launch):=if xs.length * 16<=140737488351232 then some (xs.mergeSort fun x y=>!decide (Qf6 y x<0)) else none
noncomputable def Yf (b:(List Launch)) (c:Launch):Option (Int) :=
 ctl (Jf (R:=(Int)) (fun a=>fun (_:Unit)=>(idx b (a:Int)).bind fun d =>
 if eqs [c.At,c.Job] [d.At,d.Job] then (some (Ctl.ret (a:Int)))
 else (some (Ctl.next ()))) (b.length) 0 ()) (fun r=>some r) (fun (_:Unit)=>some (-1))
noncomputable def JR (a:(List Launch)) (b:Launch):Option (Bool) :=
 (Yf a b).bind <|fun (c:Int) =>
 some (decide (0<=c))
structure GT where
 t:Ge
 first:(List Int)
 last:Int
 left:(List Int)
 out:(List Int)
noncomputable def KX (a:GT):Option ((List Int)×(List Int)) :=
 (app 8 a.out [IntKind.i64.wrap (2 * (a.t.Jobs.length:Int))]).bind fun f =>
 (forS (fun c=>J5 fun (b:(List Int)) (d:(List Int))=>(idx a.first (c:Int)).bind fun j =>
 (idx b (c:Int)).bind fun e =>
 (app 8 d [IntKind.i64.wrap (j+e)]).bind fun g =>
 (QbN b (c:Int) (max 0 (IntKind.i64.wrap (e - 1)))).bind fun h =>
 some (h,g)) (a.t.Jobs.length) 0 (a.left,f)).bind (J5 fun (b:(List Int)) (d:(List Int))=>(app 8 d [a.last]).bind fun i =>
 some (b,i))
noncomputable def Yj (a:Ge) (f:(List Launch)):Option ((List Int)×(Option Int)) :=
 (Ji a f).bind <|J5 fun (g:Int) (af:(Option Int)) =>
 if af.isSome then (none)
 else ((Jc a).bind <|J5 fun (ag:(Option Int)) (ah:GD) =>
 if ag.isSome then (none)
 else (if decide (65536<(IntKind.i64.wrap ((IntKind.i64.wrap (2 * (f.length:Int)))+(IntKind.i64.wrap (g * (IntKind.i64.wrap ((a.Jobs.length:Int)+2))))))) then (none)
 else ((mk 8 0 (a.Jobs.length:Int)).bind fun q =>
 (forS (fun o=>J5 fun (h:Int) (k:(List Int))=>(idx a.Jobs (o:Int)).bind fun ac =>
 (app 8 k [h]).bind fun r =>
 some (IntKind.i64.wrap (h+(IntKind.i64.wrap (ac.Duration+1))),r)) (a.Jobs.length) 0 (IntKind.i64.wrap ((IntKind.i64.wrap (2 * (a.Jobs.length:Int)))+1),[])).bind (J5 fun (h:Int) (k:(List Int))=>(Qdx f).bind fun m =>
 (must (decide (IntKind.i64.wrap (g+1)<=9223372036854775807))).bind fun aj =>
 (forS (fun i=>J5 fun (l:(List Int)) (n:(List Int))=>(forS (fun j=>fun (e:(List Int))=>(idx a.Jobs (j:Int)).bind fun ad =>
 (JR f (⟨IntKind.i64.wrap ((i:Int) - ad.Duration),(j:Int)⟩:Launch)).bind <|fun (ai:Bool) =>
 (if ai then ((app 8 e [IntKind.i64.wrap ((IntKind.i64.wrap (2 * (j:Int)))+1)]).bind fun s =>
 some s)
 else (some e)).bind (fun (t:(List Int))=>some t)) (a.Jobs.length) 0 l).bind (fun (e:(List Int))=>(forS (fun p=>J5 fun (b:(List Int)) (c:(List Int))=>(idx m (p:Int)).bind fun d =>
 (if decide (d.At=(i:Int)) then ((app 8 c [IntKind.i64.wrap (2 * d.Job)]).bind fun u =>
 (idx a.Jobs d.Job).bind fun ae =>
 (idx b d.Job).bind fun ak =>
 (QbN b d.Job ae.Duration).bind fun v =>
 some (v,u))
 else (some (b,c))).bind (J5 fun (w:(List Int)) (x:(List Int))=>some (w,x))) (m.length) 0 (n,e)).bind (J5 fun (b:(List Int)) (c:(List Int))=>(if decide ((i:Int)<g) then ((KX (⟨a,k,IntKind.i64.wrap ((ah.Ops.length:Int) - 1),b,c⟩:GT)).bind <|J5 fun (y:(List Int)) (z:(List Int)) =>
 some (y,z))
 else (some (b,c))).bind (J5 fun (aa:(List Int)) (ab:(List Int))=>some (ab,aa))))) ((IntKind.i64.wrap (g+1)).toNat) 0 ([],q)).bind (J5 fun (l:(List Int)) (n:(List Int))=>some (l,none))))))
noncomputable def Qbp (e:GD) (b:(List Int)) (d:Int):Option ((List Int)×(Option Int)) :=
 if ((decide (d<0)) ||decide ((e.Ops.length:Int)<=d)) then (none)
 else ((Kc e.Vars b).bind <|fun (j:Bool) =>
 if !j then (none)
 else ((idx e.Ops d).bind fun f =>
 (Kt f.Pre b).bind <|fun (k:Bool) =>
 if !k then (none)
 else ((QW b).bind <|fun (l:(List Int)) =>
 (forS (fun g=>fun (a:(List Int))=>(idx f.Effs (g:Int)).bind fun c =>
 (Kt c.When b).bind <|fun (m:Bool) =>
 (if m then ((idx a c.Var).bind fun n =>
 (QbN a c.Var c.Val).bind fun h =>
 some h)
 else (some a)).bind (fun (i:(List Int))=>some i)) (f.Effs.length) 0 l).bind (fun (a:(List Int))=>some (a,none)))))
noncomputable def Qd8 (a:GD) (c:(List Int)) (b:(List Int)):Option ((List Int)×Int×(Option Int)) :=
 (Jb a).bind <|fun (k:(Option Int)) =>
 if k.isSome then (none)
 else ((Kc a.Vars c).bind <|fun (l:Bool) =>
 if !l then (none)
 else (if decide (65536<(b.length:Int)) then (none)
 else ((QW c).bind <|fun (m:(List Int)) =>
 ctl (Jf (R:=((List Int)×Int×(Option Int))) (fun g=>J5 fun (h:(List Int)) (e:Int)=>(idx b (g:Int)).bind fun d =>
 (Qbp a h d).bind <|J5 fun (n:(List Int)) (o:(Option Int)) =>
 if o.isSome then (none)
 else ((idx a.Ops d).bind fun j =>
 some (Ctl.next (n,IntKind.i64.wrap (e+j.Cost))))) (b.length) 0 (m,0)) (fun r=>some r) (J5 fun (i:(List Int)) (f:Int)=>some (i,f,none)))))
noncomputable def YD (a:GD) (b:(List Int)):Option (Int×(Option Int)) :=
 (Qd8 a a.Init b).bind <|un3 fun (c:(List Int)) (d:Int) (e:(Option Int)) =>
 if e.isSome then (none)
 else ((Kt a.Goal c).bind <|fun (f:Bool) =>
 if !f then (none)
 else (some (d,none)))
noncomputable def Kv (t1:Ge) (list10:(List Launch)) (which13:Int):Option (Bool) :=
 (if decide (8<(t1.Vars.length:Int)) then (some true)
 else (if decide (6<(t1.Jobs.length:Int)) then (some true)
 else (if decide (6<(list10.length:Int)) then (some true)
 else ((Qj1).bind <|fun (x:Bool) =>
 some (!x))))).bind (fun (av:Bool)=>if av then ((Qj1).bind <|fun (y:Bool) =>
 some y)
 else ((Ji t1 list10).bind <|J5 fun (m:Int) (z:(Option Int)) =>
 if (z.isSome ||decide (200<m)) then (some true)
 else ((YG t1 list10).bind <|J5 fun (e:(List Launch)) (aa:(Option Int)) =>
 if (aa.isSome ||!decide ((e.length:Int)=(list10.length:Int))) then (none)
 else ((Ji t1 e).bind <|J5 fun (c:Int) (ab:(Option Int)) =>
 (Qbj t1 e).bind <|J5 fun (ac:(Option Int)) (n:G1) =>
 if (ab.isSome ||(ac.isSome ||((decide (m<c)) ||((decide (0<(n.Problems.length:Int))) ||!decide (n.Makespan=c))))) then (none)
 else ((forS (fun q=>fun (a:(List Launch))=>ctl (Yw (R:=(Bool)) (J5 fun (b:Int) (d:(List Launch))=>(if decide (0<b) then ((idx d b).bind fun f =>
 (idx d (IntKind.i64.wrap (b - 1))).bind fun g =>
 if decide (f.At<g.At) then (some true)
 else (if decide (f.At=g.At) then (some (decide (f.Job<g.Job)))
 else (some false)))
 else (some false)).bind (fun (aw:Bool)=>if aw then ((idx d (IntKind.i64.wrap (b - 1))).bind fun v =>
 (idx d b).bind fun w =>
 (QbN d b v).bind fun j =>
 (idx j (IntKind.i64.wrap (b - 1))).bind fun a0 =>
 (QbN j (IntKind.i64.wrap (b - 1)) w).bind fun s =>
 some (Ctl.next (IntKind.i64.wrap (b - 1),s)))
 else (some (Ctl.brk (b,d))))) ((q:Int),a)) (fun r=>none) (J5 fun (ay:Int) (t:(List Launch))=>some t)) (e.length) 0 e).bind (fun (a:(List Launch))=>(Qat t1 a).bind <|J5 fun (o:(List Int)) (ad:(Option Int)) =>
 if (ad.isSome ||!decide ((o.length:Int)=(a.length:Int))) then (none)
 else (if decide (0<(a.length:Int)) then ((must (!decide ((a.length:Int)=0))).bind fun az =>
 (app 16 [] a).bind fun k =>
 (idx k ((IntKind.i64.wrap which13).tmod (a.length:Int))).bind fun l =>
 (idx o ((IntKind.i64.wrap which13).tmod (a.length:Int))).bind fun h =>
 (QbN k ((IntKind.i64.wrap which13).tmod (a.length:Int)) ({ l with At:=IntKind.i64.wrap (l.At+h) }:Launch)).bind fun u =>
 if ((decide (h<0)) ||decide (c<h)) then (none)
 else ((Ji t1 u).bind <|J5 fun (p:Int) (i:(Option Int)) =>
 (if i.isSome then ((K2 t1 a ((IntKind.i64.wrap which13).tmod (a.length:Int))).bind <|fun (ae:Bool) =>
 if ae then (some true)
 else (if i.isNone then (some (decide (c<p)))
 else (some false)))
 else (if i.isNone then (some (decide (c<p)))
 else (some false))).bind (fun (ax:Bool)=>if ax then (none)
 else ((Jc t1).bind <|J5 fun (af:(Option Int)) (a1:GD) =>
 if af.isSome then (some true)
 else ((Yj t1 a).bind <|J5 fun (ag:(List Int)) (ah:(Option Int)) =>
 if ah.isSome then (none)
 else ((Jc t1).bind <|J5 fun (ai:(Option Int)) (aj:GD) =>
 if ai.isSome then (none)
 else ((YD aj ag).bind <|J5 fun (ak:Int) (al:(Option Int)) =>
 some (al.isNone && decide (ak=c)))))))))
 else ((Jc t1).bind <|J5 fun (am:(Option Int)) (a2:GD) =>
 if am.isSome then (some true)
 else ((Yj t1 a).bind <|J5 fun (an:(List Int)) (ao:(Option Int)) =>
 if ao.isSome then (none)
 else ((Jc t1).bind <|J5 fun (ap:(Option Int)) (aq:GD) =>
 if ap.isSome then (none)
 else ((YD aq an).bind <|J5 fun (ar:Int) (au:(Option Int)) =>
 some (au.isNone && decide (ar=c)))))))))))))
end Go.Pw
/- -/
set_option maxHeartbeats 4000000
set_option linter.unusedSimpArgs false
namespace Go.Pw
theorem Qwh (a b:Int):Qx a b=Qc1 a b:=by
 have h:Yt a b=some (Qc1 a b):=by
  simp [Yt,QaY,Qc1]
  have e:∀x,Kd x=false:=by
   intro x
   have h1:=QaY x
   unfold QaI at h1
   simpa using (Zu h1).symm
  simp only [e]
  by_cases h1:a<b <;> by_cases h2:b<a <;> simp [h1,h2]
 rw [Jj] at h
 exact Zu h
theorem QpH (a b:Launch):Qa6 a b=some (Qf6 a b):=by
 unfold Qa6 Y9
 simp only [Qwh]
 show (ctl (Jf _ 2 0 ()) _ _).bind _=_
 simp only [Jf,idx,ctl]
 unfold Qf6
 by_cases h1:Qc1 a.At b.At=0
 ·by_cases h2:Qc1 a.Job b.Job=0 <;> simp [h1,h2]
 ·simp [h1]
theorem Qd6 (a b:Launch):Qf6 a b<0↔a.At<b.At∨a.At=b.At∧a.Job<b.Job:=by
 unfold Qf6
 by_cases h1:a.At=b.At
 ·have e1:=(Qdz a.At b.At).2 h1
  rw [if_neg (by simp [e1]),Qbg]
  omega
 ·have e1:Qc1 a.At b.At≠0:=fun h=>h1 ((Qdz _ _).1 h)
  rw [if_pos e1,Qbg]
  omega
theorem Qwz (e:Bool):Q9 e=if e then 0 else 1:=by unfold Q9;cases e <;> rfl
theorem QxM (a b:Gf):Yh a b=some (Qla a b):=by
 unfold Yh Y9
 simp only [Qwh,Qwz]
 show (ctl (Jf _ 3 0 ()) _ _).bind _=_
 simp only [Jf,idx,ctl]
 unfold Qla rkE
 by_cases h1:Qc1 a.At b.At=0
 ·by_cases h2:Qc1 (if a.End=true then 0 else 1) (if b.End=true then 0 else 1)=0
  ·by_cases h3:Qc1 a.Launch b.Launch=0 <;> simp [h1,h2,h3]
  ·simp [h1,h2]
 ·simp [h1]
theorem Qd5 (a b:Gf):Qla a b<0↔a.At<b.At∨a.At=b.At∧(rkE a<rkE b∨rkE a=rkE b∧a.Launch<b.Launch):=by
 unfold Qla
 by_cases h1:a.At=b.At
 ·have e1:=(Qdz a.At b.At).2 h1
  rw [if_neg (by simp [e1])]
  by_cases h2:rkE a=rkE b
  ·have e2:=(Qdz (rkE a) (rkE b)).2 h2
   rw [if_neg (by simp [e2]),Qbg]
   omega
  ·have e2:Qc1 (rkE a) (rkE b)≠0:=fun h=>h2 ((Qdz _ _).1 h)
   rw [if_pos e2,Qbg]
   omega
 ·have e1:Qc1 a.At b.At≠0:=fun h=>h1 ((Qdz _ _).1 h)
  rw [if_pos e1,Qbg]
  omega
theorem Qwv {a b:Gf} (h:rkE a=rkE b):a.End=b.End:=by
 unfold rkE at h
 cases ha:a.End <;> cases hb:b.End <;> simp [ha,hb] at h <;> rfl
end Go.Pw
