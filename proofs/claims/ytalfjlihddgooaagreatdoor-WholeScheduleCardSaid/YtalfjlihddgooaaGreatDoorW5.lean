/- -/
import Derived.Test.YtalfjlihddgooaaGreatDoorBa
import Derived.Test.YtalfjlihddgooaaGreatDoorWl4
import Derived.Test.YtalfjlihddgooaaGreatDoorWlP
import Derived.Test.YtalfjlihddgooaaGreatDoorLH
import Derived.Test.YtalfjlihddgooaaGreatDoorLC
import Derived.Test.YtalfjlihddgooaaGreatDoorLD
set_option linter.unusedSimpArgs false
set_option linter.unusedVariables false
namespace Go.Pw
open Go.Proofs Go.Shelf Go.RowKit Go.Lib Go.Sort
def Qp4 (x:Gf):List Value:=[.int .i64 x.At, .int .i64 x.Launch, .bool x.End]
instance inhVn:Inhabited Gf:=⟨⟨0,0,false⟩⟩
theorem QqR (s:Gc) (cs:List Value) (x:Gf):Gi.rep s cs x↔cs=Qp4 x:=by
 simp only [Gi,Enc.iso,Enc.pair,Qc,GL,Y8,Qp4]
 constructor
 ·rintro ⟨_,_,rfl,rfl,⟨_,_,rfl,rfl,rfl⟩⟩;rfl
 ·rintro rfl;exact ⟨[_],[_,_],rfl,rfl,⟨[_],[_],rfl,rfl,rfl⟩⟩
theorem Qlc {w0 w:World} {s:Gc} {H:List Res} {xs:List Gf} {v:Value} {r:List Gf} (hm:QcU xs=some r) (hS:St w0 s (Res.arr Gi 78 v xs::H) w) :
  Calls Tryz.prog 62 #[v,Value.func (.func 63) #[] #[]] w fun e w'=>∃u,e= .returned u∧((fun (l:List Gf)=>∃(s':Gc),Gc.le s s'∧St w0 s' (Res.arr Gi 78 v l::H) w'∧u=Value.tuple #[]) r):=by
 unfold QcU at hm
 split at hm
 ·rename_i hlen
  cases hm
  have key:∀x y:Gf,ltOf Qla x y=decide (Qla x y<0):=fun _ _=>rfl
  have h:=Qnu (P:=Tryz.prog) (ρ:=Ql8) (E:=Gi) (enc:=Qp4) (k:=3) QxG (fun _=>by exact Tryz.isAgg78 _) (fun _=>by exact Tryz.sizeOf78 _) (by decide) (fun _=>rfl)
   (fun x v hv=>by simp [Qp4] at hv;rcases hv with rfl |rfl |rfl <;> rfl) QqR rfl Qla
   ⟨fun x=>by rw [key];simp [Qd5],fun x y z h1 h2=>by rw [key] at *;simp only [Xz,Qd5] at *;omega,fun x y z h1 h2=>by rw [key] at *;simp only [Xx,Qd5] at *;omega⟩
   63 (enters_of Tryz.func63 (by kernel_rfl) rfl) (fun W x y=>QdH (QxM x y) (St.start W))
   (fun x y h1 h2=>by
    rw [key] at *
    simp only [Xx,Qd5] at *
    have e1:x.At=y.At:=by omega
    have e2:rkE x=rkE y:=by omega
    have e3:x.Launch=y.Launch:=by omega
    have e4:=Qwv e2
    obtain ⟨a,b,c⟩:=x
    obtain ⟨d,e,f⟩:=y
    simp only at e1 e3 e4
    subst e1 e3 e4
    rfl) hlen hS
  refine h.mono ?_
  rintro e w' ⟨rfl,hS'⟩
  exact ⟨_,Z,s,Zv _,hS',Z⟩
 ·cases hm
end Go.Pw
/- -/
set_option maxRecDepth 100000
set_option maxHeartbeats 4000000
namespace Go.Pw
open Go.Proofs
variable {w0 w:World} {s:Gc} {H:List Res}
attribute [local irreducible] Exec WL W andThen QaB DL Jm
theorem QeI {a:Gt} {d:Nat} {m n o p j ai g i:Value} {r:Int×(List Gf)} (hm:KU a=some r) (hS:St w0 s (Res.box d 75 [m,n,o,p,j,ai,g,i,O (a.out.Makespan)]::Res.arr Gi 78 ai a.out.Events::Res.arr (Qk (Qc .i64)) 22 g a.out.States::Res.arr Ql 149 i a.out.Problems::H) w) (a3:Ga (Qc .i64) s m a.t.Vars) (a4:Ga (Qc .i64) s n a.t.Init) (a5:Ga Gd s o a.t.Goal) (a6:Ga Gw s p a.t.Jobs) (a7:Ga Gg s j a.l) :
  Cs Tryz.prog 23 #[Value.pointer (some ⟨d,0,none⟩)] w r fun v w'=>J5 fun (a2:Int) (ar:List Gf)=>∃ag aj,Gc.le s ag∧St w0 ag (Res.box d 75 [m,n,o,p,j,aj,g,i,O a2]::Res.arr Gi 78 aj ar::Res.arr (Qk (Qc .i64)) 22 g a.out.States::Res.arr Ql 149 i a.out.Problems::H) w'∧v=Value.tuple #[]:=by
 unfold KU at hm
 refine Qh Tryz.func23 Z Z (Qa hm fun a0 am hm=>G ?_)
 refine QO (fun k' s' f' w'=>(J5 fun (y:Int) (ac:List Gf)=>∃ah u,Gc.le s ah∧St w0 ah (Res.box d 75 [m,n,o,p,j,u,g,i,O y]::Res.arr Gi 78 u ac::Res.arr (Qk (Qc .i64)) 22 g a.out.States::Res.arr Ql 149 i a.out.Problems::H) w'∧Fx f' [(9,O (k':Int)),(0,Vq d),(7,j),(8,O ((a.l.length:Int)))]) s') am ?_ ?_ ?_
 ·have a8:=hS.f3
  exact fq
 ·intro c a1 _ _ _ _ an b
  obtain ⟨y,ac⟩:=a1
  replace b:=QC b
  obtain ⟨_,u,_,ae,_,rfl⟩:=an
  refine Qa b fun x au b=>G ?_
  refine Jv Z Z Z au fun _ _ al=>?_
  refine G ?_
  refine Zw (E:=Gg) ae A43.h Z Z Z al ?_
  intro _ av
  obtain rfl:=QH.1 av
  refine G ?_
  refine DT (cs:=[O 0,O 0]) ae Z43 Z Z fun _ _ _=>?_
  refine G ?_
  refine Xst Z Z Z fun _ z=>?_
  refine G ?_
  refine QT (n0:=17) (qs 0 12 (.q 13 (.e 12 [0,1,2,3,4,5,6,7,8,9,13] (.q 14 (.e 15 [0,1,2,3,4,5] (.e 16 [0] .done)))))) JQ (G ?_)
  refine Zn ((z.drew).f1) A35.h Z Z Z ⟨Z,G ?_⟩
  refine Zn (z.drew) A3.h Z Z Z ⟨Z,G ?_⟩
  refine Q2 Z (Qb (Qd Z Z) (Qb (Qd Z Z) Qg)) (v:=Value.agg #[O (x.At),O ((c:Int)),Vb false]) ⟨Z,Qa b fun ad aw b=>G ?_⟩
  refine Tc Z Z Z (Zi Z (Zi Z Jh)) (QcX aw ((((z.drew).f4).f4).f4).f4 rq rq rq rq rq).r ?_
  rintro _ _ ⟨_,_,aa,rfl⟩
  refine ⟨(Qm (Q8 Z Z (Zm (v:=Vq d) Z Z ⟨Z,Z⟩)) (Qm (Q8 Z Z (Zm (v:=Vq d) Z Z ⟨Z,Z⟩)) (Qm (Q8 Z Z (Jt Z Z ⟨Z,Z⟩)) (Qm (Q8 Z Z (Zp F75_2.h Z Z Z ⟨Z,Z⟩)) (Qm (Q8 Z Z (Zp F39_0.h Z Z Z ⟨Z,Z⟩)) (Qm (Q8 Z Z (Zn (aa) A35.h Z Z Z ⟨Z,Z⟩)) (Qm (Q8 Z Z (Zp F43_0.h Z Z Z ⟨Z,Z⟩)) (Qm (Q8 Z Z (Zn (aa.f4) A3.h Z Z Z ⟨Z,Z⟩)) (Qm (Q8 Z Z (Zm (v:=O ((c:Int))) Z Z ⟨Z,Z⟩)) (Qm (Q8 Z Z (Q2 Z (Qb (Qd Z Z) (Qb (Qd Z Z) Qg)) (v:=Value.agg #[O (x.At),O ((c:Int)),Vb false]) ⟨Z,Z⟩)) (Qm (Q8 Z Z (Zm (v:=O ((c:Int))) Z Z ⟨Z,Z⟩)) K7))))))))))),G ?_⟩
  refine Q2 Z (Qb (Qd Z Z) (Qb (Qd Z Z) (Qb (Qd Z Z) Qg))) (v:=Value.agg #[O ad,O ((c:Int)),Vb true]) ⟨Z,G ?_⟩
  refine Qt (Te:=78) (cs:=[O (x.At),O ((c:Int)),Vb false,O ad,O ((c:Int)),Vb true]) aa Z (Qb (Qd Z Z) (Qb (Qd Z Z) Qg)) fun _ _ ap=>?_
  refine ⟨Yd,Qa b fun _ ax b=>G ?_⟩
  refine Qn (E:=Gi) (ys:=[(⟨x.At,(c:Int),false⟩:Gf),(⟨ad,(c:Int),true⟩:Gf)]) ap.f2 S35.h Z78 Z (by decide) Z Z Z Z ⟨[_,_,_],_,Z,⟨[_],_,Z,Z,[_],_,Z,Z,Z⟩,[_,_,_],_,Z,⟨[_],_,Z,Z,[_],_,Z,Z,Z⟩,Z⟩ Z ax fun ak _ ab=>?_
  refine ⟨Yd,G ?_⟩
  refine Qu (ds:=[ak]) (es:=[m,n,o,p,j,ak,g,i,O y]) ab.f1 A35.h Z Z Z (Qs ((ab.f1).f1).arr_one) (Zj ((ab.f1).f1).arr_one QM) (Xc Z) Z fun _ af=>?_
  refine G ?_
  refine QT (n0:=10) (qs 0 8 (.e 8 [0,1,2,3,4,5] (.q 9 .done))) JQ (G ?_)
  refine Zn (af.drew) A3.h Z Z Z ⟨Z,Qa b fun _ ay b=>G ?_⟩
  refine Tc Z Z Z (Zi Z (Zi Z Jh)) (QcX ay ((((af.drew).f3).f3).f3).f3 rq rq rq rq rq).r ?_
  rintro _ _ ⟨_,_,_,rfl⟩
  refine ⟨Yd,G ?_⟩
  refine Qg1 Z Z Z ⟨Z,G ?_⟩
  refine Xst Z Z Z ?_
  intro _ _
  cases b
  refine G ?_
  exact fq
 intro _ _ ao
 obtain ⟨y,ac⟩:=a0
 replace hm:=QC hm
 obtain ⟨_,u,_,aq,_,rfl⟩:=ao
 refine Qa hm fun _ az hm=>G ?_
 refine Tc Z Z Z Z (Qlc az aq.f1).r ?_
 rintro _ _ ⟨_,_,_,rfl⟩
 cases hm
 refine G ?_
 exact ⟨_,Qlt Z,fq⟩
theorem Qcc {a:Gt} {o:Int} {d:Nat} {f g i j k m b c:Value} {r:Int} (hm:Kn a o=some r) (hS:St w0 s (Res.box d 75 [f,g,i,j,k,m,b,c,O (a.out.Makespan)]::Res.arr (Qk (Qc .i64)) 22 b a.out.States::Res.arr Ql 149 c a.out.Problems::H) w) (ak:Ga (Qc .i64) s f a.t.Vars) (al:Ga (Qc .i64) s g a.t.Init) (am:Ga Gd s i a.t.Goal) (x:Ga Gw s j a.t.Jobs) (n:Ga Gg s k a.l) (an:Ga Gi s m a.out.Events) :
  Cv Tryz.prog 61 #[Value.pointer (some ⟨d,0,none⟩),O o] w0 w s (Res.box d 75 [f,g,i,j,k,m,b,c,O (a.out.Makespan)]::Res.arr (Qk (Qc .i64)) 22 b a.out.States::Res.arr Ql 149 c a.out.Problems::H) r fun aj=>O aj:=by
 unfold Kn at hm
 refine Qh Tryz.func61 Z Z (G ?_)
 refine QT (n0:=25) (qs 0 25 .done) JQ (G ?_)
 refine Zn (hS.drew) A27.h Z Z Z ⟨Z,Qa hm fun u p hm=>G ?_⟩
 refine Qy S27.h Z Z Z n p fun _ _ y _=>?_
 refine ⟨Z,G ?_⟩
 refine Zw (E:=(Qc .i64)) hS.drew A3.h Z Z Z (y.sub (Sub.iso (Sub.fst (Sub.refl _))) Z) ?_
 intro af ab
 obtain rfl:af=O (u.At):=Qo.1 ab
 refine ⟨Z,G ?_⟩
 refine Zn (hS.drew) A24.h Z Z Z ⟨Z,G ?_⟩
 refine Zn (hS.drew) A27.h Z Z Z ⟨Z,G ?_⟩
 refine Qy S27.h Z Z Z n p fun _ _ z _=>?_
 refine ⟨Z,G ?_⟩
 refine Zw (E:=(Qc .i64)) hS.drew A3.h Z Z Z (z.sub (Sub.iso (Sub.snd (Sub.refl _) Z)) Z) ?_
 intro ag ac
 obtain rfl:ag=O (u.Job):=Qo.1 ac
 refine ⟨Z,Qa hm fun ai ad hm=>G ?_⟩
 refine Qy S24.h Z Z Z x ad fun _ _ aa _=>?_
 refine ⟨Z,G ?_⟩
 refine Zw (E:=(Qc .i64)) hS.drew A3.h Z Z Z (aa.sub (Sub.iso (Sub.snd (Sub.fst (Sub.refl _)) Z)) Z) ?_
 intro ah ae
 obtain rfl:ah=O (ai.Duration):=Qo.1 ae
 refine ⟨Z,?_⟩
 cases hm
 refine G ?_
 exact ⟨_,Qd0 Z,⟨s,(Zv _),(((hS.drew).f2).f2).f2,Z⟩⟩
theorem QdM {b:Gt} {y:Int} {j:Nat} {n o p q c u d i:Value} {r:Unit} (hm:K5 b y=some r) (hS:St w0 s (Res.box j 75 [n,o,p,q,c,u,d,i,O (b.out.Makespan)]::Res.arr (Qk (Qc .i64)) 22 d b.out.States::Res.arr Ql 149 i b.out.Problems::H) w) (a8:Ga (Qc .i64) s n b.t.Vars) (a9:Ga (Qc .i64) s o b.t.Init) (aA:Ga Gd s p b.t.Goal) (aB:Ga Gw s q b.t.Jobs) (aC:Ga Gg s c b.l) (aD:Ga Gi s u b.out.Events) :
  Cv Tryz.prog 65 #[Value.pointer (some ⟨j,0,none⟩),O y] w0 w s (Res.box j 75 [n,o,p,q,c,u,d,i,O (b.out.Makespan)]::Res.arr (Qk (Qc .i64)) 22 d b.out.States::Res.arr Ql 149 i b.out.Problems::H) r fun _=>Value.tuple #[]:=by
 unfold K5 at hm
 refine Qh Tryz.func65 Z Z (Qa hm fun _ am hm=>G ?_)
 refine QO (fun k' s' f' w'=>(fun (_:Unit)=>∃ah,Gc.le s ah∧St w0 ah (Res.box j 75 [n,o,p,q,c,u,d,i,O (b.out.Makespan)]::Res.arr (Qk (Qc .i64)) 22 d b.out.States::Res.arr Ql 149 i b.out.Problems::H) w'∧Fx f' [(13,O (k':Int)),(0,Vq j),(1,O y),(11,c),(12,O ((b.l.length:Int)))]) s') am ?_ ?_ ?_
 ·have aE:=hS.f2
  exact fq
 ·intro aa _ _ _ _ _ ao x
  obtain ⟨a6,_,ad,_,rfl⟩:=ao
  refine Qa x fun ab a1 x=>G ?_
  refine Jv Z Z Z a1 fun _ _ ak=>?_
  refine G ?_
  refine Zw (E:=Gg) ad A43.h Z Z Z ak ?_
  intro _ a2
  obtain rfl:=QH.1 a2
  refine G ?_
  refine DT (cs:=[O 0,O 0]) ad Z43 Z Z fun z _ _=>?_
  refine G ?_
  refine Xst Z Z Z fun _ aq=>?_
  refine Qa x fun _ an x=>G ?_
  refine QO (fun k' s' f' w'=>(fun (_:Unit)=>∃ai,Gc.le a6 ai∧St w0 ai (Res.box j 75 [n,o,p,q,c,u,d,i,O (b.out.Makespan)]::Res.arr (Qk (Qc .i64)) 22 d b.out.States::Res.arr Ql 149 i b.out.Problems::Res.box z 43 [O (ab.At),O (ab.Job)]::H) w'∧Fx f' [(23,O (k':Int)),(0,Vq j),(1,O y),(4,O ((aa:Int))),(5,Vq z),(11,c),(12,O ((b.l.length:Int))),(13,O ((aa:Int))),(21,c),(22,O ((b.l.length:Int)))]) s') an ?_ ?_ ?_
  ·have aF:=aq.f3
   exact fq
  ·intro af _ _ _ _ _ ap m
   obtain ⟨a7,_,ae,_,rfl⟩:=ap
   refine Qa m fun _ a3 m=>G ?_
   refine Jv Z Z Z a3 fun _ _ al=>?_
   refine G ?_
   refine Zw (E:=Gg) ae A43.h Z Z Z al ?_
   intro _ a4
   obtain rfl:=QH.1 a4
   refine G ?_
   refine DT (cs:=[O 0,O 0]) ae Z43 Z Z fun _ _ _=>?_
   refine G ?_
   refine Xst Z Z Z fun _ _=>?_
   refine Qa m fun ac a m=>g ?_
   refine Zc (QL (M:=fun f' w'=>(fun (ac:Bool)=>∃aj,Gc.le a7 aj∧St w0 aj (Res.box j 75 [n,o,p,q,c,u,d,i,O (b.out.Makespan)]::Res.arr (Qk (Qc .i64)) 22 d b.out.States::Res.arr Ql 149 i b.out.Problems::Res.box z 43 [O (ab.At),O (ab.Job)]::H) w'∧Fx f' [(0,Vq j),(1,O y),(4,O ((aa:Int))),(5,Vq z),(6,O ((af:Int))),(11,c),(12,O ((b.l.length:Int))),(13,O ((aa:Int))),(21,c),(22,O ((b.l.length:Int))),(23,O ((af:Int))),(67,Vb ac)]) ac) ?_ ?_)
   ·refine G ?_
    refine Qe a (fun ar a=>?_) fun ar a=>?_
    ·refine G ?_
     refine Qe a (fun au a=>?_) fun au a=>?_
     ·refine G ?_
      refine Qe a (fun av a=>?_) fun av a=>?_
      ·refine G ?_
       refine Qe a (fun aw a=>?_) fun aw a=>?_
       ·refine Qa a fun _ a5 a=>G ?_
        refine Tc Z Z Z Z (Qcc a5 hq rq rq rq rq rq rq).r ?_
        rintro _ _ ⟨_,_,_,rfl⟩
        refine G ?_
        refine Qe a (fun ax a=>?_) fun ax a=>?_
        ·cases a
         refine G ?_
         exact fq
        refine G ?_
        refine Qe a (fun ay a=>?_) fun ay a=>?_
        ·cases a
         refine G ?_
         exact fq
        cases a
        refine G ?_
        exact fq
       refine G ?_
       refine Qe a (fun az a=>?_) fun az a=>?_
       ·cases a
        refine G ?_
        exact fq
       cases a
       refine G ?_
       exact fq
      cases a
      refine G ?_
      exact fq
     cases a
     refine G ?_
     exact fq
    cases a
    refine G ?_
    exact fq
   rintro _ _ ⟨_,_,_,_,rfl⟩
   refine G ?_
   refine Qe m (fun a0 m=>?_) fun a0 m=>?_
   ·refine G ?_
    cases m
   cases m
   refine G ?_
   exact fq
  rintro _ _ ⟨_,_,_,_,rfl⟩
  cases x
  refine G ?_
  exact fq
 rintro _ _ ⟨_,_,_,_,rfl⟩
 cases hm
 refine G ?_
 exact ⟨_,Qlt Z,fq⟩
instance A78:ATy Tryz.prog 78 true 3:=⟨by kernel_rfl⟩
theorem Qad {a:Gt} {d:Gf} {i:Nat} {j k m n o p f g:Value} {r:Job} (hm:JY a d=some r) (hS:St w0 s (Res.box i 75 [j,k,m,n,o,p,f,g,O (a.out.Makespan)]::Res.arr (Qk (Qc .i64)) 22 f a.out.States::Res.arr Ql 149 g a.out.Problems::H) w) (ao:Ga (Qc .i64) s j a.t.Vars) (ap:Ga (Qc .i64) s k a.t.Init) (aq:Ga Gd s m a.t.Goal) (ab:Ga Gw s n a.t.Jobs) (ac:Ga Gg s o a.l) (ar:Ga Gi s p a.out.Events) :
  Cs Tryz.prog 67 #[Value.pointer (some ⟨i,0,none⟩),Value.agg #[O (d.At),O (d.Launch),Value.bool (d.End)]] w r fun v w'=>fun (c:Job)=>∃b u x y z aa,Gc.le s b∧St w0 b (Res.box i 75 [j,k,m,n,o,p,f,g,O (a.out.Makespan)]::Res.arr (Qk (Qc .i64)) 22 f a.out.States::Res.arr Ql 149 g a.out.Problems::H) w'∧v=Value.agg #[Value.string (c.Name),O (c.Duration),u,x,y,z,aa]∧Ga Gd b u c.Start∧Ga Gd b x c.Over∧Ga Gd b y c.End∧Ga Gd b z c.AtStart∧Ga Gd b aa c.AtEnd:=by
 unfold JY at hm
 refine Qh Tryz.func67 Z Z (G ?_)
 refine JV Z Z fun _ _ af=>?_
 refine G ?_
 refine DT (cs:=[Value.string (⟨#[]⟩),O 0,Vn,Vn,Vn,Vn,Vn]) af Z85 Z Z fun _ _ ag=>?_
 refine G ?_
 refine QT (n0:=16) (qs 0 16 .done) JQ ?_
 have q:=ag.drew
 refine Qa hm fun an ai hm=>G ?_
 refine Qy S27.h Z Z Z ac ai fun _ _ ad _=>?_
 refine ⟨Z,G ?_⟩
 refine Zw (E:=(Qc .i64)) q A3.h Z Z Z (ad.sub (Sub.iso (Sub.snd (Sub.refl _) Z)) Z) ?_
 intro am aj
 obtain rfl:am=O (an.Job):=Qo.1 aj
 refine ⟨Z,Qa hm fun _ ak hm=>G ?_⟩
 refine Qy S24.h Z Z Z ab ak fun _ _ ae _=>?_
 refine ⟨Z,G ?_⟩
 refine Zw (E:=Gw) q A85.h Z Z Z ae ?_
 intro _ al
 obtain ⟨_,_,_,_,_,rfl,_,_,_,_,_⟩:=K9.1 al
 refine ⟨Z,G ?_⟩
 refine Xst Z Z Z ?_
 intro _ ah
 cases hm
 refine G ?_
 exact ⟨_,Qls Z ⟨_,_,Z,Qdn (ah) A85.h⟩,fq⟩
theorem YB {a:Job} {j:Bool} {d k f g i:Value} {r:(List Gj)×(List Gj)} (hm:Qae a j=some r) (hS:St w0 s (H) w) (n:Ga Gd s d a.Start) (y:Ga Gd s k a.Over) (o:Ga Gd s f a.End) (p:Ga Gd s g a.AtStart) (q:Ga Gd s i a.AtEnd) :
  Cs Tryz.prog 68 #[Value.agg #[Value.string (a.Name),O (a.Duration),d,k,f,g,i],Value.bool (j)] w r fun v w'=>J5 fun (u x:List Gj)=>∃c l m,Gc.le s c∧St w0 c (H) w'∧v=Value.tuple #[l,m]∧Ga Gd c l u∧Ga Gd c m x:=by
 unfold Qae at hm
 refine Qh Tryz.func68 Z Z (G ?_)
 refine JV Z Z fun _ _ b=>?_
 refine G ?_
 refine Qe hm (fun t hm=>?_) fun t hm=>?_
 ·refine G ?_
  refine QT (n0:=5) (qs 0 5 .done) JQ (G ?_)
  refine Zn (b.drew) A23.h Z Z Z ⟨Z,G ?_⟩
  refine Zn (b.drew) A23.h Z Z Z ⟨Z,?_⟩
  cases hm
  refine G ?_
  exact ⟨_,Qcw Z,⟨s,f,i,(Zv _),(b.drew).drop,(Qxd Z Z),o,q⟩⟩
 refine G ?_
 refine QT (n0:=5) (qs 0 5 .done) JQ (G ?_)
 refine Zn (b.drew) A23.h Z Z Z ⟨Z,G ?_⟩
 refine Zn (b.drew) A23.h Z Z Z ⟨Z,?_⟩
 cases hm
 refine G ?_
 exact ⟨_,Qcw Z,⟨s,d,g,(Zv _),(b.drew).drop,(Qxd Z Z),n,p⟩⟩
theorem Qb6 {d:(List Gj)} {l:(List Gj)} {j b:Value} {r:Int} (hm:KD d l=some r) (hS:St w0 s (H) w) (aq:Ga Gd s j d) (ar:Ga Gd s b l) :
  Cv Tryz.prog 115 #[j,b] w0 w s H r fun ap=>O ap:=by
 unfold KD at hm
 refine Qh Tryz.func115 Z Z (Qa hm fun _ ab hm=>G ?_)
 refine QO (fun k' s' f' w'=>(fun (_:Unit)=>∃t,Gc.le s t∧St w0 t (H) w'∧Fx f' [(12,O (k':Int)),(1,b),(5,O ((-1))),(10,j),(11,O ((d.length:Int)))]) s') ab ?_ ?_ ?_
 ·exact fq
 ·intro p _ _ _ _ _ ad i
  obtain ⟨an,_,n,_,rfl⟩:=ad
  refine Qa i fun c aj i=>G ?_
  refine Jv Z Z Z aj fun _ _ z=>?_
  refine G ?_
  refine Zw (E:=Gd) n A82.h Z Z Z z ?_
  intro _ ak
  obtain rfl:=J2.1 ak
  refine G ?_
  refine DT (cs:=[O 0,O 0]) n Z82 Z Z fun m _ _=>?_
  refine G ?_
  refine Xst Z Z Z fun _ _=>?_
  refine Qa i fun _ ac i=>G ?_
  refine QO (fun k' s' f' w'=>(fun (_:Unit)=>∃u,Gc.le an u∧St w0 u (Res.box m 82 [O (c.Var),O (c.Val)]::H) w'∧Fx f' [(18,O (k':Int)),(1,b),(5,O ((-1))),(7,Vq m),(10,j),(11,O ((d.length:Int))),(12,O ((p:Int))),(16,b),(17,O ((l.length:Int)))]) s') ac ?_ ?_ ?_
  ·exact fq
  ·intro ai _ _ _ _ _ ae a
   obtain ⟨ao,_,o,_,rfl⟩:=ae
   refine Qa a fun y al a=>G ?_
   refine Jv Z Z Z al fun _ _ aa=>?_
   refine G ?_
   refine Zw (E:=Gd) o A82.h Z Z Z aa ?_
   intro _ am
   obtain rfl:=J2.1 am
   refine G ?_
   refine DT (cs:=[O 0,O 0]) o Z82 Z Z fun _ _ _=>?_
   refine G ?_
   refine Xst Z Z Z fun _ _=>?_
   refine g ?_
   refine Zc (QL (M:=fun f' w'=>∃x,Gc.le ao x∧St w0 x (Res.box m 82 [O (c.Var),O (c.Val)]::H) w'∧Fx f' [(1,b),(5,O ((-1))),(7,Vq m),(10,j),(11,O ((d.length:Int))),(12,O ((p:Int))),(16,b),(17,O ((l.length:Int))),(18,O ((ai:Int))),(36,Vb (((decide (c.Var=y.Var)) && ((decide ((-1)<0)) ||decide (c.Var<(-1))))))]) ?_ ?_)
   ·refine G ?_
    rcases tf (decide (c.Var=y.Var)) with af |af
    ·refine G ?_
     rcases tf (decide ((-1)<0)) with ag |ag
     ·refine G ?_
      exact fq
     refine G ?_
     exact fq
    refine G ?_
    exact fq
   rintro _ _ ⟨_,_,_,_,rfl⟩
   refine G ?_
   refine Qe a (fun ah a=>?_) fun ah a=>?_
   ·refine G ?_
    cases a
   cases a
   refine G ?_
   exact fq
  rintro _ _ ⟨_,_,_,_,rfl⟩
  cases i
  refine G ?_
  exact fq
 rintro _ _ ⟨_,_,_,_,rfl⟩
 cases hm
 refine G ?_
 exact fr
theorem Qgd {a:Job} {m:Bool} {b:Job} {n:Bool} {u x y z aa ab ac ad ae af:Value} {r:Int} (hm:YL a m b n=some r) (hS:St w0 s (H) w) (ag:Ga Gd s u a.Start) (ah:Ga Gd s x a.Over) (ai:Ga Gd s y a.End) (aj:Ga Gd s z a.AtStart) (ak:Ga Gd s aa a.AtEnd) (aC:Ga Gd s ab b.Start) (aD:Ga Gd s ac b.Over) (aE:Ga Gd s ad b.End) (aF:Ga Gd s ae b.AtStart) (aG:Ga Gd s af b.AtEnd) :
  Cv Tryz.prog 66 #[Value.agg #[Value.string (a.Name),O (a.Duration),u,x,y,z,aa],Value.bool (m),Value.agg #[Value.string (b.Name),O (b.Duration),ab,ac,ad,ae,af],Value.bool (n)] w0 w s H r fun aB=>O aB:=by
 unfold YL at hm
 refine Qh Tryz.func66 Z Z (G ?_)
 refine JV Z Z fun _ _ _=>?_
 refine G ?_
 refine JV Z Z fun _ _ ao=>?_
 refine G ?_
 refine Tc Z Z Z Z (YB (YA a m) ao ag ah ai aj ak).r ?_
 rintro _ _ ⟨_,_,_,_,ap,rfl,_,_⟩
 refine G ?_
 refine Tc Z Z Z Z (YB (YA b n) ap rq rq rq rq rq).r ?_
 rintro _ _ ⟨_,_,_,_,aq,rfl,_,a8⟩
 refine Qa hm fun i a3 hm=>G ?_
 refine Tc Z Z Z Z (Qb6 a3 aq rq a8).r ?_
 rintro _ _ ⟨_,_,ar,rfl⟩
 refine Qa hm fun j a4 hm=>G ?_
 refine Tc Z Z Z Z (Qb6 a4 ar rq rq).r ?_
 rintro _ _ ⟨_,_,au,rfl⟩
 refine Qa hm fun l a5 hm=>G ?_
 refine Tc Z Z Z Z (Qb6 a5 au rq rq).r ?_
 rintro _ _ ⟨_,_,av,rfl⟩
 refine G ?_
 refine Qt (Te:=3) (cs:=[O i,O j,O l]) av Z (Qb (Qd Z Z) (Qb (Qd Z Z) (Qb (Qd Z Z) Qg))) ?_
 intro o _ aw
 obtain ⟨a9,_,ax,_⟩:=(St.boxArr (E:=(Qc .i64)) (xs:=[i,j,l]) aw ⟨[_],_,rfl,rfl,[_],_,rfl,rfl,[_],_,rfl,rfl,rfl⟩ (by simp [maxLen])).freezeArr
 refine Qa hm fun _ am hm=>G ?_
 refine QO (fun k' s' f' w'=>(fun (_:Unit)=>∃q,Gc.le a9 q∧St w0 q (H) w'∧Fx f' [(39,O (k':Int)),(13,O ((-1))),(37,Vs (some ⟨o,0,none⟩) 3 3),(38,O (([i,j,l].length:Int)))]) s') am ?_ ?_ ?_
 ·have aH:=ax.drop
  exact fq
 ·intro a2 _ _ _ _ _ an c
  obtain ⟨aA,_,ay,_,rfl⟩:=an
  refine Qa c fun d a6 c=>G ?_
  refine Jv Z Z Z a6 fun _ _ al=>?_
  refine G ?_
  refine Zw (E:=(Qc .i64)) ay A3.h Z Z Z al ?_
  intro _ a7
  obtain rfl:=Qo.1 a7
  refine g ?_
  refine Zc (QL (M:=fun f' w'=>∃t,Gc.le aA t∧St w0 t (H) w'∧Fx f' [(13,O ((-1))),(15,O d),(37,Vs (some ⟨o,0,none⟩) 3 3),(38,O (([i,j,l].length:Int))),(39,O ((a2:Int))),(53,Vb (((decide (0<=d)) && ((decide ((-1)<0)) ||decide (d<(-1))))))]) ?_ ?_)
  ·refine G ?_
   rcases tf (decide (0<=d)) with az |az
   ·refine G ?_
    rcases tf (decide ((-1)<0)) with a0 |a0
    ·refine G ?_
     exact fq
    refine G ?_
    exact fq
   refine G ?_
   exact fq
  rintro _ _ ⟨_,_,_,_,rfl⟩
  refine G ?_
  refine Qe c (fun a1 c=>?_) fun a1 c=>?_
  ·refine G ?_
   cases c
  cases c
  refine G ?_
  exact fq
 rintro _ _ ⟨_,_,_,_,rfl⟩
 cases hm
 refine G ?_
 exact fr
theorem Qbk {b:(List Gj)} {m:(List Int)} {d g:Value} {r:(List Gj)} (hm:Kx b m=some r) (hS:St w0 s (H) w) (ae:Ga Gd s d b) (af:Ga (Qc .i64) s g m) :
  Cs Tryz.prog 26 #[d,g] w r fun v w'=>fun (ad:List Gj)=>∃c n,Gc.le s c∧St w0 c (H) w'∧v=n∧Ga Gd c n ad:=by
 unfold Kx at hm
 refine Qh Tryz.func26 Z Z (Qa hm fun _ p hm=>G ?_)
 refine QO (fun k' s' f' w'=>(fun (_:Unit)=>∃l,Gc.le s l∧St w0 l (H) w'∧Fx f' [(10,O (k':Int)),(1,g),(5,Vn),(8,d),(9,O ((b.length:Int)))]) s') p ?_ ?_ ?_
 ·exact fq
 ·intro _ _ _ _ _ _ q a
  obtain ⟨_,_,j,_,rfl⟩:=q
  refine Qa a fun i z a=>G ?_
  refine Jv Z Z Z z fun _ _ o=>?_
  refine G ?_
  refine Zw (E:=Gd) j A82.h Z Z Z o ?_
  intro _ aa
  obtain rfl:=J2.1 aa
  refine G ?_
  refine DT (cs:=[O 0,O 0]) j Z82 Z Z fun _ _ _=>?_
  refine G ?_
  refine Xst Z Z Z fun _ t=>?_
  refine G ?_
  refine Qt (Te:=82) (cs:=[O (i.Var),O (i.Val)]) t Z (Qb (Qd Z Z) Qg) fun _ _ u=>?_
  refine G ?_
  obtain ⟨_,_,x,ac⟩:=(St.boxArr (E:=Gd) (xs:=[i]) u ⟨[_,_],_,rfl,⟨[_],_,rfl,rfl,rfl⟩,rfl⟩ (by simp [maxLen])).freezeArr
  refine Qa a fun _ ab a=>G ?_
  refine Tc Z Z Z Z (YK ab x ac rq).r ?_
  rintro _ _ ⟨_,_,_,rfl⟩
  refine G ?_
  refine Qe a (fun y a=>?_) fun y a=>?_
  ·refine G ?_
   cases a
  cases a
  refine G ?_
  exact fq
 rintro _ _ ⟨_,_,_,_,rfl⟩
 cases hm
 refine G ?_
 exact fr
theorem QcC {b:(List Gf)} {g:Value} {r:(List Gf)} (hm:JI b=some r) (hS:St w0 s (H) w) (c:Ga Gi s g b) :
  Cs Tryz.prog 116 #[g] w r fun v w'=>fun (q:List Gf)=>∃f i,Gc.le s f∧St w0 f (Res.arr Gi 78 i q::H) w'∧v=i:=by
 unfold JI at hm
 refine Qh Tryz.func116 Z Z ?_
 obtain ⟨j,_,_,k,n⟩:=c.nilShape
 refine G ?_
 refine Qa7 Tryz.underlying35 Z k Z (G ?_)
 rcases tf (j.isNone) with a |a
 ·have o:=n a
  replace hm:=(show (some [])=((app 24 [] b).bind fun d=>some d) from by simp [o,app]).trans hm
  refine QbR ((Zx a)) ?_
  cases hm
  refine G ?_
  refine ⟨_,Qd0 Z,?_⟩
  have t:=hS.nilArr Gi 78
  exact fq
 refine QaT ((Zx a)) (G ?_)
 refine Qt (Te:=78) (cs:=[]) hS Z Qg fun _ _ l=>?_
 refine G ?_
 have m:=St.boxArr (E:=Gi) (xs:=[]) l rfl (by simp [maxLen])
 refine Qa hm fun d p hm=>G ?_
 refine JH (E:=Gi) (ys:=b) m S35.h Z78 Z (by decide) Z Z Z c p ?_
 intro _ _ _
 cases hm
 refine G ?_
 exact fr
instance A73:ATy Tryz.prog 73 false 1:=⟨by kernel_rfl⟩
theorem QyB:(Tryz.f118.name == "runtime.NumGoroutine")=false:=by kernel_rfl
theorem QdL {f g:Gf} {a:Gt} {u k:Nat} {aa ab ac ad ae af m n:Value} {r:Int} (hm:K4 f g a=some r) (hS:St w0 s (Res.box u 73 [Value.pointer (some ⟨k,0,none⟩)]::Res.box k 75 [aa,ab,ac,ad,ae,af,m,n,O (a.out.Makespan)]::Res.arr (Qk (Qc .i64)) 22 m a.out.States::Res.arr Ql 149 n a.out.Problems::H) w) (ay:Ga (Qc .i64) s aa a.t.Vars) (az:Ga (Qc .i64) s ab a.t.Init) (a0:Ga Gd s ac a.t.Goal) (a1:Ga Gw s ad a.t.Jobs) (ag:Ga Gg s ae a.l) (a2:Ga Gi s af a.out.Events) :
  Cv Tryz.prog 118 #[Value.agg #[O (f.At),O (f.Launch),Value.bool (f.End)],Value.agg #[O (g.At),O (g.Launch),Value.bool (g.End)],Value.pointer (some ⟨u,0,none⟩)] w0 w s (Res.box u 73 [Value.pointer (some ⟨k,0,none⟩)]::Res.box k 75 [aa,ab,ac,ad,ae,af,m,n,O (a.out.Makespan)]::Res.arr (Qk (Qc .i64)) 22 m a.out.States::Res.arr Ql 149 n a.out.Problems::H) r fun ax=>O ax:=by
 unfold K4 at hm
 refine Qh Tryz.func118 Z Z (G ?_)
 refine JV Z Z fun _ _ _=>?_
 refine G ?_
 refine JV Z Z fun _ _ aj=>?_
 refine G ?_
 refine QT (n0:=28) (.q 0 (.q 1 (.q 3 (.q 4 (qs 7 18 (.e 2 [3,4,7,8,9,10,11,12,13,14,15,16,17,18,19,20,21,22,23,24] (.e 5 [7,8,9,10,11,12,13,14,15,16,17,18,19,20,21,22,23,24] (.e 6 [7,8,9,10,11,12,13,14,15,16,17,18,19,20,21,22,23,24] (.e 25 [] (.e 26 [] (.e 27 [] .done))))))))))) JQ ?_
 have z:=aj.drew
 refine Qa hm fun o an hm=>G ?_
 refine Qy S27.h Z Z Z ag an fun _ _ i x=>?_
 refine ⟨Z,G ?_⟩
 refine Zw (E:=(Qc .i64)) z A3.h Z Z Z (i.sub (Sub.iso (Sub.snd (Sub.refl _) Z)) Z) ?_
 intro av ao
 obtain rfl:av=O (o.Job):=Qo.1 ao
 refine ⟨Z,Qa hm fun p ap hm=>G ?_⟩
 refine Qy S27.h Z Z Z ag ap fun _ _ j y=>?_
 refine ⟨Z,G ?_⟩
 refine Zw (E:=(Qc .i64)) z A3.h Z Z Z (j.sub (Sub.iso (Sub.snd (Sub.refl _) Z)) Z) ?_
 intro aw aq
 obtain rfl:aw=O (p.Job):=Qo.1 aq
 refine ⟨Z,G ?_⟩
 refine Tc Z Z Z Z (QaX (QaW f.End) z).r ?_
 rintro _ _ ⟨_,ah,b,rfl⟩
 refine ⟨(Qm (Q8 Z Z (Zp F78_2.h Z Z Z ⟨Z,Z⟩)) (Qm (Q8 Z Z (Zn (b) A4.h Z Z Z ⟨Z,Z⟩)) (Qm (Q8 Z Z (Zn (b.f2) A73.h Z Z Z ⟨Z,Z⟩)) (Qm (Q8 Z Z (Jt Z Z ⟨Z,Z⟩)) (Qm (Q8 Z Z (Zp F75_1.h Z Z Z ⟨Z,Z⟩)) (Qm (Q8 Z Z (Zn (b.f3) A27.h Z Z Z ⟨Z,Z⟩)) (Qm (Q8 Z Z (Zp F78_1.h Z Z Z ⟨Z,Z⟩)) (Qm (Q8 Z Z (Zn (b.f1) A3.h Z Z Z ⟨Z,Z⟩)) (Qm (Q8 Z Z (Yk Z Z Z x ⟨Z,Z⟩)) (Qm (Q8 Z Z (Zp F43_1.h Z Z Z ⟨Z,Z⟩)) (Qm (Q8 Z Z (Zw (E:=(Qc .i64)) b A3.h Z Z Z ((i.sub (Sub.iso (Sub.snd (Sub.refl _) Z)) Z).mono ah) (fun _ q=>⟨Z,Qo.1 q⟩))) (Qm (Q8 Z Z (Zn (b.f2) A73.h Z Z Z ⟨Z,Z⟩)) (Qm (Q8 Z Z (Jt Z Z ⟨Z,Z⟩)) (Qm (Q8 Z Z (Zp F75_1.h Z Z Z ⟨Z,Z⟩)) (Qm (Q8 Z Z (Zn (b.f3) A27.h Z Z Z ⟨Z,Z⟩)) (Qm (Q8 Z Z (Zp F78_1.h Z Z Z ⟨Z,Z⟩)) (Qm (Q8 Z Z (Zn (b) A3.h Z Z Z ⟨Z,Z⟩)) (Qm (Q8 Z Z (Yk Z Z Z y ⟨Z,Z⟩)) (Qm (Q8 Z Z (Zp F43_1.h Z Z Z ⟨Z,Z⟩)) (Qm (Q8 Z Z (Zw (E:=(Qc .i64)) b A3.h Z Z Z ((j.sub (Sub.iso (Sub.snd (Sub.refl _) Z)) Z).mono ah) (fun _ q=>⟨Z,Qo.1 q⟩))) K7)))))))))))))))))))),G ?_⟩
 refine Tc Z Z Z Z (QaX (QaW g.End) b).r ?_
 rintro _ _ ⟨_,_,c,rfl⟩
 refine ⟨(Qm (Q8 Z Z (Zn (c.f2) A73.h Z Z Z ⟨Z,Z⟩)) (Qm (Q8 Z Z (Jt Z Z ⟨Z,Z⟩)) (Qm (Q8 Z Z (Zp F75_1.h Z Z Z ⟨Z,Z⟩)) (Qm (Q8 Z Z (Zn (c.f3) A27.h Z Z Z ⟨Z,Z⟩)) (Qm (Q8 Z Z (Zp F78_1.h Z Z Z ⟨Z,Z⟩)) (Qm (Q8 Z Z (Zn (c.f1) A3.h Z Z Z ⟨Z,Z⟩)) (Qm (Q8 Z Z (Yk Z Z Z x ⟨Z,Z⟩)) (Qm (Q8 Z Z (Zp F43_1.h Z Z Z ⟨Z,Z⟩)) (Qm (Q8 Z Z (Zw (E:=(Qc .i64)) c A3.h Z Z Z ((i.sub (Sub.iso (Sub.snd (Sub.refl _) Z)) Z).mono lq) (fun _ q=>⟨Z,Qo.1 q⟩))) (Qm (Q8 Z Z (Zn (c.f2) A73.h Z Z Z ⟨Z,Z⟩)) (Qm (Q8 Z Z (Jt Z Z ⟨Z,Z⟩)) (Qm (Q8 Z Z (Zp F75_1.h Z Z Z ⟨Z,Z⟩)) (Qm (Q8 Z Z (Zn (c.f3) A27.h Z Z Z ⟨Z,Z⟩)) (Qm (Q8 Z Z (Zp F78_1.h Z Z Z ⟨Z,Z⟩)) (Qm (Q8 Z Z (Zn (c) A3.h Z Z Z ⟨Z,Z⟩)) (Qm (Q8 Z Z (Yk Z Z Z y ⟨Z,Z⟩)) (Qm (Q8 Z Z (Zp F43_1.h Z Z Z ⟨Z,Z⟩)) (Qm (Q8 Z Z (Zw (E:=(Qc .i64)) c A3.h Z Z Z ((j.sub (Sub.iso (Sub.snd (Sub.refl _) Z)) Z).mono lq) (fun _ q=>⟨Z,Qo.1 q⟩))) K7)))))))))))))))))),G ?_⟩
 refine Tc Z Z Z (Zi Z (Zi Z Jh)) (Jq (Jj (Q9 f.End) (Q9 g.End)) c).r ?_
 rintro _ _ ⟨_,_,d,rfl⟩
 refine ⟨(Qm (Q8 Z Z (Zn (d.f2) A73.h Z Z Z ⟨Z,Z⟩)) (Qm (Q8 Z Z (Jt Z Z ⟨Z,Z⟩)) (Qm (Q8 Z Z (Zp F75_1.h Z Z Z ⟨Z,Z⟩)) (Qm (Q8 Z Z (Zn (d.f3) A27.h Z Z Z ⟨Z,Z⟩)) (Qm (Q8 Z Z (Zp F78_1.h Z Z Z ⟨Z,Z⟩)) (Qm (Q8 Z Z (Zn (d.f1) A3.h Z Z Z ⟨Z,Z⟩)) (Qm (Q8 Z Z (Yk Z Z Z x ⟨Z,Z⟩)) (Qm (Q8 Z Z (Zp F43_1.h Z Z Z ⟨Z,Z⟩)) (Qm (Q8 Z Z (Zw (E:=(Qc .i64)) d A3.h Z Z Z ((i.sub (Sub.iso (Sub.snd (Sub.refl _) Z)) Z).mono lq) (fun _ q=>⟨Z,Qo.1 q⟩))) (Qm (Q8 Z Z (Zn (d.f2) A73.h Z Z Z ⟨Z,Z⟩)) (Qm (Q8 Z Z (Jt Z Z ⟨Z,Z⟩)) (Qm (Q8 Z Z (Zp F75_1.h Z Z Z ⟨Z,Z⟩)) (Qm (Q8 Z Z (Zn (d.f3) A27.h Z Z Z ⟨Z,Z⟩)) (Qm (Q8 Z Z (Zp F78_1.h Z Z Z ⟨Z,Z⟩)) (Qm (Q8 Z Z (Zn (d) A3.h Z Z Z ⟨Z,Z⟩)) (Qm (Q8 Z Z (Yk Z Z Z y ⟨Z,Z⟩)) (Qm (Q8 Z Z (Zp F43_1.h Z Z Z ⟨Z,Z⟩)) (Qm (Q8 Z Z (Zw (E:=(Qc .i64)) d A3.h Z Z Z ((j.sub (Sub.iso (Sub.snd (Sub.refl _) Z)) Z).mono lq) (fun _ q=>⟨Z,Qo.1 q⟩))) K7)))))))))))))))))),G ?_⟩
 refine Tc Z Z Z Z (Jq (Jj o.Job p.Job) d).r ?_
 rintro _ _ ⟨_,_,ak,rfl⟩
 refine ⟨Yd,G ?_⟩
 refine Qt (Te:=3) (cs:=[O ((Qx (Q9 f.End) (Q9 g.End))),O ((Qx o.Job p.Job))]) ak Z (Qb (Qd Z Z) (Qb (Qd Z Z) Qg)) fun _ _ al=>?_
 refine ⟨Yd,?_⟩
 obtain ⟨_,_,am,au⟩:=(St.boxArr (E:=(Qc .i64)) (xs:=[(Qx (Q9 f.End) (Q9 g.End)),(Qx o.Job p.Job)]) al ⟨[_],_,rfl,rfl,[_],_,rfl,rfl,rfl⟩ (by simp [maxLen])).freezeArr
 refine Qa hm fun _ ar hm=>G ?_
 refine Tc Z Z Z Z (Qcr ar am au).r ?_
 rintro _ _ ⟨_,_,_,rfl⟩
 refine ⟨Yd,?_⟩
 cases hm
 refine G ?_
 exact fr
theorem Yq {an:(List Gf)} {ac ad:Int} {a:Gt} {n:Value} {m i:Nat} {u x y z aa ab j k:Value} {r:(List Gf)} (hm:QA an ac ad a=some r) (hS:St w0 s (Res.arr Gi 78 n an::Res.box m 73 [Value.pointer (some ⟨i,0,none⟩)]::Res.box i 75 [u,x,y,z,aa,ab,j,k,O (a.out.Makespan)]::Res.arr (Qk (Qc .i64)) 22 j a.out.States::Res.arr Ql 149 k a.out.Problems::H) w) (aZ:Ga (Qc .i64) s u a.t.Vars) (ba:Ga (Qc .i64) s x a.t.Init) (bb:Ga Gd s y a.t.Goal) (bc:Ga Gw s z a.t.Jobs) (bd:Ga Gg s aa a.l) (be:Ga Gi s ab a.out.Events) :
  Cs Tryz.prog 181 #[n,O ac,O ad,Value.func (.func 118) #[] #[Value.pointer (some ⟨m,0,none⟩)]] w r fun v w'=>fun (aL:List Gf)=>∃a1,Gc.le s a1∧St w0 a1 (Res.arr Gi 78 n aL::Res.box m 73 [Value.pointer (some ⟨i,0,none⟩)]::Res.box i 75 [u,x,y,z,aa,ab,j,k,O (a.out.Makespan)]::Res.arr (Qk (Qc .i64)) 22 j a.out.States::Res.arr Ql 149 k a.out.Problems::H) w'∧v=Value.tuple #[]:=by
 unfold QA at hm
 refine Qh Tryz.func181 Z Z (Q6 hm fun _ a5 _ aH aD=>Zc (Zd (g ?_)))
 refine QeQ (fun s' f' w'=>(J5 fun (af:Int) (a0:List Gf)=>∃a2,Gc.le s a2∧St w0 a2 (Res.arr Gi 78 n a0::Res.box m 73 [Vq i]::Res.box i 75 [u,x,y,z,aa,ab,j,k,O (a.out.Makespan)]::Res.arr (Qk (Qc .i64)) 22 j a.out.States::Res.arr Ql 149 k a.out.Problems::H) w'∧Fx f' [(0,n),(1,O ac),(2,O ad),(3,Value.func (.func 118) #[] #[Vq m]),(8,O af)]) s') a5 ?_ ?_ ?_
 ·have bf:=hS.f4
  exact fq
 ·intro aV _ _ _ a7 c aJ
  obtain ⟨af,a0⟩:=aV
  replace c:=QC c
  obtain ⟨aT,_,aB,_,rfl⟩:=a7
  refine G ?_
  refine Qe c (fun ax c=>?_) fun ax c=>?_
  ·refine Q6 c fun _ a6 _ aI aE=>W_c Z ax (QtQ (Yx (Ze (Zc (QaU (Zc (Zd (g ?_))))))))
   refine QeQ (fun s' f' w'=>(J5 fun (aj:Int) (ak:List Gf)=>∃a3,Gc.le aT a3∧St w0 a3 (Res.arr Gi 78 n ak::Res.box m 73 [Vq i]::Res.box i 75 [u,x,y,z,aa,ab,j,k,O (a.out.Makespan)]::Res.arr (Qk (Qc .i64)) 22 j a.out.States::Res.arr Ql 149 k a.out.Problems::H) w'∧Fx f' [(0,n),(1,O ac),(2,O ad),(3,Value.func (.func 118) #[] #[Vq m]),(8,O af),(9,O aj)]) s') a6 ?_ ?_ ?_
   ·have bg:=aB.f4
    exact fq
   ·intro aW _ _ _ a8 b aK
    obtain ⟨aj,ak⟩:=aW
    replace b:=QC b
    obtain ⟨aU,_,aC,_,rfl⟩:=a8
    refine Qa b fun am d b=>Zc (Zc (QL (M:=fun f' w'=>(fun (am:Bool)=>∃a4,Gc.le aU a4∧St w0 a4 (Res.arr Gi 78 n ak::Res.box m 73 [Vq i]::Res.box i 75 [u,x,y,z,aa,ab,j,k,O (a.out.Makespan)]::Res.arr (Qk (Qc .i64)) 22 j a.out.States::Res.arr Ql 149 k a.out.Problems::H) w'∧Fx f' [(0,n),(1,O ac),(2,O ad),(3,Value.func (.func 118) #[] #[Vq m]),(8,O af),(9,O aj),(34,Vb am)]) am) ?_ ?_))
    ·refine QT (n0:=17) (qs 0 14 (.e 14 [] (.q 15 (.q 16 .done)))) JQ ?_
     have ae:=aC.drew
     refine G ?_
     refine Qe d (fun aF d=>?_) fun aF d=>?_
     ·refine Qa d fun _ ag d=>?_
      obtain ⟨_,_,ao⟩:=ae.arr_at ag
      refine G ?_
      refine Qi S35.h Z ao Z (Qj ag).1 (Qj ag).2.1 ⟨Z,G ?_⟩
      refine Qw (F:=Gi) (ae) ao A78.h Z Z Z ag (Sub.refl _) ?_
      intro _ aM
      obtain rfl:=Je.1 aM
      refine ⟨Z,Qa d fun _ ah d=>?_⟩
      obtain ⟨_,_,ap⟩:=ae.arr_at ah
      refine G ?_
      refine Qi S35.h Z ap Z (Qj ah).1 (Qj ah).2.1 ⟨Z,G ?_⟩
      refine Qw (F:=Gi) (ae) ap A78.h Z Z Z ah (Sub.refl _) ?_
      intro _ aN
      obtain rfl:=Je.1 aN
      refine ⟨Z,Qa d fun _ aO d=>G ?_⟩
      refine Qa1 Z Z Tryz.func118 Z QyB (Zi Z (Zi Z Jh)) Z ((QdL aO (((ae.f4).f4).f4).f4 rq rq rq rq rq rq).mono ?_)
      rintro _ _ ⟨_,rfl,_,_,_,rfl⟩
      refine ⟨_,Z,⟨Yd,?_⟩⟩
      cases d
      refine G ?_
      exact fq
     cases d
     refine G ?_
     exact fq
    rintro _ _ ⟨_,_,p,_,rfl⟩
    refine G ?_
    refine Qe b (fun aG b=>?_) fun aG b=>?_
    ·refine G ?_
     refine QT (n0:=16) (qs 0 15 (.e 15 [2,3,4] .done)) JQ (Qa b fun _ ai b=>?_)
     obtain ⟨_,_,aq⟩:=(p.drew).arr_at ai
     refine G ?_
     refine Qi S35.h Z aq Z (Qj ai).1 (Qj ai).2.1 ⟨Z,G ?_⟩
     refine Qw (F:=Gi) (p.drew) aq A78.h Z Z Z ai (Sub.refl _) ?_
     intro _ aP
     obtain rfl:=Je.1 aP
     refine ⟨Z,Qa b fun _ o b=>?_⟩
     obtain ⟨_,_,ar⟩:=(p.drew).arr_at o
     refine G ?_
     refine Qi S35.h Z ar Z (Qj o).1 (Qj o).2.1 ⟨Z,G ?_⟩
     refine Qw (F:=Gi) (p.drew) ar A78.h Z Z Z o (Sub.refl _) ?_
     intro _ aQ
     obtain rfl:=Je.1 aQ
     refine ⟨Z,?_⟩
     obtain ⟨_,_,au⟩:=(p.drew).arr_at o
     refine G ?_
     refine Qi S35.h Z au Z (Qj o).1 (Qj o).2.1 ⟨Z,Qa b fun _ aR b=>G ?_⟩
     refine JG p.drew au A78.h Z Z Z Z (Je.2 Z) aR fun _ aw=>?_
     refine ⟨Yd,Qa b fun _ al b=>?_⟩
     obtain ⟨_,_,av⟩:=aw.arr_at al
     refine G ?_
     refine Qi S35.h Z av Z (Qj al).1 (Qj al).2.1 (Qa b fun _ aS b=>G ?_)
     refine JG aw av A78.h Z Z Z Z (Je.2 Z) aS ?_
     intro _ _
     cases b
     refine G ?_
     exact ⟨_,Z,fq⟩
    cases b
    refine G ?_
    exact ⟨_, .inr (aK (by intro _ h;cases h)),fq⟩
   rintro _ _ ⟨aX,ay,a9⟩
   have c:=ay.elim (aI _) (aE _)
   clear ay
   obtain ⟨_,_⟩:=aX
   replace c:=QC c
   obtain ⟨_,_,_,_,rfl⟩:=a9
   cases c
   refine G ?_
   exact ⟨_,Z,fq⟩
  cases c
  refine G ?_
  exact ⟨_, .inr (aJ (by intro _ h;cases h)),fq⟩
 rintro _ _ ⟨aY,az,aA⟩
 have hm:=az.elim (aH _) (aD _)
 clear az
 obtain ⟨_,_⟩:=aY
 replace hm:=QC hm
 obtain ⟨_,_,_,_,rfl⟩:=aA
 refine ?_
 cases hm
 exact ⟨_,Qlt Z,fq⟩
theorem YS {z:(List Gf)} {y:Int} {a:Gt} {j:Value} {i b:Nat} {n o p q u x c d:Value} {r:(List Gf)} (hm:QU z y a=some r) (hS:St w0 s (Res.arr Gi 78 j z::Res.box i 73 [Value.pointer (some ⟨b,0,none⟩)]::Res.box b 75 [n,o,p,q,u,x,c,d,O (a.out.Makespan)]::Res.arr (Qk (Qc .i64)) 22 c a.out.States::Res.arr Ql 149 d a.out.Problems::H) w) (a0:Ga (Qc .i64) s n a.t.Vars) (a1:Ga (Qc .i64) s o a.t.Init) (a2:Ga Gd s p a.t.Goal) (a3:Ga Gw s q a.t.Jobs) (a4:Ga Gg s u a.l) (a5:Ga Gi s x a.out.Events) :
  Cs Tryz.prog 189 #[j,O y,Value.func (.func 118) #[] #[Value.pointer (some ⟨i,0,none⟩)]] w r fun v w'=>fun (aw:List Gf)=>∃ac,Gc.le s ac∧St w0 ac (Res.arr Gi 78 j aw::Res.box i 73 [Value.pointer (some ⟨b,0,none⟩)]::Res.box b 75 [n,o,p,q,u,x,c,d,O (a.out.Makespan)]::Res.arr (Qk (Qc .i64)) 22 c a.out.States::Res.arr Ql 149 d a.out.Problems::H) w'∧v=Value.tuple #[]:=by
 unfold QU at hm
 refine Qh Tryz.func189 Z Z (Q6 hm fun _ af _ aq am=>Zc (Zd (g ?_)))
 refine Zc (Zd (g ?_))
 refine Zc (QeQ (fun s' f' w'=>(fun (_:Unit)=>∃ad,Gc.le s ad∧St w0 ad (Res.arr Gi 78 j z::Res.box i 73 [Vq b]::Res.box b 75 [n,o,p,q,u,x,c,d,O (a.out.Makespan)]::Res.arr (Qk (Qc .i64)) 22 c a.out.States::Res.arr Ql 149 d a.out.Problems::H) w'∧Fx f' [(0,j),(1,O y),(2,Value.func (.func 118) #[] #[Vq i]),(6,O 20),(7,O 0),(8,O 20)]) s') af ?_ ?_ ?_)
 ·have a6:=hS.f4
  exact fq
 ·intro _ _ _ _ ah k au
  obtain ⟨_,_,_,_,rfl⟩:=ah
  refine G ?_
  refine Qe k (fun ao k=>?_) fun ao k=>?_
  ·refine G ?_
   cases k
  cases k
  refine G ?_
  exact ⟨_, .inr (au (by intro _ h;cases h)),fq⟩
 rintro _ _ ⟨_,aa,aj⟩
 have hm:=aa.elim (aq _) (am _)
 clear aa
 obtain ⟨_,_,_,_,rfl⟩:=aj
 refine Qa hm fun ax ay hm=>G ?_
 refine Tc Z Z Z Z (Yq ay hq rq rq rq rq rq rq).r ?_
 rintro _ _ ⟨az,_,al,rfl⟩
 refine Q6 hm fun _ ag _ ar an=>g ?_
 refine QeQ (fun s' f' w'=>(fun (_:Unit)=>∃ae,Gc.le az ae∧St w0 ae (Res.arr Gi 78 j ax::Res.box i 73 [Vq b]::Res.box b 75 [n,o,p,q,u,x,c,d,O (a.out.Makespan)]::Res.arr (Qk (Qc .i64)) 22 c a.out.States::Res.arr Ql 149 d a.out.Problems::H) w'∧Fx f' [(0,j),(1,O y),(2,Value.func (.func 118) #[] #[Vq i]),(6,O 20)]) s') ag ?_ ?_ ?_
 ·have a7:=al.f4
  exact fq
 ·intro _ _ _ _ ai m av
  obtain ⟨_,_,_,_,rfl⟩:=ai
  refine G ?_
  refine Qe m (fun ap m=>?_) fun ap m=>?_
  ·refine G ?_
   cases m
  cases m
  refine G ?_
  exact ⟨_, .inr (av (by intro _ h;cases h)),fq⟩
 rintro _ _ ⟨_,ab,ak⟩
 have hm:=ab.elim (ar _) (an _)
 clear ab
 obtain ⟨_,_,_,_,rfl⟩:=ak
 refine ?_
 cases hm
 exact ⟨_,Qlt Z,fq⟩
theorem YN {q:(List Gf)} {a:Gt} {g:Value} {f b:Nat} {i j k m n o c d:Value} {r:(List Gf)} (hm:QG q a=some r) (hS:St w0 s (Res.arr Gi 78 g q::Res.box f 73 [Value.pointer (some ⟨b,0,none⟩)]::Res.box b 75 [i,j,k,m,n,o,c,d,O (a.out.Makespan)]::Res.arr (Qk (Qc .i64)) 22 c a.out.States::Res.arr Ql 149 d a.out.Problems::H) w) (u:Ga (Qc .i64) s i a.t.Vars) (x:Ga (Qc .i64) s j a.t.Init) (y:Ga Gd s k a.t.Goal) (z:Ga Gw s m a.t.Jobs) (aa:Ga Gg s n a.l) (ab:Ga Gi s o a.out.Events) :
  Cs Tryz.prog 117 #[g,Value.func (.func 118) #[] #[Value.pointer (some ⟨f,0,none⟩)]] w r fun v w'=>fun (ac:List Gf)=>∃p,Gc.le s p∧St w0 p (Res.arr Gi 78 g ac::Res.box f 73 [Value.pointer (some ⟨b,0,none⟩)]::Res.box b 75 [i,j,k,m,n,o,c,d,O (a.out.Makespan)]::Res.arr (Qk (Qc .i64)) 22 c a.out.States::Res.arr Ql 149 d a.out.Problems::H) w'∧v=Value.tuple #[]:=by
 unfold QG at hm
 refine Qh Tryz.func117 Z Z (G ?_)
 refine QK (hS) S35.h Z Z (Qa hm fun _ ad hm=>G ?_)
 refine Tc Z Z Z Z (YS ad hq u x y z aa ab).r ?_
 rintro _ _ ⟨_,_,_,rfl⟩
 cases hm
 refine G ?_
 exact ⟨_,Qlt Z,fq⟩
theorem Qfn {a:Gt} {ar:(List Int)} {ao:(List Gf)} {d:Nat} {j m n o p u b c au av:Value} {r:(List Int)} (hm:Yn a ar ao=some r) (hS:St w0 s (Res.box d 75 [j,m,n,o,p,u,b,c,O (a.out.Makespan)]::Res.arr (Qk (Qc .i64)) 22 b a.out.States::Res.arr Ql 149 c a.out.Problems::H) w) (aU:Ga (Qc .i64) s j a.t.Vars) (aV:Ga (Qc .i64) s m a.t.Init) (aW:Ga Gd s n a.t.Goal) (aX:Ga Gw s o a.t.Jobs) (aY:Ga Gg s p a.l) (aZ:Ga Gi s u a.out.Events) (ba:Ga (Qc .i64) s au ar) (ay:Ga Gi s av ao) :
  Cs Tryz.prog 69 #[Value.pointer (some ⟨d,0,none⟩),au,av] w r fun v w'=>fun (aT:List Int)=>∃aj aw,Gc.le s aj∧St w0 aj (Res.box d 75 [j,m,n,o,p,u,b,c,O (a.out.Makespan)]::Res.arr (Qk (Qc .i64)) 22 b a.out.States::Res.arr Ql 149 c a.out.Problems::H) w'∧v=aw∧Ga (Qc .i64) aj aw aT:=by
 unfold Yn at hm
 refine Qh Tryz.func69 Z Z (G ?_)
 refine JV Z Z fun y _ a4=>?_
 refine Qa hm fun _ aC hm=>G ?_
 refine Tc Z Z Z Z (QcC aC a4 ay).r ?_
 rintro ac _ ⟨_,_,_,_,rfl⟩
 refine G ?_
 refine DZ Z (Zi Z Jh) (Qa hm fun aa aD hm=>G ?_)
 refine Tc Z Z Z Z (YN aD hq rq rq rq rq rq rq).r ?_
 rintro _ _ ⟨_,_,a5,rfl⟩
 refine Qa hm fun _ aE hm=>G ?_
 refine Tc Z Z Z Z (JC aE a5 rq).r ?_
 rintro ad _ ⟨aP,_,_,ae,rfl⟩
 refine G ?_
 refine QK (ae.f1) S35.h Z Z (Qa hm fun ag a0 hm=>G ?_)
 refine QO (fun k' s' f' w'=>(fun (ag:List Int)=>∃ap,Gc.le aP ap∧St w0 ap (Res.box d 75 [j,m,n,o,p,u,b,c,O (a.out.Makespan)]::Res.arr (Qk (Qc .i64)) 22 b a.out.States::Res.arr Ql 149 c a.out.Problems::Res.box y 73 [Vq d]::Res.arr (Qc .i64) 3 ad ag::Res.arr Gi 78 ac aa::H) w'∧Fx f' [(23,O (k':Int)),(3,Vq y),(7,ad),(21,ac),(22,O ((aa.length:Int)))]) s') a0 ?_ ?_ ?_
 ·have bb:=ae.f1
  exact fq
 ·intro aB ag _ _ _ aA a2 g
  obtain ⟨_,_,af,_,rfl⟩:=a2
  refine Qa g fun x ab g=>?_
  obtain ⟨_,_,ak⟩:=(af.f5).arr_at ab
  refine G ?_
  refine Qi S35.h Z ak Z (Qj ab).1 (Qj ab).2.1 (G ?_)
  refine Qw (F:=Gi) (af.f5) ak A78.h Z Z Z ab (Sub.refl _) ?_
  intro _ aF
  obtain rfl:=Je.1 aF
  refine G ?_
  refine DT (cs:=[O 0,O 0,Vb false]) af Z78 Z Z fun _ _ _=>?_
  refine G ?_
  refine Xst Z Z Z fun _ z=>?_
  refine G ?_
  refine QT (n0:=10) (.q 0 (.q 1 (.q 3 (.q 4 (.e 2 [3,4] (.e 5 [] (qs 6 4 .done))))))) JQ (G ?_)
  refine Zn ((z.drew).f4) A73.h Z Z Z ⟨Z,G ?_⟩
  refine Q4 (ds:=[O (x.At),O (x.Launch),Vb (x.End)]) (z.drew) A78.h Z Z Z ⟨Z,G ?_⟩
  refine Zn (z.drew) A4.h Z Z Z ⟨Z,Qa g fun ax aG g=>G ?_⟩
  refine Tc Z Z Z (Zi Z (Zi Z Jh)) (Qad aG (((z.drew).f3).f3).f3 rq rq rq rq rq rq).r ?_
  rintro _ _ ⟨_,_,_,_,_,_,_,a6,rfl,aK,aL,aM,aN,aO⟩
  refine ⟨Yd,G ?_⟩
  refine Tc Z Z Z Z (YB (YA ax x.End) a6 aK aL aM aN aO).r ?_
  rintro _ _ ⟨aQ,_,aS,_,a7,rfl,_,_⟩
  refine ⟨Yd,Qa g fun ah a1 g=>G ?_⟩
  refine QO (fun k' s' f' w'=>(fun (ah:List Int)=>∃aq,Gc.le aQ aq∧St w0 aq (Res.box d 75 [j,m,n,o,p,u,b,c,O (a.out.Makespan)]::Res.arr (Qk (Qc .i64)) 22 b a.out.States::Res.arr Ql 149 c a.out.Problems::Res.box y 73 [Vq d]::Res.arr (Qc .i64) 3 ad ah::Res.arr Gi 78 ac aa::H) w'∧Fx f' [(38,O (k':Int)),(3,Vq y),(7,ad),(21,ac),(22,O ((aa.length:Int))),(23,O ((aB:Int))),(36,aS),(37,O ((((QE ax x.End).2).length:Int)))]) s') a1 ?_ ?_ ?_
  ·have bc:=(a7.f3).drop
   exact fq
  ·intro _ ah _ _ _ _ a3 i
   obtain ⟨_,_,am,_,rfl⟩:=a3
   refine Qa i fun _ aH i=>G ?_
   refine Jv Z Z Z aH fun _ _ az=>?_
   refine G ?_
   refine Zw (E:=Gd) am A82.h Z Z Z az ?_
   intro _ aI
   obtain rfl:=J2.1 aI
   refine G ?_
   refine DT (cs:=[O 0,O 0]) am Z82 Z Z fun _ _ _=>?_
   refine G ?_
   refine Xst Z Z Z fun _ an=>?_
   refine Qa i fun _ ai i=>?_
   obtain ⟨_,_,al⟩:=(an.f5).arr_at ai
   refine G ?_
   refine Qi S22.h Z al Z (Qj ai).1 (Qj ai).2.1 (Qa i fun _ aJ i=>G ?_)
   refine JG an.f5 al A3.h Z Z Z Z (Qo.2 Z) aJ ?_
   intro _ _
   cases i
   refine G ?_
   exact fq
  rintro _ _ ⟨aR,_,a8,_,rfl⟩
  cases g
  refine G ?_
  exact ⟨aR,lq,(((((a8.f5).f5).f5).f5).f5).f5,(Fx.mk (FxL.cons (Jo aA (ae.f1).arr_le) fxl))⟩
 rintro _ _ ⟨_,_,a9,_,rfl⟩
 cases hm
 refine G ?_
 refine ⟨_,Qd0 Z,?_⟩
 obtain ⟨_,_,_,_⟩:=a9.f4.freezeArr
 exact fq
instance F39_1:FTy Tryz.prog 39 1 1:=⟨by kernel_rfl⟩
theorem Qf1 {a:Gt} {ab:Int} {af:(List Gf)} {aC:(List Int)} {d:Nat} {o p u x m y i b z ag:Value} {r:(List Int)×(List (List Int))} (hm:Y5 a ab af aC=some r) (hS:St w0 s (Res.box d 75 [o,p,u,x,m,y,i,b,O (a.out.Makespan)]::Res.arr (Qk (Qc .i64)) 22 i a.out.States::Res.arr Ql 149 b a.out.Problems::H) w) (aH:Ga (Qc .i64) s o a.t.Vars) (aI:Ga (Qc .i64) s p a.t.Init) (aJ:Ga Gd s u a.t.Goal) (av:Ga Gw s x a.t.Jobs) (aK:Ga Gg s m a.l) (aL:Ga Gi s y a.out.Events) (cy:Ga Gi s z af) (cz:Ga (Qc .i64) s ag aC) :
  Cs Tryz.prog 25 #[Value.pointer (some ⟨d,0,none⟩),O ab,z,ag] w r fun v w'=>J5 fun (ct:List Int) (bw:List (List Int))=>∃aq aD aE,Gc.le s aq∧St w0 aq (Res.box d 75 [o,p,u,x,m,y,aE,b,O (a.out.Makespan)]::Res.arr (Qk (Qc .i64)) 22 aE bw::Res.arr Ql 149 b a.out.Problems::H) w'∧v=aD∧Ga (Qc .i64) aq aD ct:=by
 unfold Y5 at hm
 refine Qh Tryz.func25 Z Z (Qa hm fun _ b5 hm=>G ?_)
 refine Tc Z Z Z Z (QdM b5 hq aH aI aJ av aK aL).r ?_
 rintro _ _ ⟨ch,bx,bg,rfl⟩
 refine Qa hm fun _ aU hm=>G ?_
 refine QO (fun k' s' f' w'=>(fun (_:Unit)=>∃a5,Gc.le ch a5∧St w0 a5 (Res.box d 75 [o,p,u,x,m,y,i,b,O (a.out.Makespan)]::Res.arr (Qk (Qc .i64)) 22 i a.out.States::Res.arr Ql 149 b a.out.Problems::H) w'∧Fx f' [(30,O (k':Int)),(0,Vq d),(1,O ab),(2,z),(3,ag),(28,z),(29,O ((af.length:Int)))]) s') aU ?_ ?_ ?_
 ·have c1:=bg.f2
  exact fq
 ·intro bu _ _ _ _ _ ba ac
  obtain ⟨ci,_,az,_,rfl⟩:=ba
  refine Qa ac fun ah b6 ac=>G ?_
  refine Jv Z Z Z b6 fun _ _ aM=>?_
  refine G ?_
  refine Zw (E:=Gi) az A78.h Z Z Z aM ?_
  intro _ b7
  obtain rfl:=Je.1 b7
  refine G ?_
  refine DT (cs:=[O 0,O 0,Vb false]) az Z78 Z Z fun aw _ _=>?_
  refine G ?_
  refine Xst Z Z Z fun _ bh=>?_
  refine Qa ac fun aT b8 ac=>G ?_
  refine Qjd S35.h Z Z Z rq b8 fun co _=>?_
  refine Qa ac fun _ aV ac=>G ?_
  refine QO (fun k' s' f' w'=>(fun (_:Unit)=>∃a6,Gc.le ci a6∧St w0 a6 (Res.box d 75 [o,p,u,x,m,y,i,b,O (a.out.Makespan)]::Res.arr (Qk (Qc .i64)) 22 i a.out.States::Res.arr Ql 149 b a.out.Problems::Res.box aw 78 [O (ah.At),O (ah.Launch),Vb (ah.End)]::H) w'∧Fx f' [(40,O (k':Int)),(0,Vq d),(1,O ab),(2,z),(3,ag),(10,Vq aw),(28,z),(29,O ((af.length:Int))),(30,O ((bu:Int))),(38,co),(39,O ((aT.length:Int)))]) s') aV ?_ ?_ ?_
  ·have c2:=bh.f3
   exact fq
  ·intro _ _ _ _ _ _ bb n
   obtain ⟨_,_,a0,_,rfl⟩:=bb
   refine Qa n fun ar b9 n=>G ?_
   refine Jv Z Z Z b9 fun _ _ aN=>?_
   refine G ?_
   refine Zw (E:=Gi) a0 A78.h Z Z Z aN ?_
   intro _ bA
   obtain rfl:=Je.1 bA
   refine G ?_
   refine DT (cs:=[O 0,O 0,Vb false]) a0 Z78 Z Z fun _ _ _=>?_
   refine G ?_
   refine Xst Z Z Z fun _ ai=>?_
   refine G ?_
   refine QT (n0:=11) (.q 0 (.q 1 (qs 3 4 (.q 8 (.q 9 (.e 2 [3,4,5,6,8,9] (.e 7 [3,4,8,9] (.e 10 [] .done)))))))) JQ (G ?_)
   refine Q4 (ds:=[O (ah.At),O (ah.Launch),Vb (ah.End)]) ((ai.drew).f4) A78.h Z Z Z ⟨Z,G ?_⟩
   refine Zn ((ai.drew).f4) A4.h Z Z Z ⟨Z,G ?_⟩
   refine Q4 (ds:=[O (ar.At),O (ar.Launch),Vb (ar.End)]) (ai.drew) A78.h Z Z Z ⟨Z,G ?_⟩
   refine Zn (ai.drew) A4.h Z Z Z ⟨Z,Qa n fun _ bB n=>G ?_⟩
   refine Tc Z Z Z (Zi Z (Zi Z Jh)) (Qad bB (((ai.drew).f3).f3).f3 rq rq rq rq rq rq).r ?_
   rintro _ _ ⟨_,_,_,_,_,_,_,_,rfl,_,_,_,_,_⟩
   refine ⟨Yd,Qa n fun _ bC n=>G ?_⟩
   refine Tc Z Z Z Z (Qad bC hq rq rq rq rq rq rq).r ?_
   rintro _ _ ⟨_,_,_,_,_,_,_,bi,rfl,bU,bV,bW,bX,bY⟩
   refine ⟨Yd,Qa n fun _ bD n=>G ?_⟩
   refine Tc Z Z Z Z (Qgd bD bi rq rq rq rq rq bU bV bW bX bY).r ?_
   rintro _ _ ⟨_,_,_,rfl⟩
   refine ⟨Yd,G ?_⟩
   refine Qe n (fun br n=>?_) fun br n=>?_
   ·refine G ?_
    cases n
   cases n
   refine G ?_
   exact fq
  rintro _ _ ⟨_,_,_,_,rfl⟩
  cases ac
  refine G ?_
  exact fq
 rintro _ _ ⟨cj,bz,bj,_,rfl⟩
 refine Qa hm fun _ aW hm=>G ?_
 refine QO (fun k' s' f' w'=>(fun (_:Unit)=>∃a7,Gc.le cj a7∧St w0 a7 (Res.box d 75 [o,p,u,x,m,y,i,b,O (a.out.Makespan)]::Res.arr (Qk (Qc .i64)) 22 i a.out.States::Res.arr Ql 149 b a.out.Problems::H) w'∧Fx f' [(69,O (k':Int)),(0,Vq d),(1,O ab),(2,z),(3,ag),(67,z),(68,O ((af.length:Int)))]) s') aW ?_ ?_ ?_
 ·have c3:=bj.f2
  exact fq
 ·intro bv _ _ _ _ _ bc aa
  obtain ⟨_,_,a1,_,rfl⟩:=bc
  refine Qa aa fun ae bE aa=>G ?_
  refine Jv Z Z Z bE fun _ _ aO=>?_
  refine G ?_
  refine Zw (E:=Gi) a1 A78.h Z Z Z aO ?_
  intro _ bF
  obtain rfl:=Je.1 bF
  refine G ?_
  refine DT (cs:=[O 0,O 0,Vb false]) a1 Z78 Z Z fun ax _ _=>?_
  refine G ?_
  refine Xst Z Z Z fun _ am=>?_
  refine G ?_
  refine QT (n0:=10) (.q 0 (.q 1 (.q 3 (.q 4 (.e 2 [3,4] (.e 5 [] (qs 6 4 .done))))))) JQ (G ?_)
  refine Q4 (ds:=[O (ae.At),O (ae.Launch),Vb (ae.End)]) (am.drew) A78.h Z Z Z ⟨Z,G ?_⟩
  refine Zn (am.drew) A4.h Z Z Z ⟨Z,Qa aa fun cu bG aa=>G ?_⟩
  refine Tc Z Z Z (Zi Z (Zi Z Jh)) (Qad bG (((am.drew).f3).f3).f3 rq rq rq rq rq rq).r ?_
  rintro _ _ ⟨_,_,_,_,_,_,_,bk,rfl,bZ,ca,cb,cc,cd⟩
  refine ⟨Yd,G ?_⟩
  refine Tc Z Z Z Z (YB (YA cu ae.End) bk bZ ca cb cc cd).r ?_
  rintro _ _ ⟨_,_,_,_,bl,rfl,ce,_⟩
  refine ⟨Yd,Qa aa fun cv bH aa=>G ?_⟩
  refine Tc Z Z Z Z (Qbk bH bl ce rq).r ?_
  rintro cp _ ⟨ck,_,_,bm,rfl,_⟩
  refine Qa aa fun _ aX aa=>G ?_
  refine QO (fun k' s' f' w'=>(fun (_:Unit)=>∃a8,Gc.le ck a8∧St w0 a8 (Res.box d 75 [o,p,u,x,m,y,i,b,O (a.out.Makespan)]::Res.arr (Qk (Qc .i64)) 22 i a.out.States::Res.arr Ql 149 b a.out.Problems::Res.box ax 78 [O (ae.At),O (ae.Launch),Vb (ae.End)]::H) w'∧Fx f' [(86,O (k':Int)),(0,Vq d),(1,O ab),(2,z),(3,ag),(15,Vq ax),(67,z),(68,O ((af.length:Int))),(69,O ((bv:Int))),(84,cp),(85,O ((cv.length:Int)))]) s') aX ?_ ?_ ?_
  ·have c4:=bm.f3
   exact fq
  ·intro _ _ _ _ _ _ bd ao
   obtain ⟨_,_,a2,_,rfl⟩:=bd
   refine Qa ao fun _ bI ao=>G ?_
   refine Jv Z Z Z bI fun _ _ aP=>?_
   refine G ?_
   refine Zw (E:=Gd) a2 A82.h Z Z Z aP ?_
   intro _ bJ
   obtain rfl:=J2.1 bJ
   refine G ?_
   refine DT (cs:=[O 0,O 0]) a2 Z82 Z Z fun _ _ _=>?_
   refine G ?_
   refine Xst Z Z Z fun _ _=>?_
   refine G ?_
   cases ao
  rintro _ _ ⟨_,_,_,_,rfl⟩
  cases aa
  refine G ?_
  exact fq
 rintro _ _ ⟨_,b0,_,_,rfl⟩
 refine Qa hm fun cw bK hm=>G ?_
 refine Tc Z Z Z Z (Qfn bK hq rq rq rq rq rq rq rq rq).r ?_
 rintro aj _ ⟨cl,_,b1,bn,rfl,cf⟩
 refine Qa hm fun _ aY hm=>G ?_
 refine QO (fun k' s' f' w'=>(fun (_:Unit)=>∃a9,Gc.le cl a9∧St w0 a9 (Res.box d 75 [o,p,u,x,m,y,i,b,O (a.out.Makespan)]::Res.arr (Qk (Qc .i64)) 22 i a.out.States::Res.arr Ql 149 b a.out.Problems::H) w'∧Fx f' [(108,O (k':Int)),(0,Vq d),(1,O ab),(20,aj),(106,m),(107,O ((a.l.length:Int)))]) s') aY ?_ ?_ ?_
 ·have c5:=bn.f2
  exact fq
 ·intro al _ _ _ _ _ be j
  obtain ⟨cm,b2,a3,_,rfl⟩:=be
  refine Qa j fun aG bL j=>G ?_
  refine Jv Z Z Z bL fun _ _ aQ=>?_
  refine G ?_
  refine Zw (E:=Gg) a3 A43.h Z Z Z aQ ?_
  intro _ bM
  obtain rfl:=QH.1 bM
  refine G ?_
  refine DT (cs:=[O 0,O 0]) a3 Z43 Z Z fun ay _ _=>?_
  refine G ?_
  refine Xst Z Z Z fun _ _=>?_
  refine Qa j fun au ad j=>g ?_
  refine Zc (Zc (QL (M:=fun f' w'=>(fun (au:Bool)=>∃aA,Gc.le cm aA∧St w0 aA (Res.box d 75 [o,p,u,x,m,y,i,b,O (a.out.Makespan)]::Res.arr (Qk (Qc .i64)) 22 i a.out.States::Res.arr Ql 149 b a.out.Problems::Res.box ay 43 [O (aG.At),O (aG.Job)]::H) w'∧Fx f' [(0,Vq d),(1,O ab),(20,aj),(21,O ((al:Int))),(22,Vq ay),(106,m),(107,O ((a.l.length:Int))),(108,O ((al:Int))),(123,Vb au)]) au) ?_ ?_))
  ·refine G ?_
   refine Qe ad (fun bs ad=>?_) fun bs ad=>?_
   ·cases ad
    refine G ?_
    exact fq
   refine Qa ad fun _ bN ad=>G ?_
   refine Tc Z Z Z Z (Qcc bN hq rq rq rq rq rq rq).r ?_
   rintro _ _ ⟨_,_,_,rfl⟩
   cases ad
   refine G ?_
   exact fq
  rintro _ _ ⟨_,b3,ak,_,rfl⟩
  refine G ?_
  refine Qe j (fun bt j=>?_) fun bt j=>?_
  ·cases j
   refine G ?_
   exact fq
  refine G ?_
  refine QT (n0:=14) (qs 0 11 (.q 13 (.e 11 [13] (.q 12 .done)))) JQ (G ?_)
  refine Zn (ak.drew) A24.h Z Z Z ⟨Z,G ?_⟩
  refine Zn ((ak.drew).f3) A3.h Z Z Z ⟨Z,Qa j fun cr bO j=>G ?_⟩
  refine Qy S24.h Z Z Z (av.mono (Zt (Zt (Zt (Zt (Zt bx bz) b0) b1) b2) b3)) bO fun _ _ aR _=>?_
  refine ⟨Z,G ?_⟩
  refine Zw (E:=(Qk Gd)) ak.drew A23.h Z Z Z (aR.sub (Sub.iso (Sub.snd (Sub.snd (Sub.snd (Sub.fst (Sub.refl _)) Z) Z) Z)) Z) ?_
  intro _ bP
  have cg:Ga _ _ _ (cr.Over):=Q5.1 bP
  refine ⟨Z,Qa j fun cx bQ j=>G ?_⟩
  refine Tc Z Z Z Z (Qbk bQ ak.drew cg rq).r ?_
  rintro cq _ ⟨cn,_,_,bo,rfl,_⟩
  refine ⟨Yd,Qa j fun _ aZ j=>G ?_⟩
  refine QO (fun k' s' f' w'=>(fun (_:Unit)=>∃aB,Gc.le cn aB∧St w0 aB (Res.box d 75 [o,p,u,x,m,y,i,b,O (a.out.Makespan)]::Res.arr (Qk (Qc .i64)) 22 i a.out.States::Res.arr Ql 149 b a.out.Problems::H) w'∧Fx f' [(137,O (k':Int)),(0,Vq d),(1,O ab),(20,aj),(21,O ((al:Int))),(106,m),(107,O ((a.l.length:Int))),(108,O ((al:Int))),(135,cq),(136,O ((cx.length:Int)))]) s') aZ ?_ ?_ ?_
  ·have c6:=(bo.f3).drop
   exact fq
  ·intro _ _ _ _ _ _ bf ap
   obtain ⟨_,_,a4,_,rfl⟩:=bf
   refine Qa ap fun _ bR ap=>G ?_
   refine Jv Z Z Z bR fun _ _ aS=>?_
   refine G ?_
   refine Zw (E:=Gd) a4 A82.h Z Z Z aS ?_
   intro _ bS
   obtain rfl:=J2.1 bS
   refine G ?_
   refine DT (cs:=[O 0,O 0]) a4 Z82 Z Z fun _ _ _=>?_
   refine G ?_
   refine Xst Z Z Z fun _ _=>?_
   refine G ?_
   cases ap
  rintro _ _ ⟨_,_,_,_,rfl⟩
  cases j
  refine G ?_
  exact fq
 rintro _ _ ⟨_,b4,bp,_,rfl⟩
 refine G ?_
 refine Qt (Te:=22) (cs:=[aj]) bp Z (Qb (c:=[aj]) (Qd Z (Qs (rq).one)) Qg) fun _ _ bq=>?_
 refine Qa hm fun _ bT hm=>G ?_
 refine Qn (E:=(Qk (Qc .i64))) (ys:=[cw]) bq.f2 S36.h Z22 Z (by decide) Z Z Z Z ⟨[_],_,Z,⟨_,Z,(cf.mono b4)⟩,Z⟩ Z bT fun aF _ an=>?_
 refine G ?_
 refine Qu (ds:=[aF]) (es:=[o,p,u,x,m,y,aF,b,O (a.out.Makespan)]) an.f1 A36.h Z Z Z (Qs ((an.f1).f1).arr_one) (Zj ((an.f1).f1).arr_one QM) (Xc Z) Z ?_
 intro _ _
 have c0:=Zu hm
 subst r
 refine G ?_
 exact ⟨_,Qd0 Z,fq⟩
instance A39:ATy Tryz.prog 39 true 4:=⟨by kernel_rfl⟩
theorem Qi6 {ab:Ge} {a5:(List Launch)} {d i j l n:Value} {r:(Option Int)×G1} (hm:Qbj ab a5=some r) (hS:St w0 s (H) w) (aH:Ga (Qc .i64) s d ab.Vars) (aI:Ga (Qc .i64) s i ab.Init) (aJ:Ga Gd s j ab.Goal) (aK:Ga Gw s l ab.Jobs) (aL:Ga Gg s n a5) :
  Cs Tryz.prog 7 #[Value.agg #[d,i,j,l],n] w r fun v w'=>J5 fun (ch:Option Int) (am:G1)=>∃aa aC aD aE,Gc.le s aa∧St w0 aa (H) w'∧v=Value.tuple #[Value.agg #[aC,aD,aE,O (am.Makespan)],K8 63 (ch)]∧Ga Gi aa aC am.Events∧Ga (Qk (Qc .i64)) aa aD am.States∧Ga Ql aa aE am.Problems:=by
 unfold Qbj at hm
 refine Qh Tryz.func7 Z Z (G ?_)
 refine JV Z Z fun p _ ba=>?_
 refine G ?_
 refine DT (cs:=[Vn,Vn,Vn,O 0]) ba Z39 Z Z fun b _ bb=>?_
 refine Qa hm fun bV b4 hm=>?_
 obtain ⟨_,ae⟩:=bV
 replace hm:=QC hm
 refine G ?_
 refine Tc Z Z Z Z (Km b4 bb aH aI aJ aK aL).r ?_
 rintro _ _ ⟨bO,_,bc,rfl⟩
 refine g ?_
 refine Zc (QL (M:=fun f' w'=>∃a6,Gc.le bO a6∧St w0 a6 (Res.box p 26 [d,i,j,l]::Res.box b 39 [Vn,Vn,Vn,O 0]::H) w'∧Fx f' [(1,n),(2,Vq p),(4,Vq b),(7,K8 63 (ae)),(27,Vb ((ae.isSome && !(YM ae))))]) ?_ ?_)
 ·refine G ?_
  refine Qv (T:=63) Tryz.underlying30 Z Z Z (G ?_)
  rcases tf (ae.isSome) with bs |bs
  ·refine G ?_
   refine Tc Z Z Z Z (Qgf (Qge ae) bc).r ?_
   rintro _ _ ⟨_,_,_,rfl⟩
   refine G ?_
   exact fq
  refine G ?_
  exact fq
 rintro _ _ ⟨_,_,_,_,rfl⟩
 refine G ?_
 refine Qe hm (fun bt hm=>?_) fun bt hm=>?_
 ·refine G ?_
  cases hm
 refine G ?_
 refine Q2 Z (Qb (Qd Z Z) (Qb (c:=[n]) (Qd Z (Qs (rq).one)) Qg)) (v:=Value.agg #[d,i,j,l,n,Vn,Vn,Vn,O 0]) (G ?_)
 refine JV Z Z ?_
 intro m _ bd
 have be:=bd.nilArr Gi 78
 have bf:=be.nilArr (Qk (Qc .i64)) 22
 have cj:=bf.nilArr Ql 149
 refine Qa hm fun bW b5 hm=>?_
 obtain ⟨af,_⟩:=bW
 replace hm:=QC hm
 refine G ?_
 refine Tc Z Z Z Z (QeI b5 hq rq rq rq rq rq).r ?_
 rintro _ _ ⟨_,_,_,bg,rfl⟩
 refine Qa hm fun _ b6 hm=>G ?_
 refine Tc Z Z Z Z (JC b6 bg rq).r ?_
 rintro _ _ ⟨bP,_,_,bh,rfl⟩
 refine Q6 hm fun _ aQ _ bx bq=>g ?_
 refine Zc (Zc (Zd (g ?_)))
 refine QeQ (fun s' f' w'=>(un4 fun (aB:List Int) (ah:Int) (aG:List Gf) (ai:List (List Int))=>∃ak ac ad x,Gc.le bP ak∧St w0 ak (Res.box p 26 [d,i,j,l]::Res.box b 39 [Vn,Vn,Vn,O 0]::Res.box m 75 [d,i,j,l,n,ad,x,Vn,O af]::Res.arr (Qk (Qc .i64)) 22 x ai::Res.arr Ql 149 Vn ([]:(List G2))::H) w'∧Fx f' [(2,Vq p),(4,Vq b),(8,Vq m),(9,ac),(10,O ah)]∧Ga (Qc .i64) ak ac aB∧Ga Gi ak ad aG) s') aQ ?_ ?_ ?_
 ·obtain ⟨_,_,bi,_⟩:=bh.freezeArr
  obtain ⟨_,_,_,_⟩:=bi.f1.freezeArr
  exact fq
 ·intro bX _ _ _ aU a b2
  obtain ⟨aB,ah,aG,ai⟩:=bX
  replace a:=QrS a
  obtain ⟨bQ,ac,ad,x,_,bj,⟨_,rfl⟩,b0,z⟩:=aU
  refine G ?_
  refine Qe a (fun a0 a=>?_) fun a0 a=>?_
  ·refine Q6 a fun _ aR _ bz br=>W_c Z a0 (QtQ (Yx (Ze (QaU (Zc (Zd (g ?_)))))))
   refine Zc (QeQ (fun s' f' w'=>(fun (ap:Int)=>∃a7,Gc.le bQ a7∧St w0 a7 (Res.box p 26 [d,i,j,l]::Res.box b 39 [Vn,Vn,Vn,O 0]::Res.box m 75 [d,i,j,l,n,ad,x,Vn,O af]::Res.arr (Qk (Qc .i64)) 22 x ai::Res.arr Ql 149 Vn ([]:(List G2))::H) w'∧Fx f' [(2,Vq p),(4,Vq b),(8,Vq m),(9,ac),(10,O ah),(11,O ap)]) s') aR ?_ ?_ ?_)
   ·have ck:=bj.f4
    exact fq
   ·intro ap _ _ _ aV q b3
    obtain ⟨bR,a3,bk,_,rfl⟩:=aV
    refine Qa q fun ar o q=>Zc (Zc (QL (M:=fun f' w'=>(fun (ar:Bool)=>∃a8,Gc.le bR a8∧St w0 a8 (Res.box p 26 [d,i,j,l]::Res.box b 39 [Vn,Vn,Vn,O 0]::Res.box m 75 [d,i,j,l,n,ad,x,Vn,O af]::Res.arr (Qk (Qc .i64)) 22 x ai::Res.arr Ql 149 Vn ([]:(List G2))::H) w'∧Fx f' [(2,Vq p),(4,Vq b),(8,Vq m),(9,ac),(10,O ah),(11,O ap),(76,Vb ar)]) ar) ?_ ?_))
    ·refine QT (n0:=29) (qs 0 29 .done) JQ ?_
     have aw:=bk.drew
     refine G ?_
     refine Qe o (fun bu o=>?_) fun bu o=>?_
     ·refine Qa o fun ce b7 o=>G ?_
      refine Qy S35.h Z Z Z (z.mono a3) b7 fun _ _ aM _=>?_
      refine ⟨Z,G ?_⟩
      refine Zw (E:=(Qc .i64)) aw A3.h Z Z Z (aM.sub (Sub.iso (Sub.fst (Sub.refl _))) Z) ?_
      intro ca b8
      obtain rfl:ca=O (ce.At):=Qo.1 b8
      refine ⟨Z,Qa o fun cf b9 o=>G ?_⟩
      refine Qy S35.h Z Z Z (z.mono a3) b9 fun _ _ aN _=>?_
      refine ⟨Z,G ?_⟩
      refine Zw (E:=(Qc .i64)) aw A3.h Z Z Z (aN.sub (Sub.iso (Sub.fst (Sub.refl _))) Z) ?_
      intro cb bA
      obtain rfl:cb=O (cf.At):=Qo.1 bA
      refine ⟨Z,?_⟩
      cases o
      refine G ?_
      exact fq
     cases o
     refine G ?_
     exact fq
    rintro _ _ ⟨_,_,_,_,rfl⟩
    refine G ?_
    refine Qe q (fun bv q=>?_) fun bv q=>?_
    ·cases q
     refine G ?_
     exact ⟨_,Z,fq⟩
    cases q
    refine G ?_
    exact ⟨_, .inr (b3 (by intro _ h;cases h)),fq⟩
   rintro _ _ ⟨_,a1,aY⟩
   have a:=a1.elim (bz _) (br _)
   clear a1
   obtain ⟨_,aj,ag,_,rfl⟩:=aY
   refine G ?_
   refine QT (n0:=20) (qs 0 19 (.e 19 [] .done)) JQ (G ?_)
   refine Zn ((ag.drew).f2) A35.h Z Z Z ⟨Z,Qa a fun cg bB a=>G ?_⟩
   refine Qy S35.h Z Z Z (z.mono aj) bB fun _ _ aO _=>?_
   refine ⟨Z,G ?_⟩
   refine Zw (E:=(Qc .i64)) ag.drew A3.h Z Z Z (aO.sub (Sub.iso (Sub.fst (Sub.refl _))) Z) ?_
   intro cc bC
   obtain rfl:cc=O (cg.At):=Qo.1 bC
   refine ⟨Z,G ?_⟩
   refine Zn ((ag.drew).f2) A35.h Z Z Z ⟨Z,Qa a fun _ bD a=>G ?_⟩
   refine Qje S35.h Z Z Z Z (z.mono aj) bD fun _ bL=>?_
   refine ⟨Z,Qa a fun bY bE a=>?_⟩
   obtain ⟨_,_⟩:=bY
   replace a:=QC a
   refine G ?_
   refine Tc Z Z Z (Zi Z (Zi Z (Zi Z (Zi Z Jh)))) (Qf1 bE (((ag.drew).f4).f4).f4 rq rq rq rq rq (z.mono aj) bL (b0.mono aj)).r ?_
   rintro _ _ ⟨_,_,_,_,_,rfl,_⟩
   refine ⟨Yd,?_⟩
   cases a
   refine G ?_
   exact ⟨_,Z,fq⟩
  cases a
  refine G ?_
  exact ⟨_, .inr (b2 (by intro _ h;cases h)),fq⟩
 rintro _ _ ⟨bZ,a2,aZ⟩
 have hm:=a2.elim (bx _) (bq _)
 clear a2
 obtain ⟨_,_,_,a4⟩:=bZ
 replace hm:=QrS hm
 obtain ⟨_,_,aF,al,_,bl,⟨_,rfl⟩,b1,_⟩:=aZ
 refine Qa hm fun ci bF hm=>G ?_
 refine Tc Z Z Z Z (Qbk bF bl rq b1).r ?_
 rintro cd _ ⟨bS,_,_,bm,rfl,_⟩
 refine Qa hm fun _ aS hm=>G ?_
 refine QO (fun k' s' f' w'=>(fun (_:Unit)=>∃a9,Gc.le bS a9∧St w0 a9 (Res.box b 39 [Vn,Vn,Vn,O 0]::Res.box m 75 [d,i,j,l,n,aF,al,Vn,O af]::Res.arr (Qk (Qc .i64)) 22 al a4::Res.arr Ql 149 Vn ([]:(List G2))::H) w'∧Fx f' [(105,O (k':Int)),(4,Vq b),(8,Vq m),(103,cd),(104,O ((ci.length:Int)))]) s') aS ?_ ?_ ?_
 ·have cl:=bm.drop
  exact fq
 ·intro _ _ _ _ _ _ aW ao
  obtain ⟨_,_,ax,_,rfl⟩:=aW
  refine Qa ao fun _ bG ao=>G ?_
  refine Jv Z Z Z bG fun _ _ aP=>?_
  refine G ?_
  refine Zw (E:=Gd) ax A82.h Z Z Z aP ?_
  intro _ bH
  obtain rfl:=J2.1 bH
  refine G ?_
  refine DT (cs:=[O 0,O 0]) ax Z82 Z Z fun _ _ _=>?_
  refine G ?_
  refine Xst Z Z Z fun _ _=>?_
  refine G ?_
  cases ao
 rintro _ _ ⟨bT,_,an,_,rfl⟩
 refine G ?_
 refine QK (an.f2) S36.h Z Z (Qa hm fun aq aT hm=>G ?_)
 refine QO (fun k' s' f' w'=>(fun (aq:List (List Int))=>∃aA,Gc.le bT aA∧St w0 aA (Res.box b 39 [Vn,Vn,Vn,O 0]::Res.box m 75 [d,i,j,l,n,aF,al,Vn,O af]::Res.arr (Qk (Qc .i64)) 22 al aq::Res.arr Ql 149 Vn ([]:(List G2))::H) w'∧Fx f' [(125,O (k':Int)),(4,Vq b),(8,Vq m),(124,O ((a4.length:Int)))]) s') aT ?_ ?_ ?_
 ·have cm:=an.f3
  exact fq
 ·intro _ aq _ _ _ bw aX t
  obtain ⟨_,_,y,_,rfl⟩:=aX
  refine G ?_
  refine QT (n0:=15) (qs 0 14 (.e 14 [0,1,2,3,4,5] .done)) JQ (G ?_)
  refine Zn ((y.drew).f1) A36.h Z Z Z ⟨Z,G ?_⟩
  refine Zn ((y.drew).f1) A36.h Z Z Z ⟨Z,Qa t fun _ u t=>?_⟩
  obtain ⟨_,_,au⟩:=((y.drew).f2).arr_at u
  refine G ?_
  refine Qi S36.h Z au Z (Qj u).1 (Qj u).2.1 ⟨Z,G ?_⟩
  refine Qw (F:=(Qk (Qc .i64))) ((y.drew).f2) au A22.h Z Z Z u (Sub.refl _) ?_
  intro _ bI
  have bM:=Q5.1 bI
  refine ⟨Z,Qa t fun _ bJ t=>G ?_⟩
  refine Tc Z Z Z Z (JC bJ y.drew bM).r ?_
  rintro _ _ ⟨_,_,_,ay,rfl⟩
  refine ⟨Yd,?_⟩
  obtain ⟨_,_,av⟩:=(ay.f3).arr_at u
  refine G ?_
  refine Qi S36.h Z av Z (Qj u).1 (Qj u).2.1 ?_
  obtain ⟨bU,_,bn,bN⟩:=ay.freezeArr
  refine Qa t fun _ bK t=>G ?_
  refine JG bn.f2 av A22.h Z Z Z Z (Q5.2 bN) bK ?_
  intro _ bo
  cases t
  refine G ?_
  exact ⟨bU,lq,(((bo.f3).f1).f3).f3,(Fx.mk (FxL.cons (Jo bw (an.f2).arr_le) fxl))⟩
 rintro _ _ ⟨_,_,_,_,rfl⟩
 refine G ?_
 refine Xst Z Z Z ?_
 intro _ az
 cases hm
 refine G ?_
 refine ⟨_,Qr6 Z ⟨_,_,Z,Qdn (az) A39.h⟩ Z,?_⟩
 obtain ⟨_,_,bp,_⟩:=az.f2.freezeArr
 obtain ⟨_,_,_,_⟩:=bp.f2.freezeArr
 exact fq
instance F39_2:FTy Tryz.prog 39 2 2:=⟨by kernel_rfl⟩
instance A37:ATy Tryz.prog 37 false 1:=⟨by kernel_rfl⟩
instance S37:STy Tryz.prog 37 149 5 40:=⟨by kernel_rfl⟩
theorem Qfm {f:Gu} {g:Int} {c:Nat} {b:Value} {a:List Value} {r:Int×(Option Int)} (hm:Ym f g=some r) (hS:St w0 s (Res.box c 152 [b]::Res.arr G4 22 b a::Res.rows (Qc .i64) 3 a f.d::H) w) :
  Cs Tryz.prog 30 #[Value.pointer (some ⟨c,0,none⟩),O g] w r fun v w'=>J5 fun (m:Int) (n:Option Int)=>∃h,Gc.le s h∧St w0 h (Res.box c 152 [b]::Res.arr G4 22 b a::Res.rows (Qc .i64) 3 a f.d::H) w'∧v=Value.tuple #[O m,K8 63 (n)]:=by
 unfold Ym at hm
 refine Qh Tryz.func30 Z Z (Qa hm fun l k hm=>?_)
 obtain ⟨_,_⟩:=l
 replace hm:=QC hm
 refine G ?_
 refine Tc Z Z Z Z (QbG k hq).r ?_
 rintro _ _ ⟨_,_,_,rfl⟩
 refine G ?_
 refine Qv (T:=63) Tryz.underlying30 Z Z Z (G ?_)
 refine Qe hm (fun i hm=>?_) fun i hm=>?_
 ·refine G ?_
  cases hm
 refine G ?_
 refine Qe hm (fun j hm=>?_) fun j hm=>?_
 ·refine G ?_
  cases hm
 cases hm
 refine G ?_
 exact ⟨_,Qcw Z,fq⟩
end Go.Pw
