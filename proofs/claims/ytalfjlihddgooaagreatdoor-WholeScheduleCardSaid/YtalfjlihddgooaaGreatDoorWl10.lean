/- -/
import Derived.Test.YtalfjlihddgooaaGreatDoorBa
import Derived.Test.YtalfjlihddgooaaGreatDoorLC
import Derived.Test.YtalfjlihddgooaaGreatDoorLD
import Derived.Test.YtalfjlihddgooaaGreatDoorW9
set_option maxRecDepth 100000
set_option maxHeartbeats 4000000
set_option linter.unusedVariables false
namespace Go.Pw
open Go.Proofs
attribute [local irreducible] Exec WL W andThen QaB DL Jm
theorem Y6 {w0 w:World} {s:Gc} {H:List Res} {z:Ge} {ab ac ad o:Value} {r:(Option Int)×GD} (hm:Jc z=some r) (hS:St w0 s (H) w) (bo:Ga (Qc .i64) s ab z.Vars) (bp:Ga (Qc .i64) s ac z.Init) (bq:Ga Gd s ad z.Goal) (br:Ga Gw s o z.Jobs) :
  Cs Tryz.prog 10 #[Value.agg #[ab,ac,ad,o]] w r fun v w'=>J5 fun (cS:Option Int) (az:GD)=>∃am bh bi bj bk,Gc.le s am∧St w0 am (H) w'∧v=Value.tuple #[Value.agg #[bh,bi,bj,bk],K8 63 (cS)]∧Ga (Qc .i64) am bh az.Vars∧Ga (Qc .i64) am bi az.Init∧Ga Gd am bj az.Goal∧Ga GC am bk az.Ops:=by
 unfold Jc at hm
 refine Qh Tryz.func10 Z Z (G ?_)
 refine JV Z Z fun t _ b2=>?_
 refine G ?_
 refine DT (cs:=[Vn,Vn,Vn,Vn]) b2 Z49 Z Z fun n _ b3=>?_
 refine Qa hm fun _ ch hm=>G ?_
 refine Tc Z Z Z Z (QbT ch b3 bo bp bq br).r ?_
 rintro _ _ ⟨_,_,b4,rfl⟩
 refine G ?_
 refine Qv (T:=63) Tryz.underlying30 Z Z Z (G ?_)
 refine Qe hm (fun ca hm=>?_) fun ca hm=>?_
 ·refine G ?_
  cases hm
 refine Qa hm fun a ci hm=>G ?_
 refine Tc Z Z Z Z (Qja ci b4 rq rq rq rq).r ?_
 rintro _ _ ⟨cC,ae,af,d,_,b5,rfl,_,_,_⟩
 refine G ?_
 refine DT (cs:=[O 0,Vn,Vn,O 0,Vn]) b5 Z94 Z Z fun u _ _=>?_
 refine G ?_
 refine Xst Z Z Z fun _ b6=>?_
 refine Qa hm fun ce cj hm=>Qa hm fun cT ck hm=>g ?_
 refine Zc (QL (M:=fun f' w'=>∃aT j i aH,Gc.le cC aT∧St w0 aT (Res.box t 26 [ab,ac,ad,o]::Res.box n 49 [Vn,Vn,Vn,Vn]::Res.box u 94 [O (a.jobs),ae,af,O (a.phase),d]::Res.box j 49 [d,i,aH,Vn]::Res.arr (Qc .i64) 3 i ce::Res.arr Gd 82 aH cT::H) w'∧Fx f' [(1,Vq t),(2,Vq n),(5,Vq u),(6,Vq j)]) ?_ ?_)
 ·refine QT (n0:=11) (qs 0 5 (.q 6 (.q 7 (.alt (.e 5 [0,1,6,7] (.alt (.e 8 [0,1] (.q 9 (.e 10 [0,1,9] .done))) (.e 10 [0,1,6,7] (.e 8 [0,1] (.q 9 .done))))) (.alt (.e 8 [0,1,2,3,4] (.alt (.e 5 [0,1] (.q 9 (.e 10 [0,1,9] .done))) (.e 10 [0,1,2,3,4] (.e 5 [0,1] (.q 9 .done))))) (.e 10 [0,1,2,3,4,6,7] (.alt (.e 5 [0,1,6,7] (.e 8 [0,1] (.q 9 .done))) (.e 8 [0,1,2,3,4] (.e 5 [0,1] (.q 9 .done)))))))))) JQ ?_
  have hS:=b6.drew
  repeat' first
  |refine Qb5 ?_ ?_
  | (refine G ?_;first
     |refine Qb5 ?_ ?_
     |(refine Qcg 5 0 rfl ?_;refine XO (E:=(Qc .i64)) hS S22.h Z3 rfl rfl rfl rfl cj ?_;intro v1 _ hS;refine ⟨agb,?_⟩)
     |(refine Qcg 1 35 rfl ?_;refine Tc rfl rfl rfl rfl (QbH ck hS rq).r ?_;rintro v2 _ ⟨_,_,_,hS,rfl⟩;refine ⟨agb,?_⟩)
     |(refine Qcg 4 49 rfl ?_;refine DT (cs:=[Value.slice none 0 0,Value.slice none 0 0,Value.slice none 0 0,Value.slice none 0 0]) hS Z49 rfl rfl ?_;intro _ _ hS;first |refine ⟨Qm (Q8 rfl rfl (Zp F94_4.h rfl rfl rfl ⟨rfl,rfl⟩)) (Qm (Q8 rfl rfl (Zn hS.f3 A22.h rfl rfl rfl ⟨rfl,rfl⟩)) (Qm (Q8 rfl rfl (Q2 rfl (Qb (c:=[d]) (Qd rfl (Qs (rq).one)) (Qb (c:=[v1]) (Qd rfl (Qs (by first |exact hS.arr_one |exact hS.f1.arr_one |exact hS.f2.arr_one))) (Qb (c:=[v2]) (Qd rfl (Qs (by first |exact hS.arr_one |exact hS.f1.arr_one |exact hS.f2.arr_one))) Qg))) (v:=Value.agg #[d,v1,v2,Value.slice none 0 0]) ⟨rfl,rfl⟩)) K7)),?_⟩ |refine ⟨agb,?_⟩)
     |(refine Qcg 2 49 rfl ?_;refine Q2 rfl (Qb (c:=[d]) (Qd rfl (Qs (rq).one)) (Qb (c:=[v1]) (Qd rfl (Qs (by first |exact hS.arr_one |exact hS.f1.arr_one |exact hS.f2.arr_one))) (Qb (c:=[v2]) (Qd rfl (Qs (by first |exact hS.arr_one |exact hS.f1.arr_one |exact hS.f2.arr_one))) Qg))) (v:=Value.agg #[d,v1,v2,Value.slice none 0 0]) ⟨rfl,?_⟩))
  all_goals (refine G ?_;refine Xst rfl rfl rfl ?_;intro _ _;refine G ?_;exact fq)
 rintro _ _ ⟨cD,j,i,aH,_,b7,_,rfl⟩
 refine Qa hm fun ah cl hm=>G ?_
 refine Qln b7.f4 S22.h Z Z Z rq cl fun _ b8=>?_
 refine Qa hm fun cM bu hm=>G ?_
 refine QO (fun k' s' f' w'=>(J5 fun (a0:List Op) (aj:List Gj)=>∃aU x ak,Gc.le cD aU∧St w0 aU (Res.box t 26 [ab,ac,ad,o]::Res.box n 49 [Vn,Vn,Vn,Vn]::Res.box u 94 [O (a.jobs),ae,af,O (a.phase),d]::Res.box j 49 [d,i,x,ak]::Res.arr (Qc .i64) 3 i ah::Res.arr Gd 82 x aj::Res.arr GC 99 ak a0::H) w'∧Fx f' [(42,O (k':Int)),(1,Vq t),(2,Vq n),(5,Vq u),(6,Vq j),(40,o),(41,O ((z.Jobs.length:Int)))]) s') bu ?_ ?_ ?_
 ·have cU:=b8.nilArr GC 99
  exact fq
 ·intro b cN _ _ _ _ bx m
  obtain ⟨a0,aj⟩:=cN
  replace m:=QC m
  obtain ⟨cE,x,ak,_,aP,_,rfl⟩:=bx
  refine Qa m fun p cm m=>G ?_
  refine Jv Z Z Z cm fun _ _ bs=>?_
  refine G ?_
  refine Zw (E:=Gw) aP A85.h Z Z Z bs ?_
  intro _ cn
  obtain ⟨aC,aD,aE,aF,aG,rfl,_,_,_,_,_⟩:=K9.1 cn
  refine G ?_
  refine DT (cs:=[Value.string (⟨#[]⟩),O 0,Vn,Vn,Vn,Vn,Vn]) aP Z85 Z Z fun al _ _=>?_
  refine G ?_
  refine Xst Z Z Z fun _ b9=>?_
  refine g ?_
  refine Zc (QL (M:=fun f' w'=>∃aV ag a1,Gc.le cE aV∧St w0 aV (Res.box t 26 [ab,ac,ad,o]::Res.box n 49 [Vn,Vn,Vn,Vn]::Res.box u 94 [O (a.jobs),ae,af,O (a.phase),d]::Res.box j 49 [d,i,x,ak]::Res.box al 85 [Value.string (p.Name),O (p.Duration),aC,aD,aE,aF,aG]::Res.box ag 82 [O ((Qf a (b:Int))),O 0]::Res.box a1 82 [O ((Qz a (b:Int))),O 0]::Res.arr (Qc .i64) 3 i ah::Res.arr Gd 82 x aj::Res.arr GC 99 ak a0::H) w'∧Fx f' [(1,Vq t),(2,Vq n),(5,Vq u),(6,Vq j),(7,O ((b:Int))),(8,Vq al),(9,Vq ag),(10,Vq a1),(40,o),(41,O ((z.Jobs.length:Int))),(42,O ((b:Int)))]) ?_ ?_)
  ·refine QT (n0:=11) (.q 0 (.q 1 (.q 4 (.q 5 (.alt (.e 2 [4,5] (.q 3 (.alt (.e 6 [3] (.q 7 (.alt (.e 8 [3,7] (.e 9 [3,7] (.e 10 [7] .done))) (.e 9 [3,7] (.e 8 [3,7] (.e 10 [7] .done)))))) (.alt (.e 8 [4,5,3] (.alt (.e 6 [3] (.q 7 (.e 9 [3,7] (.e 10 [7] .done)))) (.e 9 [4,5,3] (.e 6 [3] (.q 7 (.e 10 [7] .done)))))) (.e 9 [4,5,3] (.alt (.e 6 [3] (.q 7 (.e 8 [3,7] (.e 10 [7] .done)))) (.e 8 [4,5,3] (.e 6 [3] (.q 7 (.e 10 [7] .done)))))))))) (.alt (.e 8 [0,1,4,5] (.alt (.e 2 [4,5] (.q 3 (.alt (.e 6 [3] (.q 7 (.e 9 [3,7] (.e 10 [7] .done)))) (.e 9 [4,5,3] (.e 6 [3] (.q 7 (.e 10 [7] .done))))))) (.e 9 [0,1,4,5] (.e 2 [4,5] (.q 3 (.e 6 [3] (.q 7 (.e 10 [7] .done)))))))) (.e 9 [0,1,4,5] (.alt (.e 2 [4,5] (.q 3 (.alt (.e 6 [3] (.q 7 (.e 8 [3,7] (.e 10 [7] .done)))) (.e 8 [4,5,3] (.e 6 [3] (.q 7 (.e 10 [7] .done))))))) (.e 8 [0,1,4,5] (.e 2 [4,5] (.q 3 (.e 6 [3] (.q 7 (.e 10 [7] .done)))))))))))))) JQ ?_
   have hS:=b9.drew
   repeat' first
   |refine Qb5 ?_ ?_
   | (refine G ?_;first
      |refine Qb5 ?_ ?_
      |(refine Qcg 1 36 rfl ?_;refine Tc rfl rfl rfl rfl (Jx (Jw a (b:Int)) hS rq rq rq).r ?_;rintro _ _ ⟨_,_,hS,rfl⟩;refine ⟨agb,?_⟩)
      |(refine Qcg 1 37 rfl ?_;refine Tc rfl rfl rfl rfl (Qav (Qau a (b:Int)) hS rq rq rq).r ?_;rintro _ _ ⟨_,_,hS,rfl⟩;refine ⟨agb,?_⟩)
      |(refine Qcg 2 82 rfl ?_;refine Q2 rfl (Qb (c:=[O (Qf a (b:Int))]) (Qd rfl rfl) Qg) (v:=Value.agg #[O (Qf a (b:Int)),O 0]) ⟨rfl,?_⟩)
      |(refine Qcg 2 82 rfl ?_;refine Q2 rfl (Qb (c:=[O (Qz a (b:Int))]) (Qd rfl rfl) Qg) (v:=Value.agg #[O (Qz a (b:Int)),O 0]) ⟨rfl,?_⟩)
      |(refine Qcg 4 82 rfl ?_;refine DT (cs:=[O 0,O 0]) hS Z82 rfl rfl ?_;intro _ _ hS;refine ⟨agb,?_⟩)
      |(refine Qcg 6 82 rfl ?_;refine Qu (ds:=[O (Qf a (b:Int)),O 0]) (es:=[O (Qf a (b:Int)),O 0]) (by first |exact hS |exact hS.f1 |exact hS.f2) A82.h rfl rfl rfl rfl (Zj rfl (Zj rfl QM)) (Xc rfl) rfl ?_;intro _ hS;refine ⟨agb,?_⟩))
   all_goals (refine G ?_;refine Xst rfl rfl rfl ?_;intro _ _;refine G ?_;exact fq)
  rintro _ _ ⟨cF,ag,a1,_,bA,_,rfl⟩
  refine Qa m fun _ co m=>Qa m fun aq cp m=>Qa m fun aS cq m=>g ?_
  refine Zc (QL (M:=fun f' w'=>∃aW ao,Gc.le cF aW∧St w0 aW (Res.box t 26 [ab,ac,ad,o]::Res.box n 49 [Vn,Vn,Vn,Vn]::Res.box u 94 [O (a.jobs),ae,af,O (a.phase),d]::Res.box j 49 [d,i,x,ao]::Res.box al 85 [Value.string (p.Name),O (p.Duration),aC,aD,aE,aF,aG]::Res.box ag 82 [O ((Qf a (b:Int))),O 0]::Res.arr (Qc .i64) 3 i ah::Res.arr Gd 82 x aj::Res.arr GC 99 ao aS::H) w'∧Fx f' [(1,Vq t),(2,Vq n),(5,Vq u),(6,Vq j),(7,O ((b:Int))),(8,Vq al),(9,Vq ag),(40,o),(41,O ((z.Jobs.length:Int))),(42,O ((b:Int)))]) ?_ ?_)
  ·refine QT (n0:=23) (qs 0 12 (.q 13 (.q 14 (.q 16 (.q 17 (.alt (.e 12 [0,1,2,3,4,5,6,7,8,9,13,14,16,17] (.e 15 [0,1,2,3,4,5,6,7,8,9,16,17] (.q 18 (.e 19 [0,1,2,3,4,5,6,7,8,9] (.e 20 [0,1] (.e 21 [0,1] (.e 22 [] .done))))))) (.e 15 [0,1,2,3,4,5,6,7,8,9,10,11,16,17] (.q 18 (.alt (.e 12 [0,1,2,3,4,5,6,7,8,9,16,17,18] (.e 19 [0,1,2,3,4,5,6,7,8,9] (.e 20 [0,1] (.e 21 [0,1] (.e 22 [] .done))))) (.e 19 [0,1,2,3,4,5,6,7,8,9,10,11] (.e 12 [0,1,2,3,4,5,6,7,8,9] (.e 20 [0,1] (.e 21 [0,1] (.e 22 [] .done)))))))))))))) JQ ?_
   have hS:=bA.drew
   refine G ?_
   refine J3 Z Z Z co ⟨Z,?_⟩
   repeat' first
   |refine Qb5 ?_ ?_
   | (refine G ?_;first
      |refine Qb5 ?_ ?_
      |(refine Qcg 3 23 rfl ?_;refine Qt (Te:=82) (cs:=[O (Qf a (b:Int)),O 0,O (Qz a (b:Int)),O 0]) hS rfl (Qb (c:=[O (Qf a (b:Int)),O 0]) (Qd rfl rfl) (Qb (c:=[O (Qz a (b:Int)),O 0]) (Qd rfl rfl) Qg)) ?_;intro _ _ hS;refine ⟨agb,?_⟩)
      |(refine Qcg 1 36 rfl ?_;refine Tc rfl rfl rfl rfl (Jx (Jw a (b:Int)) hS rq rq rq).r ?_;rintro _ _ ⟨_,_,hS,rfl⟩;refine ⟨agb,?_⟩)
      |(refine Qcg 2 102 rfl ?_;refine Q2 rfl (Qb (c:=[O (Qf a (b:Int))]) (Qd rfl rfl) (Qb (c:=[O (p.Duration)]) (Qd rfl rfl) Qg)) (v:=Value.agg #[Value.slice none 0 0,O (Qf a (b:Int)),O (p.Duration)]) ⟨rfl,?_⟩)
      |(refine Qcg 3 97 rfl ?_;refine Qt (Te:=102) (cs:=[Value.slice none 0 0,O (Qf a (b:Int)),O (p.Duration)]) hS rfl (Qb (c:=[Value.slice none 0 0,O (Qf a (b:Int)),O (p.Duration)]) (Qd rfl rfl) Qg) ?_;intro _ _ hS;refine ⟨agb,?_⟩)
      |(refine Qcg 1 38 rfl ?_;obtain ⟨_,l,hS,_⟩:=(St.boxArr (Te:=82) (E:=Gd) (xs:=[(⟨(Qf a (b:Int)),0⟩:Gj),(⟨(Qz a (b:Int)),0⟩:Gj)]) (by first |exact hS |exact hS.f1) ⟨[_,_],_,rfl,⟨[_],_,rfl,rfl,rfl⟩,⟨[_,_],_,rfl,⟨[_],_,rfl,rfl,rfl⟩,rfl⟩⟩ (by simp [maxLen])).freezeArr;obtain ⟨_,_,hS,r⟩:=(St.boxArr (Te:=102) (E:=Gm) (xs:=[(⟨[],(Qf a (b:Int)),p.Duration⟩:Gn)]) hS (G7.mono l ⟨[_,_,_],_,rfl,⟨[_],_,rfl,⟨_,rfl,Ga.nil _ _⟩,[_],_,rfl,rfl,rfl⟩,rfl⟩) (by simp [maxLen])).freezeArr;refine Tc rfl rfl rfl rfl (QaJ cp hS rq rq rq rq rq rq r).r ?_;rintro _ _ ⟨_,v1,v2,_,hS,rfl,r1,r2⟩;refine ⟨agb,?_⟩)
      |(refine Qcg 3 47 rfl ?_;refine Qt (Te:=99) (cs:=[Value.string (aq.Name),O (aq.Cost),v1,v2]) hS rfl (Qb (c:=[Value.string (aq.Name),O (aq.Cost),v1,v2]) (Qd rfl rfl) Qg) ?_;intro _ _ hS;refine ⟨agb,?_⟩)
      |(refine Qcg 7 0 rfl ?_;refine Qn (E:=GC) (ys:=[aq]) hS.f10 S47.h Z99 rfl (by decide) rfl rfl rfl rfl ⟨[_,_,_,_],_,rfl,⟨[_],_,rfl,rfl,[_],_,rfl,rfl,[_],_,rfl,⟨_,rfl,r1⟩,_,rfl,r2⟩,rfl⟩ rfl cq ?_;intro v _ hS;refine ⟨agb,?_⟩))
   all_goals (refine G ?_;refine Qu (ds:=[v]) (es:=[d,i,x,v]) hS.f4 A47.h rfl rfl rfl (Qs hS.arr_one) (Zj hS.arr_one QM) (Xc rfl) rfl ?_;intro _ _;refine G ?_;exact fq)
  rintro _ _ ⟨cG,ao,_,bB,_,rfl⟩
  refine g ?_
  refine Zc (QL (M:=fun f' w'=>∃aX a2,Gc.le cG aX∧St w0 aX (Res.box t 26 [ab,ac,ad,o]::Res.box n 49 [Vn,Vn,Vn,Vn]::Res.box u 94 [O (a.jobs),ae,af,O (a.phase),d]::Res.box j 49 [d,i,x,ao]::Res.box al 85 [Value.string (p.Name),O (p.Duration),aC,aD,aE,aF,aG]::Res.box ag 82 [O ((Qf a (b:Int))),O 0]::Res.box a2 82 [O ((Qf a (b:Int))),O (IntKind.i64.wrap (p.Duration+1))]::Res.arr (Qc .i64) 3 i ah::Res.arr Gd 82 x aj::Res.arr GC 99 ao aS::H) w'∧Fx f' [(1,Vq t),(2,Vq n),(5,Vq u),(6,Vq j),(7,O ((b:Int))),(8,Vq al),(9,Vq ag),(11,Vq a2),(40,o),(41,O ((z.Jobs.length:Int))),(42,O ((b:Int)))]) ?_ ?_)
  ·refine QT (n0:=8) (.q 0 (.q 1 (qs 3 3 (.alt (.e 2 [3,4,5] (.q 6 (.e 7 [3,4,5,6] .done))) (.e 7 [0,1,3,4,5] (.e 2 [3,4,5] (.q 6 .done))))))) JQ ?_
   have hS:=bB.drew
   repeat' first
   |refine Qb5 ?_ ?_
   | (refine G ?_;first
      |refine Qb5 ?_ ?_
      |(refine Qcg 1 36 rfl ?_;refine Tc rfl rfl rfl rfl (Jx (Jw a (b:Int)) hS rq rq rq).r ?_;rintro _ _ ⟨_,_,hS,rfl⟩;refine ⟨agb,?_⟩)
      |(refine Qcg 2 82 rfl ?_;refine Q2 rfl (Qb (c:=[O (Qf a (b:Int))]) (Qd rfl rfl) (Qb (c:=[O (IntKind.i64.wrap (p.Duration+1))]) (Qd rfl rfl) Qg)) (v:=Value.agg #[O (Qf a (b:Int)),O (IntKind.i64.wrap (p.Duration+1))]) ⟨rfl,?_⟩)
      |(refine Qcg 4 82 rfl ?_;refine DT (cs:=[O 0,O 0]) hS Z82 rfl rfl ?_;intro _ _ hS;refine ⟨agb,?_⟩))
   all_goals (refine G ?_;refine Xst rfl rfl rfl ?_;intro _ _;refine G ?_;exact fq)
  rintro _ _ ⟨cH,a2,_,bC,_,rfl⟩
  refine Qa m fun _ cr m=>Qa m fun ar ct m=>Qa m fun cf cu m=>g ?_
  refine Zc (QL (M:=fun f' w'=>∃aY aw,Gc.le cH aY∧St w0 aY (Res.box t 26 [ab,ac,ad,o]::Res.box n 49 [Vn,Vn,Vn,Vn]::Res.box u 94 [O (a.jobs),ae,af,O (a.phase),d]::Res.box j 49 [d,i,x,aw]::Res.box ag 82 [O ((Qf a (b:Int))),O 0]::Res.arr (Qc .i64) 3 i ah::Res.arr Gd 82 x aj::Res.arr GC 99 aw cf::H) w'∧Fx f' [(1,Vq t),(2,Vq n),(5,Vq u),(6,Vq j),(9,Vq ag),(40,o),(41,O ((z.Jobs.length:Int))),(42,O ((b:Int)))]) ?_ ?_)
  ·refine QT (n0:=24) (qs 0 11 (.q 12 (.q 13 (.q 16 (.q 17 (.alt (.e 11 [0,1,2,3,4,5,6,7,8,9,12,13,16,17] (.e 14 [0,1,2,3,4,5,6,7,8,9,16,17] (.q 15 (.e 18 [0,1,2,3,4,5,6,7,8,9,15] (.q 19 (.e 20 [0,1,2,3,4,5,6,7,8,9] (.e 21 [0,1] (.e 22 [0,1] (.e 23 [] .done))))))))) (.e 14 [0,1,2,3,4,5,6,7,8,9,10,16,17] (.q 15 (.alt (.e 11 [0,1,2,3,4,5,6,7,8,9,16,17,15] (.e 18 [0,1,2,3,4,5,6,7,8,9,15] (.q 19 (.e 20 [0,1,2,3,4,5,6,7,8,9] (.e 21 [0,1] (.e 22 [0,1] (.e 23 [] .done))))))) (.e 18 [0,1,2,3,4,5,6,7,8,9,10,15] (.q 19 (.alt (.e 11 [0,1,2,3,4,5,6,7,8,9,15,19] (.e 20 [0,1,2,3,4,5,6,7,8,9] (.e 21 [0,1] (.e 22 [0,1] (.e 23 [] .done))))) (.e 20 [0,1,2,3,4,5,6,7,8,9,10] (.e 11 [0,1,2,3,4,5,6,7,8,9] (.e 21 [0,1] (.e 22 [0,1] (.e 23 [] .done))))))))))))))))) JQ ?_
   have hS:=bC.drew
   refine G ?_
   refine J3 Z Z Z cr ⟨Z,?_⟩
   repeat' first
   |refine Qb5 ?_ ?_
   | (refine G ?_;first
      |refine Qb5 ?_ ?_
      |(refine Qcg 3 23 rfl ?_;refine Qt (Te:=82) (cs:=[O (Qf a (b:Int)),O (IntKind.i64.wrap (p.Duration+1))]) hS rfl (Qb (c:=[O (Qf a (b:Int)),O (IntKind.i64.wrap (p.Duration+1))]) (Qd rfl rfl) Qg) ?_;intro _ _ hS;refine ⟨agb,?_⟩)
      |(refine Qcg 1 36 rfl ?_;refine Tc rfl rfl rfl rfl (Jx (Jw a (b:Int)) hS rq rq rq).r ?_;rintro _ _ ⟨_,_,hS,rfl⟩;refine ⟨agb,?_⟩)
      |(refine Qcg 2 102 rfl ?_;refine Q2 rfl (Qb (c:=[O (Qf a (b:Int))]) (Qd rfl rfl) Qg) (v:=Value.agg #[Value.slice none 0 0,O (Qf a (b:Int)),O 0]) ⟨rfl,?_⟩)
      |(refine Qcg 1 37 rfl ?_;refine Tc rfl rfl rfl rfl (Qav (Qau a (b:Int)) hS rq rq rq).r ?_;rintro _ _ ⟨_,_,hS,rfl⟩;refine ⟨agb,?_⟩)
      |(refine Qcg 2 102 rfl ?_;refine Q2 rfl (Qb (c:=[O (Qz a (b:Int))]) (Qd rfl rfl) (Qb (c:=[O 1]) (Qd rfl rfl) Qg)) (v:=Value.agg #[Value.slice none 0 0,O (Qz a (b:Int)),O 1]) ⟨rfl,?_⟩)
      |(refine Qcg 3 97 rfl ?_;refine Qt (Te:=102) (cs:=[Value.slice none 0 0,O (Qf a (b:Int)),O 0,Value.slice none 0 0,O (Qz a (b:Int)),O 1]) hS rfl (Qb (c:=[Value.slice none 0 0,O (Qf a (b:Int)),O 0]) (Qd rfl rfl) (Qb (c:=[Value.slice none 0 0,O (Qz a (b:Int)),O 1]) (Qd rfl rfl) Qg)) ?_;intro _ _ hS;refine ⟨agb,?_⟩)
      |(refine Qcg 1 38 rfl ?_;obtain ⟨_,l,hS,_⟩:=(St.boxArr (Te:=82) (E:=Gd) (xs:=[(⟨(Qf a (b:Int)),IntKind.i64.wrap (p.Duration+1)⟩:Gj)]) (by first |exact hS |exact hS.f1) ⟨[_,_],_,rfl,⟨[_],_,rfl,rfl,rfl⟩,rfl⟩ (by simp [maxLen])).freezeArr;obtain ⟨_,_,hS,r⟩:=(St.boxArr (Te:=102) (E:=Gm) (xs:=[(⟨[],(Qf a (b:Int)),0⟩:Gn),(⟨[],(Qz a (b:Int)),1⟩:Gn)]) hS (G7.mono l ⟨[_,_,_],_,rfl,⟨[_],_,rfl,⟨_,rfl,Ga.nil _ _⟩,[_],_,rfl,rfl,rfl⟩,⟨[_,_,_],_,rfl,⟨[_],_,rfl,⟨_,rfl,Ga.nil _ _⟩,[_],_,rfl,rfl,rfl⟩,rfl⟩⟩) (by simp [maxLen])).freezeArr;refine Tc rfl rfl rfl rfl (QaJ ct hS rq rq rq rq rq rq r).r ?_;rintro _ _ ⟨_,v1,v2,_,hS,rfl,r1,r2⟩;refine ⟨agb,?_⟩)
      |(refine Qcg 3 47 rfl ?_;refine Qt (Te:=99) (cs:=[Value.string (ar.Name),O (ar.Cost),v1,v2]) hS rfl (Qb (c:=[Value.string (ar.Name),O (ar.Cost),v1,v2]) (Qd rfl rfl) Qg) ?_;intro _ _ hS;refine ⟨agb,?_⟩)
      |(refine Qcg 7 0 rfl ?_;refine Qn (E:=GC) (ys:=[ar]) hS.f10 S47.h Z99 rfl (by decide) rfl rfl rfl rfl ⟨[_,_,_,_],_,rfl,⟨[_],_,rfl,rfl,[_],_,rfl,rfl,[_],_,rfl,⟨_,rfl,r1⟩,_,rfl,r2⟩,rfl⟩ rfl cu ?_;intro v _ hS;refine ⟨agb,?_⟩))
   all_goals (refine G ?_;refine Qu (ds:=[v]) (es:=[d,i,x,v]) hS.f4 A47.h rfl rfl rfl (Qs hS.arr_one) (Zj hS.arr_one QM) (Xc rfl) rfl ?_;intro _ _;refine G ?_;exact fq)
  rintro _ _ ⟨_,aw,_,bD,_,rfl⟩
  refine G ?_
  refine Qt (Te:=82) (cs:=[O ((Qf a (b:Int))),O 0]) bD Z (Qb (Qd Z Z) Qg) fun _ _ bE=>?_
  refine Qa m fun _ cv m=>G ?_
  refine Qn (E:=Gd) (ys:=[(⟨(Qf a (b:Int)),0⟩:Gj)]) bE.f7 S23.h Z82 Z (by decide) Z Z Z Z ⟨[_,_],_,Z,⟨[_],_,Z,Z,Z⟩,Z⟩ Z cv fun bl _ a3=>?_
  refine G ?_
  refine Qu (ds:=[bl]) (es:=[d,i,bl,aw]) a3.f4 A23.h Z Z Z (Qs ((a3.f4).f1).arr_one) (Zj ((a3.f4).f1).arr_one QM) (Xc Z) Z ?_
  intro _ _
  cases m
  refine G ?_
  exact fq
 intro _ _ bz
 obtain ⟨a0,aj⟩:=cM
 replace hm:=QC hm
 obtain ⟨cI,x,ak,_,bF,_,rfl⟩:=bz
 refine G ?_
 refine Q2 Z (Qb (Qd Z Z) Qg) (v:=Value.agg #[O (a.phase),O 0]) (G ?_)
 refine Qt (Te:=82) (cs:=[O (a.phase),O 0]) bF Z (Qb (Qd Z Z) Qg) fun _ _ bG=>?_
 refine Qa hm fun a8 cw hm=>G ?_
 refine Qn (E:=Gd) (ys:=[(⟨a.phase,0⟩:Gj)]) bG.f6 S23.h Z82 Z (by decide) Z Z Z Z ⟨[_,_],_,Z,⟨[_],_,Z,Z,Z⟩,Z⟩ Z cw fun aa _ a4=>?_
 refine G ?_
 refine Qu (ds:=[aa]) (es:=[d,i,aa,ak]) a4.f4 A23.h Z Z Z (Qs ((a4.f4).f1).arr_one) (Zj ((a4.f4).f1).arr_one QM) (Xc Z) Z fun _ bH=>?_
 refine Qa hm fun a9 y hm=>g ?_
 refine Zc (Zc (Zd (g ?_)))
 refine QL (M:=fun f' w'=>(fun (a9:List Op)=>∃aZ aI,Gc.le cI aZ∧St w0 aZ (Res.box n 49 [Vn,Vn,Vn,Vn]::Res.box j 49 [d,i,aa,aI]::Res.arr (Qc .i64) 3 i ah::Res.arr Gd 82 aa a8::Res.arr GC 99 aI a9::H) w'∧Fx f' [(2,Vq n),(6,Vq j)]) a9) ?_ ?_
 ·refine Qe y (fun cb y=>?_) fun cb y=>?_
  ·refine G ?_
   refine Q2 Z (Qb (Qd Z Z) Qg) (v:=Value.agg #[O (a.phase),O 0]) (G ?_)
   refine Qt (Te:=82) (cs:=[O (a.phase),O 0]) bH Z (Qb (Qd Z Z) Qg) fun aM _ bI=>?_
   refine G ?_
   refine Q2 Z (Qb (Qd Z Z) (Qb (Qd Z Z) Qg)) (v:=Value.agg #[Vn,O (a.phase),O 1]) (G ?_)
   refine Qt (Te:=102) (cs:=[Vn,O (a.phase),O 1]) bI Z (Qb (Qd Z Z) Qg) fun aN _ bJ=>?_
   refine G ?_
   refine Q2 Z (Qb (Qd Z Z) (Qb (Qd Z Z) (Qb (Qd Z Z) Qg))) (v:=Value.agg #[Value.string (⟨#[116,105,99,107]⟩),O 0,Vs (some ⟨aM,0,none⟩) 1 1,Vs (some ⟨aN,0,none⟩) 1 1]) ?_
   obtain ⟨_,cg,bK,_⟩:=(St.boxArr (E:=Gd) (xs:=[(⟨a.phase,0⟩:Gj)]) bJ.f1 ⟨[_,_],_,rfl,⟨[_],_,rfl,rfl,rfl⟩,rfl⟩ (by simp [maxLen])).freezeArr
   obtain ⟨cJ,_,bL,c6⟩:=(St.boxArr (E:=Gm) (xs:=[(⟨[],a.phase,1⟩:Gn)]) bK (G7.mono cg ⟨[_,_,_],_,rfl,⟨[_],_,rfl,⟨_,rfl,(Ga.nil _ _)⟩,[_],_,rfl,rfl,rfl⟩,rfl⟩) (by simp [maxLen])).freezeArr
   refine G ?_
   refine Qt (Te:=99) (cs:=[Value.string (⟨#[116,105,99,107]⟩),O 0,Vs (some ⟨aM,0,none⟩) 1 1,Vs (some ⟨aN,0,none⟩) 1 1]) bL Z (Qb (Qd Z Z) Qg) fun _ _ bM=>?_
   refine Qa y fun _ cx y=>G ?_
   refine Qn (E:=GC) (ys:=[(⟨⟨#[116,105,99,107]⟩,0,[(⟨a.phase,0⟩:Gj)],[(⟨[],a.phase,1⟩:Gn)]⟩:Op)]) bM.f7 S47.h Z99 Z (by decide) Z Z Z Z ⟨[_,_,_,_],_,Z,⟨[_],_,Z,Z,[_],_,Z,Z,[_],_,Z,⟨_,Z,rq⟩,_,Z,c6⟩,Z⟩ Z cx fun bm _ a5=>?_
   refine G ?_
   refine Qu (ds:=[bm]) (es:=[d,i,aa,bm]) a5.f1 A47.h Z Z Z (Qs ((a5.f1).f1).arr_one) (Zj ((a5.f1).f1).arr_one QM) (Xc Z) Z fun _ bN=>?_
   refine Qa y fun aA bv y=>G ?_
   refine QO (fun k' s' f' w'=>(fun (aA:List Op)=>∃ba ax,Gc.le cJ ba∧St w0 ba (Res.box t 26 [ab,ac,ad,o]::Res.box n 49 [Vn,Vn,Vn,Vn]::Res.box u 94 [O (a.jobs),ae,af,O (a.phase),d]::Res.box j 49 [d,i,aa,ax]::Res.arr (Qc .i64) 3 i ah::Res.arr Gd 82 aa a8::Res.arr GC 99 ax aA::H) w'∧Fx f' [(147,O (k':Int)),(1,Vq t),(2,Vq n),(5,Vq u),(6,Vq j),(145,o),(146,O ((z.Jobs.length:Int)))]) s') bv ?_ ?_ ?_
   ·have cV:=bN.f1
    exact fq
   ·intro aR aA _ _ _ _ b0 ai
    obtain ⟨cK,ax,_,aQ,_,rfl⟩:=b0
    refine Qa ai fun ap cy ai=>G ?_
    refine Jv Z Z Z cy fun _ _ bt=>?_
    refine G ?_
    refine Zw (E:=Gw) aQ A85.h Z Z Z bt ?_
    intro _ cz
    obtain ⟨bc,bd,be,bf,bg,rfl,_,_,_,_,_⟩:=K9.1 cz
    refine G ?_
    refine DT (cs:=[Value.string (⟨#[]⟩),O 0,Vn,Vn,Vn,Vn,Vn]) aQ Z85 Z Z fun aO _ _=>?_
    refine G ?_
    refine Xst Z Z Z fun _ bO=>?_
    refine Qa ai fun _ c0 ai=>Qa ai fun aB bw ai=>G ?_
    refine QO (fun k' s' f' w'=>(fun (aB:List Op)=>∃bb ay,Gc.le cK bb∧St w0 bb (Res.box t 26 [ab,ac,ad,o]::Res.box n 49 [Vn,Vn,Vn,Vn]::Res.box u 94 [O (a.jobs),ae,af,O (a.phase),d]::Res.box j 49 [d,i,aa,ay]::Res.box aO 85 [Value.string (ap.Name),O (ap.Duration),bc,bd,be,bf,bg]::Res.arr (Qc .i64) 3 i ah::Res.arr Gd 82 aa a8::Res.arr GC 99 ay aB::H) w'∧Fx f' [(155,O (k':Int)),(1,Vq t),(2,Vq n),(5,Vq u),(6,Vq j),(12,O ((aR:Int))),(13,Vq aO),(145,o),(146,O ((z.Jobs.length:Int))),(147,O ((aR:Int))),(154,O (IntKind.i64.wrap (ap.Duration+1)))]) s') bw ?_ ?_ ?_
    ·have cW:=bO.f7
     exact fq
    ·intro _ aB _ _ _ cd b1 an
     obtain ⟨_,ay,_,au,_,rfl⟩:=b1
     refine G ?_
     refine QT (n0:=9) (qs 0 6 (.e 6 [0,1] (.e 7 [0,1] (.e 8 [] .done)))) JQ (G ?_)
     refine Zn ((au.drew).f3) A47.h Z Z Z ⟨Z,G ?_⟩
     refine Q4 (ds:=[O (a.jobs),ae,af,O (a.phase),d]) ((au.drew).f2) A94.h Z Z Z ⟨Z,G ?_⟩
     refine Q4 (ds:=[Value.string (ap.Name),O (ap.Duration),bc,bd,be,bf,bg]) ((au.drew).f4) A85.h Z Z Z ⟨Z,Qa an fun aK c1 an=>G ?_⟩
     refine Tc Z Z Z Z (QeL c1 au.drew rq rq rq rq rq rq rq rq).r ?_
     rintro _ _ ⟨cL,cO,cP,_,bP,rfl,c7,c8⟩
     refine ⟨Yd,G ?_⟩
     refine Qt (Te:=99) (cs:=[Value.string (aK.Name),O (aK.Cost),cO,cP]) bP Z (Qb (Qd Z Z) Qg) fun _ _ bQ=>?_
     refine ⟨Yd,Qa an fun _ c2 an=>G ?_⟩
     refine Qn (E:=GC) (ys:=[aK]) bQ.f8 S47.h Z99 Z (by decide) Z Z Z Z ⟨[_,_,_,_],_,Z,⟨[_],_,Z,Z,[_],_,Z,Z,[_],_,Z,⟨_,Z,c7⟩,_,Z,c8⟩,Z⟩ Z c2 fun aJ _ a6=>?_
     refine ⟨Yd,G ?_⟩
     refine Qu (ds:=[aJ]) (es:=[d,i,aa,aJ]) a6.f4 A47.h Z Z Z (Qs ((a6.f4).f1).arr_one) (Zj ((a6.f4).f1).arr_one QM) (Xc Z) Z ?_
     intro _ bR
     cases an
     refine G ?_
     exact ⟨cL,aJ,lq,(((((((bR.f1).f7).f7).f7).f4).f7).f7).f7,(Fx.mk (FxL.cons (Jo cd (by have h:=Qbn c0;simp at h;simp only [maxLen];omega)) fxl))⟩
    rintro _ _ ⟨_,ay,_,_,_,rfl⟩
    cases ai
    refine G ?_
    exact fq
   rintro _ _ ⟨_,ax,_,av,_,rfl⟩
   refine G ?_
   refine QT (n0:=9) (qs 0 6 (.e 6 [0,1] (.e 7 [0,1] (.e 8 [] .done)))) JQ (G ?_)
   refine Zn ((av.drew).f3) A47.h Z Z Z ⟨Z,G ?_⟩
   refine Q4 (ds:=[O (a.jobs),ae,af,O (a.phase),d]) ((av.drew).f2) A94.h Z Z Z ⟨Z,G ?_⟩
   refine Zn (av.drew) A24.h Z Z Z ⟨Z,Qa y fun aL c3 y=>G ?_⟩
   refine Tc Z Z Z Z (QdI c3 av.drew rq rq rq).r ?_
   rintro _ _ ⟨_,cQ,cR,_,bS,rfl,c9,cA⟩
   refine ⟨Yd,G ?_⟩
   refine Qt (Te:=99) (cs:=[Value.string (aL.Name),O (aL.Cost),cQ,cR]) bS Z (Qb (Qd Z Z) Qg) fun _ _ bT=>?_
   refine ⟨Yd,Qa y fun _ c4 y=>G ?_⟩
   refine Qn (E:=GC) (ys:=[aL]) bT.f7 S47.h Z99 Z (by decide) Z Z Z Z ⟨[_,_,_,_],_,Z,⟨[_],_,Z,Z,[_],_,Z,Z,[_],_,Z,⟨_,Z,c9⟩,_,Z,cA⟩,Z⟩ Z c4 fun bn _ a7=>?_
   refine ⟨K7,G ?_⟩
   refine Qu (ds:=[bn]) (es:=[d,i,aa,bn]) a7.f4 A47.h Z Z Z (Qs ((a7.f4).f1).arr_one) (Zj ((a7.f4).f1).arr_one QM) (Xc Z) Z ?_
   intro _ _
   cases y
   refine G ?_
   exact fq
  cases y
  refine G ?_
  exact fq
 rintro _ _ ⟨_,aI,_,bU,_,rfl⟩
 refine G ?_
 obtain ⟨_,_,bV,_⟩:=bU.f2.freezeArr
 obtain ⟨_,_,bW,_⟩:=bV.f2.freezeArr
 obtain ⟨_,_,bX,cB⟩:=bW.f2.freezeArr
 refine Qa hm fun _ c5 hm=>G ?_
 refine Tc Z Z Z Z (QfS c5 bX rq rq rq cB).r ?_
 rintro _ _ ⟨_,_,_,rfl⟩
 refine G ?_
 refine Qv (T:=63) Tryz.underlying30 Z Z Z (G ?_)
 refine Qe hm (fun cc hm=>?_) fun cc hm=>?_
 ·refine G ?_
  refine Q2 Z Qg (v:=Value.agg #[Vn,Vn,Vn,Vn]) (G ?_)
  refine Xst Z Z Z ?_
  intro _ bY
  cases hm
  refine G ?_
  exact ⟨_,Qr6 Z ⟨_,_,Z,Qdn (bY) A49.h⟩ Z,fq⟩
 refine G ?_
 refine Xst Z Z Z ?_
 intro _ bZ
 cases hm
 refine G ?_
 exact ⟨_,Qr6 Z ⟨_,_,Z,Qdn (bZ) A49.h⟩ Z,fq⟩
instance F108_1:FTy Tryz.prog 108 1 4:=⟨by kernel_rfl⟩
theorem Qf3 {w0 w:World} {s:Gc} {H:List Res} {a b:Launch} {r:Int} (hm:Qb8 a b=some r) (hS:St w0 s (H) w) :
  Cv Tryz.prog 94 #[Value.agg #[O (a.At),O (a.Job)],Value.agg #[O (b.At),O (b.Job)]] w0 w s H r fun m=>O m:=by
 unfold Qb8 at hm
 refine Qh Tryz.func94 Z Z (G ?_)
 refine JV Z Z fun _ _ _=>?_
 refine G ?_
 refine JV Z Z fun _ _ c=>?_
 refine G ?_
 refine QT (n0:=12) (qs 0 4 (qs 5 4 (.e 4 [5,6,7,8] (.e 9 [] (.e 10 [] (.e 11 [] .done)))))) JQ (G ?_)
 refine Zn ((c.drew).f1) A3.h Z Z Z ⟨Z,G ?_⟩
 refine Zn (c.drew) A3.h Z Z Z ⟨Z,G ?_⟩
 refine Zn ((c.drew).f1) A3.h Z Z Z ⟨Z,G ?_⟩
 refine Zn (c.drew) A3.h Z Z Z ⟨Z,G ?_⟩
 refine Tc Z Z Z Z (Jq (Jj a.At b.At) c.drew).r ?_
 rintro _ _ ⟨_,_,f,rfl⟩
 refine ⟨Yd,G ?_⟩
 refine Tc Z Z Z Z (Jq (Jj a.Job b.Job) f).r ?_
 rintro _ _ ⟨_,_,g,rfl⟩
 refine ⟨Yd,G ?_⟩
 refine Qt (Te:=3) (cs:=[O ((Qx a.At b.At)),O ((Qx a.Job b.Job))]) g Z (Qb (Qd Z Z) (Qb (Qd Z Z) Qg)) fun _ _ i=>?_
 refine ⟨Yd,?_⟩
 obtain ⟨_,_,j,l⟩:=(St.boxArr (E:=(Qc .i64)) (xs:=[(Qx a.At b.At),(Qx a.Job b.Job)]) i ⟨[_],_,rfl,rfl,[_],_,rfl,rfl,rfl⟩ (by simp [maxLen])).freezeArr
 refine Qa hm fun _ k hm=>G ?_
 refine Tc Z Z Z Z (Qcr k j l).r ?_
 rintro _ _ ⟨_,_,_,rfl⟩
 refine ⟨Yd,?_⟩
 cases hm
 refine G ?_
 exact fr
end Go.Pw
