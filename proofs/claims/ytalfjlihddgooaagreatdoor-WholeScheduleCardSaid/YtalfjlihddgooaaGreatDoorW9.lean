/- -/
import Derived.Test.YtalfjlihddgooaaGreatDoorBa
import Derived.Test.YtalfjlihddgooaaGreatDoorW7
import Derived.Test.YtalfjlihddgooaaGreatDoorWlP
import Derived.Test.YtalfjlihddgooaaGreatDoorLH
import Derived.Test.YtalfjlihddgooaaGreatDoorLC
import Derived.Test.YtalfjlihddgooaaGreatDoorLD
set_option linter.unusedSimpArgs false
set_option linter.unusedVariables false
namespace Go.Pw
open Go.Proofs Go.Shelf Go.RowKit Go.Lib Go.Sort
theorem QqS (s:Gc) (cs:List Value) (x:Gj):Gd.rep s cs x↔cs=[.int .i64 x.Var, .int .i64 x.Val]:=by
 simp only [Gd,Enc.iso,Enc.pair,Qc,Y8]
 constructor
 ·rintro ⟨_,_,rfl,rfl,rfl⟩;rfl
 ·rintro rfl;exact ⟨[_],[_],rfl,rfl,rfl⟩
theorem Qm9 {w0 w:World} {s:Gc} {H:List Res} {xs:List Gj} {v:Value} {r:List Gj} (hm:QeZ xs=some r) (hS:St w0 s (Res.arr Gd 82 v xs::H) w) :
  Calls Tryz.prog 86 #[v,Value.func (.func 87) #[] #[]] w fun e w'=>∃u,e= .returned u∧((fun (l:List Gj)=>∃(s':Gc),Gc.le s s'∧St w0 s' (Res.arr Gd 82 v l::H) w'∧u=Value.tuple #[]) r):=by
 unfold QeZ at hm
 split at hm
 ·rename_i hlen
  cases hm
  have h:=Qnt (P:=Tryz.prog) (ρ:=Ql7) (E:=Gd) (enc:=fun x=>[.int .i64 x.Var, .int .i64 x.Val]) (k:=2) QxF (fun _=>by exact Tryz.isAgg82 _) (fun _=>by exact Tryz.sizeOf82 _) (by decide) (fun _=>rfl)
   (fun x v hv=>by simp at hv;rcases hv with rfl |rfl <;> rfl) QqS rfl (fun x y=>Qc1 x.Var y.Var)
   ⟨fun x=>by simp [ltOf,Qbg],fun x y z h1 h2=>by simp only [ltOf,Xz,Qbg] at *;omega,fun x y z h1 h2=>by simp only [ltOf,Xx,Qbg] at *;omega⟩
   87 (enters_of Tryz.func87 (by kernel_rfl) rfl) (fun W x y=>Qcy (by unfold Yp;rw [Qwh]) (St.start W)) hlen hS
  refine h.mono ?_
  rintro e w' ⟨rfl,hS'⟩
  exact ⟨_,Z,s,Zv _,hS',Z⟩
 ·cases hm
end Go.Pw
/- -/
set_option maxRecDepth 100000
set_option maxHeartbeats 4000000
namespace Go.Pw
open Go.Proofs
variable {w0 w:World} {s:Gc} {H:List Res}
attribute [local irreducible] Exec WL W andThen QaB DL Jm
theorem QaJ {a:Gl} {b:ByteArray} {ae:(List Gj)} {aj:(List Gj)} {ad:(List Gj)} {y:(List Gn)} {af ag ah j p q l:Value} {r:Op} (hm:QY a b ae aj ad y=some r) (hS:St w0 s (H) w) (bd:Ga (Qc .i64) s af a.write) (be:Ga (Qc .i64) s ag a.read) (bf:Ga (Qc .i64) s ah a.vars) (bg:Ga Gd s j ae) (bh:Ga Gd s p aj) (bi:Ga Gd s q ad) (bj:Ga Gm s l y) :
  Cs Tryz.prog 38 #[Value.agg #[O (a.jobs),af,ag,O (a.phase),ah],Value.string (b),j,p,q,l] w r fun v w'=>fun (u:Op)=>∃o au av,Gc.le s o∧St w0 o (H) w'∧v=Value.agg #[Value.string (u.Name),O (u.Cost),au,av]∧Ga Gd o au u.Pre∧Ga Gm o av u.Effs:=by
 unfold QY at hm
 refine Qh Tryz.func38 Z Z (G ?_)
 refine JV Z Z fun ak _ a2=>?_
 refine G ?_
 refine DT (cs:=[Value.string (⟨#[]⟩),O 0,Vn,Vn]) a2 Z99 Z Z fun al _ a3=>?_
 refine G ?_
 refine Q2 Z (Qb (Qd Z Z) Qg) (v:=Value.agg #[O (a.phase),O 0]) (G ?_)
 refine Qt (Te:=82) (cs:=[O (a.phase),O 0]) a3 Z (Qb (Qd Z Z) Qg) ?_
 intro ay _ a4
 obtain ⟨_,_,a5,aV⟩:=(St.boxArr (E:=Gd) (xs:=[(⟨a.phase,0⟩:Gj)]) a4 ⟨[_,_],_,rfl,⟨[_],_,rfl,rfl,rfl⟩,rfl⟩ (by simp [maxLen])).freezeArr
 refine G ?_
 refine Qt (Te:=23) (cs:=[j,q,Vs (some ⟨ay,0,none⟩) 1 1]) a5 Z (Qb (c:=[j]) (Qd Z (Qs (rq).one)) (Qb (c:=[q]) (Qd Z (Qs (rq).one)) (Qb (Qd Z Z) Qg))) ?_
 intro _ _ a6
 obtain ⟨_,_,a7,aW⟩:=(St.boxArr (E:=(Qk Gd)) (xs:=[ae,ad,[(⟨a.phase,0⟩:Gj)]]) a6 ⟨[_],_,rfl,⟨_,rfl,rq⟩,[_],_,rfl,⟨_,rfl,rq⟩,[_],_,rfl,⟨_,rfl,aV⟩,rfl⟩ (by simp [maxLen])).freezeArr
 refine Qa hm fun bc aN hm=>G ?_
 refine Tc Z Z Z Z (QdK aN a7 aW).r ?_
 rintro m _ ⟨aZ,_,_,an,rfl⟩
 refine G ?_
 refine Q2 Z (Qb (Qd Z Z) (Qb (c:=[m]) (Qd Z (Qs an.arr_one)) Qg)) (v:=Value.agg #[Value.string (b),O 0,m,Vn]) (G ?_)
 refine DT (cs:=[Value.string (⟨#[]⟩),O 0,Vn,Vn]) an Z99 Z Z fun am _ _=>?_
 refine G ?_
 refine Xst Z Z Z fun _ a8=>?_
 refine Qa hm fun x a0 hm=>G ?_
 refine QO (fun k' s' f' w'=>(fun (x:List Gn)=>∃ar d,Gc.le aZ ar∧St w0 ar (Res.box ak 94 [O (a.jobs),af,ag,O (a.phase),ah]::Res.box al 99 [Value.string (⟨#[]⟩),O 0,Vn,Vn]::Res.box am 99 [Value.string (b),O 0,m,d]::Res.arr Gd 82 m bc::Res.arr Gm 102 d x::H) w'∧Fx f' [(30,O (k':Int)),(2,j),(3,p),(5,l),(6,Vq ak),(12,Vq al),(13,Vq am),(28,p),(29,O ((aj.length:Int)))]) s') a0 ?_ ?_ ?_
 ·have bk:=a8.nilArr Gm 102
  exact fq
 ·intro _ x _ _ _ aK a1 i
  obtain ⟨ba,d,aL,ao,_,rfl⟩:=a1
  refine Qa i fun g aO i=>G ?_
  refine Jv Z Z Z aO fun _ _ ax=>?_
  refine G ?_
  refine Zw (E:=Gd) ao A82.h Z Z Z ax ?_
  intro _ aP
  obtain rfl:=J2.1 aP
  refine G ?_
  refine DT (cs:=[O 0,O 0]) ao Z82 Z Z fun _ _ _=>?_
  refine G ?_
  refine Xst Z Z Z fun _ a9=>?_
  refine G ?_
  refine Q2 Z (Qb (Qd Z Z) (Qb (Qd Z Z) Qg)) (v:=Value.agg #[Vn,O (g.Var),O (g.Val)]) (G ?_)
  refine Qt (Te:=102) (cs:=[Vn,O (g.Var),O (g.Val)]) a9 Z (Qb (Qd Z Z) Qg) fun _ _ aA=>?_
  refine Qa i fun _ aQ i=>G ?_
  refine Qn (E:=Gm) (ys:=[(⟨[],g.Var,g.Val⟩:Gn)]) aA.f6 S97.h Qhr Z (by decide) Z Z Z Z ⟨[_,_,_],_,Z,⟨[_],_,Z,⟨_,Z,(Ga.nil _ _)⟩,[_],_,Z,Z,Z⟩,Z⟩ Z aQ fun ai _ z=>?_
  refine G ?_
  refine Qu (ds:=[ai]) (es:=[Value.string (b),O 0,m,ai]) z.f4 A97.h Z Z Z (Qs ((z.f4).f1).arr_one) (Zj ((z.f4).f1).arr_one QM) (Xc Z) Z ?_
  intro _ aB
  cases i
  refine G ?_
  exact ⟨ba,ai,aL,((((((aB.f2).drop).f1).f4).f2).f4).f4,(Fx.mk (FxL.cons (Jo aK (Ga.le rq)) fxl))⟩
 rintro _ _ ⟨_,d,_,aC,_,rfl⟩
 refine Qa hm fun bb aR hm=>?_
 obtain ⟨aM,az⟩:=bb
 replace hm:=QC hm
 refine G ?_
 refine Tc Z Z Z (Zi Z (Zi Z (Zi Z Jh))) (Qew aR aC rq rq rq rq rq).r ?_
 rintro _ _ ⟨_,_,aw,_,aD,rfl,aX,_⟩
 refine Qa hm fun _ aS hm=>G ?_
 refine JH (E:=Gd) (ys:=aM) aD.f3 S23.h Z82 Z (by decide) Z Z Z aX aS fun n _ aa=>?_
 refine G ?_
 refine Qu (ds:=[n]) (es:=[Value.string (b),O 0,n,d]) aa.f3 A23.h Z Z Z (Qs ((aa.f3).f1).arr_one) (Zj ((aa.f3).f1).arr_one QM) (Xc Z) Z fun _ aE=>?_
 refine G ?_
 obtain ⟨_,_,aF,aq⟩:=aE.f4.freezeArr
 refine G ?_
 refine Qt (Te:=97) (cs:=[d,l,aw]) aF Z (Qb (c:=[d]) (Qd Z (Qs aq.one)) (Qb (c:=[l]) (Qd Z (Qs (rq).one)) (Qb (c:=[aw]) (Qd Z (Qs (rq).one)) Qg))) ?_
 intro _ _ aG
 obtain ⟨_,_,aH,aY⟩:=(St.boxArr (E:=(Qk Gm)) (xs:=[x,y,az]) aG ⟨[_],_,rfl,⟨_,rfl,aq⟩,[_],_,rfl,⟨_,rfl,rq⟩,[_],_,rfl,⟨_,rfl,rq⟩,rfl⟩ (by simp [maxLen])).freezeArr
 refine Qa hm fun _ aT hm=>G ?_
 refine Tc Z Z Z Z (Qdu aT aH aY).r ?_
 rintro t _ ⟨_,_,_,ab,rfl⟩
 refine G ?_
 refine Qu (ds:=[t]) (es:=[Value.string (b),O 0,n,t]) ab.f1 A97.h Z Z Z (Qs ((ab.f1).f1).arr_one) (Zj ((ab.f1).f1).arr_one QM) (Xc Z) Z fun _ aI=>?_
 refine Qa hm fun _ aU hm=>G ?_
 refine Tc Z Z Z Z (Qm9 aU aI.f2).r ?_
 rintro _ _ ⟨_,_,ac,rfl⟩
 refine G ?_
 refine Qu (ds:=[Value.string (b),O 0,n,t]) (es:=[Value.string (b),O 0,n,t]) ac.f4 A99.h Z Z Z Z (Zj Z (Zj Z (Zj ((ac.f4).f1).arr_one (Zj ((ac.f4).f3).arr_one QM)))) (Xc Z) Z ?_
 intro _ ap
 cases hm
 refine G ?_
 refine ⟨_,Qls Z ⟨_,_,Z,Qdn (ap) A99.h⟩,?_⟩
 obtain ⟨_,_,aJ,_⟩:=ap.f1.freezeArr
 obtain ⟨_,_,_,_⟩:=aJ.f2.freezeArr
 exact fq
instance S47:STy Tryz.prog 47 99 4 72:=⟨by kernel_rfl⟩
instance F49_2:FTy Tryz.prog 49 2 2:=⟨by kernel_rfl⟩
theorem Qia {a:Int} {r:ByteArray} (hm:QaH a=some r) (hS:St w0 s (H) w) :
  Cv Tryz.prog 262 #[O a] w0 w s H r fun g=>Value.string (g):=by
 unfold QaH at hm
 refine Qh Tryz.func262 Z Z (G ?_)
 refine Qe hm (fun c hm=>?_) fun c hm=>?_
 ·refine Qa hm fun _ d hm=>G ?_
  refine QfW Tryz.underlying9 Z Z Z Z d ?_
  cases hm
  refine G ?_
  exact fr
 refine Qa hm fun _ f hm=>G ?_
 refine QfW Tryz.underlying9 Z Z Z Z f ?_
 cases hm
 refine G ?_
 exact fr
theorem Qf0 {a b:Int} {r:ByteArray} (hm:Qak a b=some r) (hS:St w0 s (H) w) :
  Cv Tryz.prog 199 #[O a,O b] w0 w s H r fun l=>Value.string (l):=by
 unfold Qak at hm
 refine Qh Tryz.func199 Z Z (G ?_)
 refine Qe hm (fun c hm=>?_) fun c hm=>?_
 ·refine W_c Z c (QtQ (Zc (Zc (QL (M:=fun f' w'=>∃g,Gc.le s g∧St w0 g (H) w'∧Fx f' [(0,O a),(17,Vb (((decide (0<=a)) && decide (a<100))))]) ?_ ?_))))
  ·refine G ?_
   rcases tf (decide (0<=a)) with i |i
   ·refine G ?_
    exact fq
   refine G ?_
   exact fq
  rintro _ _ ⟨_,_,h,_,rfl⟩
  refine G ?_
  refine Qe hm (fun j hm=>?_) fun j hm=>?_
  ·refine Qa hm fun _ k hm=>G ?_
   refine Tc Z Z Z Z (Qia k h).r ?_
   rintro _ _ ⟨_,_,_,rfl⟩
   cases hm
   refine G ?_
   exact fr
  refine G ?_
  cases hm
 refine G ?_
 cases hm
theorem Qgc {a:Int} {r:ByteArray} (hm:Qa4 a=some r) (hS:St w0 s (H) w) :
  Cv Tryz.prog 126 #[O a] w0 w s H r fun d=>Value.string (d):=by
 unfold Qa4 at hm
 refine Qh Tryz.func126 Z Z (Qa hm fun _ c hm=>G ?_)
 refine Tc Z Z Z Z (Qf0 c hS).r ?_
 rintro _ _ ⟨_,_,_,rfl⟩
 cases hm
 refine G ?_
 exact fr
theorem QeC {a:Int} {r:ByteArray} (hm:Qbi a=some r) (hS:St w0 s (H) w) :
  Cv Tryz.prog 88 #[O a] w0 w s H r fun d=>Value.string (d):=by
 unfold Qbi at hm
 refine Qh Tryz.func88 Z Z (Qa hm fun _ c hm=>G ?_)
 refine Tc Z Z Z Z (Qgc c hS).r ?_
 rintro _ _ ⟨_,_,_,rfl⟩
 cases hm
 refine G ?_
 exact fr
theorem QeL {a:Gl} {c:Job} {b i:Int} {m n o af ag ah ai aj:Value} {r:Op} (hm:Ko a c b i=some r) (hS:St w0 s (H) w) (bo:Ga (Qc .i64) s m a.write) (bp:Ga (Qc .i64) s n a.read) (bq:Ga (Qc .i64) s o a.vars) (br:Ga Gd s af c.Start) (bs:Ga Gd s ag c.Over) (bt:Ga Gd s ah c.End) (bu:Ga Gd s ai c.AtStart) (bv:Ga Gd s aj c.AtEnd) :
  Cs Tryz.prog 39 #[Value.agg #[O (a.jobs),m,n,O (a.phase),o],Value.agg #[Value.string (c.Name),O (c.Duration),af,ag,ah,ai,aj],O b,O i] w r fun v w'=>fun (al:Op)=>∃ae aI aJ,Gc.le s ae∧St w0 ae (H) w'∧v=Value.agg #[Value.string (al.Name),O (al.Cost),aI,aJ]∧Ga Gd ae aI al.Pre∧Ga Gm ae aJ al.Effs:=by
 unfold Ko at hm
 refine Qh Tryz.func39 Z Z (G ?_)
 refine JV Z Z fun p _ _=>?_
 refine G ?_
 refine JV Z Z fun ab _ aK=>?_
 refine G ?_
 refine DT (cs:=[Value.string (⟨#[]⟩),O 0,Vn,Vn]) aK Z99 Z Z fun t _ am=>?_
 refine Qa hm fun _ z hm=>Qa hm fun _ aa hm=>Qa hm fun _ aD hm=>Qa hm fun d ax hm=>g ?_
 refine Zc (QL (M:=fun f' w'=>∃aE k,Gc.le s aE∧St w0 aE (Res.box p 94 [O (a.jobs),m,n,O (a.phase),o]::Res.box ab 85 [Value.string (c.Name),O (c.Duration),af,ag,ah,ai,aj]::Res.box t 99 [Value.string (⟨#[]⟩),O 0,Vn,Vn]::Res.box k 99 [Value.string (d),O 0,Vn,Vn]::H) w'∧Fx f' [(2,O b),(3,O i),(4,Vq p),(5,Vq ab),(8,Vq t),(9,Vq k)]) ?_ ?_)
 ·refine QT (n0:=9) (qs 0 5 (.alt (.e 5 [0,1,2,3] (.q 6 (.q 7 (.e 8 [0,1,2,3,6,7] .done)))) (.e 8 [0,1,2,3,4] (.e 5 [0,1,2,3] (.q 6 (.q 7 .done)))))) JQ (G ?_)
  refine Zn ((am.drew).f1) A9.h Z Z Z ⟨Z,G ?_⟩
  refine J3 Z Z Z z ⟨Z,G ?_⟩
  refine J3 Z Z Z aa ⟨Z,G ?_⟩
  refine Qb5 ?_ ?_
  ·refine G ?_
   refine Tc Z Z Z Z (QeC aD am.drew).r ?_
   rintro _ _ ⟨_,_,a8,rfl⟩
   refine ⟨(Qm (Q8 Z Z (Zp F85_0.h Z Z Z ⟨Z,Z⟩)) (Qm (Q8 Z Z (Zn (a8.f1) A9.h Z Z Z ⟨Z,Z⟩)) (Qm (Q8 Z Z (J3 Z Z Z z ⟨Z,Z⟩)) (Qm (Q8 Z Z (J3 Z Z Z aa ⟨Z,Z⟩)) K7)))),G ?_⟩
   refine J3 Z Z Z ax ⟨Z,G ?_⟩
   refine Q2 Z (Qb (Qd Z Z) Qg) (v:=Value.agg #[Value.string (d),O 0,Vn,Vn]) ⟨Z,G ?_⟩
   refine DT (cs:=[Value.string (⟨#[]⟩),O 0,Vn,Vn]) a8 Z99 Z Z fun _ _ aL=>?_
   refine ⟨(Qm (Q8 Z Z (Zp F85_0.h Z Z Z ⟨Z,Z⟩)) (Qm (Q8 Z Z (Zn (aL.f2) A9.h Z Z Z ⟨Z,Z⟩)) (Qm (Q8 Z Z (J3 Z Z Z z ⟨Z,Z⟩)) (Qm (Q8 Z Z (J3 Z Z Z aa ⟨Z,Z⟩)) (Qm (Q8 Z Z (J3 Z Z Z ax ⟨Z,Z⟩)) (Qm (Q8 Z Z (Q2 Z (Qb (Qd Z Z) Qg) (v:=Value.agg #[Value.string (d),O 0,Vn,Vn]) ⟨Z,Z⟩)) K7)))))),G ?_⟩
   refine Xst Z Z Z fun _ _=>?_
   refine G ?_
   exact fq
  refine G ?_
  refine DT (cs:=[Value.string (⟨#[]⟩),O 0,Vn,Vn]) am.drew Z99 Z Z fun _ _ a9=>?_
  refine ⟨(Qm (Q8 Z Z (Zp F85_0.h Z Z Z ⟨Z,Z⟩)) (Qm (Q8 Z Z (Zn (a9.f2) A9.h Z Z Z ⟨Z,Z⟩)) (Qm (Q8 Z Z (J3 Z Z Z z ⟨Z,Z⟩)) (Qm (Q8 Z Z (J3 Z Z Z aa ⟨Z,Z⟩)) (Qm (Q8 Z Z (Zm (v:=O i) Z Z ⟨Z,Z⟩)) K7))))),G ?_⟩
  refine Tc Z Z Z Z (QeC aD a9).r ?_
  rintro _ _ ⟨_,_,aM,rfl⟩
  refine ⟨(Qm (Q8 Z Z (Zp F85_0.h Z Z Z ⟨Z,Z⟩)) (Qm (Q8 Z Z (Zn (aM.f2) A9.h Z Z Z ⟨Z,Z⟩)) (Qm (Q8 Z Z (J3 Z Z Z z ⟨Z,Z⟩)) (Qm (Q8 Z Z (J3 Z Z Z aa ⟨Z,Z⟩)) K7)))),G ?_⟩
  refine J3 Z Z Z ax ⟨Z,G ?_⟩
  refine Q2 Z (Qb (Qd Z Z) Qg) (v:=Value.agg #[Value.string (d),O 0,Vn,Vn]) ⟨Z,G ?_⟩
  refine Xst Z Z Z fun _ _=>?_
  refine G ?_
  exact fq
 rintro _ _ ⟨bk,k,_,aA,_,rfl⟩
 refine Qa hm fun a5 x hm=>g ?_
 refine Zc (Zc (Zd (g ?_)))
 refine QL (M:=fun f' w'=>(fun (a5:List Gj)=>∃aF az,Gc.le bk aF∧St w0 aF (Res.box p 94 [O (a.jobs),m,n,O (a.phase),o]::Res.box ab 85 [Value.string (c.Name),O (c.Duration),af,ag,ah,ai,aj]::Res.box t 99 [Value.string (⟨#[]⟩),O 0,Vn,Vn]::Res.box k 99 [Value.string (d),O 0,az,Vn]::Res.arr Gd 82 az a5::H) w'∧Fx f' [(2,O b),(3,O i),(4,Vq p),(5,Vq ab),(8,Vq t),(9,Vq k)]) a5) ?_ ?_
 ·refine Qe x (fun bb x=>?_) fun bb x=>?_
  ·refine Qa x fun _ bf x=>G ?_
   refine Tc Z Z Z Z (QbH bf aA rq).r ?_
   rintro a0 _ ⟨bl,_,bc,an,rfl⟩
   refine G ?_
   refine Qu (ds:=[a0]) (es:=[Value.string (d),O 0,a0,Vn]) an.f4 A23.h Z Z Z (Qs ((an.f4).f1).arr_one) (Zj ((an.f4).f1).arr_one QM) (Xc Z) Z ?_
   intro _ aN
   cases x
   refine G ?_
   exact ⟨bl,a0,bc,((((aN.f1).f1).f4).f4).f4,(Fx.mk)⟩
  cases x
  refine G ?_
  have bw:=aA.nilArr Gd 82
  exact fq
 rintro _ _ ⟨_,az,_,ac,_,rfl⟩
 refine G ?_
 refine QT (n0:=14) (qs 0 4 (.q 5 (qs 7 5 (.e 4 [0,1,5,7,8,9,10,11] (.q 6 (.e 12 [0,1] (.e 13 [] .done))))))) JQ (G ?_)
 refine Zn ((ac.drew).f3) A23.h Z Z Z ⟨Z,G ?_⟩
 refine Q4 (ds:=[O (a.jobs),m,n,O (a.phase),o]) (ac.drew) A94.h Z Z Z ⟨Z,G ?_⟩
 refine Zn (ac.drew) A3.h Z Z Z ⟨Z,G ?_⟩
 refine Q2 Z (Qb (Qd Z Z) (Qb (Qd Z Z) Qg)) (v:=Value.agg #[O (a.phase),O (IntKind.i64.wrap (b+1))]) ⟨Z,G ?_⟩
 refine Tc Z Z Z Z (Jx (Jw a b) ac.drew rq rq rq).r ?_
 rintro _ _ ⟨ay,_,ao,rfl⟩
 refine ⟨(Qm (Q8 Z Z (Zp F99_2.h Z Z Z ⟨Z,Z⟩)) (Qm (Q8 Z Z (Zn (ao.f3) A23.h Z Z Z ⟨Z,Z⟩)) (Qm (Q8 Z Z (Zm (v:=O i) Z Z ⟨Z,Z⟩)) (Qm (Q8 Z Z (Zp F94_3.h Z Z Z ⟨Z,Z⟩)) (Qm (Q8 Z Z (Zn (ao) A3.h Z Z Z ⟨Z,Z⟩)) (Qm (Q8 Z Z (Zm (v:=O b) Z Z ⟨Z,Z⟩)) (Qm (Q8 Z Z (DG Z Z Z ⟨Z,Z⟩)) (Qm (Q8 Z Z (Q2 Z (Qb (Qd Z Z) (Qb (Qd Z Z) Qg)) (v:=Value.agg #[O (a.phase),O (IntKind.i64.wrap (b+1))]) ⟨Z,Z⟩)) K7)))))))),G ?_⟩
 refine Q2 Z (Qb (Qd Z Z) (Qb (Qd Z Z) Qg)) (v:=Value.agg #[O ((Qf a b)),O i]) ⟨Z,G ?_⟩
 refine Qt (Te:=82) (cs:=[O ((Qf a b)),O i,O (a.phase),O (IntKind.i64.wrap (b+1))]) ao Z (Qb (Qd Z Z) (Qb (Qd Z Z) Qg)) fun _ _ aO=>?_
 refine ⟨Yd,Qa hm fun aC bg hm=>G ?_⟩
 refine Qn (E:=Gd) (ys:=[(⟨(Qf a b),i⟩:Gj),(⟨a.phase,IntKind.i64.wrap (b+1)⟩:Gj)]) aO.f5 S23.h Z82 Z (by decide) Z Z Z Z ⟨[_,_],_,Z,⟨[_],_,Z,Z,Z⟩,[_,_],_,Z,⟨[_],_,Z,Z,Z⟩,Z⟩ Z bg fun j _ ap=>?_
 refine ⟨Yd,G ?_⟩
 refine Qu (ds:=[j]) (es:=[Value.string (d),O 0,j,Vn]) ap.f4 A23.h Z Z Z (Qs ((ap.f4).f1).arr_one) (Zj ((ap.f4).f1).arr_one QM) (Xc Z) Z fun _ u=>?_
 refine Qa hm fun a6 l hm=>g ?_
 refine Zc (QaU (Zc (Zd (g ?_))))
 refine QL (M:=fun f' w'=>(fun (a6:List Gn)=>∃aG a1,Gc.le ay aG∧St w0 aG (Res.box p 94 [O (a.jobs),m,n,O (a.phase),o]::Res.box t 99 [Value.string (⟨#[]⟩),O 0,Vn,Vn]::Res.box k 99 [Value.string (d),O 0,j,a1]::Res.arr Gd 82 j aC::Res.arr Gm 102 a1 a6::H) w'∧Fx f' [(2,O b),(4,Vq p),(8,Vq t),(9,Vq k)]) a6) ?_ ?_
 ·refine Qd4 l (fun ad l=>?_) fun ad l=>?_
  ·refine G ?_
   refine QT (n0:=10) (qs 0 4 (.q 5 (.q 6 (.e 4 [0,1,5,6] (.q 7 (.e 8 [0,1] (.e 9 [] .done))))))) JQ (G ?_)
   refine Zn (u.drew) A97.h Z Z Z ⟨Z,G ?_⟩
   refine Q4 (ds:=[O (a.jobs),m,n,O (a.phase),o]) ((u.drew).f2) A94.h Z Z Z ⟨Z,G ?_⟩
   refine Tc Z Z Z Z (Jx (Jw a b) u.drew rq rq rq).r ?_
   rintro _ _ ⟨bm,bd,aP,rfl⟩
   refine ⟨Yd,G ?_⟩
   refine Q2 Z (Qb (Qd Z Z) (Qb (Qd Z Z) Qg)) (v:=Value.agg #[Vn,O ((Qf a b)),O (IntKind.i64.wrap (i - 1))]) ⟨Z,G ?_⟩
   refine Qt (Te:=102) (cs:=[Vn,O ((Qf a b)),O (IntKind.i64.wrap (i - 1))]) aP Z (Qb (Qd Z Z) Qg) fun _ _ aQ=>?_
   refine ⟨Yd,?_⟩
   have aR:=aQ.nilArr Gm 102
   refine Qa l fun _ bh l=>G ?_
   refine Qn (E:=Gm) (ys:=[(⟨[],(Qf a b),IntKind.i64.wrap (i - 1)⟩:Gn)]) (aR.f1).f1 S97.h Qhr Z (by decide) Z Z Z Z ⟨[_,_,_],_,Z,⟨[_],_,Z,⟨_,Z,(Ga.nil _ _)⟩,[_],_,Z,Z,Z⟩,Z⟩ Z bh fun a2 _ aq=>?_
   refine ⟨Yd,G ?_⟩
   refine Qu (ds:=[a2]) (es:=[Value.string (d),O 0,j,a2]) aq.f1 A97.h Z Z Z (Qs ((aq.f1).f1).arr_one) (Zj ((aq.f1).f1).arr_one QM) (Xc Z) Z ?_
   intro _ aS
   cases l
   refine G ?_
   exact ⟨bm,a2,bd,((((((aS.f4).drop).f1).f2).f2).f4).f4,(Fx.mk)⟩
  replace ad:=Zk ad
  refine Qa l fun a7 y l=>W_c Z ad (QiV (Zc (Zd (g ?_))))
  refine QL (M:=fun f' w'=>(fun (a7:List Gn)=>∃aH a3,Gc.le ay aH∧St w0 aH (Res.box p 94 [O (a.jobs),m,n,O (a.phase),o]::Res.box t 99 [Value.string (⟨#[]⟩),O 0,Vn,Vn]::Res.box k 99 [Value.string (d),O 0,j,a3]::Res.arr Gd 82 j aC::Res.arr Gm 102 a3 a7::H) w'∧Fx f' [(2,O b),(4,Vq p),(8,Vq t),(9,Vq k)]) a7) ?_ ?_
  ·refine Qd4 y (fun aw y=>?_) fun aw y=>?_
   ·refine G ?_
    refine QT (n0:=11) (qs 0 4 (qs 5 3 (.e 4 [0,1,5,6,7] (.q 8 (.e 9 [0,1] (.e 10 [] .done)))))) JQ (G ?_)
    refine Zn (u.drew) A97.h Z Z Z ⟨Z,G ?_⟩
    refine Q4 (ds:=[O (a.jobs),m,n,O (a.phase),o]) ((u.drew).f2) A94.h Z Z Z ⟨Z,G ?_⟩
    refine Zn ((u.drew).f3) A3.h Z Z Z ⟨Z,G ?_⟩
    refine Tc Z Z Z Z (Jx (Jw a b) u.drew rq rq rq).r ?_
    rintro _ _ ⟨bn,be,aT,rfl⟩
    refine ⟨Yd,G ?_⟩
    refine Q2 Z (Qb (Qd Z Z) (Qb (Qd Z Z) Qg)) (v:=Value.agg #[Vn,O ((Qf a b)),O (IntKind.i64.wrap (c.Duration+1))]) ⟨Z,G ?_⟩
    refine Qt (Te:=102) (cs:=[Vn,O ((Qf a b)),O (IntKind.i64.wrap (c.Duration+1))]) aT Z (Qb (Qd Z Z) Qg) fun _ _ aU=>?_
    refine ⟨Yd,?_⟩
    have aV:=aU.nilArr Gm 102
    refine Qa y fun _ bi y=>G ?_
    refine Qn (E:=Gm) (ys:=[(⟨[],(Qf a b),IntKind.i64.wrap (c.Duration+1)⟩:Gn)]) (aV.f1).f1 S97.h Qhr Z (by decide) Z Z Z Z ⟨[_,_,_],_,Z,⟨[_],_,Z,⟨_,Z,(Ga.nil _ _)⟩,[_],_,Z,Z,Z⟩,Z⟩ Z bi fun a4 _ ar=>?_
    refine ⟨Yd,G ?_⟩
    refine Qu (ds:=[a4]) (es:=[Value.string (d),O 0,j,a4]) ar.f1 A97.h Z Z Z (Qs ((ar.f1).f1).arr_one) (Zj ((ar.f1).f1).arr_one QM) (Xc Z) Z ?_
    intro _ aW
    cases y
    refine G ?_
    exact ⟨bn,a4,be,((((((aW.f4).drop).f1).f2).f2).f4).f4,(Fx.mk)⟩
   replace aw:=Zk aw
   cases y
   refine G ?_
   have aX:=u.nilArr Gm 102
   exact ⟨ay,Vn,(Zv _),(((((aX.f4).drop).f2).f2).f4).f4,(Fx.mk)⟩
  rintro _ _ ⟨_,a3,_,_,_,rfl⟩
  cases l
  refine G ?_
  exact fq
 rintro _ _ ⟨_,a1,_,aY,_,rfl⟩
 refine G ?_
 refine Q2 Z (Qb (Qd Z Z) (Qb (Qd Z Z) Qg)) (v:=Value.agg #[Vn,O (a.phase),O (IntKind.i64.wrap (b+2))]) (G ?_)
 refine Qt (Te:=102) (cs:=[Vn,O (a.phase),O (IntKind.i64.wrap (b+2))]) aY Z (Qb (Qd Z Z) Qg) fun _ _ aZ=>?_
 refine Qa hm fun _ bj hm=>G ?_
 refine Qn (E:=Gm) (ys:=[(⟨[],a.phase,IntKind.i64.wrap (b+2)⟩:Gn)]) aZ.f5 S97.h Qhr Z (by decide) Z Z Z Z ⟨[_,_,_],_,Z,⟨[_],_,Z,⟨_,Z,(Ga.nil _ _)⟩,[_],_,Z,Z,Z⟩,Z⟩ Z bj fun ak _ au=>?_
 refine G ?_
 refine Qu (ds:=[ak]) (es:=[Value.string (d),O 0,j,ak]) au.f3 A97.h Z Z Z (Qs ((au.f3).f1).arr_one) (Zj ((au.f3).f1).arr_one QM) (Xc Z) Z fun _ av=>?_
 refine G ?_
 refine Qu (ds:=[Value.string (d),O 0,j,ak]) (es:=[Value.string (d),O 0,j,ak]) av.f3 A99.h Z Z Z Z (Zj Z (Zj Z (Zj ((av.f3).f4).arr_one (Zj ((av.f3).f2).arr_one QM)))) (Xc Z) Z ?_
 intro _ aB
 cases hm
 refine G ?_
 refine ⟨_,Qls Z ⟨_,_,Z,Qdn (aB) A99.h⟩,?_⟩
 obtain ⟨_,_,ba,_⟩:=aB.f4.freezeArr
 obtain ⟨_,_,_,_⟩:=ba.f2.freezeArr
 exact fq
theorem QdI {a:Gl} {c:Int} {o p t:Value} {r:Op} (hm:JO a c=some r) (hS:St w0 s (H) w) (aE:Ga (Qc .i64) s o a.write) (a1:Ga (Qc .i64) s p a.read) (bu:Ga (Qc .i64) s t a.vars) :
  Cs Tryz.prog 40 #[Value.agg #[O (a.jobs),o,p,O (a.phase),t],O c] w r fun v w'=>fun (af:Op)=>∃ab aB aC,Gc.le s ab∧St w0 ab (H) w'∧v=Value.agg #[Value.string (af.Name),O (af.Cost),aB,aC]∧Ga Gd ab aB af.Pre∧Ga Gm ab aC af.Effs:=by
 unfold JO at hm
 refine Qh Tryz.func40 Z Z (G ?_)
 refine JV Z Z fun i _ aN=>?_
 refine G ?_
 refine DT (cs:=[Value.string (⟨#[]⟩),O 0,Vn,Vn]) aN Z99 Z Z fun j _ aO=>?_
 refine G ?_
 refine Q2 Z (Qb (Qd Z Z) (Qb (Qd Z Z) Qg)) (v:=Value.agg #[O (a.phase),O (IntKind.i64.wrap (c+1))]) (G ?_)
 refine Qt (Te:=82) (cs:=[O (a.phase),O (IntKind.i64.wrap (c+1))]) aO Z (Qb (Qd Z Z) Qg) fun b _ aP=>?_
 refine G ?_
 refine Q2 Z (Qb (Qd Z Z) (Qb (Qd Z Z) (Qb (Qd Z Z) Qg))) (v:=Value.agg #[Value.string (⟨#[97,100,118,97,110,99,101]⟩),O 1,Vs (some ⟨b,0,none⟩) 1 1,Vn]) (G ?_)
 refine DT (cs:=[Value.string (⟨#[]⟩),O 0,Vn,Vn]) aP Z99 Z Z fun l _ _=>?_
 refine G ?_
 refine Xst Z Z Z fun _ aQ=>?_
 refine Qa hm fun _ bh hm=>Qa hm fun a0 aJ hm=>G ?_
 refine QO (fun k' s' f' w'=>(fun (a0:List Gn)=>∃a5 ac,Gc.le s a5∧St w0 a5 (Res.box i 94 [O (a.jobs),o,p,O (a.phase),t]::Res.box j 99 [Value.string (⟨#[]⟩),O 0,Vn,Vn]::Res.box l 99 [Value.string (⟨#[97,100,118,97,110,99,101]⟩),O 1,Vs (some ⟨b,0,none⟩) 1 1,ac]::Res.box b 82 [O (a.phase),O (IntKind.i64.wrap (c+1))]::Res.arr Gm 102 ac a0::H) w'∧Fx f' [(16,O (k':Int)),(2,Vq i),(4,Vq j),(5,Vq l),(15,O c)]) s') aJ ?_ ?_ ?_
 ·have bz:=aQ.nilArr Gm 102
  exact fq
 ·intro z a0 _ _ _ be aL am
  obtain ⟨_,ac,_,ag,_,rfl⟩:=aL
  refine G ?_
  refine QT (n0:=8) (qs 0 4 (.e 4 [0,1] (.q 5 (.e 6 [0,1] (.e 7 [] .done))))) JQ (G ?_)
  refine Zn ((ag.drew).f2) A97.h Z Z Z ⟨Z,G ?_⟩
  refine Q4 (ds:=[O (a.jobs),o,p,O (a.phase),t]) (ag.drew) A94.h Z Z Z ⟨Z,G ?_⟩
  refine Tc Z Z Z Z (Qav (Qau a (z:Int)) ag.drew rq rq rq).r ?_
  rintro _ _ ⟨bq,_,aR,rfl⟩
  refine ⟨Yd,G ?_⟩
  refine Q2 Z (Qb (Qd Z Z) Qg) (v:=Value.agg #[Vn,O ((Qz a (z:Int))),O 0]) ⟨Z,G ?_⟩
  refine Qt (Te:=102) (cs:=[Vn,O ((Qz a (z:Int))),O 0]) aR Z (Qb (Qd Z Z) Qg) fun _ _ aS=>?_
  refine ⟨Yd,Qa am fun _ bi am=>G ?_⟩
  refine Qn (E:=Gm) (ys:=[(⟨[],(Qz a (z:Int)),0⟩:Gn)]) aS.f5 S97.h Qhr Z (by decide) Z Z Z Z ⟨[_,_,_],_,Z,⟨[_],_,Z,⟨_,Z,(Ga.nil _ _)⟩,[_],_,Z,Z,Z⟩,Z⟩ Z bi fun au _ ah=>?_
  refine ⟨Yd,G ?_⟩
  refine Qu (ds:=[au]) (es:=[Value.string (⟨#[97,100,118,97,110,99,101]⟩),O 1,Vs (some ⟨b,0,none⟩) 1 1,au]) ah.f3 A97.h Z Z Z (Qs ((ah.f3).f1).arr_one) (Zj ((ah.f3).f1).arr_one QM) (Xc Z) Z ?_
  intro _ aT
  cases am
  refine G ?_
  exact ⟨bq,au,lq,((((aT.f1).f4).f2).f4).f4,(Fx.mk (FxL.cons (Jo be (by have h:=Qbn bh;simp at h;simp only [maxLen];omega)) fxl))⟩
 rintro _ _ ⟨br,ac,ao,aU,_,rfl⟩
 refine Qa hm fun ap aK hm=>G ?_
 refine QO (fun k' s' f' w'=>(fun (ap:List Gn)=>∃a6 ad,Gc.le br a6∧St w0 a6 (Res.box i 94 [O (a.jobs),o,p,O (a.phase),t]::Res.box j 99 [Value.string (⟨#[]⟩),O 0,Vn,Vn]::Res.box l 99 [Value.string (⟨#[97,100,118,97,110,99,101]⟩),O 1,Vs (some ⟨b,0,none⟩) 1 1,ad]::Res.box b 82 [O (a.phase),O (IntKind.i64.wrap (c+1))]::Res.arr Gm 102 ad ap::H) w'∧Fx f' [(32,O (k':Int)),(2,Vq i),(4,Vq j),(5,Vq l),(31,O ((a.write.length:Int)))]) s') aK ?_ ?_ ?_
 ·have b0:=aU.f4
  exact fq
 ·intro an ap bs _ _ bf aM d
  obtain ⟨a7,ad,aa,u,_,rfl⟩:=aM
  refine Qa d fun ay a3 d=>G ?_
  refine Jv Z Z Z a3 fun _ _ aF=>?_
  refine G ?_
  refine Zw (E:=(Qc .i64)) u A3.h Z Z Z aF ?_
  intro _ bj
  obtain rfl:=Qo.1 bj
  refine Qa d fun aq m d=>g ?_
  refine QL (M:=fun f' w'=>(fun (aq:List Gn)=>∃a8 av,Gc.le a7 a8∧St w0 a8 (Res.box i 94 [O (a.jobs),o,p,O (a.phase),t]::Res.box j 99 [Value.string (⟨#[]⟩),O 0,Vn,Vn]::Res.box l 99 [Value.string (⟨#[97,100,118,97,110,99,101]⟩),O 1,Vs (some ⟨b,0,none⟩) 1 1,av]::Res.box b 82 [O (a.phase),O (IntKind.i64.wrap (c+1))]::Res.arr Gm 102 av aq::H) w'∧Fx f' [(2,Vq i),(4,Vq j),(5,Vq l),(7,O ((an:Int))),(31,O ((a.write.length:Int))),(32,O ((an:Int)))]) aq) ?_ ?_
  ·refine Qd4 m (fun al m=>?_) fun al m=>?_
   ·refine G ?_
    refine QT (n0:=10) (qs 0 8 (.e 8 [0,1] (.e 9 [] .done))) JQ (G ?_)
    refine Zn ((u.drew).f2) A97.h Z Z Z ⟨Z,G ?_⟩
    refine Zn (u.drew) A22.h Z Z Z ⟨Z,G ?_⟩
    refine Qy S22.h Z Z Z (aE.mono (Zt ao aa)) a3 fun _ _ aG _=>?_
    refine ⟨Z,G ?_⟩
    refine Zw (E:=(Qc .i64)) u.drew A3.h Z Z Z aG ?_
    intro _ bk
    obtain rfl:=Qo.1 bk
    refine ⟨Z,G ?_⟩
    refine Q2 Z (Qb (Qd Z Z) Qg) (v:=Value.agg #[Vn,O ay,O 0]) ⟨Z,G ?_⟩
    refine Qt (Te:=102) (cs:=[Vn,O ay,O 0]) u.drew Z (Qb (Qd Z Z) Qg) fun _ _ aV=>?_
    refine ⟨Yd,Qa m fun _ bl m=>G ?_⟩
    refine Qn (E:=Gm) (ys:=[(⟨[],ay,0⟩:Gn)]) aV.f5 S97.h Qhr Z (by decide) Z Z Z Z ⟨[_,_,_],_,Z,⟨[_],_,Z,⟨_,Z,(Ga.nil _ _)⟩,[_],_,Z,Z,Z⟩,Z⟩ Z bl fun aw _ ai=>?_
    refine ⟨Yd,G ?_⟩
    refine Qu (ds:=[aw]) (es:=[Value.string (⟨#[97,100,118,97,110,99,101]⟩),O 1,Vs (some ⟨b,0,none⟩) 1 1,aw]) ai.f3 A97.h Z Z Z (Qs ((ai.f3).f1).arr_one) (Zj ((ai.f3).f1).arr_one QM) (Xc Z) Z ?_
    intro _ aW
    cases m
    refine G ?_
    exact ⟨a7,aw,(Zv _),((((aW.f1).f4).f2).f4).f4,(Fx.mk)⟩
   replace al:=Zk al
   cases m
   refine G ?_
   exact fq
  rintro _ _ ⟨a9,av,ar,x,_,rfl⟩
  refine Qa d fun az a4 d=>G ?_
  refine QfY S22.h Z Z Z (a1.mono (Zt (Zt ao aa) ar)) a4 fun _ _ aH=>?_
  refine G ?_
  refine Zw (E:=(Qc .i64)) x A3.h Z Z Z aH ?_
  intro _ bm
  obtain rfl:=Qo.1 bm
  refine Qa d fun y n d=>g ?_
  refine QL (M:=fun f' w'=>(fun (y:List Gn)=>∃aA ae,Gc.le a9 aA∧St w0 aA (Res.box i 94 [O (a.jobs),o,p,O (a.phase),t]::Res.box j 99 [Value.string (⟨#[]⟩),O 0,Vn,Vn]::Res.box l 99 [Value.string (⟨#[97,100,118,97,110,99,101]⟩),O 1,Vs (some ⟨b,0,none⟩) 1 1,ae]::Res.box b 82 [O (a.phase),O (IntKind.i64.wrap (c+1))]::Res.arr Gm 102 ae y::H) w'∧Fx f' [(2,Vq i),(4,Vq j),(5,Vq l),(31,O ((a.write.length:Int))),(32,O ((an:Int)))]) y) ?_ ?_
  ·refine Qe n (fun bd n=>?_) fun bd n=>?_
   ·refine G ?_
    refine QT (n0:=10) (qs 0 8 (.e 8 [0,1] (.e 9 [] .done))) JQ (G ?_)
    refine Zn ((x.drew).f2) A97.h Z Z Z ⟨Z,G ?_⟩
    refine Zn (x.drew) A22.h Z Z Z ⟨Z,G ?_⟩
    refine Qy S22.h Z Z Z (a1.mono (Zt (Zt ao aa) ar)) a4 fun _ _ aI _=>?_
    refine ⟨Z,G ?_⟩
    refine Zw (E:=(Qc .i64)) x.drew A3.h Z Z Z aI ?_
    intro _ bn
    obtain rfl:=Qo.1 bn
    refine ⟨Z,G ?_⟩
    refine Q2 Z (Qb (Qd Z Z) Qg) (v:=Value.agg #[Vn,O az,O 0]) ⟨Z,G ?_⟩
    refine Qt (Te:=102) (cs:=[Vn,O az,O 0]) x.drew Z (Qb (Qd Z Z) Qg) fun _ _ aX=>?_
    refine ⟨Yd,Qa n fun _ bo n=>G ?_⟩
    refine Qn (E:=Gm) (ys:=[(⟨[],az,0⟩:Gn)]) aX.f5 S97.h Qhr Z (by decide) Z Z Z Z ⟨[_,_,_],_,Z,⟨[_],_,Z,⟨_,Z,(Ga.nil _ _)⟩,[_],_,Z,Z,Z⟩,Z⟩ Z bo fun ax _ aj=>?_
    refine ⟨Yd,G ?_⟩
    refine Qu (ds:=[ax]) (es:=[Value.string (⟨#[97,100,118,97,110,99,101]⟩),O 1,Vs (some ⟨b,0,none⟩) 1 1,ax]) aj.f3 A97.h Z Z Z (Qs ((aj.f3).f1).arr_one) (Zj ((aj.f3).f1).arr_one QM) (Xc Z) Z ?_
    intro _ aY
    have bv:=Zu n
    subst y
    refine G ?_
    exact ⟨a9,ax,(Zv _),((((aY.f1).f4).f2).f4).f4,(Fx.mk)⟩
   have bw:=Zu n
   subst y
   refine G ?_
   exact fq
  rintro _ _ ⟨bt,ae,bg,aZ,_,rfl⟩
  have bx:=Zu d
  subst bs
  refine G ?_
  exact ⟨bt,ae,(Zt (Zt aa ar) bg),((((aZ.f4).f4).f4).f4).f4,(Fx.mk (FxL.cons (Jo bf (Ga.le rq)) fxl))⟩
 rintro _ _ ⟨_,ad,_,ba,_,rfl⟩
 refine G ?_
 refine Q2 Z (Qb (Qd Z Z) Qg) (v:=Value.agg #[Vn,O (a.phase),O 0]) (G ?_)
 refine Qt (Te:=102) (cs:=[Vn,O (a.phase),O 0]) ba Z (Qb (Qd Z Z) Qg) fun _ _ bb=>?_
 refine Qa hm fun _ bp hm=>G ?_
 refine Qn (E:=Gm) (ys:=[(⟨[],a.phase,0⟩:Gn)]) bb.f5 S97.h Qhr Z (by decide) Z Z Z Z ⟨[_,_,_],_,Z,⟨[_],_,Z,⟨_,Z,(Ga.nil _ _)⟩,[_],_,Z,Z,Z⟩,Z⟩ Z bp fun aD _ ak=>?_
 refine G ?_
 refine Qu (ds:=[aD]) (es:=[Value.string (⟨#[97,100,118,97,110,99,101]⟩),O 1,Vs (some ⟨b,0,none⟩) 1 1,aD]) ak.f3 A97.h Z Z Z (Qs ((ak.f3).f1).arr_one) (Zj ((ak.f3).f1).arr_one QM) (Xc Z) Z fun _ _=>?_
 refine G ?_
 refine Xst Z Z Z ?_
 intro _ a2
 cases hm
 refine G ?_
 refine ⟨_,Qls Z ⟨_,_,Z,Qdn (a2) A99.h⟩,?_⟩
 obtain ⟨_,_,bc,_⟩:=(St.boxArr (E:=Gd) (xs:=[(⟨a.phase,IntKind.i64.wrap (c+1)⟩:Gj)]) a2.f4 ⟨[_,_],_,rfl,⟨[_],_,rfl,rfl,rfl⟩,rfl⟩ (by simp [maxLen])).freezeArr
 obtain ⟨_,_,_,_⟩:=bc.f2.freezeArr
 exact fq
instance F49_0:FTy Tryz.prog 49 0 0:=⟨by kernel_rfl⟩
instance A102:ATy Tryz.prog 102 true 3:=⟨by kernel_rfl⟩
instance F102_0:FTy Tryz.prog 102 0 0:=⟨by kernel_rfl⟩
theorem Qdf {a:GD} {ac ad g i:Value} {r:(List (List Gj))} (hm:Ys a=some r) (hS:St w0 s (H) w) (a7:Ga (Qc .i64) s ac a.Vars) (a8:Ga (Qc .i64) s ad a.Init) (p:Ga Gd s g a.Goal) (a9:Ga GC s i a.Ops) :
  Cs Tryz.prog 90 #[Value.agg #[ac,ad,g,i]] w r fun v w'=>fun (a6:List (List Gj))=>∃o ae,Gc.le s o∧St w0 o (H) w'∧v=ae∧Ga (Qk Gd) o ae a6:=by
 unfold Ys at hm
 refine Qh Tryz.func90 Z Z (G ?_)
 refine JV Z Z fun _ _ am=>?_
 refine G ?_
 refine Qt (Te:=23) (cs:=[g]) am Z (Qb (c:=[g]) (Qd Z (Qs p.one)) Qg) fun _ _ an=>?_
 refine Qa hm fun n ai hm=>G ?_
 refine QO (fun k' s' f' w'=>(fun (n:List (List Gj))=>∃y j,Gc.le s y∧St w0 y (Res.arr (Qk Gd) 23 j n::H) w'∧Fx f' [(14,O (k':Int)),(3,j),(12,i),(13,O ((a.Ops.length:Int)))]) s') ai ?_ ?_ ?_
 ·have aA:=St.boxArr (E:=(Qk Gd)) (xs:=[a.Goal]) an ⟨[_],_,rfl,⟨_,rfl,p⟩,rfl⟩ (by simp [maxLen])
  exact fq
 ·intro aw n _ _ _ _ ak b
  obtain ⟨a3,j,_,q,_,rfl⟩:=ak
  refine Qa b fun af ax b=>G ?_
  refine Jv Z Z Z ax fun _ _ ag=>?_
  refine G ?_
  refine Zw (E:=GC) q A99.h Z Z Z ag ?_
  intro _ ay
  obtain ⟨aa,a4,rfl,u,_⟩:=QeB.1 ay
  refine G ?_
  refine DT (cs:=[Value.string (⟨#[]⟩),O 0,Vn,Vn]) q Z99 Z Z fun _ _ _=>?_
  refine G ?_
  refine Xst Z Z Z fun _ ao=>?_
  refine G ?_
  refine Qt (Te:=23) (cs:=[aa]) ao Z (Qb (c:=[aa]) (Qd Z (Qs u.one)) Qg) fun _ _ ap=>?_
  refine Qa b fun _ az b=>G ?_
  refine Qn (E:=(Qk Gd)) (ys:=[af.Pre]) ap.f2 S155.h Z23 Z (by decide) Z Z Z Z ⟨[_],_,Z,⟨_,Z,u⟩,Z⟩ Z az fun _ _ aq=>?_
  refine Qa b fun m aj b=>G ?_
  refine QO (fun k' s' f' w'=>(fun (m:List (List Gj))=>∃z l,Gc.le a3 z∧St w0 z (Res.arr (Qk Gd) 23 l m::H) w'∧Fx f' [(26,O (k':Int)),(3,l),(12,i),(13,O ((a.Ops.length:Int))),(14,O ((aw:Int))),(24,a4),(25,O ((af.Effs.length:Int)))]) s') aj ?_ ?_ ?_
  ·have aB:=(aq.f1).drop
   exact fq
  ·intro _ m _ _ _ _ al d
   obtain ⟨_,l,_,t,_,rfl⟩:=al
   refine Qa d fun a5 a0 d=>G ?_
   refine Jv Z Z Z a0 fun _ _ ah=>?_
   refine G ?_
   refine Zw (E:=Gm) t A102.h Z Z Z ah ?_
   intro _ a1
   obtain ⟨ab,rfl,x⟩:=Qeo.1 a1
   refine G ?_
   refine DT (cs:=[Vn,O 0,O 0]) t Qhr Z Z fun _ _ _=>?_
   refine G ?_
   refine Xst Z Z Z fun _ ar=>?_
   refine G ?_
   refine Qt (Te:=23) (cs:=[ab]) ar Z (Qb (c:=[ab]) (Qd Z (Qs x.one)) Qg) fun _ _ au=>?_
   refine Qa d fun _ a2 d=>G ?_
   refine Qn (E:=(Qk Gd)) (ys:=[a5.When]) au.f2 S155.h Z23 Z (by decide) Z Z Z Z ⟨[_],_,Z,⟨_,Z,x⟩,Z⟩ Z a2 ?_
   intro _ _ _
   cases d
   refine G ?_
   exact fq
  rintro _ _ ⟨_,l,_,_,_,rfl⟩
  cases b
  refine G ?_
  exact fq
 rintro _ _ ⟨_,j,_,av,_,rfl⟩
 cases hm
 refine G ?_
 refine ⟨_,Qd0 Z,?_⟩
 obtain ⟨_,_,_,_⟩:=av.freezeArr
 exact fq
theorem Qy9:(Tryz.f127.name == "runtime.NumGoroutine")=false:=by kernel_rfl
theorem QhZ {a:(List Gj)} {c:Value} {r:Bool} (hm:QbK a=some r) (hS:St w0 s (H) w) (f:Ga Gd s c a) :
  Cv Tryz.prog 127 #[c] w0 w s H r fun d=>Value.bool (d):=by
 unfold QbK at hm
 refine Qh Tryz.func127 Z Z ?_
 cases hm
 refine G ?_
 exact fr
theorem Qbw {b:(List (List Gj))} {c:Value} {r:Int} (hm:J9 b=some r) (hS:St w0 s (H) w) (ak:Ga (Qk Gd) s c b) :
  Cv Tryz.prog 119 #[c,Value.func (.func 127) #[] #[]] w0 w s H r fun aj=>O aj:=by
 unfold J9 at hm
 refine Qh Tryz.func119 Z Z (Q6 hm fun _ n aa y u=>Zc (Zd (g ?_)))
 refine Zc (Zc (Zd (g ?_)))
 refine Jn (fun k' s' f' w'=>(fun (_:Unit)=>∃l,Gc.le s l∧St w0 l (H) w'∧Fx f' [(8,O (k':Int)),(0,c),(1,Value.func (.func 127) #[] #[]),(7,O ((b.length:Int)))]) s') n ?_ ?_ ?_ ?_
 ·exact fq
 ·intro _ _ _ _ _ _ o a ab
  obtain ⟨_,_,d,_,rfl⟩:=o
  refine Qa a fun ai ae a=>G ?_
  refine Jv Z Z Z ae fun _ _ m=>?_
  refine G ?_
  refine Zw (E:=(Qk Gd)) d A23.h Z Z Z m ?_
  intro _ af
  have ag:=Q5.1 af
  refine G ?_
  refine QkI Z Z Tryz.func127 Z Qy9 (Zi Z Jh) ((QhZ (QhY ai) d ag).mono ?_)
  rintro _ _ ⟨_,rfl,_,_,_,rfl⟩
  refine ⟨_,Z,G ?_⟩
  refine Qe a (fun x a=>?_) fun x a=>?_
  ·cases a
   have z:=aa _ (ab (by intro _ h;cases h))
   cases z
   refine G ?_
   exact fr
  cases a
  refine G ?_
  exact ⟨_,Z,fq⟩
 ·intro _ _ _ p ac
  obtain ⟨ah,ad,t,_,rfl⟩:=p
  refine G ?_
  refine ⟨b.length,_, .inl ac,?_⟩;exact ⟨ah,ad,t,(Fx.mk)⟩
 rintro _ _ ⟨_,_,i,q⟩
 have hm:=i.elim (y _) (u _)
 clear i
 obtain ⟨_,_,_,_,rfl⟩:=q
 cases hm
 refine G ?_
 exact fr
theorem QaO {b:(List (List Gj))} {c:Value} {r:Bool} (hm:QZ b=some r) (hS:St w0 s (H) w) (d:Ga (Qk Gd) s c b) :
  Cv Tryz.prog 73 #[c,Value.func (.func 127) #[] #[]] w0 w s H r fun g=>Value.bool (g):=by
 unfold QZ at hm
 refine Qh Tryz.func73 Z Z (Qa hm fun _ f hm=>G ?_)
 refine Tc Z Z Z Z (Qbw f hS d).r ?_
 rintro _ _ ⟨_,_,_,rfl⟩
 cases hm
 refine G ?_
 exact fr
theorem QkK {a:GD} {i j l c:Value} {r:Bool} (hm:Qcn a=some r) (hS:St w0 s (H) w) (ax:Ga (Qc .i64) s i a.Vars) (ay:Ga (Qc .i64) s j a.Init) (az:Ga Gd s l a.Goal) (a0:Ga GC s c a.Ops) :
  Cv Tryz.prog 89 #[Value.agg #[i,j,l,c]] w0 w s H r fun aw=>Value.bool (aw):=by
 unfold Qcn at hm
 refine Qh Tryz.func89 Z Z (G ?_)
 refine JV Z Z fun d _ _=>?_
 refine g ?_
 refine Zc (Zc (QL (M:=fun f' w'=>∃q,Gc.le s q∧St w0 q (Res.box d 49 [i,j,l,c]::H) w'∧Fx f' [(1,Vq d),(14,Vb (((decide (64<(a.Vars.length:Int))) ||decide (4096<(a.Ops.length:Int)))))]) ?_ ?_))
 ·refine G ?_
  rcases tf (decide (64<(a.Vars.length:Int))) with af |af
  ·refine G ?_
   exact fq
  refine G ?_
  exact fq
 rintro _ _ ⟨au,_,_,_,rfl⟩
 refine G ?_
 refine Qe hm (fun n hm=>?_) fun n hm=>?_
 ·cases hm
  refine G ?_
  exact fr
 refine Q6 hm fun _ x aj ah ae=>W_c Z n (QiV (Yx (Ze (Zc (Zc (Zd (g ?_)))))))
 refine Jn (fun k' s' f' w'=>(fun (_:Unit)=>∃t,Gc.le au t∧St w0 t (Res.box d 49 [i,j,l,c]::H) w'∧Fx f' [(18,O (k':Int)),(1,Vq d),(16,c),(17,O ((a.Ops.length:Int)))]) s') x ?_ ?_ ?_ ?_
 ·exact fq
 ·intro _ _ _ _ _ _ y b ak
  obtain ⟨_,_,m,_,rfl⟩:=y
  refine Qa b fun _ an b=>G ?_
  refine Jv Z Z Z an fun _ _ u=>?_
  refine G ?_
  refine Zw (E:=GC) m A99.h Z Z Z u ?_
  intro _ ao
  obtain ⟨_,_,rfl,_,_⟩:=QeB.1 ao
  refine G ?_
  refine DT (cs:=[Value.string (⟨#[]⟩),O 0,Vn,Vn]) m Z99 Z Z fun _ _ _=>?_
  refine G ?_
  refine Xst Z Z Z fun _ _=>?_
  refine G ?_
  refine Qe b (fun ag b=>?_) fun ag b=>?_
  ·cases b
   have ai:=aj _ (ak (by intro _ h;cases h))
   cases ai
   refine G ?_
   exact fr
  cases b
  refine G ?_
  exact ⟨_,Z,fq⟩
 ·intro _ _ _ z al
  obtain ⟨av,am,ab,_,rfl⟩:=z
  refine G ?_
  refine ⟨a.Ops.length,_, .inl al,?_⟩;exact ⟨av,am,ab,(Fx.mk)⟩
 rintro _ _ ⟨_,_,o,aa⟩
 have hm:=o.elim (ah _) (ae _)
 clear o
 obtain ⟨_,_,ac,_,rfl⟩:=aa
 refine Qa hm fun _ ap hm=>G ?_
 refine Tc Z Z Z Z (Qdf ap ac rq rq rq rq).r ?_
 rintro _ _ ⟨_,_,_,ad,rfl,ar⟩
 refine Qa hm fun _ aq hm=>G ?_
 refine Tc Z Z Z Z (QaO aq ad ar).r ?_
 rintro _ _ ⟨_,_,_,rfl⟩
 cases hm
 refine G ?_
 exact fr
instance F99_1:FTy Tryz.prog 99 1 1:=⟨by kernel_rfl⟩
instance F102_1:FTy Tryz.prog 102 1 1:=⟨by kernel_rfl⟩
instance F102_2:FTy Tryz.prog 102 2 2:=⟨by kernel_rfl⟩
instance F99_0:FTy Tryz.prog 99 0 0:=⟨by kernel_rfl⟩
theorem QkJ {c:ByteArray} {r:Bool} (hm:Qcm c=some r) (hS:St w0 s (H) w) :
  Cv Tryz.prog 91 #[Value.string (c)] w0 w s H r fun an=>Value.bool (an):=by
 unfold Qcm at hm
 refine Qh Tryz.func91 Z Z (G ?_)
 refine Qds Tryz.underlying9 Z Z (Qa hm fun _ aj hm=>Q6 hm fun _ o ae ac y=>g ?_)
 refine Jn (fun k' s' f' w'=>(fun (_:Unit)=>∃m,Gc.le s m∧St w0 m (H) w'∧Fx f' [(6,O (k':Int)),(0,Value.string (c)),(5,O ((c.size:Int)))]) s') o ?_ ?_ ?_ ?_
 ·exact fq
 ·intro ah _ _ _ _ ab p a af
  obtain ⟨ak,_,_,_,rfl⟩:=p
  refine Qa a fun d b a=>Zc (Zd (g ?_))
  refine Zc (QbR (Zx (decide_eq_true (by omega))) (Yx (Ze (Zc (QaU (Zc (Zd (g ?_))))))))
  refine Zc (QL (M:=fun f' w'=>(fun (d:Bool)=>∃n,Gc.le ak n∧St w0 n (H) w'∧Fx f' [(0,Value.string (c)),(5,O ((c.size:Int))),(6,O ((ah:Int))),(18,Vb d)]) d) ?_ ?_)
  ·refine Qa b fun _ j b=>G ?_
   refine Qcs Tryz.underlying9 Z Z Z j (G ?_)
   refine Qe b (fun z b=>?_) fun z b=>?_
   ·cases b
    refine G ?_
    exact fq
   refine G ?_
   refine Qcs Tryz.underlying9 Z Z Z j ?_
   cases b
   refine G ?_
   exact fq
  rintro _ _ ⟨al,_,u,_,rfl⟩
  refine G ?_
  refine Qe a (fun aa a=>?_) fun aa a=>?_
  ·cases a
   have ad:=ae _ (af (by intro _ h;cases h))
   cases ad
   refine G ?_
   exact fr
  cases a
  refine G ?_
  refine ⟨_,Z,?_⟩;exact ⟨al,lq,u,(Fx.mk (FxL.cons (Jo ab (by have h:=Qbn aj;simp at h;simp only [maxLen];omega)) fxl))⟩
 ·intro _ _ _ q ag
  obtain ⟨am,ai,x,_,rfl⟩:=q
  refine G ?_
  refine ⟨(c.size:Int).toNat,_, .inl ag,?_⟩;exact ⟨am,ai,x,(Fx.mk)⟩
 rintro _ _ ⟨_,_,i,t⟩
 have hm:=i.elim (ac _) (y _)
 clear i
 obtain ⟨_,_,_,_,rfl⟩:=t
 refine G ?_
 refine Qds Tryz.underlying9 Z Z ?_
 cases hm
 refine G ?_
 exact fr
theorem QfS {a:GD} {d m n c:Value} {r:(Option Int)} (hm:Jb a=some r) (hS:St w0 s (H) w) (ax:Ga (Qc .i64) s d a.Vars) (ay:Ga (Qc .i64) s m a.Init) (az:Ga Gd s n a.Goal) (a0:Ga GC s c a.Ops) :
  Cv Tryz.prog 41 #[Value.agg #[d,m,n,c]] w0 w s H r fun cE=>K8 63 (cE):=by
 unfold Jb at hm
 refine Qh Tryz.func41 Z Z (G ?_)
 refine JV Z Z fun b _ aV=>?_
 refine Qa hm fun _ cd hm=>G ?_
 refine Tc Z Z Z Z (QkK cd aV ax ay az a0).r ?_
 rintro _ _ ⟨cy,_,_,rfl⟩
 refine G ?_
 refine Qe hm (fun ad hm=>?_) fun ad hm=>?_
 ·refine G ?_
  refine DO C63 Z Z ?_
  cases hm
  refine G ?_
  exact fr
 refine Q6 hm fun _ a7 bC b0 bl=>W_c Z ad (QiV (Yx (Ze (Zc (Zc (Zd (g ?_)))))))
 refine Jn (fun k' s' f' w'=>(fun (_:Unit)=>∃al,Gc.le cy al∧St w0 al (Res.box b 49 [d,m,n,c]::H) w'∧Fx f' [(21,O (k':Int)),(1,Vq b),(19,d),(20,O ((a.Vars.length:Int)))]) s') a7 ?_ ?_ ?_ ?_
 ·exact fq
 ·intro bU _ _ _ _ _ aD o bI
  obtain ⟨cz,_,aW,_,rfl⟩:=aD
  refine Qa o fun u ce o=>G ?_
  refine Jv Z Z Z ce fun _ _ a1=>?_
  refine G ?_
  refine Zw (E:=(Qc .i64)) aW A3.h Z Z Z a1 ?_
  intro _ cf
  obtain rfl:=Qo.1 cf
  refine g ?_
  refine Zc (QL (M:=fun f' w'=>∃am,Gc.le cz am∧St w0 am (Res.box b 49 [d,m,n,c]::H) w'∧Fx f' [(1,Vq b),(19,d),(20,O ((a.Vars.length:Int))),(21,O ((bU:Int))),(30,Vb (((decide (u<1)) ||decide (64<u))))]) ?_ ?_)
  ·refine G ?_
   rcases tf (decide (u<1)) with br |br
   ·refine G ?_
    exact fq
   refine G ?_
   exact fq
  rintro _ _ ⟨_,_,_,_,rfl⟩
  refine G ?_
  refine Qe o (fun bs o=>?_) fun bs o=>?_
  ·refine G ?_
   refine DO C63 Z Z ?_
   cases o
   have b6:=bC _ (bI (by intro _ h;cases h))
   cases b6
   refine G ?_
   exact fr
  cases o
  refine G ?_
  exact ⟨_,Z,fq⟩
 ·intro _ _ _ aE bJ
  obtain ⟨c0,bX,aX,_,rfl⟩:=aE
  refine G ?_
  refine ⟨a.Vars.length,_, .inl bJ,?_⟩;exact ⟨c0,bX,aX,(Fx.mk)⟩
 rintro _ _ ⟨_,_,ae,aP⟩
 have hm:=ae.elim (b0 _) (bl _)
 clear ae
 obtain ⟨c1,_,_,_,rfl⟩:=aP
 refine Q6 hm fun _ a8 bD b1 bm=>g ?_
 refine Zc (Zc (Zd (g ?_)))
 refine Jn (fun k' s' f' w'=>(fun (_:Unit)=>∃an,Gc.le c1 an∧St w0 an (Res.box b 49 [d,m,n,c]::H) w'∧Fx f' [(36,O (k':Int)),(1,Vq b),(34,c),(35,O ((a.Ops.length:Int)))]) s') a8 ?_ ?_ ?_ ?_
 ·exact fq
 ·intro bV _ _ _ _ _ aF p bK
  obtain ⟨c2,_,y,_,rfl⟩:=aF
  refine Qa p fun x cg p=>G ?_
  refine Jv Z Z Z cg fun _ _ a2=>?_
  refine G ?_
  refine Zw (E:=GC) y A99.h Z Z Z a2 ?_
  intro _ ch
  obtain ⟨_,_,rfl,_,_⟩:=QeB.1 ch
  refine G ?_
  refine DT (cs:=[Value.string (⟨#[]⟩),O 0,Vn,Vn]) y Z99 Z Z fun _ _ _=>?_
  refine G ?_
  refine Xst Z Z Z fun _ _=>?_
  refine g ?_
  refine Zc (QL (M:=fun f' w'=>∃ao,Gc.le c2 ao∧St w0 ao (Res.box b 49 [d,m,n,c]::H) w'∧Fx f' [(1,Vq b),(34,c),(35,O ((a.Ops.length:Int))),(36,O ((bV:Int))),(47,Vb (((decide (x.Cost<0)) ||decide (1048576<x.Cost))))]) ?_ ?_)
  ·refine G ?_
   rcases tf (decide (x.Cost<0)) with bt |bt
   ·refine G ?_
    exact fq
   refine G ?_
   exact fq
  rintro _ _ ⟨_,_,_,_,rfl⟩
  refine G ?_
  refine Qe p (fun bu p=>?_) fun bu p=>?_
  ·refine G ?_
   refine DO C63 Z Z ?_
   cases p
   have b7:=bD _ (bK (by intro _ h;cases h))
   cases b7
   refine G ?_
   exact fr
  cases p
  refine G ?_
  exact ⟨_,Z,fq⟩
 ·intro _ _ _ aG bL
  obtain ⟨c3,bY,aY,_,rfl⟩:=aG
  refine G ?_
  refine ⟨a.Ops.length,_, .inl bL,?_⟩;exact ⟨c3,bY,aY,(Fx.mk)⟩
 rintro _ _ ⟨_,_,af,aQ⟩
 have hm:=af.elim (b1 _) (bm _)
 clear af
 obtain ⟨_,_,aZ,_,rfl⟩:=aQ
 refine Qa hm fun _ ci hm=>G ?_
 refine Tc Z Z Z Z (QbL ci aZ rq rq).r ?_
 rintro _ _ ⟨_,_,ba,rfl⟩
 refine G ?_
 refine Qe hm (fun bv hm=>?_) fun bv hm=>?_
 ·refine G ?_
  refine DO C63 Z Z ?_
  cases hm
  refine G ?_
  exact fr
 refine Qa hm fun aw cj hm=>G ?_
 refine Tc Z Z Z Z (Qdf cj ba rq rq rq rq).r ?_
 rintro cD _ ⟨c4,_,_,_,rfl,_⟩
 refine Q6 hm fun _ a9 bE b2 bn=>g ?_
 refine Jn (fun k' s' f' w'=>(fun (_:Unit)=>∃ap,Gc.le c4 ap∧St w0 ap (Res.box b 49 [d,m,n,c]::H) w'∧Fx f' [(60,O (k':Int)),(1,Vq b),(58,cD),(59,O ((aw.length:Int)))]) s') a9 ?_ ?_ ?_ ?_
 ·exact fq
 ·intro _ _ _ _ _ _ aH i bM
  obtain ⟨_,_,z,_,rfl⟩:=aH
  refine Qa i fun _ ck i=>G ?_
  refine Jv Z Z Z ck fun _ _ a3=>?_
  refine G ?_
  refine Zw (E:=(Qk Gd)) z A23.h Z Z Z a3 ?_
  intro _ cl
  have cw:=Q5.1 cl
  refine Qa i fun _ cm i=>G ?_
  refine Tc Z Z Z Z (QdD cm z rq cw).r ?_
  rintro _ _ ⟨_,_,_,rfl⟩
  refine G ?_
  refine Qe i (fun bw i=>?_) fun bw i=>?_
  ·refine G ?_
   refine DO C63 Z Z ?_
   cases i
   have b8:=bE _ (bM (by intro _ h;cases h))
   cases b8
   refine G ?_
   exact fr
  cases i
  refine G ?_
  exact ⟨_,Z,fq⟩
 ·intro _ _ _ aI bN
  obtain ⟨c5,bZ,bb,_,rfl⟩:=aI
  refine G ?_
  refine ⟨aw.length,_, .inl bN,?_⟩;exact ⟨c5,bZ,bb,(Fx.mk)⟩
 rintro _ _ ⟨_,_,ag,aR⟩
 have hm:=ag.elim (b2 _) (bn _)
 clear ag
 obtain ⟨c6,_,_,_,rfl⟩:=aR
 refine Q6 hm fun _ aA bF b3 bo=>g ?_
 refine Zc (Zc (Zd (g ?_)))
 refine Jn (fun k' s' f' w'=>(fun (_:Unit)=>∃aq,Gc.le c6 aq∧St w0 aq (Res.box b 49 [d,m,n,c]::H) w'∧Fx f' [(74,O (k':Int)),(1,Vq b),(72,c),(73,O ((a.Ops.length:Int)))]) s') aA ?_ ?_ ?_ ?_
 ·exact fq
 ·intro bW _ _ _ _ _ aJ t bO
  obtain ⟨c7,_,aa,_,rfl⟩:=aJ
  refine Qa t fun av cn t=>G ?_
  refine Jv Z Z Z cn fun _ _ a4=>?_
  refine G ?_
  refine Zw (E:=GC) aa A99.h Z Z Z a4 ?_
  intro _ co
  obtain ⟨_,cC,rfl,_,_⟩:=QeB.1 co
  refine G ?_
  refine DT (cs:=[Value.string (⟨#[]⟩),O 0,Vn,Vn]) aa Z99 Z Z fun _ _ _=>?_
  refine G ?_
  refine Xst Z Z Z fun _ bc=>?_
  refine Q6 t fun _ aB bG b4 bp=>g ?_
  refine Zc (Zd (g ?_))
  refine Jn (fun k' s' f' w'=>(fun (_:Unit)=>∃ar,Gc.le c7 ar∧St w0 ar (Res.box b 49 [d,m,n,c]::H) w'∧Fx f' [(81,O (k':Int)),(1,Vq b),(72,c),(73,O ((a.Ops.length:Int))),(74,O ((bW:Int))),(79,cC),(80,O ((av.Effs.length:Int)))]) s') aB ?_ ?_ ?_ ?_
  ·have cF:=bc.drop
   exact fq
  ·intro _ _ _ _ _ _ aK j bP
   obtain ⟨_,_,ab,_,rfl⟩:=aK
   refine Qa j fun q cp j=>G ?_
   refine Jv Z Z Z cp fun _ _ a5=>?_
   refine G ?_
   refine Zw (E:=Gm) ab A102.h Z Z Z a5 ?_
   intro _ cq
   obtain ⟨_,rfl,_⟩:=Qeo.1 cq
   refine G ?_
   refine DT (cs:=[Vn,O 0,O 0]) ab Qhr Z Z fun _ _ _=>?_
   refine G ?_
   refine Xst Z Z Z fun _ bd=>?_
   refine G ?_
   refine Q2 Z (Qb (Qd Z Z) (Qb (Qd Z Z) Qg)) (v:=Value.agg #[O (q.Var),O (q.Val)]) (G ?_)
   refine Qt (Te:=82) (cs:=[O (q.Var),O (q.Val)]) bd Z (Qb (Qd Z Z) Qg) ?_
   intro _ _ be
   obtain ⟨_,_,bf,cx⟩:=(St.boxArr (E:=Gd) (xs:=[(⟨q.Var,q.Val⟩:Gj)]) be ⟨[_,_],_,rfl,⟨[_],_,rfl,rfl,rfl⟩,rfl⟩ (by simp [maxLen])).freezeArr
   refine Qa j fun _ cr j=>G ?_
   refine Tc Z Z Z Z (QdD cr bf rq cx).r ?_
   rintro _ _ ⟨_,_,_,rfl⟩
   refine G ?_
   refine Qe j (fun bx j=>?_) fun bx j=>?_
   ·refine G ?_
    refine DO C63 Z Z ?_
    cases j
    have b9:=bG _ (bP (by intro _ h;cases h))
    cases b9
    have bA:=bF _ (bO (by intro _ h;cases h))
    cases bA
    refine G ?_
    exact fr
   cases j
   refine G ?_
   exact ⟨_,Z,fq⟩
  ·intro _ _ _ aL bQ
   obtain ⟨c8,ca,bg,_,rfl⟩:=aL
   refine G ?_
   refine ⟨av.Effs.length,_, .inl bQ,?_⟩;exact ⟨c8,ca,bg,(Fx.mk)⟩
  rintro _ _ ⟨_,_,ah,aS⟩
  have t:=ah.elim (b4 _) (bp _)
  clear ah
  obtain ⟨_,_,_,_,rfl⟩:=aS
  cases t
  refine G ?_
  exact ⟨_,Z,fq⟩
 ·intro _ _ _ aM bR
  obtain ⟨c9,cb,bh,_,rfl⟩:=aM
  refine G ?_
  refine ⟨a.Ops.length,_, .inl bR,?_⟩;exact ⟨c9,cb,bh,(Fx.mk)⟩
 rintro _ _ ⟨_,_,ai,aT⟩
 have hm:=ai.elim (b3 _) (bo _)
 clear ai
 obtain ⟨cA,_,bi,_,rfl⟩:=aT
 refine Q6 hm fun _ aC bH b5 bq=>g ?_
 refine Zc (Zc (Zd (g ?_)))
 refine Jn (fun k' s' f' w'=>(fun (_:Unit)=>∃au,Gc.le cA au∧St w0 au (H) w'∧Fx f' [(101,O (k':Int)),(99,c),(100,O ((a.Ops.length:Int)))]) s') aC ?_ ?_ ?_ ?_
 ·have cG:=bi.drop
  exact fq
 ·intro _ _ _ _ _ _ aN l bS
  obtain ⟨_,_,ac,_,rfl⟩:=aN
  refine Qa l fun _ ct l=>G ?_
  refine Jv Z Z Z ct fun _ _ a6=>?_
  refine G ?_
  refine Zw (E:=GC) ac A99.h Z Z Z a6 ?_
  intro _ cu
  obtain ⟨_,_,rfl,_,_⟩:=QeB.1 cu
  refine G ?_
  refine DT (cs:=[Value.string (⟨#[]⟩),O 0,Vn,Vn]) ac Z99 Z Z fun _ _ _=>?_
  refine G ?_
  refine Xst Z Z Z fun _ bj=>?_
  refine Qa l fun _ cv l=>G ?_
  refine Tc Z Z Z Z (QkJ cv bj).r ?_
  rintro _ _ ⟨_,_,_,rfl⟩
  refine G ?_
  refine Qe l (fun bz l=>?_) fun bz l=>?_
  ·refine G ?_
   refine DO C63 Z Z ?_
   cases l
   have bB:=bH _ (bS (by intro _ h;cases h))
   cases bB
   refine G ?_
   exact fr
  cases l
  refine G ?_
  exact ⟨_,Z,fq⟩
 ·intro _ _ _ aO bT
  obtain ⟨cB,cc,bk,_,rfl⟩:=aO
  refine G ?_
  refine ⟨a.Ops.length,_, .inl bT,?_⟩;exact ⟨cB,cc,bk,(Fx.mk)⟩
 rintro _ _ ⟨_,_,aj,aU⟩
 have hm:=aj.elim (b5 _) (bq _)
 clear aj
 obtain ⟨_,_,_,_,rfl⟩:=aU
 cases hm
 refine G ?_
 exact fr
end Go.Pw
