/- -/
import Derived.Test.YtalfjlihddgooaaGreatDoorWl1
import Derived.Test.YtalfjlihddgooaaGreatDoorLH
import Derived.Test.YtalfjlihddgooaaGreatDoorLC
import Derived.Test.YtalfjlihddgooaaGreatDoorLD
namespace Go.Pw
open Go.Proofs
theorem Qm8 {w0 w:World} {s:Gc} {H:List Res} {xs:List Int} {v:Value} {r:List Int} (hm:QeY xs=some r) (hS:St w0 s (Res.arr (Qc .i64) 3 v xs::H) w) :
  Calls Tryz.prog 48 #[v] w fun e w'=>∃u,e= .returned u∧((fun (l:List Int)=>∃(s':Gc),Gc.le s s'∧St w0 s' (Res.arr (Qc .i64) 3 v l::H) w'∧u=Value.tuple #[]) r):=by
 unfold QeY at hm
 split at hm
 ·rename_i hlen
  cases hm
  refine (Qq2 QxI hlen hS).mono ?_
  rintro e w' ⟨rfl,hS'⟩
  exact ⟨_,Z,s,Zv _,hS',Z⟩
 ·cases hm
end Go.Pw
/- -/
set_option maxRecDepth 100000
set_option maxHeartbeats 4000000
set_option linter.unusedVariables false
namespace Go.Pw
open Go.Proofs
variable {w0 w:World} {s:Gc} {H:List Res}
attribute [local irreducible] Exec WL W andThen QaB DL Jm
theorem QeH {n:Ge} {ab:(List Launch)} {o p t u ac:Value} {r:(List (Int×(List Gh)))×(List Int)} (hm:KT n ab=some r) (hS:St w0 s (H) w) (bj:Ga (Qc .i64) s o n.Vars) (bk:Ga (Qc .i64) s p n.Init) (bl:Ga Gd s t n.Goal) (bm:Ga Gw s u n.Jobs) (bn:Ga Gg s ac ab) :
  Cs Tryz.prog 15 #[Value.agg #[o,p,t,u],ac] w r fun v w'=>J5 fun (bh:List (Int×(List Gh))) (bi:List Int)=>∃ak a2 am,Gc.le s ak∧St w0 ak (Res.fmap Tryz.prog 3 Gv am bh::H) w'∧v=Value.tuple #[Value.map (some am),a2]∧Ga (Qc .i64) ak a2 bi:=by
 unfold KT at hm
 refine Qh Tryz.func15 Z Z (G ?_)
 refine JV Z Z fun x _ a8=>?_
 refine G ?_
 refine QkR (k:=3) (E:=Gv) (Te:=120) a8 Z fun b _ a9=>?_
 refine Qa hm fun aa a5 hm=>G ?_
 refine QO (fun k' s' f' w'=>(fun (aa:List (Int×(List Gh)))=>∃(ay:Gc) (ad:Qhs),Gc.le s ay∧St w0 ay (Res.box x 26 [o,p,t,u]::Res.hmap Tryz.prog 3 Gv 120 b ad aa::H) w'∧Fx f' [(14,O (k':Int)),(2,Vq x),(6,Value.map (some b)),(12,ac),(13,O ((ab.length:Int)))]) s') a5 ?_ ?_ ?_
 ·have bo:=a9.f1
  exact fq
 ·intro aU aa _ _ _ _ a6 a
  obtain ⟨bd,ad,_,an,_,rfl⟩:=a6
  refine Qa a fun c aX a=>G ?_
  refine Jv Z Z Z aX fun _ _ a4=>?_
  refine G ?_
  refine Zw (E:=Gg) an A43.h Z Z Z a4 ?_
  intro _ aY
  obtain rfl:=QH.1 aY
  refine G ?_
  refine DT (cs:=[O 0,O 0]) an Z43 Z Z fun _ _ _=>?_
  refine G ?_
  refine Xst Z Z Z fun _ j=>?_
  refine G ?_
  refine QT (n0:=12) (qs 0 10 (.e 10 [0,1,2,3,4,5,6] (.e 11 [0,1,2] .done))) JQ (G ?_)
  refine Zn (j.drew) A3.h Z Z Z ⟨Z,G ?_⟩
  refine Zn (j.drew) A3.h Z Z Z ⟨Z,Qa a fun _ ah a=>G ?_⟩
  refine Qaq ((j.drew).f2) ⟨Tryz.underlying57,Tryz.underlying3⟩ Z61 Z Z Z ah ⟨Z,G ?_⟩
  refine Zn (j.drew) A3.h Z Z Z ⟨Z,G ?_⟩
  refine Q2 Z (Qb (Qd Z Z) (Qb (Qd Z Z) Qg)) (v:=Value.agg #[O (c.Job),Vb false]) ⟨Z,G ?_⟩
  refine Qt (Te:=120) (cs:=[O (c.Job),Vb false]) j.drew Z (Qb (Qd Z Z) Qg) fun _ _ y=>?_
  refine ⟨(Qm (Q8 Z Z (Zm (v:=Value.map (some b)) Z Z ⟨Z,Z⟩)) (Qm (Q8 Z Z (Zp F43_0.h Z Z Z ⟨Z,Z⟩)) (Qm (Q8 Z Z (Zn (y.f1) A3.h Z Z Z ⟨Z,Z⟩)) (Qm (Q8 Z Z (Zm (v:=Value.map (some b)) Z Z ⟨Z,Z⟩)) (Qm (Q8 Z Z (Zp F43_0.h Z Z Z ⟨Z,Z⟩)) (Qm (Q8 Z Z (Zn (y.f1) A3.h Z Z Z ⟨Z,Z⟩)) (Qm (Q8 Z Z (Qaq (y.f3) ⟨Tryz.underlying57,Tryz.underlying3⟩ Z61 Z Z Z ah ⟨Z,Z⟩)) K7))))))),Qa a fun _ aZ a=>G ?_⟩
  refine Qbu (ys:=[(⟨c.Job,false⟩:Gh)]) y.f3 ah S61.h Qqq Z (by decide) Z Z Z Z ⟨[_,_],_,Z,⟨[_],_,Z,Z,Z⟩,Z⟩ Z aZ fun _ _ aA=>?_
  refine ⟨Yd,Qa a fun _ ba a=>G ?_⟩
  refine QcL aA ⟨Tryz.underlying57,Tryz.underlying3⟩ Z Z Z Z ba fun _ aB=>?_
  refine Qa a fun _ m a=>Qa a fun _ i a=>Qa a fun _ ai a=>Qa a fun aW aj a=>g ?_
  refine QL (M:=fun f' w'=>∃(az:Gc) (a3:Qhs),Gc.le bd az∧St w0 az (Res.box x 26 [o,p,t,u]::Res.hmap Tryz.prog 3 Gv 120 b a3 aW::H) w'∧Fx f' [(2,Vq x),(6,Value.map (some b)),(12,ac),(13,O ((ab.length:Int))),(14,O ((aU:Int)))]) ?_ ?_
  ·refine QT (n0:=14) (qs 0 3 (qs 4 3 (qs 9 3 (.alt (.e 3 [0,4,5,6,9,10,11] (.alt (.e 7 [0,4,9,10,11] (.q 8 (.e 12 [0,4,8] (.e 13 [0] .done)))) (.e 12 [0,4,5,6] (.e 7 [0,4] (.q 8 (.e 13 [0] .done)))))) (.e 12 [0,1,2,4,5,6] (.e 3 [0,4,5,6] (.e 7 [0,4] (.q 8 (.e 13 [0] .done))))))))) JQ ?_
   have ao:=aB.drew
   refine G ?_
   refine Q2 Z (Qb (Qd Z Z) (Qb (Qd Z Z) Qg)) (v:=Value.agg #[O (c.Job),Vb true]) ⟨Z,Qb5 ?_ ?_⟩
   ·refine G ?_
    refine Tc Z Z Z Z (K0 m ao rq rq rq rq).r ?_
    rintro _ _ ⟨_,_,l,rfl⟩
    refine ⟨(Qm (Q8 Z Z (Zm (v:=Value.map (some b)) Z Z ⟨Z,Z⟩)) (Qm (Q8 Z Z (Zm (v:=Value.map (some b)) Z Z ⟨Z,Z⟩)) (Qm (Q8 Z Z (Q4 (ds:=[o,p,t,u]) (l.f2) A26.h Z Z Z ⟨Z,Z⟩)) (Qm (Q8 Z Z (Q4 (ds:=[O (c.At),O (c.Job)]) (l.f1) A43.h Z Z Z ⟨Z,Z⟩)) (Qm (Q8 Z Z (Zp F43_1.h Z Z Z ⟨Z,Z⟩)) (Qm (Q8 Z Z (Zn (l.f1) A3.h Z Z Z ⟨Z,Z⟩)) (Qm (Q8 Z Z (Q2 Z (Qb (Qd Z Z) (Qb (Qd Z Z) Qg)) (v:=Value.agg #[O (c.Job),Vb true]) ⟨Z,Z⟩)) K7))))))),Qb5 ?_ ?_⟩
    ·refine G ?_
     refine Tc Z Z Z Z (K0 m l rq rq rq rq).r ?_
     rintro _ _ ⟨_,_,af,rfl⟩
     refine ⟨(Qm (Q8 Z Z (Zm (v:=Value.map (some b)) Z Z ⟨Z,Z⟩)) (Qm (Q8 Z Z (Zm (v:=Value.map (some b)) Z Z ⟨Z,Z⟩)) (Qm (Q8 Z Z (Zp F43_1.h Z Z Z ⟨Z,Z⟩)) (Qm (Q8 Z Z (Zn (af.f1) A3.h Z Z Z ⟨Z,Z⟩)) (Qm (Q8 Z Z (Q2 Z (Qb (Qd Z Z) (Qb (Qd Z Z) Qg)) (v:=Value.agg #[O (c.Job),Vb true]) ⟨Z,Z⟩)) K7))))),G ?_⟩
     refine Qaq (af) ⟨Tryz.underlying57,Tryz.underlying3⟩ Z61 Z Z Z i ⟨Z,G ?_⟩
     refine Qt (Te:=120) (cs:=[O (c.Job),Vb true]) af Z (Qb (Qd Z Z) Qg) fun _ _ ap=>?_
     refine ⟨(Qm (Q8 Z Z (Zm (v:=Value.map (some b)) Z Z ⟨Z,Z⟩)) (Qm (Q8 Z Z (Zm (v:=Value.map (some b)) Z Z ⟨Z,Z⟩)) (Qm (Q8 Z Z (Qaq (ap.f1) ⟨Tryz.underlying57,Tryz.underlying3⟩ Z61 Z Z Z i ⟨Z,Z⟩)) K7))),G ?_⟩
     refine Qbu (ys:=[(⟨c.Job,true⟩:Gh)]) ap.f1 i S61.h Qqq Z (by decide) Z Z Z Z ⟨[_,_],_,Z,⟨[_],_,Z,Z,Z⟩,Z⟩ Z ai fun _ _ aC=>?_
     refine ⟨Yd,G ?_⟩
     refine QcL aC ⟨Tryz.underlying57,Tryz.underlying3⟩ Z Z Z Z aj fun _ _=>?_
     refine G ?_
     exact fq
    refine G ?_
    refine Qt (Te:=120) (cs:=[O (c.Job),Vb true]) l Z (Qb (Qd Z Z) Qg) fun _ _ aD=>?_
    refine ⟨Yd,G ?_⟩
    refine Tc Z Z Z Z (K0 m aD rq rq rq rq).r ?_
    rintro _ _ ⟨_,_,aq,rfl⟩
    refine ⟨Yd,G ?_⟩
    refine Qaq (aq.f1) ⟨Tryz.underlying57,Tryz.underlying3⟩ Z61 Z Z Z i ⟨Z,G ?_⟩
    refine Qbu (ys:=[(⟨c.Job,true⟩:Gh)]) aq.f1 i S61.h Qqq Z (by decide) Z Z Z Z ⟨[_,_],_,Z,⟨[_],_,Z,Z,Z⟩,Z⟩ Z ai fun _ _ aE=>?_
    refine ⟨Yd,G ?_⟩
    refine QcL aE ⟨Tryz.underlying57,Tryz.underlying3⟩ Z Z Z Z aj fun _ _=>?_
    refine G ?_
    exact fq
   refine G ?_
   refine Qt (Te:=120) (cs:=[O (c.Job),Vb true]) ao Z (Qb (Qd Z Z) Qg) fun _ _ aF=>?_
   refine ⟨Yd,G ?_⟩
   refine Tc Z Z Z Z (K0 m aF rq rq rq rq).r ?_
   rintro _ _ ⟨_,_,aG,rfl⟩
   refine ⟨Yd,G ?_⟩
   refine Tc Z Z Z Z (K0 m aG rq rq rq rq).r ?_
   rintro _ _ ⟨_,_,ar,rfl⟩
   refine ⟨Yd,G ?_⟩
   refine Qaq (ar.f1) ⟨Tryz.underlying57,Tryz.underlying3⟩ Z61 Z Z Z i ⟨Z,G ?_⟩
   refine Qbu (ys:=[(⟨c.Job,true⟩:Gh)]) ar.f1 i S61.h Qqq Z (by decide) Z Z Z Z ⟨[_,_],_,Z,⟨[_],_,Z,Z,Z⟩,Z⟩ Z ai fun _ _ aH=>?_
   refine ⟨Yd,G ?_⟩
   refine QcL aH ⟨Tryz.underlying57,Tryz.underlying3⟩ Z Z Z Z aj fun _ _=>?_
   refine G ?_
   exact fq
  rintro _ _ ⟨_,a3,_,_,_,rfl⟩
  cases a
  refine G ?_
  exact fq
 rintro _ _ ⟨be,ad,_,aI,_,rfl⟩
 refine G ?_
 refine Qjf aI.f1 ⟨Tryz.underlying57,Tryz.underlying3⟩ Z Z fun ax _ au=>?_
 refine G ?_
 refine Qtw au.hrange_nodup (fun d' s' f' w'=>(fun (a1:List Int)=>∃a0 al,Gc.le be a0∧St w0 a0 (Res.hrange Tryz.prog 3 Gv 120 b ax ad aa d'::Res.arr (Qc .i64) 3 al a1::H) w'∧Fx f' [(6,Value.map (some b)),(9,al),(46,Vq ax)]) s') hm ?_ ?_
 ·have bp:=au.nilArr (Qc .i64) 3
  exact fq
 intro _ a1 _ _ a7 aR aT
 obtain ⟨bf,al,aV,aJ,_,rfl⟩:=a7
 refine G ?_
 refine QiA aJ ⟨Tryz.underlying57,Tryz.underlying3⟩ Z Z ?_ ?_
 ·intro aQ aK
  have ag:=aR aQ
  refine Qa ag fun _ bb ag=>G ?_
  refine Tc Z Z Z Z (Qm8 bb aK.f1).r ?_
  rintro _ _ ⟨_,_,aL,rfl⟩
  cases ag
  refine G ?_
  refine ⟨_,Qcw Z,?_⟩
  obtain ⟨_,_,aM⟩:=Qlj aL.f1
  obtain ⟨_,_,_,_⟩:=aM.f1.freezeArr
  exact fq
 intro ae _ _ av aw aN aS
 obtain ⟨_,z⟩:=aT ae av aw
 have hm6490k:=z
 refine G ?_
 refine DY Z Z aS (G ?_)
 refine Qt (Te:=3) (cs:=[O ae]) aN Z (Qb (Qd Z Z) Qg) fun _ _ aO=>?_
 refine Qa z fun _ bc z=>G ?_
 refine Qn (E:=(Qc .i64)) (ys:=[ae]) aO.f2 S22.h Z3 Z (by decide) Z Z Z Z ⟨[_],_,Z,Z,Z⟩ Z bc ?_
 intro bg _ aP
 cases z
 refine G ?_
 exact ⟨ae,_,av,aw,hm6490k,⟨bf,bg,aV,aP.f1,(Fx.mk)⟩⟩
theorem Qfv {l:Ge} {i:(List Launch)} {m:Int} {n o p q b:Value} {r:Bool} (hm:Y1 l i m=some r) (hS:St w0 s (H) w) (aR:Ga (Qc .i64) s n l.Vars) (aS:Ga (Qc .i64) s o l.Init) (aT:Ga Gd s p l.Goal) (aU:Ga Gw s q l.Jobs) (aV:Ga Gg s b i) :
  Cv Tryz.prog 49 #[Value.agg #[n,o,p,q],b,O m] w0 w s H r fun aQ=>Value.bool (aQ):=by
 unfold Y1 at hm
 refine Qh Tryz.func49 Z Z (G ?_)
 refine JV Z Z fun j _ _=>?_
 refine Q6 hm fun _ ak a8 a4 ay=>g ?_
 refine Zc (Zc (Zd (g ?_)))
 refine Jn (fun k' s' f' w'=>(fun (_:Unit)=>∃af,Gc.le s af∧St w0 af (Res.box j 26 [n,o,p,q]::H) w'∧Fx f' [(13,O (k':Int)),(1,b),(2,O m),(3,Vq j),(11,b),(12,O ((i.length:Int)))]) s') ak ?_ ?_ ?_ ?_
 ·exact fq
 ·intro u _ _ _ _ _ am c aA
  obtain ⟨aM,_,z,_,rfl⟩:=am
  refine Qa c fun x aH c=>G ?_
  refine Jv Z Z Z aH fun _ _ ai=>?_
  refine G ?_
  refine Zw (E:=Gg) z A43.h Z Z Z ai ?_
  intro _ aI
  obtain rfl:=QH.1 aI
  refine G ?_
  refine DT (cs:=[O 0,O 0]) z Z43 Z Z fun t _ _=>?_
  refine G ?_
  refine Xst Z Z Z fun _ au=>?_
  refine G ?_
  refine Qe c (fun ab c=>?_) fun ab c=>?_
  ·cases c
   refine G ?_
   exact ⟨_,Z,fq⟩
  refine Q6 c fun _ al a9 a5 az=>W_c Z ab (QiV (Yx (Ze (Zc (Zd (g ?_))))))
  refine Jn (fun k' s' f' w'=>(fun (_:Unit)=>∃ag,Gc.le aM ag∧St w0 ag (Res.box j 26 [n,o,p,q]::Res.box t 43 [O (x.At),O (x.Job)]::H) w'∧Fx f' [(24,O (k':Int)),(1,b),(2,O m),(3,Vq j),(7,O ((u:Int))),(8,Vq t),(11,b),(12,O ((i.length:Int))),(13,O ((u:Int))),(22,b),(23,O ((i.length:Int)))]) s') al ?_ ?_ ?_ ?_
  ·have aW:=au.f1
   exact fq
  ·intro aE _ _ _ _ _ an d aB
   obtain ⟨aN,_,aa,_,rfl⟩:=an
   refine Qa d fun _ aJ d=>G ?_
   refine Jv Z Z Z aJ fun _ _ aj=>?_
   refine G ?_
   refine Zw (E:=Gg) aa A43.h Z Z Z aj ?_
   intro _ aK
   obtain rfl:=QH.1 aK
   refine G ?_
   refine DT (cs:=[O 0,O 0]) aa Z43 Z Z fun _ _ _=>?_
   refine G ?_
   refine Xst Z Z Z fun _ av=>?_
   refine Qa d fun y a d=>g ?_
   refine Zc (QL (M:=fun f' w'=>(fun (y:Bool)=>∃ah,Gc.le aN ah∧St w0 ah (Res.box j 26 [n,o,p,q]::Res.box t 43 [O (x.At),O (x.Job)]::H) w'∧Fx f' [(1,b),(2,O m),(3,Vq j),(7,O ((u:Int))),(8,Vq t),(11,b),(12,O ((i.length:Int))),(13,O ((u:Int))),(22,b),(23,O ((i.length:Int))),(24,O ((aE:Int))),(51,Vb y)]) y) ?_ ?_)
   ·refine G ?_
    refine Qe a (fun a0 a=>?_) fun a0 a=>?_
    ·refine G ?_
     refine Qe a (fun a1 a=>?_) fun a1 a=>?_
     ·refine G ?_
      refine Qe a (fun a2 a=>?_) fun a2 a=>?_
      ·refine Qa a fun _ aL a=>G ?_
       refine Tc Z Z Z Z (K0 aL av rq rq rq rq).r ?_
       rintro _ _ ⟨_,_,_,rfl⟩
       cases a
       refine G ?_
       exact fq
      cases a
      refine G ?_
      exact fq
     cases a
     refine G ?_
     exact fq
    cases a
    refine G ?_
    exact fq
   rintro _ _ ⟨_,_,_,_,rfl⟩
   refine G ?_
   refine Qe d (fun a3 d=>?_) fun a3 d=>?_
   ·cases d
    have a6:=a9 _ (aB (by intro _ h;cases h))
    cases a6
    have a7:=a8 _ (aA (by intro _ h;cases h))
    cases a7
    refine G ?_
    exact fr
   cases d
   refine G ?_
   exact ⟨_,Z,fq⟩
  ·intro _ _ _ ao aC
   obtain ⟨aO,aF,aw,_,rfl⟩:=ao
   refine G ?_
   refine ⟨i.length,_, .inl aC,?_⟩;exact ⟨aO,aF,(aw.f1).f1,(Fx.mk)⟩
  rintro _ _ ⟨_,_,ac,aq⟩
  have c:=ac.elim (a5 _) (az _)
  clear ac
  obtain ⟨_,_,_,_,rfl⟩:=aq
  cases c
  refine G ?_
  exact ⟨_,Z,fq⟩
 ·intro _ _ _ ap aD
  obtain ⟨aP,aG,ax,_,rfl⟩:=ap
  refine G ?_
  refine ⟨i.length,_, .inl aD,?_⟩;exact ⟨aP,aG,ax,(Fx.mk)⟩
 rintro _ _ ⟨_,_,ad,ar⟩
 have hm:=ad.elim (a4 _) (ay _)
 clear ad
 obtain ⟨_,_,_,_,rfl⟩:=ar
 cases hm
 refine G ?_
 exact fr
instance A120:ATy Tryz.prog 120 true 2:=⟨by kernel_rfl⟩
instance F120_1:FTy Tryz.prog 120 1 1:=⟨by kernel_rfl⟩
instance A4:ATy Tryz.prog 4 false 1:=⟨by kernel_rfl⟩
instance F120_0:FTy Tryz.prog 120 0 0:=⟨by kernel_rfl⟩
theorem Y0 {a:Ge} {b:Gh} {f g i j:Value} {r:(List Gj)} (hm:KB a b=some r) (hS:St w0 s (H) w) (z:Ga (Qc .i64) s f a.Vars) (aa:Ga (Qc .i64) s g a.Init) (ab:Ga Gd s i a.Goal) (ac:Ga Gw s j a.Jobs) :
  Cs Tryz.prog 107 #[Value.agg #[f,g,i,j],Value.agg #[O (b.job),Value.bool (b.end_)]] w r fun v w'=>fun (y:List Gj)=>∃c k,Gc.le s c∧St w0 c (H) w'∧v=k∧Ga Gd c k y:=by
 unfold KB at hm
 refine Qh Tryz.func107 Z Z (G ?_)
 refine JV Z Z fun _ _ _=>?_
 refine G ?_
 refine JV Z Z fun _ _ d=>?_
 refine G ?_
 refine Qe hm (fun n hm=>?_) fun n hm=>?_
 ·refine Qa hm fun u o hm=>G ?_
  refine Jv Z Z Z o fun _ _ l=>?_
  refine G ?_
  refine Zw (E:=(Qk Gd)) d A23.h Z Z Z (l.sub (Sub.iso (Sub.snd (Sub.snd (Sub.snd (Sub.snd (Sub.snd (Sub.snd (Sub.refl _) Z) Z) Z) Z) Z) Z)) Z) ?_
  intro _ p
  have ad:Ga _ _ _ (u.AtEnd):=Q5.1 p
  cases hm
  refine G ?_
  exact fr
 refine Qa hm fun x q hm=>G ?_
 refine Jv Z Z Z q fun _ _ m=>?_
 refine G ?_
 refine Zw (E:=(Qk Gd)) d A23.h Z Z Z (m.sub (Sub.iso (Sub.snd (Sub.snd (Sub.snd (Sub.snd (Sub.snd (Sub.fst (Sub.refl _)) Z) Z) Z) Z) Z)) Z) ?_
 intro _ t
 have ae:Ga _ _ _ (x.AtStart):=Q5.1 t
 cases hm
 refine G ?_
 exact fr
theorem Qy7:(Tryz.f169.name == "runtime.NumGoroutine")=false:=by kernel_rfl
theorem QeG {b a:Gj} {c d:Nat} {r:Bool} (hm:YO b a=some r) (hS:St w0 s (H) w) (g:At s c d Gd a) :
  Cv Tryz.prog 169 #[Value.agg #[O (b.Var),O (b.Val)],Value.pointer (some ⟨c,d,none⟩)] w0 w s H r fun l=>Value.bool (l):=by
 unfold YO at hm
 refine Qh Tryz.func169 Z Z (G ?_)
 refine JV Z Z fun _ _ i=>?_
 refine G ?_
 refine Zw (E:=(Qc .i64)) i A3.h Z Z Z (g.sub (Sub.iso (Sub.fst (Sub.refl _))) Z) ?_
 intro k j
 obtain rfl:k=O (a.Var):=Qo.1 j
 cases hm
 refine G ?_
 exact fr
theorem Qba {b:(List Gj)} {d:Gj} {j:Value} {c i:Nat} {r:Int} (hm:Jz b d=some r) (hS:St w0 s (H) w) (ao:Ga Gd s j b) (p:At s c i Gd d) :
  Cv Tryz.prog 190 #[j,Value.func (.func 169) #[] #[Value.pointer (some ⟨c,i,none⟩)]] w0 w s H r fun an=>O an:=by
 unfold Jz at hm
 refine Qh Tryz.func190 Z Z (Q6 hm fun _ t ae ac aa=>Zc (Zd (g ?_)))
 refine Zc (Zc (Zd (g ?_)))
 refine Jn (fun k' s' f' w'=>(fun (_:Unit)=>∃o,Gc.le s o∧St w0 o (H) w'∧Fx f' [(8,O (k':Int)),(0,j),(1,Value.func (.func 169) #[] #[Vp (some ⟨c,i,none⟩)]),(7,O ((b.length:Int)))]) s') t ?_ ?_ ?_ ?_
 ·exact fq
 ·intro _ _ _ _ _ _ u a af
  obtain ⟨_,ah,l,_,rfl⟩:=u
  refine Qa a fun am aj a=>G ?_
  refine Jv Z Z Z aj fun _ _ q=>?_
  refine G ?_
  refine Zw (E:=Gd) l A82.h Z Z Z q ?_
  intro _ ak
  obtain rfl:=J2.1 ak
  refine G ?_
  refine Qa1 Z Z Tryz.func169 Z Qy7 (Zi Z Jh) Z ((QeG (QeF am d) l (p.mono ah)).mono ?_)
  rintro _ _ ⟨_,rfl,_,_,_,rfl⟩
  refine ⟨_,Z,G ?_⟩
  refine Qe a (fun ab a=>?_) fun ab a=>?_
  ·cases a
   have ad:=ae _ (af (by intro _ h;cases h))
   cases ad
   refine G ?_
   exact fr
  cases a
  refine G ?_
  exact ⟨_,Z,fq⟩
 ·intro _ _ _ x ag
  obtain ⟨al,ai,z,_,rfl⟩:=x
  refine G ?_
  refine ⟨b.length,_, .inl ag,?_⟩;exact ⟨al,ai,z,(Fx.mk)⟩
 rintro _ _ ⟨_,_,m,y⟩
 have hm:=m.elim (ac _) (aa _)
 clear m
 obtain ⟨_,_,_,_,rfl⟩:=y
 cases hm
 refine G ?_
 exact fr
theorem Qa9 {f:(List Gj)} {b:Gj} {g:Value} {a c:Nat} {r:Bool} (hm:QS f b=some r) (hS:St w0 s (H) w) (h:Ga Gd s g f) (i:At s a c Gd b) :
  Cv Tryz.prog 121 #[g,Value.func (.func 169) #[] #[Value.pointer (some ⟨a,c,none⟩)]] w0 w s H r fun k=>Value.bool (k):=by
 unfold QS at hm
 refine Qh Tryz.func121 Z Z (Qa hm fun _ j hm=>G ?_)
 refine Tc Z Z Z Z (Qba j hS h i).r ?_
 rintro _ _ ⟨_,_,_,rfl⟩
 cases hm
 refine G ?_
 exact fr
theorem Qy8:(Tryz.f168.name == "runtime.NumGoroutine")=false:=by kernel_rfl
theorem Qgb {a:Gj} {c:(List Gj)} {b f:Nat} {r:Bool} (hm:Qa3 a c=some r) (hS:St w0 s (H) w) (i:At s b f (Qk Gd) c) :
  Cv Tryz.prog 168 #[Value.agg #[O (a.Var),O (a.Val)],Value.pointer (some ⟨b,f,none⟩)] w0 w s H r fun n=>Value.bool (n):=by
 unfold Qa3 at hm
 refine Qh Tryz.func168 Z Z (G ?_)
 refine JV Z Z fun _ _ d=>?_
 refine G ?_
 refine Zw (E:=(Qk Gd)) d A23.h Z Z Z i ?_
 intro _ k
 have o:=Q5.1 k
 obtain ⟨_,_,j,m⟩:=St.freezeVar (E:=Gd) (y:=a) d ⟨[_],_,rfl,rfl,rfl⟩
 refine G ?_
 refine DZ Z (Zi Z Jh) (Qa hm fun _ l hm=>G ?_)
 refine Tc Z Z Z Z (Qa9 l j rq m).r ?_
 rintro _ _ ⟨_,_,_,rfl⟩
 cases hm
 refine G ?_
 exact fr
theorem Qb9 {b:(List Gj)} {j:(List Gj)} {i:Value} {c d:Nat} {r:Int} (hm:JE b j=some r) (hS:St w0 s (H) w) (ao:Ga Gd s i b) (p:At s c d (Qk Gd) j) :
  Cv Tryz.prog 190 #[i,Value.func (.func 168) #[] #[Value.pointer (some ⟨c,d,none⟩)]] w0 w s H r fun an=>O an:=by
 unfold JE at hm
 refine Qh Tryz.func190 Z Z (Q6 hm fun _ t ae ac aa=>Zc (Zd (g ?_)))
 refine Zc (Zc (Zd (g ?_)))
 refine Jn (fun k' s' f' w'=>(fun (_:Unit)=>∃o,Gc.le s o∧St w0 o (H) w'∧Fx f' [(8,O (k':Int)),(0,i),(1,Value.func (.func 168) #[] #[Vp (some ⟨c,d,none⟩)]),(7,O ((b.length:Int)))]) s') t ?_ ?_ ?_ ?_
 ·exact fq
 ·intro _ _ _ _ _ _ u a af
  obtain ⟨_,ah,l,_,rfl⟩:=u
  refine Qa a fun _ aj a=>G ?_
  refine Jv Z Z Z aj fun _ _ q=>?_
  refine G ?_
  refine Zw (E:=Gd) l A82.h Z Z Z q ?_
  intro _ ak
  obtain rfl:=J2.1 ak
  refine Qa a fun _ al a=>G ?_
  refine Qa1 Z Z Tryz.func168 Z Qy8 (Zi Z Jh) Z ((Qgb al l (p.mono ah)).mono ?_)
  rintro _ _ ⟨_,rfl,_,_,_,rfl⟩
  refine ⟨_,Z,G ?_⟩
  refine Qe a (fun ab a=>?_) fun ab a=>?_
  ·cases a
   have ad:=ae _ (af (by intro _ h;cases h))
   cases ad
   refine G ?_
   exact fr
  cases a
  refine G ?_
  exact ⟨_,Z,fq⟩
 ·intro _ _ _ x ag
  obtain ⟨am,ai,z,_,rfl⟩:=x
  refine G ?_
  refine ⟨b.length,_, .inl ag,?_⟩;exact ⟨am,ai,z,(Fx.mk)⟩
 rintro _ _ ⟨_,_,m,y⟩
 have hm:=m.elim (ac _) (aa _)
 clear m
 obtain ⟨_,_,_,_,rfl⟩:=y
 cases hm
 refine G ?_
 exact fr
theorem Qbb {f:(List Gj)} {b:(List Gj)} {g:Value} {a c:Nat} {r:Bool} (hm:Jd f b=some r) (hS:St w0 s (H) w) (h:Ga Gd s g f) (i:At s a c (Qk Gd) b) :
  Cv Tryz.prog 121 #[g,Value.func (.func 168) #[] #[Value.pointer (some ⟨a,c,none⟩)]] w0 w s H r fun k=>Value.bool (k):=by
 unfold Jd at hm
 refine Qh Tryz.func121 Z Z (Qa hm fun _ j hm=>G ?_)
 refine Tc Z Z Z Z (Qb9 j hS h i).r ?_
 rintro _ _ ⟨_,_,_,rfl⟩
 cases hm
 refine G ?_
 exact fr
theorem Qct {c:(List Gj)} {a:(List Gj)} {g b:Value} {r:Bool} (hm:Yy c a=some r) (hS:St w0 s (H) w) (m:Ga Gd s g c) (d:Ga Gd s b a) :
  Cv Tryz.prog 106 #[g,b] w0 w s H r fun l=>Value.bool (l):=by
 unfold Yy at hm
 refine Qh Tryz.func106 Z Z (G ?_)
 refine DR (cs:=[b]) hS Z Z (Qs d.one) fun _ _ h=>?_
 refine G ?_
 obtain ⟨_,_,i,k⟩:=St.freezeVar (E:=(Qk Gd)) (y:=a) h ⟨_,rfl,d⟩
 refine G ?_
 refine DZ Z (Zi Z Jh) (Qa hm fun _ j hm=>G ?_)
 refine Tc Z Z Z Z (Qbb j i rq k).r ?_
 rintro _ _ ⟨_,_,_,rfl⟩
 cases hm
 refine G ?_
 exact fr
theorem QbS {a:Ge} {b:Gh} {f g i j:Value} {r:(List Gj)} (hm:Ya a b=some r) (hS:St w0 s (H) w) (z:Ga (Qc .i64) s f a.Vars) (aa:Ga (Qc .i64) s g a.Init) (ab:Ga Gd s i a.Goal) (ac:Ga Gw s j a.Jobs) :
  Cs Tryz.prog 51 #[Value.agg #[f,g,i,j],Value.agg #[O (b.job),Value.bool (b.end_)]] w r fun v w'=>fun (y:List Gj)=>∃c k,Gc.le s c∧St w0 c (H) w'∧v=k∧Ga Gd c k y:=by
 unfold Ya at hm
 refine Qh Tryz.func51 Z Z (G ?_)
 refine JV Z Z fun _ _ _=>?_
 refine G ?_
 refine JV Z Z fun _ _ d=>?_
 refine G ?_
 refine Qe hm (fun n hm=>?_) fun n hm=>?_
 ·refine Qa hm fun u o hm=>G ?_
  refine Jv Z Z Z o fun _ _ l=>?_
  refine G ?_
  refine Zw (E:=(Qk Gd)) d A23.h Z Z Z (l.sub (Sub.iso (Sub.snd (Sub.snd (Sub.snd (Sub.snd (Sub.fst (Sub.refl _)) Z) Z) Z) Z)) Z) ?_
  intro _ p
  have ad:Ga _ _ _ (u.End):=Q5.1 p
  cases hm
  refine G ?_
  exact fr
 refine Qa hm fun x q hm=>G ?_
 refine Jv Z Z Z q fun _ _ m=>?_
 refine G ?_
 refine Zw (E:=(Qk Gd)) d A23.h Z Z Z (m.sub (Sub.iso (Sub.snd (Sub.snd (Sub.fst (Sub.refl _)) Z) Z)) Z) ?_
 intro _ t
 have ae:Ga _ _ _ (x.Start):=Q5.1 t
 cases hm
 refine G ?_
 exact fr
theorem Qcu {i:Ge} {b c:Gh} {j k l m:Value} {r:Bool} (hm:K1 i b c=some r) (hS:St w0 s (H) w) (x:Ga (Qc .i64) s j i.Vars) (y:Ga (Qc .i64) s k i.Init) (z:Ga Gd s l i.Goal) (aa:Ga Gw s m i.Jobs) :
  Cv Tryz.prog 50 #[Value.agg #[j,k,l,m],Value.agg #[O (b.job),Value.bool (b.end_)],Value.agg #[O (c.job),Value.bool (c.end_)]] w0 w s H r fun av=>Value.bool (av):=by
 unfold K1 at hm
 refine Qh Tryz.func50 Z Z (G ?_)
 refine JV Z Z fun _ _ _=>?_
 refine G ?_
 refine JV Z Z fun _ _ _=>?_
 refine G ?_
 refine JV Z Z fun _ _ d=>?_
 refine Qa hm fun n a hm=>g ?_
 refine Zc (QL (M:=fun f' w'=>(fun (n:Bool)=>∃u,Gc.le s u∧St w0 u (H) w'∧Fx f' [(6,Vb n)]) n) ?_ ?_)
 ·refine QT (n0:=25) (.q 0 (.q 1 (.q 3 (.q 4 (.e 2 [3,4] (.e 5 [] (.e 6 [] (qs 7 3 (.q 11 (.q 12 (.e 10 [11,12] (.e 13 [] (.e 14 [] (qs 15 4 (.q 20 (.q 21 (.e 19 [20,21] (.e 22 [] (.e 23 [] (.q 24 .done)))))))))))))))))))) JQ (G ?_)
  refine Q4 (ds:=[j,k,l,m]) ((d.drew).f2) A26.h Z Z Z ⟨Z,G ?_⟩
  refine Q4 (ds:=[O (b.job),Vb (b.end_)]) ((d.drew).f1) A120.h Z Z Z ⟨Z,G ?_⟩
  refine Q4 (ds:=[j,k,l,m]) ((d.drew).f2) A26.h Z Z Z ⟨Z,G ?_⟩
  refine Q4 (ds:=[O (c.job),Vb (c.end_)]) (d.drew) A120.h Z Z Z ⟨Z,Qa a fun _ o a=>G ?_⟩
  refine Tc Z Z Z Z (Y0 o d.drew x y z aa).r ?_
  rintro _ _ ⟨_,_,_,ab,rfl,_⟩
  refine ⟨Yd,Qa a fun _ p a=>G ?_⟩
  refine Tc Z Z Z Z (Y0 p ab rq rq rq rq).r ?_
  rintro _ _ ⟨_,_,_,ac,rfl,aq⟩
  refine ⟨Yd,Qa a fun _ al a=>G ?_⟩
  refine Tc Z Z Z Z (Qct al ac rq aq).r ?_
  rintro _ _ ⟨_,_,ad,rfl⟩
  refine ⟨Yd,G ?_⟩
  refine Qe a (fun aj a=>?_) fun aj a=>?_
  ·cases a
   refine G ?_
   exact fq
  refine G ?_
  refine Tc Z Z Z Z (Y0 o ad rq rq rq rq).r ?_
  rintro _ _ ⟨_,_,_,ae,rfl,_⟩
  refine ⟨Yd,Qa a fun _ am a=>G ?_⟩
  refine Tc Z Z Z Z (QbS am ae rq rq rq rq).r ?_
  rintro _ _ ⟨_,_,_,af,rfl,ar⟩
  refine ⟨Yd,Qa a fun _ an a=>G ?_⟩
  refine Tc Z Z Z Z (Qct an af rq ar).r ?_
  rintro _ _ ⟨_,_,ag,rfl⟩
  refine ⟨Yd,G ?_⟩
  refine Qe a (fun ak a=>?_) fun ak a=>?_
  ·cases a
   refine G ?_
   exact fq
  refine Qa a fun _ ao a=>G ?_
  refine Tc Z Z Z Z (QbS ao ag rq rq rq rq).r ?_
  rintro _ _ ⟨_,_,_,ah,rfl,_⟩
  refine ⟨Yd,G ?_⟩
  refine Tc Z Z Z Z (Y0 p ah rq rq rq rq).r ?_
  rintro _ _ ⟨_,_,_,ai,rfl,au⟩
  refine ⟨Yd,Qa a fun _ ap a=>G ?_⟩
  refine Tc Z Z Z Z (Qct ap ai rq au).r ?_
  rintro _ _ ⟨_,_,_,rfl⟩
  refine ⟨Yd,?_⟩
  cases a
  refine G ?_
  exact fq
 rintro _ _ ⟨_,_,_,_,rfl⟩
 cases hm
 refine G ?_
 exact fr
theorem YK {c:(List Gj)} {q:(List Int)} {d i:Value} {r:Bool} (hm:Kt c q=some r) (hS:St w0 s (H) w) (a0:Ga Gd s d c) (t:Ga (Qc .i64) s i q) :
  Cv Tryz.prog 17 #[d,i] w0 w s H r fun az=>Value.bool (az):=by
 unfold Kt at hm
 refine Qh Tryz.func17 Z Z (Q6 hm fun _ y al aj af=>Zc (Zd (g ?_)))
 refine Zc (Zc (Zd (g ?_)))
 refine Jn (fun k' s' f' w'=>(fun (_:Unit)=>∃o,Gc.le s o∧St w0 o (H) w'∧Fx f' [(9,O (k':Int)),(1,i),(7,d),(8,O ((c.length:Int)))]) s') y ?_ ?_ ?_ ?_
 ·exact fq
 ·intro ao _ _ _ _ _ z b am
  obtain ⟨ax,ap,l,_,rfl⟩:=z
  refine Qa b fun _ ar b=>G ?_
  refine Jv Z Z Z ar fun _ _ u=>?_
  refine G ?_
  refine Zw (E:=Gd) l A82.h Z Z Z u ?_
  intro _ au
  obtain rfl:=J2.1 au
  refine G ?_
  refine DT (cs:=[O 0,O 0]) l Z82 Z Z fun _ _ _=>?_
  refine G ?_
  refine Xst Z Z Z fun _ ac=>?_
  refine Qa b fun j a b=>g ?_
  refine Zc (QL (M:=fun f' w'=>(fun (j:Bool)=>∃p,Gc.le ax p∧St w0 p (H) w'∧Fx f' [(1,i),(7,d),(8,O ((c.length:Int))),(9,O ((ao:Int))),(32,Vb j)]) j) ?_ ?_)
  ·refine QT (n0:=20) (qs 0 20 .done) JQ ?_
   have ad:=ac.drew
   refine G ?_
   refine Qe a (fun ag a=>?_) fun ag a=>?_
   ·cases a
    refine G ?_
    exact fq
   refine G ?_
   refine Qe a (fun ah a=>?_) fun ah a=>?_
   ·cases a
    refine G ?_
    exact fq
   refine Qa a fun _ av a=>G ?_
   refine Qy S22.h Z Z Z (t.mono ap) av fun _ _ x _=>?_
   refine ⟨Z,G ?_⟩
   refine Zw (E:=(Qc .i64)) ad A3.h Z Z Z x ?_
   intro _ aw
   obtain rfl:=Qo.1 aw
   refine ⟨Z,?_⟩
   cases a
   refine G ?_
   exact fq
  rintro _ _ ⟨_,_,_,_,rfl⟩
  refine G ?_
  refine Qe b (fun ai b=>?_) fun ai b=>?_
  ·cases b
   have ak:=al _ (am (by intro _ h;cases h))
   cases ak
   refine G ?_
   exact fr
  cases b
  refine G ?_
  exact ⟨_,Z,fq⟩
 ·intro _ _ _ aa an
  obtain ⟨ay,aq,ae,_,rfl⟩:=aa
  refine G ?_
  refine ⟨c.length,_, .inl an,?_⟩;exact ⟨ay,aq,ae,(Fx.mk)⟩
 rintro _ _ ⟨_,_,m,ab⟩
 have hm:=m.elim (aj _) (af _)
 clear m
 obtain ⟨_,_,_,_,rfl⟩:=ab
 cases hm
 refine G ?_
 exact fr
theorem JC {b:(List Int)} {g:Value} {r:(List Int)} (hm:QW b=some r) (hS:St w0 s (H) w) (c:Ga (Qc .i64) s g b) :
  Cs Tryz.prog 24 #[g] w r fun v w'=>fun (q:List Int)=>∃f i,Gc.le s f∧St w0 f (Res.arr (Qc .i64) 3 i q::H) w'∧v=i:=by
 unfold QW at hm
 refine Qh Tryz.func24 Z Z ?_
 obtain ⟨j,_,_,k,n⟩:=c.nilShape
 refine G ?_
 refine Qa7 Tryz.underlying22 Z k Z (G ?_)
 rcases tf (j.isNone) with a |a
 ·have o:=n a
  replace hm:=(show (some [])=((app 8 [] b).bind fun d=>some d) from by simp [o,app]).trans hm
  refine QbR ((Zx a)) ?_
  cases hm
  refine G ?_
  refine ⟨_,Qd0 Z,?_⟩
  have t:=hS.nilArr (Qc .i64) 3
  exact fq
 refine QaT ((Zx a)) (G ?_)
 refine Qt (Te:=3) (cs:=[]) hS Z Qg fun _ _ l=>?_
 refine G ?_
 have m:=St.boxArr (E:=(Qc .i64)) (xs:=[]) l rfl (by simp [maxLen])
 refine Qa hm fun d p hm=>G ?_
 refine JH (E:=(Qc .i64)) (ys:=b) m S22.h Z3 Z (by decide) Z Z Z c p ?_
 intro _ _ _
 cases hm
 refine G ?_
 exact fr
instance S214:STy Tryz.prog 214 4 1 1:=⟨by kernel_rfl⟩
theorem Qhj {i:Ge} {av:(List Int)} {u:(List Gh)} {m n o p aw c:Value} {r:(List Int)} (hm:Qas i av u=some r) (hS:St w0 s (H) w) (bb:Ga (Qc .i64) s m i.Vars) (bc:Ga (Qc .i64) s n i.Init) (bd:Ga Gd s o i.Goal) (be:Ga Gw s p i.Jobs) (ay:Ga (Qc .i64) s aw av) (bf:Ga Gv s c u) :
  Cs Tryz.prog 52 #[Value.agg #[m,n,o,p],aw,c] w r fun v w'=>fun (aZ:List Int)=>∃ag ax,Gc.le s ag∧St w0 ag (H) w'∧v=ax∧Ga (Qc .i64) ag ax aZ:=by
 unfold Qas at hm
 refine Qh Tryz.func52 Z Z (G ?_)
 refine JV Z Z fun b _ aA=>?_
 refine Qa hm fun _ aK hm=>G ?_
 refine Tc Z Z Z Z (JC aK aA ay).r ?_
 rintro d _ ⟨_,_,_,aB,rfl⟩
 refine G ?_
 refine Qt (Te:=4) (cs:=[Vb true,Vb false]) aB Z (Qb (Qd Z Z) (Qb (Qd Z Z) Qg)) ?_
 intro q _ aC
 obtain ⟨aT,_,aD,_⟩:=(St.boxArr (E:=GL) (xs:=[true,false]) aC ⟨[_],_,rfl,rfl,[_],_,rfl,rfl,rfl⟩ (by simp [maxLen])).freezeArr
 refine Qa hm fun ac a2 hm=>G ?_
 refine QO (fun k' s' f' w'=>(fun (ac:List Int)=>∃ao,Gc.le aT ao∧St w0 ao (Res.box b 26 [m,n,o,p]::Res.arr (Qc .i64) 3 d ac::H) w'∧Fx f' [(19,O (k':Int)),(2,c),(3,Vq b),(7,d),(17,Vs (some ⟨q,0,none⟩) 2 2),(18,O (([true,false].length:Int)))]) s') a2 ?_ ?_ ?_
 ·have bg:=aD.f1
  exact fq
 ·intro z ac _ _ _ _ a6 t
  obtain ⟨aU,_,aj,_,rfl⟩:=a6
  refine Qa t fun x aL t=>G ?_
  refine Jv Z Z Z aL fun _ _ az=>?_
  refine G ?_
  refine Zw (E:=GL) aj A4.h Z Z Z az ?_
  intro _ aM
  obtain rfl:=Qov.1 aM
  refine Qa t fun ad a3 t=>G ?_
  refine QO (fun k' s' f' w'=>(fun (ad:List Int)=>∃ap,Gc.le aU ap∧St w0 ap (Res.box b 26 [m,n,o,p]::Res.arr (Qc .i64) 3 d ad::H) w'∧Fx f' [(26,O (k':Int)),(2,c),(3,Vq b),(7,d),(9,Vb x),(17,Vs (some ⟨q,0,none⟩) 2 2),(18,O (([true,false].length:Int))),(19,O ((z:Int))),(25,O ((i.Jobs.length:Int)))]) s') a3 ?_ ?_ ?_
  ·have bh:=aj.f1
   exact fq
  ·intro j ad _ _ _ _ a7 ab
   obtain ⟨aV,_,aE,_,rfl⟩:=a7
   refine Qa ab fun aa a4 ab=>G ?_
   refine QO (fun k' s' f' w'=>(fun (aa:List Int)=>∃aq,Gc.le aV aq∧St w0 aq (Res.box b 26 [m,n,o,p]::Res.arr (Qc .i64) 3 d aa::H) w'∧Fx f' [(31,O (k':Int)),(2,c),(3,Vq b),(7,d),(9,Vb x),(10,O ((j:Int))),(17,Vs (some ⟨q,0,none⟩) 2 2),(18,O (([true,false].length:Int))),(19,O ((z:Int))),(25,O ((i.Jobs.length:Int))),(26,O ((j:Int))),(29,c),(30,O ((u.length:Int)))]) s') a4 ?_ ?_ ?_
   ·have bi:=aE.f1
    exact fq
   ·intro an aa _ _ _ _ a8 a
    obtain ⟨aW,_,ak,_,rfl⟩:=a8
    refine Qa a fun y aN a=>G ?_
    refine Jv Z Z Z aN fun _ _ a0=>?_
    refine G ?_
    refine Zw (E:=Gv) ak A120.h Z Z Z a0 ?_
    intro _ aO
    obtain rfl:=KP.1 aO
    refine G ?_
    refine DT (cs:=[O 0,Vb false]) ak Qqq Z Z fun ah _ _=>?_
    refine G ?_
    refine Xst Z Z Z fun _ _=>?_
    refine g ?_
    refine Zc (Zc (QL (M:=fun f' w'=>∃ar,Gc.le aW ar∧St w0 ar (Res.box b 26 [m,n,o,p]::Res.arr (Qc .i64) 3 d aa::Res.box ah 120 [O (y.job),Vb (y.end_)]::H) w'∧Fx f' [(2,c),(3,Vq b),(7,d),(9,Vb x),(10,O ((j:Int))),(12,Vq ah),(17,Vs (some ⟨q,0,none⟩) 2 2),(18,O (([true,false].length:Int))),(19,O ((z:Int))),(25,O ((i.Jobs.length:Int))),(26,O ((j:Int))),(29,c),(30,O ((u.length:Int))),(31,O ((an:Int))),(44,Vb (((!decide (y.job=(j:Int))) ||!(y.end_ == x))))]) ?_ ?_))
    ·refine G ?_
     rcases tf (!decide (y.job=(j:Int))) with aI |aI
     ·refine G ?_
      exact fq
     refine G ?_
     refine Qlp Tryz.underlying4 Z Z Z (G ?_)
     exact fq
    rintro _ _ ⟨_,_,aF,_,rfl⟩
    refine G ?_
    refine Qe a (fun aJ a=>?_) fun aJ a=>?_
    ·cases a
     refine G ?_
     exact fq
    refine Qa a fun ba aP a=>G ?_
    refine Tc Z Z Z Z (Y0 aP aF rq rq rq rq).r ?_
    rintro aY _ ⟨aX,_,_,aG,rfl,_⟩
    refine Qa a fun ae a5 a=>G ?_
    refine QO (fun k' s' f' w'=>(fun (ae:List Int)=>∃au,Gc.le aX au∧St w0 au (Res.box b 26 [m,n,o,p]::Res.arr (Qc .i64) 3 d ae::H) w'∧Fx f' [(49,O (k':Int)),(2,c),(3,Vq b),(7,d),(9,Vb x),(10,O ((j:Int))),(17,Vs (some ⟨q,0,none⟩) 2 2),(18,O (([true,false].length:Int))),(19,O ((z:Int))),(25,O ((i.Jobs.length:Int))),(26,O ((j:Int))),(29,c),(30,O ((u.length:Int))),(31,O ((an:Int))),(47,aY),(48,O ((ba.length:Int)))]) s') a5 ?_ ?_ ?_
    ·have bj:=(aG.f2).drop
     exact fq
    ·intro _ ae _ _ _ _ a9 l
     obtain ⟨_,_,al,_,rfl⟩:=a9
     refine Qa l fun _ aQ l=>G ?_
     refine Jv Z Z Z aQ fun _ _ a1=>?_
     refine G ?_
     refine Zw (E:=Gd) al A82.h Z Z Z a1 ?_
     intro _ aR
     obtain rfl:=J2.1 aR
     refine G ?_
     refine DT (cs:=[O 0,O 0]) al Z82 Z Z fun _ _ _=>?_
     refine G ?_
     refine Xst Z Z Z fun _ am=>?_
     refine Qa l fun _ af l=>?_
     obtain ⟨_,_,ai⟩:=(am.f2).arr_at af
     refine G ?_
     refine Qi S22.h Z ai Z (Qj af).1 (Qj af).2.1 (Qa l fun _ aS l=>G ?_)
     refine JG am.f2 ai A3.h Z Z Z Z (Qo.2 Z) aS ?_
     intro _ _
     cases l
     refine G ?_
     exact fq
    rintro _ _ ⟨_,_,_,_,rfl⟩
    cases a
    refine G ?_
    exact fq
   rintro _ _ ⟨_,_,_,_,rfl⟩
   cases ab
   refine G ?_
   exact fq
  rintro _ _ ⟨_,_,_,_,rfl⟩
  cases t
  refine G ?_
  exact fq
 rintro _ _ ⟨_,_,aH,_,rfl⟩
 cases hm
 refine G ?_
 refine ⟨_,Qd0 Z,?_⟩
 obtain ⟨_,_,_,_⟩:=aH.f1.freezeArr
 exact fq
theorem QhX {y:Ge} {x:(List Launch)} {o:Int} {ax:(List Int)} {p:(List Gh)} {j l m n q z t:Value} {r:(List Int)×(Option Int)} (hm:QaG y x o ax p=some r) (hS:St w0 s (H) w) (a0:Ga (Qc .i64) s j y.Vars) (a1:Ga (Qc .i64) s l y.Init) (a2:Ga Gd s m y.Goal) (a3:Ga Gw s n y.Jobs) (a4:Ga Gg s q x) (ch:Ga (Qc .i64) s z ax) (ae:Ga Gv s t p) :
  Cs Tryz.prog 16 #[Value.agg #[j,l,m,n],q,O o,z,t] w r fun v w'=>J5 fun (cf:List Int) (cg:Option Int)=>∃ac ay,Gc.le s ac∧St w0 ac (H) w'∧v=Value.tuple #[ay,K8 63 (cg)]∧Ga (Qc .i64) ac ay cf:=by
 unfold QaG at hm
 refine Qh Tryz.func16 Z Z (G ?_)
 refine JV Z Z fun d _ aQ=>?_
 refine Qa hm fun _ bA hm=>G ?_
 refine Tc Z Z Z Z (Qfv bA aQ a0 a1 a2 a3 a4).r ?_
 rintro _ _ ⟨bU,an,_,rfl⟩
 refine G ?_
 refine Qe hm (fun ai hm=>?_) fun ai hm=>?_
 ·refine G ?_
  refine DO C63 Z Z ?_
  cases hm
  refine G ?_
  exact ⟨_,Qcw Z,fq⟩
 refine Q6 hm fun _ aA bs bk ba=>W_c Z ai (QiV (Yx (Ze (Zc (Zc (Zd (g ?_)))))))
 refine Jn (fun k' s' f' w'=>(fun (_:Unit)=>∃aq,Gc.le bU aq∧St w0 aq (Res.box d 26 [j,l,m,n]::H) w'∧Fx f' [(26,O (k':Int)),(1,q),(2,O o),(3,z),(4,t),(5,Vq d),(25,O ((p.length:Int)))]) s') aA ?_ ?_ ?_ ?_
 ·exact fq
 ·intro ab _ _ _ _ _ aE u bw
  obtain ⟨bV,ao,_,_,rfl⟩:=aE
  refine Qa u fun _ bB u=>Q6 u fun _ aB bt bl bb=>Zc (Zd (g ?_))
  refine Zc (QbR (Zx (decide_eq_true (by omega))) (Yx (Ze (Zc (QaU (Zc (Zd (g ?_))))))))
  refine Zc (Zd (g ?_))
  refine Jn (fun k' s' f' w'=>(fun (_:Unit)=>∃ar,Gc.le bV ar∧St w0 ar (Res.box d 26 [j,l,m,n]::H) w'∧Fx f' [(30,O (k':Int)),(1,q),(2,O o),(3,z),(4,t),(5,Vq d),(12,O ((ab:Int))),(25,O ((p.length:Int))),(26,O ((ab:Int))),(29,O ((ab:Int)))]) s') aB ?_ ?_ ?_ ?_
  ·exact fq
  ·intro _ _ _ _ _ bj aF b bx
   obtain ⟨_,ap,aa,_,rfl⟩:=aF
   refine G ?_
   refine QT (n0:=10) (qs 0 9 (.e 9 [] .done)) JQ (G ?_)
   refine Q4 (ds:=[j,l,m,n]) (aa.drew) A26.h Z Z Z ⟨Z,Qa b fun _ bC b=>G ?_⟩
   refine Qy S61.h Z Z Z (ae.mono (Zt (Zt an ao) ap)) bC fun _ _ a5 _=>?_
   refine ⟨Z,G ?_⟩
   refine Zw (E:=Gv) aa.drew A120.h Z Z Z a5 ?_
   intro _ bD
   obtain rfl:=KP.1 bD
   refine ⟨Z,Qa b fun _ bE b=>G ?_⟩
   refine Qy S61.h Z Z Z (ae.mono (Zt (Zt an ao) ap)) bE fun _ _ a6 _=>?_
   refine ⟨Z,G ?_⟩
   refine Zw (E:=Gv) aa.drew A120.h Z Z Z a6 ?_
   intro _ bF
   obtain rfl:=KP.1 bF
   refine ⟨Z,Qa b fun _ bG b=>G ?_⟩
   refine Tc Z Z Z Z (Qcu bG aa.drew rq rq rq rq).r ?_
   rintro _ _ ⟨bW,_,aR,rfl⟩
   refine ⟨Yd,G ?_⟩
   refine Qe b (fun be b=>?_) fun be b=>?_
   ·refine G ?_
    refine DO C63 Z Z ?_
    cases b
    have bo:=bt _ (bx (by intro _ h;cases h))
    cases bo
    have bp:=bs _ (bw (by intro _ h;cases h))
    cases bp
    refine G ?_
    exact ⟨_,Qcw Z,fq⟩
   cases b
   refine G ?_
   refine ⟨_,Z,?_⟩;exact ⟨bW,lq,aR,(Fx.mk (FxL.cons (Jo bj (by have h:=Qbn bB;simp at h;simp only [maxLen];omega)) fxl))⟩
  ·intro _ _ _ aG bz
   obtain ⟨bX,b6,aS,_,rfl⟩:=aG
   refine G ?_
   refine ⟨(ab:Int).toNat,_, .inl bz,?_⟩;exact ⟨bX,b6,aS,(Fx.mk)⟩
  rintro _ _ ⟨_,_,aj,aM⟩
  have u:=aj.elim (bl _) (bb _)
  clear aj
  obtain ⟨_,_,_,_,rfl⟩:=aM
  cases u
  refine G ?_
  exact ⟨_,Z,fq⟩
 ·intro _ _ _ aH b0
  obtain ⟨bY,b7,aT,_,rfl⟩:=aH
  refine G ?_
  refine ⟨p.length,_, .inl b0,?_⟩;exact ⟨bY,b7,aT,(Fx.mk)⟩
 rintro _ _ ⟨_,_,ak,aN⟩
 have hm:=ak.elim (bk _) (ba _)
 clear ak
 obtain ⟨bZ,_,_,_,rfl⟩:=aN
 refine Q6 hm fun _ aC bu bm bc=>g ?_
 refine Zc (Zc (Zd (g ?_)))
 refine Jn (fun k' s' f' w'=>(fun (_:Unit)=>∃au,Gc.le bZ au∧St w0 au (Res.box d 26 [j,l,m,n]::H) w'∧Fx f' [(48,O (k':Int)),(1,q),(2,O o),(3,z),(4,t),(5,Vq d),(46,t),(47,O ((p.length:Int)))]) s') aC ?_ ?_ ?_ ?_
 ·exact fq
 ·intro _ _ _ _ _ _ aI c b1
  obtain ⟨_,_,af,_,rfl⟩:=aI
  refine Qa c fun _ bH c=>G ?_
  refine Jv Z Z Z bH fun _ _ a7=>?_
  refine G ?_
  refine Zw (E:=Gv) af A120.h Z Z Z a7 ?_
  intro _ bI
  obtain rfl:=KP.1 bI
  refine G ?_
  refine DT (cs:=[O 0,Vb false]) af Qqq Z Z fun _ _ _=>?_
  refine G ?_
  refine Xst Z Z Z fun _ aU=>?_
  refine Qa c fun _ bJ c=>G ?_
  refine Tc Z Z Z Z (QbS bJ aU rq rq rq rq).r ?_
  rintro _ _ ⟨_,_,_,aV,rfl,bS⟩
  refine Qa c fun _ bK c=>G ?_
  refine Tc Z Z Z Z (YK bK aV bS rq).r ?_
  rintro _ _ ⟨_,_,_,rfl⟩
  refine G ?_
  refine Qe c (fun bf c=>?_) fun bf c=>?_
  ·refine G ?_
   refine DO C63 Z Z ?_
   cases c
   have bq:=bu _ (b1 (by intro _ h;cases h))
   cases bq
   refine G ?_
   exact ⟨_,Qcw Z,fq⟩
  cases c
  refine G ?_
  exact ⟨_,Z,fq⟩
 ·intro _ _ _ aJ b2
  obtain ⟨ca,b8,aW,_,rfl⟩:=aJ
  refine G ?_
  refine ⟨p.length,_, .inl b2,?_⟩;exact ⟨ca,b8,aW,(Fx.mk)⟩
 rintro _ _ ⟨_,_,al,aO⟩
 have hm:=al.elim (bm _) (bc _)
 clear al
 obtain ⟨_,_,aX,_,rfl⟩:=aO
 refine Qa hm fun _ bL hm=>G ?_
 refine Tc Z Z Z Z (Qhj bL aX rq rq rq rq rq rq).r ?_
 rintro az _ ⟨cb,_,_,_,rfl,_⟩
 refine Q6 hm fun _ aD bv bn bd=>g ?_
 refine Zc (Zc (Zd (g ?_)))
 refine Jn (fun k' s' f' w'=>(fun (_:Unit)=>∃av,Gc.le cb av∧St w0 av (Res.box d 26 [j,l,m,n]::H) w'∧Fx f' [(66,O (k':Int)),(2,O o),(5,Vq d),(16,az),(64,q),(65,O ((x.length:Int)))]) s') aD ?_ ?_ ?_ ?_
 ·exact fq
 ·intro b5 _ _ _ _ _ aK i b3
  obtain ⟨cc,_,ag,_,rfl⟩:=aK
  refine Qa i fun _ bM i=>G ?_
  refine Jv Z Z Z bM fun _ _ a8=>?_
  refine G ?_
  refine Zw (E:=Gg) ag A43.h Z Z Z a8 ?_
  intro _ bN
  obtain rfl:=QH.1 bN
  refine G ?_
  refine DT (cs:=[O 0,O 0]) ag Z43 Z Z fun _ _ _=>?_
  refine G ?_
  refine Xst Z Z Z fun _ aY=>?_
  refine Qa i fun ad a i=>g ?_
  refine Zc (QL (M:=fun f' w'=>(fun (ad:Bool)=>∃aw,Gc.le cc aw∧St w0 aw (Res.box d 26 [j,l,m,n]::H) w'∧Fx f' [(2,O o),(5,Vq d),(16,az),(64,q),(65,O ((x.length:Int))),(66,O ((b5:Int))),(92,Vb ad)]) ad) ?_ ?_)
  ·refine G ?_
   refine Qe a (fun bg a=>?_) fun bg a=>?_
   ·refine Qa a fun _ bO a=>G ?_
    refine Tc Z Z Z Z (K0 bO aY rq rq rq rq).r ?_
    rintro _ _ ⟨_,_,ah,rfl⟩
    refine G ?_
    refine Qe a (fun bh a=>?_) fun bh a=>?_
    ·refine Qa a fun ce bP a=>G ?_
     refine Jv Z Z Z bP fun _ _ a9=>?_
     refine G ?_
     refine Zw (E:=(Qk Gd)) ah A23.h Z Z Z (a9.sub (Sub.iso (Sub.snd (Sub.snd (Sub.snd (Sub.fst (Sub.refl _)) Z) Z) Z)) Z) ?_
     intro _ bQ
     have bT:Ga _ _ _ (ce.Over):=Q5.1 bQ
     refine Qa a fun _ bR a=>G ?_
     refine Tc Z Z Z Z (YK bR ah bT rq).r ?_
     rintro _ _ ⟨_,_,_,rfl⟩
     cases a
     refine G ?_
     exact fq
    cases a
    refine G ?_
    exact fq
   cases a
   refine G ?_
   exact fq
  rintro _ _ ⟨_,_,_,_,rfl⟩
  refine G ?_
  refine Qe i (fun bi i=>?_) fun bi i=>?_
  ·refine G ?_
   refine DO C63 Z Z ?_
   cases i
   have br:=bv _ (b3 (by intro _ h;cases h))
   cases br
   refine G ?_
   exact ⟨_,Qcw Z,fq⟩
  cases i
  refine G ?_
  exact ⟨_,Z,fq⟩
 ·intro _ _ _ aL b4
  obtain ⟨cd,b9,aZ,_,rfl⟩:=aL
  refine G ?_
  refine ⟨x.length,_, .inl b4,?_⟩;exact ⟨cd,b9,aZ,(Fx.mk)⟩
 rintro _ _ ⟨_,_,am,aP⟩
 have hm:=am.elim (bn _) (bd _)
 clear am
 obtain ⟨_,_,_,_,rfl⟩:=aP
 cases hm
 refine G ?_
 exact ⟨_,Qcw Z,fq⟩
theorem Qfw {b:Ge} {c:(List Launch)} {g i j l m:Value} {r:Int} (hm:Y2 b c=some r) (hS:St w0 s (H) w) (ad:Ga (Qc .i64) s g b.Vars) (ae:Ga (Qc .i64) s i b.Init) (af:Ga Gd s j b.Goal) (ag:Ga Gw s l b.Jobs) (ah:Ga Gg s m c) :
  Cv Tryz.prog 18 #[Value.agg #[g,i,j,l],m] w0 w s H r fun ac=>O ac:=by
 unfold Y2 at hm
 refine Qh Tryz.func18 Z Z (G ?_)
 refine JV Z Z fun n _ _=>?_
 refine Qa hm fun d u hm=>G ?_
 refine QO (fun k' s' f' w'=>(fun (d:Int)=>∃q,Gc.le s q∧St w0 q (Res.box n 26 [g,i,j,l]::H) w'∧Fx f' [(10,O (k':Int)),(2,Vq n),(5,O d),(8,m),(9,O ((c.length:Int)))]) s') u ?_ ?_ ?_
 ·exact fq
 ·intro _ d _ _ _ _ x a
  obtain ⟨_,_,o,_,rfl⟩:=x
  refine Qa a fun _ z a=>G ?_
  refine Jv Z Z Z z fun _ _ t=>?_
  refine G ?_
  refine Zw (E:=Gg) o A43.h Z Z Z t ?_
  intro _ aa
  obtain rfl:=QH.1 aa
  refine G ?_
  refine DT (cs:=[O 0,O 0]) o Z43 Z Z fun _ _ _=>?_
  refine G ?_
  refine Xst Z Z Z fun _ y=>?_
  refine Qa a fun _ ab a=>G ?_
  refine Tc Z Z Z Z (K0 ab y rq rq rq rq).r ?_
  rintro _ _ ⟨_,_,_,rfl⟩
  refine G ?_
  refine Qg1 Z Z Z ?_
  cases a
  refine G ?_
  exact fq
 rintro _ _ ⟨_,_,_,_,rfl⟩
 cases hm
 refine G ?_
 exact fr
theorem Km {t76:Ge} {launches85:(List Launch)} {v77 v79 v81 v83 v86:Value} {r:Int×(Option Int)} (hm:Ji t76 launches85=some r) (hS:St w0 s (H) w) (a78:Ga (Qc .i64) s v77 t76.Vars) (a80:Ga (Qc .i64) s v79 t76.Init) (a82:Ga Gd s v81 t76.Goal) (a84:Ga Gw s v83 t76.Jobs) (a87:Ga Gg s v86 launches85) :
  Cs Tryz.prog 5 #[Value.agg #[v77,v79,v81,v83],v86] w r fun v w'=>J5 fun (y89:Int) (y90:Option Int)=>∃n,Gc.le s n∧St w0 n (H) w'∧v=Value.tuple #[O y89,K8 63 (y90)]:=by
 unfold Ji at hm
 refine Qh Tryz.func5 Z Z (G ?_)
 refine JV Z Z fun l _ z=>?_
 refine Qa hm fun _ aq hm=>G ?_
 refine Tc Z Z Z Z (Qg8 aq z a78 a80 a82 a84 a87).r ?_
 rintro _ _ ⟨_,_,aa,rfl⟩
 refine G ?_
 refine Qv (T:=63) Tryz.underlying30 Z Z Z (G ?_)
 refine Qe hm (fun ag hm=>?_) fun ag hm=>?_
 ·cases hm
  refine G ?_
  exact ⟨_,Qcw Z,fq⟩
 refine Qa hm fun a4 ar hm=>?_
 obtain ⟨a7,p⟩:=a4
 replace hm:=QC hm
 refine G ?_
 refine Tc Z Z Z Z (QeH ar aa rq rq rq rq rq).r ?_
 rintro _ _ ⟨a2,a6,o,_,ab,rfl,_⟩
 refine Q6 hm fun _ t al aj af=>g ?_
 refine Zc (Zc (Zd (g ?_)))
 refine Jn (fun k' s' f' w'=>(fun (j:List Int)=>∃i b,Gc.le a2 i∧St w0 i (Res.box l 26 [v77,v79,v81,v83]::Res.fmap Tryz.prog 3 Gv o a7::H) w'∧Fx f' [(30,O (k':Int)),(1,v86),(2,Vq l),(7,b),(8,Value.map (some o)),(28,a6),(29,O ((p.length:Int)))]∧Ga (Qc .i64) i b j) s') t ?_ ?_ ?_ ?_
 ·have a8:=ab.f1
  exact fq
 ·intro _ j _ _ _ _ u a an
  obtain ⟨_,b,_,c,⟨_,rfl⟩,d⟩:=u
  refine Qa a fun _ au a=>G ?_
  refine Jv Z Z Z au fun _ _ q=>?_
  refine G ?_
  refine Zw (E:=(Qc .i64)) c A3.h Z Z Z q ?_
  intro _ av
  obtain rfl:=Qo.1 av
  refine Qa a fun _ aw a=>G ?_
  refine QkS (c.f1) ⟨Tryz.underlying57,Tryz.underlying3⟩ Z61 Z Z Z aw ?_
  intro _ ax
  have a1:=Q5.1 ax
  refine Qa a fun a5 ay a=>?_
  obtain ⟨_,_⟩:=a5
  replace a:=QC a
  refine G ?_
  refine Tc Z Z Z Z (QhX ay c rq rq rq rq rq d a1).r ?_
  rintro _ _ ⟨_,_,_,_,rfl,_⟩
  refine G ?_
  refine Qv (T:=63) Tryz.underlying30 Z Z Z (G ?_)
  refine Qe a (fun ah a=>?_) fun ah a=>?_
  ·cases a
   have ak:=al _ (an (by intro _ h;cases h))
   cases ak
   refine G ?_
   exact ⟨_,Qcw Z,fq⟩
  cases a
  refine G ?_
  exact ⟨_,Z,fq⟩
 ·intro j _ _ x ao
  obtain ⟨a3,b,ap,ac,⟨_,rfl⟩,d⟩:=x
  refine G ?_
  refine ⟨p.length,_, .inl ao,?_⟩;exact ⟨a3,b,ap,(ac.f1).f1,(Fx.mk),d⟩
 rintro _ _ ⟨_,_,m,y⟩
 have hm:=m.elim (aj _) (af _)
 clear m
 obtain ⟨_,_,_,ad,⟨_,rfl⟩,am⟩:=y
 refine Qa hm fun _ az hm=>G ?_
 refine Tc Z Z Z Z (YK az ad rq am).r ?_
 rintro _ _ ⟨_,_,ae,rfl⟩
 refine G ?_
 refine Qe hm (fun ai hm=>?_) fun ai hm=>?_
 ·refine G ?_
  refine DO C63 Z Z ?_
  cases hm
  refine G ?_
  exact ⟨_,Qcw Z,fq⟩
 refine Qa hm fun _ a0 hm=>G ?_
 refine Tc Z Z Z Z (Qfw a0 ae rq rq rq rq rq).r ?_
 rintro _ _ ⟨_,_,_,rfl⟩
 cases hm
 refine G ?_
 exact ⟨_,Qcw Z,fq⟩
theorem QdG {b:(List Launch)} {g:Value} {r:(List Launch)} (hm:Yg b=some r) (hS:St w0 s (H) w) (c:Ga Gg s g b) :
  Cs Tryz.prog 53 #[g] w r fun v w'=>fun (q:List Launch)=>∃f i,Gc.le s f∧St w0 f (Res.arr Gg 43 i q::H) w'∧v=i:=by
 unfold Yg at hm
 refine Qh Tryz.func53 Z Z ?_
 obtain ⟨j,_,_,k,n⟩:=c.nilShape
 refine G ?_
 refine Qa7 Tryz.underlying27 Z k Z (G ?_)
 rcases tf (j.isNone) with a |a
 ·have o:=n a
  replace hm:=(show (some [])=((app 16 [] b).bind fun d=>some d) from by simp [o,app]).trans hm
  refine QbR ((Zx a)) ?_
  cases hm
  refine G ?_
  refine ⟨_,Qd0 Z,?_⟩
  have t:=hS.nilArr Gg 43
  exact fq
 refine QaT ((Zx a)) (G ?_)
 refine Qt (Te:=43) (cs:=[]) hS Z Qg fun _ _ l=>?_
 refine G ?_
 have m:=St.boxArr (E:=Gg) (xs:=[]) l rfl (by simp [maxLen])
 refine Qa hm fun d p hm=>G ?_
 refine JH (E:=Gg) (ys:=b) m S27.h Z43 Z (by decide) Z Z Z c p ?_
 intro _ _ _
 cases hm
 refine G ?_
 exact fr
instance F128_1:FTy Tryz.prog 128 1 4:=⟨by kernel_rfl⟩
instance A27:ATy Tryz.prog 27 false 1:=⟨by kernel_rfl⟩
theorem Qef {b:Int} {r:Bool} (hm:QaI b=some r) (hS:St w0 s (H) w) :
  Cv Tryz.prog 109 #[O b] w0 w s H r fun c=>Value.bool (c):=by
 unfold QaI at hm
 refine Qh Tryz.func109 Z Z ?_
 cases hm
 refine G ?_
 exact fr
theorem Jq {a b r:Int} (hm:Yt a b=some r) (hS:St w0 s (H) w) :
  Cv Tryz.prog 57 #[O a,O b] w0 w s H r fun k=>O k:=by
 unfold Yt at hm
 refine Qh Tryz.func57 Z Z (G ?_)
 refine Tc Z Z Z Z (Qef (QaY a) hS).r ?_
 rintro _ _ ⟨_,_,d,rfl⟩
 refine G ?_
 refine Tc Z Z Z Z (Qef (QaY b) d).r ?_
 rintro _ _ ⟨_,_,_,rfl⟩
 refine G ?_
 refine Qe hm (fun f hm=>?_) fun f hm=>?_
 ·refine G ?_
  refine Qe hm (fun g hm=>?_) fun g hm=>?_
  ·cases hm
   refine G ?_
   exact fr
  cases hm
  refine G ?_
  exact fr
 refine G ?_
 refine Qe hm (fun h hm=>?_) fun h hm=>?_
 ·cases hm
  refine G ?_
  exact fr
 refine G ?_
 refine Qe hm (fun i hm=>?_) fun i hm=>?_
 ·cases hm
  refine G ?_
  exact fr
 refine G ?_
 refine Qe hm (fun j hm=>?_) fun j hm=>?_
 ·cases hm
  refine G ?_
  exact fr
 cases hm
 refine G ?_
 exact fr
theorem Qcr {b:(List Int)} {c:Value} {r:Int} (hm:Y9 b=some r) (hS:St w0 s (H) w) (ai:Ga (Qc .i64) s c b) :
  Cv Tryz.prog 56 #[c] w0 w s H r fun ah=>O ah:=by
 unfold Y9 at hm
 refine Qh Tryz.func56 Z Z (Q6 hm fun _ m aa y u=>Zc (Zd (g ?_)))
 refine Zc (Zd (g ?_))
 refine Zc (Zc (Zd (g ?_)))
 refine Jn (fun k' s' f' w'=>(fun (_:Unit)=>∃j,Gc.le s j∧St w0 j (H) w'∧Fx f' [(8,O (k':Int)),(3,O 0),(6,c),(7,O ((b.length:Int)))]) s') m ?_ ?_ ?_ ?_
 ·exact fq
 ·intro _ _ _ _ _ _ n a ab
  obtain ⟨_,_,q,_,rfl⟩:=n
  refine Qa a fun _ ae a=>G ?_
  refine Jv Z Z Z ae fun _ _ l=>?_
  refine G ?_
  refine Zw (E:=(Qc .i64)) q A3.h Z Z Z l ?_
  intro _ af
  obtain rfl:=Qo.1 af
  refine G ?_
  refine Qe a (fun x a=>?_) fun x a=>?_
  ·cases a
   have z:=aa _ (ab (by intro _ h;cases h))
   cases z
   refine G ?_
   exact fr
  cases a
  refine G ?_
  exact ⟨_,Z,fq⟩
 ·intro _ _ _ o ac
  obtain ⟨ag,ad,t,_,rfl⟩:=o
  refine G ?_
  refine ⟨b.length,_, .inl ac,?_⟩;exact ⟨ag,ad,t,(Fx.mk)⟩
 rintro _ _ ⟨_,_,d,p⟩
 have hm:=d.elim (y _) (u _)
 clear d
 obtain ⟨_,_,_,_,rfl⟩:=p
 cases hm
 refine G ?_
 exact fr
theorem Qgg {a b:Launch} {r:Int} (hm:Qa6 a b=some r) (hS:St w0 s (H) w) :
  Cv Tryz.prog 55 #[Value.agg #[O (a.At),O (a.Job)],Value.agg #[O (b.At),O (b.Job)]] w0 w s H r fun m=>O m:=by
 unfold Qa6 at hm
 refine Qh Tryz.func55 Z Z (G ?_)
 refine JV Z Z fun _ _ _=>?_
 refine G ?_
 refine JV Z Z fun _ _ c=>?_
 refine G ?_
 refine QT (n0:=12) (qs 0 4 (qs 5 4 (.e 4 [5,6,7,8] (.e 9 [] (.e 10 [] (.e 11 [] .done)))))) JQ (G ?_)
 refine Zn ((c.drew).f1) A3.h Z Z Z ⟨Z,G ?_⟩
 refine Zn (c.drew) A3.h Z Z Z ⟨Z,G ?_⟩
 refine Zn ((c.drew).f1) A3.h Z Z Z ⟨Z,G ?_⟩
 refine Zn (c.drew) A3.h Z Z Z ⟨Z,G ?_⟩
 refine Tc Z Z Z Z (Jq (Jj a.At b.At) c.drew).r ?_
 rintro _ _ ⟨_,_,f,rfl⟩
 refine ⟨Yd,G ?_⟩
 refine Tc Z Z Z Z (Jq (Jj a.Job b.Job) f).r ?_
 rintro _ _ ⟨_,_,g,rfl⟩
 refine ⟨Yd,G ?_⟩
 refine Qt (Te:=3) (cs:=[O ((Qx a.At b.At)),O ((Qx a.Job b.Job))]) g Z (Qb (Qd Z Z) (Qb (Qd Z Z) Qg)) fun _ _ i=>?_
 refine ⟨Yd,?_⟩
 obtain ⟨_,_,j,l⟩:=(St.boxArr (E:=(Qc .i64)) (xs:=[(Qx a.At b.At),(Qx a.Job b.Job)]) i ⟨[_],_,rfl,rfl,[_],_,rfl,rfl,rfl⟩ (by simp [maxLen])).freezeArr
 refine Qa hm fun _ k hm=>G ?_
 refine Tc Z Z Z Z (Qcr k j l).r ?_
 rintro _ _ ⟨_,_,_,rfl⟩
 refine ⟨Yd,?_⟩
 cases hm
 refine G ?_
 exact fr
end Go.Pw
