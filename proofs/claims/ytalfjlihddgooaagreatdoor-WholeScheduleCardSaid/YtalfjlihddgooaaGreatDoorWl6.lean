/- -/
import Derived.Test.YtalfjlihddgooaaGreatDoorBa
import Derived.Test.YtalfjlihddgooaaGreatDoorLC
import Derived.Test.YtalfjlihddgooaaGreatDoorLD
import Derived.Test.YtalfjlihddgooaaGreatDoorW5
set_option maxRecDepth 100000
set_option maxHeartbeats 4000000
set_option linter.unusedVariables false
namespace Go.Pw
open Go.Proofs
variable {w0 w:World} {s:Gc} {H:List Res}
attribute [local irreducible] Exec WL W andThen QaB DL Jm
theorem Qhk {q:Ge} {av:(List Launch)} {ah ai aj ak az:Value} {r:(List Int)×(Option Int)} (hm:Qat q av=some r) (hS:St w0 s (H) w) (a3:Ga (Qc .i64) s ah q.Vars) (a4:Ga (Qc .i64) s ai q.Init) (a5:Ga Gd s aj q.Goal) (al:Ga Gw s ak q.Jobs) (a6:Ga Gg s az av) :
  Cs Tryz.prog 8 #[Value.agg #[ah,ai,aj,ak],az] w r fun v w'=>J5 fun (bK:List Int) (bL:Option Int)=>∃ag a0,Gc.le s ag∧St w0 ag (H) w'∧v=Value.tuple #[a0,K8 63 (bL)]∧Ga (Qc .i64) ag a0 bK:=by
 unfold Qat at hm
 refine Qh Tryz.func8 Z Z (G ?_)
 refine JV Z Z fun am _ aL=>?_
 refine Qa hm fun bC bp hm=>?_
 obtain ⟨_,_⟩:=bC
 replace hm:=QC hm
 refine G ?_
 refine Tc Z Z Z Z (Qed bp aL a3 a4 a5 al a6).r ?_
 rintro _ _ ⟨_,_,_,_,_,_,_,_,_,bj,_,rfl,b0,b1,b2,b3⟩
 refine G ?_
 refine Qv (T:=63) Tryz.underlying30 Z Z Z (G ?_)
 refine Qe hm (fun aX hm=>?_) fun aX hm=>?_
 ·refine G ?_
  cases hm
 refine Qa hm fun bD bq hm=>?_
 obtain ⟨aA,_⟩:=bD
 replace hm:=QC hm
 refine G ?_
 refine Tc Z Z Z Z (Qb2 bq hq b0 b1 b2 b3).r ?_
 rintro _ _ ⟨_,j,l,m,bk,_,rfl⟩
 refine G ?_
 refine Qv (T:=63) Tryz.underlying30 Z Z Z (G ?_)
 refine Qe hm (fun aY hm=>?_) fun aY hm=>?_
 ·refine G ?_
  cases hm
 refine Qa hm fun bE br hm=>?_
 obtain ⟨c,_⟩:=bE
 replace hm:=QC hm
 refine G ?_
 refine Tc Z Z Z Z (Qcd br hq rq rq rq rq).r ?_
 rintro _ _ ⟨b4,i,bl,y,rfl⟩
 refine G ?_
 refine Qv (T:=63) Tryz.underlying30 Z Z Z (G ?_)
 refine Qe hm (fun aZ hm=>?_) fun aZ hm=>?_
 ·refine G ?_
  cases hm
 refine G ?_
 refine QK (y.f7) S27.h Z Z (Qa hm fun p aB hm=>G ?_)
 refine QO (fun k' s' f' w'=>(fun (p:Int)=>∃aw,Gc.le b4 aw∧St w0 aw (Res.box am 26 [ah,ai,aj,ak]::Res.box j 152 [l]::Res.arr Gg 43 i c::Res.arr G4 22 l m::Res.rows (Qc .i64) 3 m aA.d::H) w'∧Fx f' [(48,O (k':Int)),(2,Vq am),(8,Vq j),(9,i),(10,O p),(46,i),(47,O ((c.length:Int)))]) s') aB ?_ ?_ ?_
 ·have bO:=y.drop
  exact fq
 ·intro _ p _ _ _ bb aE o
  obtain ⟨b5,au,z,_,rfl⟩:=aE
  refine Qa o fun _ u o=>?_
  obtain ⟨_,_,an⟩:=(z.f2).arr_at u
  refine G ?_
  refine Qi S27.h Z an Z (Qj u).1 (Qj u).2.1 (G ?_)
  refine Qw (F:=Gg) (z.f2) an A43.h Z Z Z u (Sub.refl _) ?_
  intro _ bs
  obtain rfl:=QH.1 bs
  refine G ?_
  refine DT (cs:=[O 0,O 0]) z Z43 Z Z fun _ _ _=>?_
  refine G ?_
  refine Xst Z Z Z fun _ n=>?_
  refine G ?_
  refine QT (n0:=12) (qs 0 12 .done) JQ (G ?_)
  refine Zn (n.drew) A3.h Z Z Z ⟨Z,G ?_⟩
  refine Zn ((n.drew).f1) A24.h Z Z Z ⟨Z,G ?_⟩
  refine Zn (n.drew) A3.h Z Z Z ⟨Z,Qa o fun bJ bt o=>G ?_⟩
  refine Qy S24.h Z Z Z (al.mono (Zt (Zt (Zt bj bk) bl) au)) bt fun _ _ a7 _=>?_
  refine ⟨Z,G ?_⟩
  refine Zw (E:=(Qc .i64)) n.drew A3.h Z Z Z (a7.sub (Sub.iso (Sub.snd (Sub.fst (Sub.refl _)) Z)) Z) ?_
  intro bH bu
  obtain rfl:bH=O (bJ.Duration):=Qo.1 bu
  refine ⟨Z,G ?_⟩
  refine Qg1 Z Z Z ⟨Z,?_⟩
  cases o
  refine G ?_
  exact ⟨b5,au,((((((n.drew).drop).f4).f4).f4).f4).f4,(Fx.mk (FxL.cons (Jo bb (y.f7).arr_le) fxl))⟩
 rintro _ _ ⟨b6,_,aa,_,rfl⟩
 refine G ?_
 refine QK (aa.f2) S27.h Z Z (Q6 hm fun _ aC _ be aV=>g ?_)
 refine Jn (fun k' s' f' w'=>(fun (ae:List (List Int))=>∃ax,Gc.le b6 ax∧St w0 ax (Res.box j 152 [l]::Res.arr Gg 43 i c::Res.arr G4 22 l m::Res.rows (Qc .i64) 3 m ae::H) w'∧Fx f' [(67,O (k':Int)),(8,Vq j),(9,i),(10,O p),(66,O ((c.length:Int)))]) s') aC ?_ ?_ ?_ ?_
 ·have bP:=aa.drop
  exact fq
 ·intro ar ae a8 _ _ bc aF b _
  obtain ⟨_,_,aM,_,rfl⟩:=aF
  refine G ?_
  refine Tc Z Z Z Z (YF (YE (ar:Int)) aM).r ?_
  rintro _ _ ⟨_,_,_,rfl⟩
  refine G ?_
  refine Q2 Z (Qb (Qd Z Z) (Qb (Qd Z Z) (Qb (Qd Z Z) Qg))) (v:=Value.agg #[O 0,O ((Q0 (ar:Int))),O p]) (Qa b fun bF bv b=>?_)
  obtain ⟨_,_⟩:=bF
  replace b:=QC b
  refine G ?_
  refine Tc Z Z Z Z (Qdg bv hq).r ?_
  rintro _ _ ⟨b7,_,aN,rfl⟩
  refine G ?_
  refine Qv (T:=63) Tryz.underlying30 Z Z Z (G ?_)
  refine Qe b (fun ba b=>?_) fun ba b=>?_
  ·refine G ?_
   cases b
  have bM:=Zu b
  subst a8
  refine G ?_
  refine ⟨_,Z,?_⟩;exact ⟨b7,lq,(((aN.f2).f2).f3).f3,(Fx.mk (FxL.cons (Jo bc (aa.f2).arr_le) fxl))⟩
 ·intro ae _ _ aG bg
  obtain ⟨b8,bm,aO,_,rfl⟩:=aG
  refine G ?_
  refine ⟨c.length,_, .inl bg,?_⟩;exact ⟨b8,bm,(((aO.f3).f3).f3).f3,(Fx.mk)⟩
 rintro _ _ ⟨_,bn,ap,aJ⟩
 have hm:=ap.elim (be _) (aV _)
 clear ap
 obtain ⟨b9,_,ab,_,rfl⟩:=aJ
 refine G ?_
 refine QK (ab.f1) S27.h Z Z (Q6 hm fun _ aD _ bf aW=>g ?_)
 refine Jn (fun k' s' f' w'=>(fun (af:List Int)=>∃ay t,Gc.le b9 ay∧St w0 ay (Res.box j 152 [l]::Res.arr (Qc .i64) 3 t af::Res.arr Gg 43 i c::Res.arr G4 22 l m::Res.rows (Qc .i64) 3 m bn::H) w'∧Fx f' [(82,O (k':Int)),(8,Vq j),(15,t),(80,i),(81,O ((c.length:Int)))]) s') aD ?_ ?_ ?_ ?_
 ·have bQ:=ab.nilArr (Qc .i64) 3
  exact fq
 ·intro bi af a9 _ _ bd aH a _
  obtain ⟨_,t,_,ac,_,rfl⟩:=aH
  refine Qa a fun a1 x a=>?_
  obtain ⟨_,_,ao⟩:=(ac.f2).arr_at x
  refine G ?_
  refine Qi S27.h Z ao Z (Qj x).1 (Qj x).2.1 (G ?_)
  refine Qw (F:=Gg) (ac.f2) ao A43.h Z Z Z x (Sub.refl _) ?_
  intro _ bw
  obtain rfl:=QH.1 bw
  refine G ?_
  refine DT (cs:=[O 0,O 0]) ac Z43 Z Z fun _ _ _=>?_
  refine G ?_
  refine Xst Z Z Z fun _ aP=>?_
  refine G ?_
  refine Tc Z Z Z Z (Ka (JZ (bi:Int)) aP).r ?_
  rintro _ _ ⟨_,_,_,rfl⟩
  refine Qa a fun bG bx a=>?_
  obtain ⟨a2,_⟩:=bG
  replace a:=QC a
  refine G ?_
  refine Tc Z Z Z Z (Qfm bx hq).r ?_
  rintro _ _ ⟨bA,_,aQ,rfl⟩
  refine G ?_
  refine Qv (T:=63) Tryz.underlying30 Z Z Z (G ?_)
  refine Qd4 a (fun ad a=>?_) fun ad a=>?_
  ·refine G ?_
   cases a
  replace ad:=Zk ad
  refine G ?_
  refine Qt (Te:=3) (cs:=[O (IntKind.i64.wrap (a2 - a1.At))]) aQ Z (Qb (Qd Z Z) Qg) fun _ _ aR=>?_
  refine Qa a fun _ bz a=>G ?_
  refine Qn (E:=(Qc .i64)) (ys:=[IntKind.i64.wrap (a2 - a1.At)]) aR.f5 S22.h Z3 Z (by decide) Z Z Z Z ⟨[_],_,Z,Z,Z⟩ Z bz ?_
  intro bI _ aS
  have bN:=Zu a
  subst a9
  refine G ?_
  refine ⟨_,Z,?_⟩;exact ⟨bA,bI,lq,((((((aS.f4).drop).f3).f3).f4).f3).f4,(Fx.mk (FxL.cons (Jo bd (ab.f1).arr_le) fxl))⟩
 ·intro af _ _ aI bh
  obtain ⟨bB,t,bo,aT,_,rfl⟩:=aI
  refine G ?_
  refine ⟨c.length,_, .inl bh,?_⟩;exact ⟨bB,t,bo,((((aT.f4).f4).f4).f4).f4,(Fx.mk)⟩
 rintro _ _ ⟨_,_,aq,aK⟩
 have hm:=aq.elim (bf _) (aW _)
 clear aq
 obtain ⟨_,_,_,aU,_,rfl⟩:=aK
 cases hm
 refine G ?_
 refine ⟨_,Qcw Z,?_⟩
 obtain ⟨_,_,_,_⟩:=aU.f1.freezeArr
 exact fq
theorem Qfk {m a:Job} {o p q t u b d i j l:Value} {r:Bool} (hm:Yl m a=some r) (hS:St w0 s (H) w) (af:Ga Gd s o m.Start) (ag:Ga Gd s p m.Over) (ah:Ga Gd s q m.End) (ai:Ga Gd s t m.AtStart) (aj:Ga Gd s u m.AtEnd) (bJ:Ga Gd s b a.Start) (bK:Ga Gd s d a.Over) (bL:Ga Gd s i a.End) (bM:Ga Gd s j a.AtStart) (bN:Ga Gd s l a.AtEnd) :
  Cv Tryz.prog 32 #[Value.agg #[Value.string (m.Name),O (m.Duration),o,p,q,t,u],Value.agg #[Value.string (a.Name),O (a.Duration),b,d,i,j,l]] w0 w s H r fun bI=>Value.bool (bI):=by
 unfold Yl at hm
 refine Qh Tryz.func32 Z Z (G ?_)
 refine JV Z Z fun _ _ _=>?_
 refine G ?_
 refine JV Z Z fun n _ aK=>?_
 refine G ?_
 refine Q2 Z (Qb (c:=[o]) (Qd Z (Qs af.one)) (Qb (c:=[p]) (Qd Z (Qs ag.one)) (Qb (c:=[q]) (Qd Z (Qs ah.one)) (Qb (c:=[t]) (Qd Z (Qs ai.one)) (Qb (c:=[u]) (Qd Z (Qs aj.one)) Qg))))) (v:=Value.agg #[o,p,q,t,u]) (Q6 hm fun _ a4 bh aZ aS=>g ?_)
 refine Jn (fun k' s' f' w'=>(fun (_:Unit)=>∃av,Gc.le s av∧St w0 av (Res.box n 85 [Value.string (a.Name),O (a.Duration),b,d,i,j,l]::H) w'∧Fx f' [(24,O (k':Int)),(3,Vq n),(23,(Value.agg #[o,p,q,t,u]))]) s') a4 ?_ ?_ ?_ ?_
 ·have bP:=(aK.f1).drop
  exact fq
 ·intro ac _ a3 _ _ aX a8 y bl
  obtain ⟨b9,bu,_,_,rfl⟩:=a8
  refine Qa y fun ae b1 y=>G ?_
  refine QfZ Tryz.underlying154 A23.h Z Z Z (Qfi (Qsp (hn:=by decide) Z (QbC af (QbC ag (QbC ah (QbC ai (QbC aj Qnw)))))) bu) Z b1 ?_
  intro ab b2
  have bR:=Q5.1 b2
  refine G ?_
  refine Q2 Z (Qb (c:=[b]) (Qd Z (Qs (rq).one)) (Qb (c:=[d]) (Qd Z (Qs (rq).one)) (Qb (c:=[i]) (Qd Z (Qs (rq).one)) (Qb (c:=[j]) (Qd Z (Qs (rq).one)) (Qb (c:=[l]) (Qd Z (Qs (rq).one)) Qg))))) (v:=Value.agg #[b,d,i,j,l]) (Q6 y fun _ a5 bi ba aT=>g ?_)
  refine Jn (fun k' s' f' w'=>(fun (_:Unit)=>∃aw,Gc.le b9 aw∧St w0 aw (Res.box n 85 [Value.string (a.Name),O (a.Duration),b,d,i,j,l]::H) w'∧Fx f' [(38,O (k':Int)),(3,Vq n),(6,ab),(23,(Value.agg #[o,p,q,t,u])),(24,O ((ac:Int))),(37,(Value.agg #[b,d,i,j,l]))]) s') a5 ?_ ?_ ?_ ?_
  ·exact fq
  ·intro ar _ _ _ _ aY a9 z bm
   obtain ⟨bA,bv,_,_,rfl⟩:=a9
   refine Qa z fun az b3 z=>G ?_
   refine QfZ Tryz.underlying154 A23.h Z Z Z (Qfi (Qsp (hn:=by decide) Z (QbC rq (QbC rq (QbC rq (QbC rq (QbC rq Qnw)))))) bv) Z b3 ?_
   intro ad b4
   have bS:=Q5.1 b4
   refine Q6 z fun _ a6 bj bb aU=>g ?_
   refine Zc (Zd (g ?_))
   refine Jn (fun k' s' f' w'=>(fun (_:Unit)=>∃ax,Gc.le bA ax∧St w0 ax (Res.box n 85 [Value.string (a.Name),O (a.Duration),b,d,i,j,l]::H) w'∧Fx f' [(43,O (k':Int)),(3,Vq n),(6,ab),(8,ad),(23,(Value.agg #[o,p,q,t,u])),(24,O ((ac:Int))),(37,(Value.agg #[b,d,i,j,l])),(38,O ((ar:Int))),(41,ab),(42,O ((ae.length:Int)))]) s') a6 ?_ ?_ ?_ ?_
   ·exact fq
   ·intro bt _ _ _ _ _ aA aa bn
    obtain ⟨bB,_,al,_,rfl⟩:=aA
    refine Qa aa fun a0 b5 aa=>G ?_
    refine Jv Z Z Z b5 fun _ _ a1=>?_
    refine G ?_
    refine Zw (E:=Gd) al A82.h Z Z Z a1 ?_
    intro _ b6
    obtain rfl:=J2.1 b6
    refine G ?_
    refine DT (cs:=[O 0,O 0]) al Z82 Z Z fun ak _ _=>?_
    refine G ?_
    refine Xst Z Z Z fun _ aL=>?_
    refine Q6 aa fun _ a7 bk bc aV=>g ?_
    refine Zc (Zd (g ?_))
    refine Jn (fun k' s' f' w'=>(fun (_:Unit)=>∃ay,Gc.le bB ay∧St w0 ay (Res.box n 85 [Value.string (a.Name),O (a.Duration),b,d,i,j,l]::Res.box ak 82 [O (a0.Var),O (a0.Val)]::H) w'∧Fx f' [(49,O (k':Int)),(3,Vq n),(6,ab),(8,ad),(10,Vq ak),(23,(Value.agg #[o,p,q,t,u])),(24,O ((ac:Int))),(37,(Value.agg #[b,d,i,j,l])),(38,O ((ar:Int))),(41,ab),(42,O ((ae.length:Int))),(43,O ((bt:Int))),(47,ad),(48,O ((az.length:Int)))]) s') a7 ?_ ?_ ?_ ?_
    ·have bQ:=aL.f1
     exact fq
    ·intro _ _ _ _ _ _ aB x bo
     obtain ⟨_,_,am,_,rfl⟩:=aB
     refine Qa x fun _ b7 x=>G ?_
     refine Jv Z Z Z b7 fun _ _ a2=>?_
     refine G ?_
     refine Zw (E:=Gd) am A82.h Z Z Z a2 ?_
     intro _ b8
     obtain rfl:=J2.1 b8
     refine G ?_
     refine DT (cs:=[O 0,O 0]) am Z82 Z Z fun _ _ _=>?_
     refine G ?_
     refine Xst Z Z Z fun _ _=>?_
     refine G ?_
     refine Qe x (fun aW x=>?_) fun aW x=>?_
     ·cases x
      have bd:=bk _ (bo (by intro _ h;cases h))
      cases bd
      have be:=bj _ (bn (by intro _ h;cases h))
      cases be
      have bf:=bi _ (bm (by intro _ h;cases h))
      cases bf
      have bg:=bh _ (bl (by intro _ h;cases h))
      cases bg
      refine G ?_
      exact fr
     cases x
     refine G ?_
     exact ⟨_,Z,fq⟩
    ·intro _ _ _ aC bp
     obtain ⟨bC,bw,aM,_,rfl⟩:=aC
     refine G ?_
     refine ⟨az.length,_, .inl bp,?_⟩;exact ⟨bC,bw,(aM.f1).f1,(Fx.mk)⟩
    rintro _ _ ⟨_,_,an,aG⟩
    have aa:=an.elim (bc _) (aV _)
    clear an
    obtain ⟨_,_,_,_,rfl⟩:=aG
    cases aa
    refine G ?_
    exact ⟨_,Z,fq⟩
   ·intro _ _ _ aD bq
    obtain ⟨bD,bx,aN,_,rfl⟩:=aD
    refine G ?_
    refine ⟨ae.length,_, .inl bq,?_⟩;exact ⟨bD,bx,aN,(Fx.mk)⟩
   rintro _ _ ⟨_,_,ao,aH⟩
   have z:=ao.elim (bb _) (aU _)
   clear ao
   obtain ⟨bE,_,aO,_,rfl⟩:=aH
   cases z
   refine G ?_
   refine ⟨_,Z,?_⟩;exact ⟨bE,lq,aO,(Fx.mk (FxL.cons (Jo aY (by simp [maxLen])) fxl))⟩
  ·intro _ _ _ aE br
   obtain ⟨bF,bz,aP,_,rfl⟩:=aE
   refine G ?_
   refine ⟨(5:Int).toNat,_, .inl br,?_⟩;exact ⟨bF,bz,aP,(Fx.mk)⟩
  rintro _ _ ⟨_,_,ap,aI⟩
  have y:=ap.elim (ba _) (aT _)
  clear ap
  obtain ⟨bG,_,aQ,_,rfl⟩:=aI
  have bO:=Zu y
  subst a3
  refine G ?_
  refine ⟨_,Z,?_⟩;exact ⟨bG,lq,aQ,(Fx.mk (FxL.cons (Jo aX (by simp [maxLen])) fxl))⟩
 ·intro _ _ _ aF bs
  obtain ⟨bH,b0,aR,_,rfl⟩:=aF
  refine G ?_
  refine ⟨(5:Int).toNat,_, .inl bs,?_⟩;exact ⟨bH,b0,aR,(Fx.mk)⟩
 rintro _ _ ⟨_,_,aq,aJ⟩
 have hm:=aq.elim (aZ _) (aS _)
 clear aq
 obtain ⟨_,_,_,_,rfl⟩:=aJ
 cases hm
 refine G ?_
 exact fr
theorem Qfl {j:Ge} {i:(List Launch)} {n:Int} {o p t u x:Value} {r:Bool} (hm:K2 j i n=some r) (hS:St w0 s (H) w) (aX:Ga (Qc .i64) s o j.Vars) (aY:Ga (Qc .i64) s p j.Init) (aZ:Ga Gd s t j.Goal) (z:Ga Gw s u j.Jobs) (l:Ga Gg s x i) :
  Cv Tryz.prog 9 #[Value.agg #[o,p,t,u],x,O n] w0 w s H r fun aW=>Value.bool (aW):=by
 unfold K2 at hm
 refine Qh Tryz.func9 Z Z (G ?_)
 refine JV Z Z fun m _ _=>?_
 refine Q6 hm fun _ ap a2 a0 ax=>g ?_
 refine Zc (Zc (Zd (g ?_)))
 refine Jn (fun k' s' f' w'=>(fun (_:Unit)=>∃af,Gc.le s af∧St w0 af (Res.box m 26 [o,p,t,u]::H) w'∧Fx f' [(10,O (k':Int)),(1,x),(2,O n),(3,Vq m),(9,O ((i.length:Int)))]) s') ap ?_ ?_ ?_ ?_
 ·exact fq
 ·intro a5 _ _ _ _ _ aq b a3
  obtain ⟨aQ,d,av,_,rfl⟩:=aq
  refine G ?_
  refine Qe b (fun aa b=>?_) fun aa b=>?_
  ·cases b
   refine G ?_
   exact ⟨_,Z,fq⟩
  refine Qa b fun y a b=>W_c Z aa (QiV (Yx (Ze (Zc (QL (M:=fun f' w'=>(fun (y:Bool)=>∃ag,Gc.le aQ ag∧St w0 ag (Res.box m 26 [o,p,t,u]::H) w'∧Fx f' [(1,x),(2,O n),(3,Vq m),(9,O ((i.length:Int))),(10,O ((a5:Int))),(47,Vb y)]) y) ?_ ?_)))))
  ·refine QT (n0:=32) (qs 0 30 (.e 30 [] (.q 31 .done))) JQ ?_
   have c:=av.drew
   refine Qa a fun ah ac a=>G ?_
   refine Qy S27.h Z Z Z (l.mono d) ac fun _ _ aj _=>?_
   refine ⟨Z,G ?_⟩
   refine Zw (E:=(Qc .i64)) c A3.h Z Z Z (aj.sub (Sub.iso (Sub.snd (Sub.refl _) Z)) Z) ?_
   intro aS a7
   obtain rfl:aS=O (ah.Job):=Qo.1 a7
   refine ⟨Z,Qa a fun ai ad a=>G ?_⟩
   refine Qy S27.h Z Z Z (l.mono d) ad fun _ _ ak _=>?_
   refine ⟨Z,G ?_⟩
   refine Zw (E:=(Qc .i64)) c A3.h Z Z Z (ak.sub (Sub.iso (Sub.snd (Sub.refl _) Z)) Z) ?_
   intro aT a8
   obtain rfl:aT=O (ai.Job):=Qo.1 a8
   refine ⟨Z,G ?_⟩
   refine Qe a (fun ay a=>?_) fun ay a=>?_
   ·cases a
    refine G ?_
    exact fq
   refine G ?_
   refine Qy S27.h Z Z Z (l.mono d) ac fun _ _ al _=>?_
   refine ⟨Z,G ?_⟩
   refine Zw (E:=(Qc .i64)) c A3.h Z Z Z (al.sub (Sub.iso (Sub.snd (Sub.refl _) Z)) Z) ?_
   intro aU a9
   obtain rfl:aU=O (ah.Job):=Qo.1 a9
   refine ⟨Z,Qa a fun _ aA a=>G ?_⟩
   refine Qy S24.h Z Z Z (z.mono d) aA fun _ _ am _=>?_
   refine ⟨Z,G ?_⟩
   refine Zw (E:=Gw) c A85.h Z Z Z am ?_
   intro _ aB
   obtain ⟨_,_,_,_,_,rfl,aG,aH,aI,aJ,aK⟩:=K9.1 aB
   refine ⟨Z,G ?_⟩
   refine Qy S27.h Z Z Z (l.mono d) ad fun _ _ an _=>?_
   refine ⟨Z,G ?_⟩
   refine Zw (E:=(Qc .i64)) c A3.h Z Z Z (an.sub (Sub.iso (Sub.snd (Sub.refl _) Z)) Z) ?_
   intro aV aC
   obtain rfl:aV=O (ai.Job):=Qo.1 aC
   refine ⟨Z,Qa a fun _ aD a=>G ?_⟩
   refine Qy S24.h Z Z Z (z.mono d) aD fun _ _ ao _=>?_
   refine ⟨Z,G ?_⟩
   refine Zw (E:=Gw) c A85.h Z Z Z ao ?_
   intro _ aE
   obtain ⟨_,_,_,_,_,rfl,aL,aM,aN,aO,aP⟩:=K9.1 aE
   refine ⟨Z,Qa a fun _ aF a=>G ?_⟩
   refine Tc Z Z Z Z (Qfk aF c aG aH aI aJ aK aL aM aN aO aP).r ?_
   rintro _ _ ⟨_,_,_,rfl⟩
   refine ⟨Yd,?_⟩
   cases a
   refine G ?_
   exact fq
  rintro _ _ ⟨_,_,_,_,rfl⟩
  refine G ?_
  refine Qe b (fun az b=>?_) fun az b=>?_
  ·cases b
   have a1:=a2 _ (a3 (by intro _ h;cases h))
   cases a1
   refine G ?_
   exact fr
  cases b
  refine G ?_
  exact ⟨_,Z,fq⟩
 ·intro _ _ _ ar a4
  obtain ⟨aR,a6,aw,_,rfl⟩:=ar
  refine G ?_
  refine ⟨i.length,_, .inl a4,?_⟩;exact ⟨aR,a6,aw,(Fx.mk)⟩
 rintro _ _ ⟨_,_,ab,au⟩
 have hm:=ab.elim (a0 _) (ax _)
 clear ab
 obtain ⟨_,_,_,_,rfl⟩:=au
 cases hm
 refine G ?_
 exact fr
theorem Z49:JW Tryz.prog 49=some (Value.agg #[Value.slice none 0 0,Value.slice none 0 0,Value.slice none 0 0,Value.slice none 0 0]):=by kernel_rfl
theorem Z94:JW Tryz.prog 94=some (Value.agg #[O 0,Value.slice none 0 0,Value.slice none 0 0,O 0,Value.slice none 0 0]):=by kernel_rfl
instance A94:ATy Tryz.prog 94 true 5:=⟨by kernel_rfl⟩
instance F94_4:FTy Tryz.prog 94 4 4:=⟨by kernel_rfl⟩
theorem QyA:(Tryz.f122.name == "runtime.NumGoroutine")=false:=by kernel_rfl
theorem Qfp {a:Gj} {c:Int} {b d:Nat} {r:Bool} (hm:Qaf a c=some r) (hS:St w0 s (H) w) (g:At s b d (Qc .i64) c) :
  Cv Tryz.prog 122 #[Value.agg #[O (a.Var),O (a.Val)],Value.pointer (some ⟨b,d,none⟩)] w0 w s H r fun k=>Value.bool (k):=by
 unfold Qaf at hm
 refine Qh Tryz.func122 Z Z (G ?_)
 refine JV Z Z fun _ _ i=>?_
 refine G ?_
 refine Zw (E:=(Qc .i64)) i A3.h Z Z Z g ?_
 intro _ j
 obtain rfl:=Qo.1 j
 cases hm
 refine G ?_
 exact fr
theorem QaZ {b:(List Gj)} {d:Int} {j:Value} {c i:Nat} {r:Int} (hm:Jy b d=some r) (hS:St w0 s (H) w) (ao:Ga Gd s j b) (p:At s c i (Qc .i64) d) :
  Cv Tryz.prog 190 #[j,Value.func (.func 122) #[] #[Value.pointer (some ⟨c,i,none⟩)]] w0 w s H r fun an=>O an:=by
 unfold Jy at hm
 refine Qh Tryz.func190 Z Z (Q6 hm fun _ t ae ac aa=>Zc (Zd (g ?_)))
 refine Zc (Zc (Zd (g ?_)))
 refine Jn (fun k' s' f' w'=>(fun (_:Unit)=>∃o,Gc.le s o∧St w0 o (H) w'∧Fx f' [(8,O (k':Int)),(0,j),(1,Value.func (.func 122) #[] #[Vp (some ⟨c,i,none⟩)]),(7,O ((b.length:Int)))]) s') t ?_ ?_ ?_ ?_
 ·exact fq
 ·intro _ _ _ _ _ _ u a af
  obtain ⟨_,ah,l,_,rfl⟩:=u
  refine Qa a fun am aj a=>G ?_
  refine Jv Z Z Z aj fun _ _ q=>?_
  refine G ?_
  refine Zw (E:=Gd) l A82.h Z Z Z q ?_
  intro _ ak
  obtain rfl:=J2.1 ak
  refine G ?_
  refine Qa1 Z Z Tryz.func122 Z QyA (Zi Z Jh) Z ((Qfp (Qfo am d) l (p.mono ah)).mono ?_)
  rintro _ _ ⟨_,rfl,_,_,_,rfl⟩
  refine ⟨_,Z,G ?_⟩
  refine Qe a (fun ab a=>?_) fun ab a=>?_
  ·cases a
   have ad:=ae _ (af (by intro _ h;cases h))
   cases ad
   refine G ?_
   exact fr
  cases a
  refine G ?_
  exact ⟨_,Z,fq⟩
 ·intro _ _ _ x ag
  obtain ⟨al,ai,z,_,rfl⟩:=x
  refine G ?_
  refine ⟨b.length,_, .inl ag,?_⟩;exact ⟨al,ai,z,(Fx.mk)⟩
 rintro _ _ ⟨_,_,m,y⟩
 have hm:=m.elim (ac _) (aa _)
 clear m
 obtain ⟨_,_,_,_,rfl⟩:=y
 cases hm
 refine G ?_
 exact fr
theorem Qa8 {f:(List Gj)} {b:Int} {g:Value} {a c:Nat} {r:Bool} (hm:QR f b=some r) (hS:St w0 s (H) w) (h:Ga Gd s g f) (i:At s a c (Qc .i64) b) :
  Cv Tryz.prog 121 #[g,Value.func (.func 122) #[] #[Value.pointer (some ⟨a,c,none⟩)]] w0 w s H r fun k=>Value.bool (k):=by
 unfold QR at hm
 refine Qh Tryz.func121 Z Z (Qa hm fun _ j hm=>G ?_)
 refine Tc Z Z Z Z (QaZ j hS h i).r ?_
 rintro _ _ ⟨_,_,_,rfl⟩
 cases hm
 refine G ?_
 exact fr
theorem KK {b:(List Gj)} {a:Int} {d:Value} {r:Bool} (hm:Js b a=some r) (hS:St w0 s (H) w) (k:Ga Gd s d b) :
  Cv Tryz.prog 81 #[d,O a] w0 w s H r fun j=>Value.bool (j):=by
 unfold Js at hm
 refine Qh Tryz.func81 Z Z (G ?_)
 refine JV Z Z fun _ _ f=>?_
 refine G ?_
 obtain ⟨_,_,g,i⟩:=St.freezeVar (E:=(Qc .i64)) (y:=a) f rfl
 refine G ?_
 refine DZ Z (Zi Z Jh) (Qa hm fun _ h hm=>G ?_)
 refine Tc Z Z Z Z (Qa8 h g rq i).r ?_
 rintro _ _ ⟨_,_,_,rfl⟩
 cases hm
 refine G ?_
 exact fr
theorem N80:(Tryz.f80.name == "runtime.NumGoroutine")=false:=by kernel_rfl
theorem Qhn {b:Job} {j:Int} {p q t u x:Value} {i m:Nat} {r:Bool} (hm:Qbt b j=some r) (hS:St w0 s (H) w) (ag:Ga Gd s p b.Start) (ah:Ga Gd s q b.Over) (ai:Ga Gd s t b.End) (y:Ga Gd s u b.AtStart) (aj:Ga Gd s x b.AtEnd) (d:At s i m (Qc .i64) j) :
  Cv Tryz.prog 80 #[Value.agg #[Value.string (b.Name),O (b.Duration),p,q,t,u,x],Value.pointer (some ⟨i,m,none⟩)] w0 w s H r fun af=>Value.bool (af):=by
 unfold Qbt at hm
 refine Qh Tryz.func80 Z Z (G ?_)
 refine JV Z Z fun _ _ k=>?_
 refine Qa hm fun c a hm=>g ?_
 refine Zc (QL (M:=fun f' w'=>(fun (c:Bool)=>∃o,Gc.le s o∧St w0 o (H) w'∧Fx f' [(3,Vb c)]) c) ?_ ?_)
 ·refine G ?_
  refine Zw (E:=(Qc .i64)) k A3.h Z Z Z d ?_
  intro _ ab
  obtain rfl:=Qo.1 ab
  refine Qa a fun _ ac a=>G ?_
  refine Tc Z Z Z Z (KK ac k y).r ?_
  rintro _ _ ⟨_,aa,l,rfl⟩
  refine G ?_
  refine Qe a (fun z a=>?_) fun z a=>?_
  ·cases a
   refine G ?_
   exact fq
  refine G ?_
  refine Zw (E:=(Qc .i64)) l A3.h Z Z Z (d.mono aa) ?_
  intro _ ad
  obtain rfl:=Qo.1 ad
  refine Qa a fun _ ae a=>G ?_
  refine Tc Z Z Z Z (KK ae l rq).r ?_
  rintro _ _ ⟨_,_,_,rfl⟩
  cases a
  refine G ?_
  exact fq
 rintro _ _ ⟨_,_,_,_,rfl⟩
 cases hm
 refine G ?_
 exact fr
theorem QbV {b:(List Job)} {j:Int} {i:Value} {c d:Nat} {r:Int} (hm:JT b j=some r) (hS:St w0 s (H) w) (av:Ga Gw s i b) (p:At s c d (Qc .i64) j) :
  Cv Tryz.prog 120 #[i,Value.func (.func 80) #[] #[Value.pointer (some ⟨c,d,none⟩)]] w0 w s H r fun au=>O au:=by
 unfold JT at hm
 refine Qh Tryz.func120 Z Z (Q6 hm fun _ t ae ac aa=>Zc (Zd (g ?_)))
 refine Zc (Zc (Zd (g ?_)))
 refine Jn (fun k' s' f' w'=>(fun (_:Unit)=>∃o,Gc.le s o∧St w0 o (H) w'∧Fx f' [(8,O (k':Int)),(0,i),(1,Value.func (.func 80) #[] #[Vp (some ⟨c,d,none⟩)]),(7,O ((b.length:Int)))]) s') t ?_ ?_ ?_ ?_
 ·exact fq
 ·intro _ _ _ _ _ _ u a af
  obtain ⟨_,ah,l,_,rfl⟩:=u
  refine Qa a fun _ aj a=>G ?_
  refine Jv Z Z Z aj fun _ _ q=>?_
  refine G ?_
  refine Zw (E:=Gw) l A85.h Z Z Z q ?_
  intro _ ak
  obtain ⟨_,_,_,_,_,rfl,am,an,ao,ap,aq⟩:=K9.1 ak
  refine Qa a fun _ al a=>G ?_
  refine Qa1 Z Z Tryz.func80 Z N80 (Zi Z Jh) Z ((Qhn al l am an ao ap aq (p.mono ah)).mono ?_)
  rintro _ _ ⟨_,rfl,_,_,_,rfl⟩
  refine ⟨_,Z,G ?_⟩
  refine Qe a (fun ab a=>?_) fun ab a=>?_
  ·cases a
   have ad:=ae _ (af (by intro _ h;cases h))
   cases ad
   refine G ?_
   exact fr
  cases a
  refine G ?_
  exact ⟨_,Z,fq⟩
 ·intro _ _ _ x ag
  obtain ⟨ar,ai,z,_,rfl⟩:=x
  refine G ?_
  refine ⟨b.length,_, .inl ag,?_⟩;exact ⟨ar,ai,z,(Fx.mk)⟩
 rintro _ _ ⟨_,_,m,y⟩
 have hm:=m.elim (ac _) (aa _)
 clear m
 obtain ⟨_,_,_,_,rfl⟩:=y
 cases hm
 refine G ?_
 exact fr
theorem Qb0 {f:(List Job)} {b:Int} {g:Value} {a c:Nat} {r:Bool} (hm:QP f b=some r) (hS:St w0 s (H) w) (h:Ga Gw s g f) (i:At s a c (Qc .i64) b) :
  Cv Tryz.prog 79 #[g,Value.func (.func 80) #[] #[Value.pointer (some ⟨a,c,none⟩)]] w0 w s H r fun k=>Value.bool (k):=by
 unfold QP at hm
 refine Qh Tryz.func79 Z Z (Qa hm fun _ j hm=>G ?_)
 refine Tc Z Z Z Z (QbV j hS h i).r ?_
 rintro _ _ ⟨_,_,_,rfl⟩
 cases hm
 refine G ?_
 exact fr
theorem N82:(Tryz.f82.name == "runtime.NumGoroutine")=false:=by kernel_rfl
theorem Qhm {b:Job} {j:Int} {p q t u x:Value} {i m:Nat} {r:Bool} (hm:Qbs b j=some r) (hS:St w0 s (H) w) (y:Ga Gd s p b.Start) (ag:Ga Gd s q b.Over) (ah:Ga Gd s t b.End) (ai:Ga Gd s u b.AtStart) (aj:Ga Gd s x b.AtEnd) (d:At s i m (Qc .i64) j) :
  Cv Tryz.prog 82 #[Value.agg #[Value.string (b.Name),O (b.Duration),p,q,t,u,x],Value.pointer (some ⟨i,m,none⟩)] w0 w s H r fun af=>Value.bool (af):=by
 unfold Qbs at hm
 refine Qh Tryz.func82 Z Z (G ?_)
 refine JV Z Z fun _ _ k=>?_
 refine Qa hm fun c a hm=>g ?_
 refine Zc (QL (M:=fun f' w'=>(fun (c:Bool)=>∃o,Gc.le s o∧St w0 o (H) w'∧Fx f' [(3,Vb c)]) c) ?_ ?_)
 ·refine G ?_
  refine Zw (E:=(Qc .i64)) k A3.h Z Z Z d ?_
  intro _ ab
  obtain rfl:=Qo.1 ab
  refine Qa a fun _ ac a=>G ?_
  refine Tc Z Z Z Z (KK ac k y).r ?_
  rintro _ _ ⟨_,aa,l,rfl⟩
  refine G ?_
  refine Qe a (fun z a=>?_) fun z a=>?_
  ·cases a
   refine G ?_
   exact fq
  refine G ?_
  refine Zw (E:=(Qc .i64)) l A3.h Z Z Z (d.mono aa) ?_
  intro _ ad
  obtain rfl:=Qo.1 ad
  refine Qa a fun _ ae a=>G ?_
  refine Tc Z Z Z Z (KK ae l rq).r ?_
  rintro _ _ ⟨_,_,_,rfl⟩
  cases a
  refine G ?_
  exact fq
 rintro _ _ ⟨_,_,_,_,rfl⟩
 cases hm
 refine G ?_
 exact fr
theorem QbU {b:(List Job)} {j:Int} {i:Value} {c d:Nat} {r:Int} (hm:JS b j=some r) (hS:St w0 s (H) w) (av:Ga Gw s i b) (p:At s c d (Qc .i64) j) :
  Cv Tryz.prog 120 #[i,Value.func (.func 82) #[] #[Value.pointer (some ⟨c,d,none⟩)]] w0 w s H r fun au=>O au:=by
 unfold JS at hm
 refine Qh Tryz.func120 Z Z (Q6 hm fun _ t ae ac aa=>Zc (Zd (g ?_)))
 refine Zc (Zc (Zd (g ?_)))
 refine Jn (fun k' s' f' w'=>(fun (_:Unit)=>∃o,Gc.le s o∧St w0 o (H) w'∧Fx f' [(8,O (k':Int)),(0,i),(1,Value.func (.func 82) #[] #[Vp (some ⟨c,d,none⟩)]),(7,O ((b.length:Int)))]) s') t ?_ ?_ ?_ ?_
 ·exact fq
 ·intro _ _ _ _ _ _ u a af
  obtain ⟨_,ah,l,_,rfl⟩:=u
  refine Qa a fun _ aj a=>G ?_
  refine Jv Z Z Z aj fun _ _ q=>?_
  refine G ?_
  refine Zw (E:=Gw) l A85.h Z Z Z q ?_
  intro _ ak
  obtain ⟨_,_,_,_,_,rfl,am,an,ao,ap,aq⟩:=K9.1 ak
  refine Qa a fun _ al a=>G ?_
  refine Qa1 Z Z Tryz.func82 Z N82 (Zi Z Jh) Z ((Qhm al l am an ao ap aq (p.mono ah)).mono ?_)
  rintro _ _ ⟨_,rfl,_,_,_,rfl⟩
  refine ⟨_,Z,G ?_⟩
  refine Qe a (fun ab a=>?_) fun ab a=>?_
  ·cases a
   have ad:=ae _ (af (by intro _ h;cases h))
   cases ad
   refine G ?_
   exact fr
  cases a
  refine G ?_
  exact ⟨_,Z,fq⟩
 ·intro _ _ _ x ag
  obtain ⟨ar,ai,z,_,rfl⟩:=x
  refine G ?_
  refine ⟨b.length,_, .inl ag,?_⟩;exact ⟨ar,ai,z,(Fx.mk)⟩
 rintro _ _ ⟨_,_,m,y⟩
 have hm:=m.elim (ac _) (aa _)
 clear m
 obtain ⟨_,_,_,_,rfl⟩:=y
 cases hm
 refine G ?_
 exact fr
theorem Qbz {f:(List Job)} {b:Int} {g:Value} {a c:Nat} {r:Bool} (hm:Jk f b=some r) (hS:St w0 s (H) w) (h:Ga Gw s g f) (i:At s a c (Qc .i64) b) :
  Cv Tryz.prog 79 #[g,Value.func (.func 82) #[] #[Value.pointer (some ⟨a,c,none⟩)]] w0 w s H r fun k=>Value.bool (k):=by
 unfold Jk at hm
 refine Qh Tryz.func79 Z Z (Qa hm fun _ j hm=>G ?_)
 refine Tc Z Z Z Z (QbU j hS h i).r ?_
 rintro _ _ ⟨_,_,_,rfl⟩
 cases hm
 refine G ?_
 exact fr
instance F94_1:FTy Tryz.prog 94 1 1:=⟨by kernel_rfl⟩
instance F94_2:FTy Tryz.prog 94 2 2:=⟨by kernel_rfl⟩
instance F94_3:FTy Tryz.prog 94 3 3:=⟨by kernel_rfl⟩
theorem Qja {a:Ge} {u x z p:Value} {r:Gl} (hm:QaM a=some r) (hS:St w0 s (H) w) (aG:Ga (Qc .i64) s u a.Vars) (cz:Ga (Qc .i64) s x a.Init) (c0:Ga Gd s z a.Goal) (bs:Ga Gw s p a.Jobs) :
  Cs Tryz.prog 34 #[Value.agg #[u,x,z,p]] w r fun v w'=>fun (ah:Gl)=>∃af bj bk bl,Gc.le s af∧St w0 af (H) w'∧v=Value.agg #[O (ah.jobs),bj,bk,O (ah.phase),bl]∧Ga (Qc .i64) af bj ah.write∧Ga (Qc .i64) af bk ah.read∧Ga (Qc .i64) af bl ah.vars:=by
 unfold QaM at hm
 refine Qh Tryz.func34 Z Z (G ?_)
 refine JV Z Z fun l _ b2=>?_
 refine G ?_
 refine DT (cs:=[O 0,Vn,Vn,O 0,Vn]) b2 Z94 Z Z fun m _ ak=>?_
 refine Qa hm fun cy aT hm=>g ?_
 refine Zc (QL (M:=fun f' w'=>∃aW d a9,Gc.le s aW∧St w0 aW (Res.box l 26 [u,x,z,p]::Res.box m 94 [O 0,Vn,Vn,O 0,Vn]::Res.box d 94 [O ((a.Vars.length:Int)),Vn,Vn,O 0,a9]::Res.arr (Qc .i64) 3 a9 cy::H) w'∧Fx f' [(1,Vq l),(2,Vq m),(3,Vq d)]) ?_ ?_)
 ·refine QT (n0:=8) (qs 0 5 (.alt (.e 5 [0,1,2] (.q 6 (.e 7 [0,1,2,6] .done))) (.e 7 [0,1,2,3,4] (.e 5 [0,1,2] (.q 6 .done))))) JQ (G ?_)
  refine Zn ((ak.drew).f1) A22.h Z Z Z ⟨Z,G ?_⟩
  refine Zn ((ak.drew).f1) A22.h Z Z Z ⟨Z,Qb5 ?_ ?_⟩
  ·refine G ?_
   refine Tc Z Z Z Z (JC aT ak.drew aG).r ?_
   rintro ao _ ⟨_,_,_,aH,rfl⟩
   refine ⟨Yd,G ?_⟩
   refine Q2 Z (Qb (Qd Z Z) (Qb (c:=[ao]) (Qd Z (Qs aH.arr_one)) Qg)) (v:=Value.agg #[O ((a.Vars.length:Int)),Vn,Vn,O 0,ao]) ⟨Z,G ?_⟩
   refine DT (cs:=[O 0,Vn,Vn,O 0,Vn]) aH Z94 Z Z fun _ _ aI=>?_
   refine ⟨(Qm (Q8 Z Z (Zp F26_0.h Z Z Z ⟨Z,Z⟩)) (Qm (Q8 Z Z (Zn (aI.f3) A22.h Z Z Z ⟨Z,Z⟩)) (Qm (Q8 Z Z (Zr S22.h Z Z rq ⟨Z,Z⟩)) (Qm (Q8 Z Z (Q2 Z (Qb (Qd Z Z) (Qb (c:=[ao]) (Qd Z (Qs (aI.f1).arr_one)) Qg)) (v:=Value.agg #[O ((a.Vars.length:Int)),Vn,Vn,O 0,ao]) ⟨Z,Z⟩)) K7)))),G ?_⟩
   refine Xst Z Z Z fun _ _=>?_
   refine G ?_
   exact fq
  refine G ?_
  refine DT (cs:=[O 0,Vn,Vn,O 0,Vn]) ak.drew Z94 Z Z fun _ _ b3=>?_
  refine ⟨Yd,G ?_⟩
  refine Tc Z Z Z Z (JC aT b3 aG).r ?_
  rintro bm _ ⟨_,_,_,b4,rfl⟩
  refine ⟨Yd,G ?_⟩
  refine Q2 Z (Qb (Qd Z Z) (Qb (c:=[bm]) (Qd Z (Qs b4.arr_one)) Qg)) (v:=Value.agg #[O ((a.Vars.length:Int)),Vn,Vn,O 0,bm]) ⟨Z,G ?_⟩
  refine Xst Z Z Z fun _ _=>?_
  refine G ?_
  exact fq
 rintro _ _ ⟨cn,d,a9,_,b5,_,rfl⟩
 refine Qa hm fun a5 bu hm=>G ?_
 refine QO (fun k' s' f' w'=>(fun (a5:List Int)=>∃aX ap,Gc.le cn aX∧St w0 aX (Res.box l 26 [u,x,z,p]::Res.box m 94 [O 0,Vn,Vn,O 0,Vn]::Res.box d 94 [O ((a.Vars.length:Int)),Vn,Vn,O 0,ap]::Res.arr (Qc .i64) 3 ap a5::H) w'∧Fx f' [(19,O (k':Int)),(1,Vq l),(2,Vq m),(3,Vq d),(17,p),(18,O ((a.Jobs.length:Int)))]) s') bu ?_ ?_ ?_
 ·have c5:=b5.f3
  exact fq
 ·intro _ a5 co _ _ bU bw ae
  obtain ⟨cp,ap,bW,aJ,_,rfl⟩:=bw
  refine Qa ae fun ad ca ae=>G ?_
  refine Jv Z Z Z ca fun _ _ bt=>?_
  refine G ?_
  refine Zw (E:=Gw) aJ A85.h Z Z Z bt ?_
  intro _ cb
  obtain ⟨be,bf,bg,bh,bi,rfl,ci,cj,ck,cl,cm⟩:=K9.1 cb
  refine G ?_
  refine DT (cs:=[Value.string (⟨#[]⟩),O 0,Vn,Vn,Vn,Vn,Vn]) aJ Z85 Z Z fun _ _ b6=>?_
  refine G ?_
  refine Qu (ds:=[Value.string (ad.Name),O (ad.Duration),be,bf,bg,bh,bi]) (es:=[Value.string (ad.Name),O (ad.Duration),be,bf,bg,bh,bi]) b6 A85.h Z Z Z Z (Zj Z (Zj Z (Zj ci.one (Zj cj.one (Zj ck.one (Zj cl.one (Zj cm.one QM))))))) (Xc Z) Z fun _ b7=>?_
  refine G ?_
  refine Qt (Te:=3) (cs:=[O (IntKind.i64.wrap (ad.Duration+2)),O 2]) b7 Z (Qb (Qd Z Z) (Qb (Qd Z Z) Qg)) fun _ _ b8=>?_
  refine Qa ae fun _ cc ae=>G ?_
  refine Qn (E:=(Qc .i64)) (ys:=[IntKind.i64.wrap (ad.Duration+2),2]) b8.f5 S22.h Z3 Z (by decide) Z Z Z Z ⟨[_],_,Z,Z,[_],_,Z,Z,Z⟩ Z cc fun aA _ au=>?_
  refine G ?_
  refine Qu (ds:=[aA]) (es:=[O ((a.Vars.length:Int)),Vn,Vn,O 0,aA]) au.f4 A22.h Z Z Z (Qs ((au.f4).f1).arr_one) (Zj ((au.f4).f1).arr_one QM) (Xc Z) Z ?_
  intro _ b9
  have c1:=Zu ae
  subst co
  refine G ?_
  exact ⟨cp,aA,bW,(((((b9.f2).drop).f1).f1).f3).f3,(Fx.mk (FxL.cons (Jo bU (Ga.le rq)) fxl))⟩
 rintro _ _ ⟨cq,ap,_,bA,_,rfl⟩
 refine Qa hm fun cw bv hm=>G ?_
 refine QO (fun k' s' f' w'=>(un3 fun (ai aj ab:List Int)=>∃aY n b ag,Gc.le cq aY∧St w0 aY (Res.box l 26 [u,x,z,p]::Res.box m 94 [O 0,Vn,Vn,O 0,Vn]::Res.box d 94 [O ((a.Vars.length:Int)),n,b,O 0,ag]::Res.arr (Qc .i64) 3 n ai::Res.arr (Qc .i64) 3 b aj::Res.arr (Qc .i64) 3 ag ab::H) w'∧Fx f' [(35,O (k':Int)),(1,Vq l),(2,Vq m),(3,Vq d),(34,O ((a.Vars.length:Int)))]) s') bv ?_ ?_ ?_
 ·have bB:=bA.nilArr (Qc .i64) 3
  have c6:=bB.nilArr (Qc .i64) 3
  exact fq
 ·intro am cx cr _ _ bV bx i
  obtain ⟨ai,aj,ab⟩:=cx
  replace i:=QlX i
  obtain ⟨_,n,b,ag,_,bC,_,rfl⟩:=bx
  refine G ?_
  refine DT (cs:=[O 0]) bC Z3 Z Z fun _ _ _=>?_
  refine G ?_
  refine Xst Z Z Z fun _ bD=>?_
  refine G ?_
  obtain ⟨_,_,bE,aU⟩:=St.freezeVar (E:=(Qc .i64)) (y:=(am:Int)) bD rfl
  refine G ?_
  refine DZ Z (Zi Z Jh) (Qa i fun _ cd i=>G ?_)
  refine Tc Z Z Z (Zi Z (Zi Z Jh)) (Qb0 cd bE rq aU).r ?_
  rintro _ _ ⟨ct,bX,aK,rfl⟩
  refine Qa i fun bd j i=>g ?_
  refine QL (M:=fun f' w'=>(un3 fun (ac t:Int) (a6:List Int)=>∃aZ o,Gc.le ct aZ∧St w0 aZ (Res.box l 26 [u,x,z,p]::Res.box m 94 [O 0,Vn,Vn,O 0,Vn]::Res.box d 94 [O ((a.Vars.length:Int)),n,b,O 0,o]::Res.arr (Qc .i64) 3 n ai::Res.arr (Qc .i64) 3 b aj::Res.arr (Qc .i64) 3 o a6::H) w'∧Fx f' [(1,Vq l),(2,Vq m),(3,Vq d),(7,O ac),(8,O t),(34,O ((a.Vars.length:Int))),(35,O ((am:Int)))]) bd) ?_ ?_
  ·refine Qd4 j (fun a4 j=>?_) fun a4 j=>?_
   ·refine G ?_
    refine QK (aK.f5) S22.h Z Z (G ?_)
    refine Qt (Te:=3) (cs:=[O 2]) aK Z (Qb (Qd Z Z) Qg) fun _ _ bF=>?_
    refine Qa j fun _ ce j=>G ?_
    refine Qn (E:=(Qc .i64)) (ys:=[2]) bF.f6 S22.h Z3 Z (by decide) Z Z Z Z ⟨[_],_,Z,Z,Z⟩ Z ce fun bn _ av=>?_
    refine G ?_
    refine Qu (ds:=[bn]) (es:=[O ((a.Vars.length:Int)),n,b,O 0,bn]) av.f3 A22.h Z Z Z (Qs ((av.f3).f1).arr_one) (Zj ((av.f3).f1).arr_one QM) (Xc Z) Z fun _ bG=>?_
    refine G ?_
    refine DZ Z (Zi Z Jh) (Qa j fun _ cf j=>G ?_)
    refine Tc Z Z Z (Zi Z (Zi Z Jh)) (Qbz cf bG (bs.mono lq) (aU.mono bX)).r ?_
    rintro _ _ ⟨ba,_,aL,rfl⟩
    refine Qa j fun an aa j=>g ?_
    refine QL (M:=fun f' w'=>(J5 fun (aV:Int) (aS:List Int)=>∃bb aB,Gc.le ba bb∧St w0 bb (Res.box l 26 [u,x,z,p]::Res.box m 94 [O 0,Vn,Vn,O 0,Vn]::Res.box d 94 [O ((a.Vars.length:Int)),n,b,O 0,aB]::Res.arr (Qc .i64) 3 n ai::Res.arr (Qc .i64) 3 b aj::Res.arr (Qc .i64) 3 aB aS::H) w'∧Fx f' [(1,Vq l),(2,Vq m),(3,Vq d),(7,O ((ab.length:Int))),(8,O aV),(34,O ((a.Vars.length:Int))),(35,O ((am:Int)))]) an) ?_ ?_
    ·refine Qe aa (fun bT aa=>?_) fun bT aa=>?_
     ·refine G ?_
      refine QK (aL.f1) S22.h Z Z (G ?_)
      refine Qt (Te:=3) (cs:=[O 2]) aL Z (Qb (Qd Z Z) Qg) fun _ _ bH=>?_
      refine Qa aa fun _ cg aa=>G ?_
      refine Qn (E:=(Qc .i64)) (ys:=[2]) bH.f2 S22.h Z3 Z (by decide) Z Z Z Z ⟨[_],_,Z,Z,Z⟩ Z cg fun aC _ aw=>?_
      refine G ?_
      refine Qu (ds:=[aC]) (es:=[O ((a.Vars.length:Int)),n,b,O 0,aC]) aw.f1 A22.h Z Z Z (Qs ((aw.f1).f1).arr_one) (Zj ((aw.f1).f1).arr_one QM) (Xc Z) Z ?_
      intro _ bI
      have c2:=Zu aa
      subst an
      refine G ?_
      exact ⟨ba,aC,(Zv _),(((((bI.f1).f5).f5).f3).f5).f5,(Fx.mk)⟩
     have c3:=Zu aa
     subst an
     refine G ?_
     exact fq
    intro _ _ b0
    obtain ⟨aV,aS⟩:=an
    replace j:=QC j
    obtain ⟨_,aB,_,_,_,rfl⟩:=b0
    cases j
    refine G ?_
    exact fq
   replace a4:=Zk a4
   cases j
   refine G ?_
   exact fq
  intro _ _ b1
  obtain ⟨ac,t,a6⟩:=bd
  replace i:=QlX i
  obtain ⟨cu,o,_,al,_,rfl⟩:=b1
  refine Qa i fun bY a7 i=>Qa i fun bZ a8 i=>g ?_
  refine QL (M:=fun f' w'=>∃bc aq ar,Gc.le cu bc∧St w0 bc (Res.box l 26 [u,x,z,p]::Res.box m 94 [O 0,Vn,Vn,O 0,Vn]::Res.box d 94 [O ((a.Vars.length:Int)),aq,ar,O 0,o]::Res.arr (Qc .i64) 3 aq bY::Res.arr (Qc .i64) 3 ar bZ::Res.arr (Qc .i64) 3 o a6::H) w'∧Fx f' [(1,Vq l),(2,Vq m),(3,Vq d),(34,O ((a.Vars.length:Int))),(35,O ((am:Int)))]) ?_ ?_
  ·refine QT (n0:=12) (qs 0 3 (qs 5 3 (.alt (.e 3 [0,1,5,6,7] (.alt (.e 4 [5,6,7] (.q 10 (.e 8 [5,6,10] (.e 9 [10] (.e 11 [] .done))))) (.e 8 [0,1,5,6] (.e 4 [5,6] (.q 10 (.e 9 [10] (.e 11 [] .done))))))) (.e 8 [0,1,2,5,6] (.e 3 [0,1,5,6] (.e 4 [5,6] (.q 10 (.e 9 [10] (.e 11 [] .done))))))))) JQ (G ?_)
   refine Zn ((al.drew).f2) A22.h Z Z Z ⟨Z,G ?_⟩
   refine Zn ((al.drew).f2) A22.h Z Z Z ⟨Z,G ?_⟩
   refine Qb5 ?_ ?_
   ·refine G ?_
    refine Qt (Te:=3) (cs:=[O ac]) al.drew Z (Qb (Qd Z Z) Qg) fun _ _ aM=>?_
    refine ⟨Yd,Qb5 ?_ ?_⟩
    ·have bJ:=aM.f4
     refine G ?_
     refine Qn (E:=(Qc .i64)) (ys:=[ac]) bJ S22.h Z3 Z (by decide) Z Z Z Z ⟨[_],_,Z,Z,Z⟩ Z a7 fun aD _ bK=>?_
     refine ⟨Yd,G ?_⟩
     refine Qt (Te:=3) (cs:=[O t]) bK Z (Qb (Qd Z Z) Qg) fun _ _ aN=>?_
     refine ⟨(Qm (Q8 Z Z (Zp F94_2.h Z Z Z ⟨Z,Z⟩)) (Qm (Q8 Z Z (Zn (aN.f4) A22.h Z Z Z ⟨Z,Z⟩)) (Qm (Q8 Z Z (Zp F94_1.h Z Z Z ⟨Z,Z⟩)) K7))),G ?_⟩
     refine Qn (E:=(Qc .i64)) (ys:=[t]) aN.f5 S22.h Z3 Z (by decide) Z Z Z Z ⟨[_],_,Z,Z,Z⟩ Z a8 fun bo _ ax=>?_
     refine ⟨(Qm (Q8 Z Z (Zp F94_1.h Z Z Z ⟨Z,Z⟩)) K7),G ?_⟩
     refine Qu (ds:=[aD]) (es:=[O ((a.Vars.length:Int)),aD,b,O 0,o]) ax.f4 A22.h Z Z Z (Qs ((ax.f4).f2).arr_one) (Zj ((ax.f4).f2).arr_one QM) (Xc Z) Z fun _ ay=>?_
     refine ⟨K7,G ?_⟩
     refine Qu (ds:=[bo]) (es:=[O ((a.Vars.length:Int)),aD,bo,O 0,o]) ay A22.h Z Z Z (Qs (ay.f1).arr_one) (Zj (ay.f1).arr_one QM) (Xc Z) Z fun _ _=>?_
     refine G ?_
     exact fq
    refine G ?_
    refine Qt (Te:=3) (cs:=[O t]) aM Z (Qb (Qd Z Z) Qg) fun _ _ bL=>?_
    refine ⟨Yd,G ?_⟩
    refine Qn (E:=(Qc .i64)) (ys:=[ac]) (bL.f1).f5 S22.h Z3 Z (by decide) Z Z Z Z ⟨[_],_,Z,Z,Z⟩ Z a7 fun aE _ aO=>?_
    refine ⟨(Qm (Q8 Z Z (Zp F94_2.h Z Z Z ⟨Z,Z⟩)) (Qm (Q8 Z Z (Zn (aO.f4) A22.h Z Z Z ⟨Z,Z⟩)) K7)),G ?_⟩
    refine Qn (E:=(Qc .i64)) (ys:=[t]) (aO.f1).f5 S22.h Z3 Z (by decide) Z Z Z Z ⟨[_],_,Z,Z,Z⟩ Z a8 fun bp _ az=>?_
    refine ⟨(Qm (Q8 Z Z (Zp F94_1.h Z Z Z ⟨Z,Z⟩)) K7),G ?_⟩
    refine Qu (ds:=[aE]) (es:=[O ((a.Vars.length:Int)),aE,b,O 0,o]) az.f4 A22.h Z Z Z (Qs ((az.f4).f2).arr_one) (Zj ((az.f4).f2).arr_one QM) (Xc Z) Z fun _ a0=>?_
    refine ⟨K7,G ?_⟩
    refine Qu (ds:=[bp]) (es:=[O ((a.Vars.length:Int)),aE,bp,O 0,o]) a0 A22.h Z Z Z (Qs (a0.f1).arr_one) (Zj (a0.f1).arr_one QM) (Xc Z) Z fun _ _=>?_
    refine G ?_
    exact fq
   refine G ?_
   refine Qt (Te:=3) (cs:=[O t]) al.drew Z (Qb (Qd Z Z) Qg) fun _ _ bM=>?_
   refine ⟨Yd,G ?_⟩
   refine Qt (Te:=3) (cs:=[O ac]) bM Z (Qb (Qd Z Z) Qg) fun _ _ bN=>?_
   refine ⟨Yd,G ?_⟩
   refine Qn (E:=(Qc .i64)) (ys:=[ac]) bN.f5 S22.h Z3 Z (by decide) Z Z Z Z ⟨[_],_,Z,Z,Z⟩ Z a7 fun aF _ aP=>?_
   refine ⟨(Qm (Q8 Z Z (Zp F94_2.h Z Z Z ⟨Z,Z⟩)) (Qm (Q8 Z Z (Zn (aP.f4) A22.h Z Z Z ⟨Z,Z⟩)) K7)),G ?_⟩
   refine Qn (E:=(Qc .i64)) (ys:=[t]) (aP.f1).f5 S22.h Z3 Z (by decide) Z Z Z Z ⟨[_],_,Z,Z,Z⟩ Z a8 fun bq _ a1=>?_
   refine ⟨(Qm (Q8 Z Z (Zp F94_1.h Z Z Z ⟨Z,Z⟩)) K7),G ?_⟩
   refine Qu (ds:=[aF]) (es:=[O ((a.Vars.length:Int)),aF,b,O 0,o]) a1.f4 A22.h Z Z Z (Qs ((a1.f4).f2).arr_one) (Zj ((a1.f4).f2).arr_one QM) (Xc Z) Z fun _ a2=>?_
   refine ⟨K7,G ?_⟩
   refine Qu (ds:=[bq]) (es:=[O ((a.Vars.length:Int)),aF,bq,O 0,o]) a2 A22.h Z Z Z (Qs (a2.f1).arr_one) (Zj (a2.f1).arr_one QM) (Xc Z) Z fun _ _=>?_
   refine G ?_
   exact fq
  rintro _ _ ⟨cv,aq,ar,_,bO,_,rfl⟩
  have c4:=Zu i
  subst cr
  refine G ?_
  exact ⟨cv,aq,ar,o,lq,(((((bO.f5).f5).f5).f5).f5).f5,(Fx.mk (FxL.cons (Jo bV (Ga.le rq)) fxl))⟩
 intro _ _ bz
 obtain ⟨ai,aj,ab⟩:=cw
 replace hm:=QlX hm
 obtain ⟨_,n,b,ag,_,aQ,_,rfl⟩:=bz
 refine G ?_
 refine QK (aQ.f5) S22.h Z Z (G ?_)
 refine Qu (ds:=[O ((ab.length:Int))]) (es:=[O ((a.Vars.length:Int)),n,b,O ((ab.length:Int)),ag]) aQ.f2 A3.h Z Z Z Z (Zj Z QM) (Xc Z) Z fun _ bP=>?_
 refine G ?_
 refine Qt (Te:=3) (cs:=[O (IntKind.i64.wrap ((a.Jobs.length:Int)+2))]) bP Z (Qb (Qd Z Z) Qg) fun _ _ bQ=>?_
 refine Qa hm fun _ ch hm=>G ?_
 refine Qn (E:=(Qc .i64)) (ys:=[IntKind.i64.wrap ((a.Jobs.length:Int)+2)]) bQ.f6 S22.h Z3 Z (by decide) Z Z Z Z ⟨[_],_,Z,Z,Z⟩ Z ch fun br _ a3=>?_
 refine G ?_
 refine Qu (ds:=[br]) (es:=[O ((a.Vars.length:Int)),n,b,O ((ab.length:Int)),br]) a3.f1 A22.h Z Z Z (Qs ((a3.f1).f1).arr_one) (Zj ((a3.f1).f1).arr_one QM) (Xc Z) Z fun _ _=>?_
 refine G ?_
 refine Xst Z Z Z ?_
 intro _ aR
 cases hm
 refine G ?_
 refine ⟨_,Qls Z ⟨_,_,Z,Qdn (aR) A94.h⟩,?_⟩
 obtain ⟨_,_,bR,_⟩:=aR.f4.freezeArr
 obtain ⟨_,_,bS,_⟩:=bR.f4.freezeArr
 obtain ⟨_,_,_,_⟩:=bS.f2.freezeArr
 exact fq
theorem QbH {b:(List Gj)} {g:Value} {r:(List Gj)} (hm:Ju b=some r) (hS:St w0 s (H) w) (c:Ga Gd s g b) :
  Cs Tryz.prog 35 #[g] w r fun v w'=>fun (q:List Gj)=>∃f i,Gc.le s f∧St w0 f (Res.arr Gd 82 i q::H) w'∧v=i:=by
 unfold Ju at hm
 refine Qh Tryz.func35 Z Z ?_
 obtain ⟨j,_,_,k,n⟩:=c.nilShape
 refine G ?_
 refine Qa7 Tryz.underlying23 Z k Z (G ?_)
 rcases tf (j.isNone) with a |a
 ·have o:=n a
  replace hm:=(show (some [])=((app 16 [] b).bind fun d=>some d) from by simp [o,app]).trans hm
  refine QbR ((Zx a)) ?_
  cases hm
  refine G ?_
  refine ⟨_,Qd0 Z,?_⟩
  have t:=hS.nilArr Gd 82
  exact fq
 refine QaT ((Zx a)) (G ?_)
 refine Qt (Te:=82) (cs:=[]) hS Z Qg fun _ _ l=>?_
 refine G ?_
 have m:=St.boxArr (E:=Gd) (xs:=[]) l rfl (by simp [maxLen])
 refine Qa hm fun d p hm=>G ?_
 refine JH (E:=Gd) (ys:=b) m S23.h Z82 Z (by decide) Z Z Z c p ?_
 intro _ _ _
 cases hm
 refine G ?_
 exact fr
instance A49:ATy Tryz.prog 49 true 4:=⟨by kernel_rfl⟩
instance F49_1:FTy Tryz.prog 49 1 1:=⟨by kernel_rfl⟩
instance F94_0:FTy Tryz.prog 94 0 0:=⟨by kernel_rfl⟩
theorem Jx {a:Gl} {b:Int} {d f g:Value} {r:Int} (hm:YC a b=some r) (hS:St w0 s (H) w) (i:Ga (Qc .i64) s d a.write) (j:Ga (Qc .i64) s f a.read) (k:Ga (Qc .i64) s g a.vars) :
  Cv Tryz.prog 36 #[Value.agg #[O (a.jobs),d,f,O (a.phase),g],O b] w0 w s H r fun h=>O h:=by
 unfold YC at hm
 refine Qh Tryz.func36 Z Z (G ?_)
 refine JV Z Z ?_
 intro _ _ _
 cases hm
 refine G ?_
 exact fr
theorem Qav {a:Gl} {b:Int} {d f g:Value} {r:Int} (hm:YR a b=some r) (hS:St w0 s (H) w) (i:Ga (Qc .i64) s d a.write) (j:Ga (Qc .i64) s f a.read) (k:Ga (Qc .i64) s g a.vars) :
  Cv Tryz.prog 37 #[Value.agg #[O (a.jobs),d,f,O (a.phase),g],O b] w0 w s H r fun h=>O h:=by
 unfold YR at hm
 refine Qh Tryz.func37 Z Z (G ?_)
 refine JV Z Z ?_
 intro _ _ _
 cases hm
 refine G ?_
 exact fr
instance F49_3:FTy Tryz.prog 49 3 3:=⟨by kernel_rfl⟩
instance A47:ATy Tryz.prog 47 false 1:=⟨by kernel_rfl⟩
theorem Z99:JW Tryz.prog 99=some (Value.agg #[Value.string ⟨#[]⟩,O 0,Value.slice none 0 0,Value.slice none 0 0]):=by kernel_rfl
end Go.Pw
