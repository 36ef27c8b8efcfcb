/- -/
import Derived.Test.YtalfjlihddgooaaGreatDoorBa
import Derived.Test.YtalfjlihddgooaaGreatDoorW2
import Derived.Test.YtalfjlihddgooaaGreatDoorWlP
import Derived.Test.YtalfjlihddgooaaGreatDoorLH
import Derived.Test.YtalfjlihddgooaaGreatDoorLD
import Derived.Test.YtalfjlihddgooaaGreatDoorLC
set_option linter.unusedSimpArgs false
set_option linter.unusedVariables false
namespace Go.Pw
open Go.Proofs Go.Shelf Go.RowKit Go.Lib Go.Sort
def QaC (x:Launch):List Value:=[.int .i64 x.At, .int .i64 x.Job]
instance inhLn:Inhabited Launch:=⟨⟨0,0⟩⟩
theorem Qgx (s:Gc) (cs:List Value) (x:Launch):Gg.rep s cs x↔cs=QaC x:=by
 simp only [Gg,Enc.iso,Enc.pair,Qc,Y8,QaC]
 constructor
 ·rintro ⟨_,_,rfl,rfl,rfl⟩;rfl
 ·rintro rfl;exact ⟨[_],[_],rfl,rfl,rfl⟩
theorem Ql1 {w0 w:World} {s:Gc} {H:List Res} {xs:List Launch} {v:Value} {g:Nat} (eg:∀args w,(callFunc g args).run Tryz.prog w= .ok (.enter g args) w)
  (hg:∀(W:World) (x y:Launch),Calls Tryz.prog g #[.agg (QaC x).toArray, .agg (QaC y).toArray] W fun e w'=>∃v,e= .returned v∧∃s',Gc.le (σH W) s'∧St W s' [] w'∧v= .int .i64 (Qf6 x y))
  (hlen:xs.length<4611686018427387904) (hS:St w0 s (Res.arr Gg 43 v xs::H) w) :
  Calls Tryz.prog 54 #[v,Value.func (.func g) #[] #[]] w fun e w'=>e= .returned (.tuple #[])∧St w0 s (Res.arr Gg 43 v (xs.mergeSort fun x y=>!decide (Qf6 y x<0))::H) w':=by
 have key:∀x y:Launch,ltOf Qf6 x y=decide (Qf6 x y<0):=fun _ _=>rfl
 exact Qnu (P:=Tryz.prog) (ρ:=Ql9) (E:=Gg) (enc:=QaC) (k:=2) QxH (fun _=>by exact Tryz.isAgg43 _) (fun _=>by exact Tryz.sizeOf43 _) (by decide) (fun _=>rfl)
   (fun x v hv=>by simp [QaC] at hv;rcases hv with rfl |rfl <;> rfl) Qgx rfl Qf6
   ⟨fun x=>by rw [key];simp [Qd6],fun x y z h1 h2=>by rw [key] at *;simp only [Xz,Qd6] at *;omega,fun x y z h1 h2=>by rw [key] at *;simp only [Xx,Qd6] at *;omega⟩
   g eg hg
   (fun x y h1 h2=>by
    rw [key] at *
    simp only [Xx,Qd6] at *
    obtain ⟨a,b⟩:=x
    obtain ⟨c,d⟩:=y
    simp only [Launch.mk.injEq] at *
    omega) hlen hS
theorem QkM {w0 w:World} {s:Gc} {H:List Res} {xs:List Launch} {v:Value} {r:List Launch} (hm:Qdq xs=some r) (hS:St w0 s (Res.arr Gg 43 v xs::H) w) :
  Calls Tryz.prog 54 #[v,Value.func (.func 55) #[] #[]] w fun e w'=>∃u,e= .returned u∧((fun (l:List Launch)=>∃(s':Gc),Gc.le s s'∧St w0 s' (Res.arr Gg 43 v l::H) w'∧u=Value.tuple #[]) r):=by
 unfold Qdq at hm
 split at hm
 ·rename_i hlen
  cases hm
  refine (Ql1 (enters_of Tryz.func55 (by kernel_rfl) Z) (fun W x y=>Qgg (QpH x y) (St.start W)) hlen hS).mono ?_
  rintro e w' ⟨rfl,hS'⟩
  exact ⟨_,Z,s,Zv _,hS',Z⟩
 ·cases hm
end Go.Pw
/- -/
set_option maxRecDepth 100000
set_option maxHeartbeats 4000000
namespace Go.Pw
open Go.Proofs
variable {w0 w:World} {s:Gc} {H:List Res}
attribute [local irreducible] Exec WL W andThen QaB DL Jm
instance F128_2:FTy Tryz.prog 128 2 5:=⟨by kernel_rfl⟩
instance A126:ATy Tryz.prog 126 false 1:=⟨by kernel_rfl⟩
theorem Ka {a r:Int} (hm:Qbq a=some r) (hS:St w0 s (H) w) :
  Cv Tryz.prog 31 #[O a] w0 w s H r fun c=>O c:=by
 unfold Qbq at hm
 refine Qh Tryz.func31 Z Z ?_
 cases hm
 refine G ?_
 exact fr
instance S126:STy Tryz.prog 126 134 4 32:=⟨by kernel_rfl⟩
theorem Qwm:JW Tryz.prog 134=some (Value.agg #[O 0,O 0,O 0,Value.bool false]):=by kernel_rfl
instance F128_3:FTy Tryz.prog 128 3 6:=⟨by kernel_rfl⟩
theorem YF {a r:Int} (hm:Qcq a=some r) (hS:St w0 s (H) w) :
  Cv Tryz.prog 29 #[O a] w0 w s H r fun c=>O c:=by
 unfold Qcq at hm
 refine Qh Tryz.func29 Z Z ?_
 cases hm
 refine G ?_
 exact fr
theorem Qed {u:Ge} {aw:(List Launch)} {d g i j ay:Value} {r:Gx×(Option Int)} (hm:YW u aw=some r) (hS:St w0 s (H) w) (a6:Ga (Qc .i64) s d u.Vars) (a7:Ga (Qc .i64) s g u.Init) (a8:Ga Gd s i u.Goal) (al:Ga Gw s j u.Jobs) (a9:Ga Gg s ay aw) :
  Cs Tryz.prog 19 #[Value.agg #[d,g,i,j],ay] w r fun v w'=>J5 fun (n:Gx) (bj:Option Int)=>∃p az a0 a1 a2 an a3 a4 a5,Gc.le s p∧St w0 p (Res.box an 128 [az,a0,a1,a2,a3,a4,a5]::Res.arr Gg 43 a3 n.launches::Res.arr Gb 134 a4 n.starts::Res.arr Gb 134 a5 n.ends::H) w'∧v=Value.tuple #[Value.pointer (some ⟨an,0,none⟩),K8 63 (bj)]∧Ga (Qc .i64) p az n.t.Vars∧Ga (Qc .i64) p a0 n.t.Init∧Ga Gd p a1 n.t.Goal∧Ga Gw p a2 n.t.Jobs:=by
 unfold YW at hm
 refine Qh Tryz.func19 Z Z (G ?_)
 refine JV Z Z fun ao _ aE=>?_
 refine Qa hm fun bf aV hm=>?_
 obtain ⟨_,_⟩:=bf
 replace hm:=QC hm
 refine G ?_
 refine Tc Z Z Z Z (Km aV aE a6 a7 a8 al a9).r ?_
 rintro _ _ ⟨_,aP,aq,rfl⟩
 refine G ?_
 refine Qv (T:=63) Tryz.underlying30 Z Z Z (G ?_)
 refine Qe hm (fun aM hm=>?_) fun aM hm=>?_
 ·refine G ?_
  cases hm
 refine G ?_
 refine Qe hm (fun aN hm=>?_) fun aN hm=>?_
 ·refine G ?_
  cases hm
 refine G ?_
 refine QT (n0:=5) (.q 0 (.q 1 (.e 2 [0] (.q 3 (.e 4 [] .done))))) JQ (G ?_)
 refine Q4 (ds:=[d,g,i,j]) (aq.drew) A26.h Z Z Z ⟨Z,Qa hm fun _ aW hm=>G ?_⟩
 refine Tc Z Z Z Z (QdG aW aq.drew rq).r ?_
 rintro m _ ⟨_,_,aQ,ar,rfl⟩
 refine ⟨Yd,G ?_⟩
 refine Q2 Z (Qb (Qd Z Z) (Qb (c:=[m]) (Qd Z (Qs ar.arr_one)) Qg)) (v:=Value.agg #[d,g,i,j,m,Vn,Vn]) ⟨Z,G ?_⟩
 refine DR (cs:=[d,g,i,j,m,Vn,Vn]) ar Z Z Z fun y _ aF=>?_
 refine ⟨Yd,Qa hm fun av aX hm=>G ?_⟩
 refine Tc Z Z Z Z (QkM aX aF.f1).r ?_
 rintro _ _ ⟨bd,aR,ae,rfl⟩
 refine G ?_
 refine QK (ae) S27.h Z Z (Qa hm fun bg aB hm=>G ?_)
 refine QO (fun k' s' f' w'=>(J5 fun (aj ak:List Gq)=>∃ax ab x,Gc.le bd ax∧St w0 ax (Res.box ao 26 [d,g,i,j]::Res.box y 128 [d,g,i,j,m,ab,x]::Res.arr Gg 43 m av::Res.arr Gb 134 ab aj::Res.arr Gb 134 x ak::H) w'∧Fx f' [(39,O (k':Int)),(2,Vq ao),(8,Vq y),(37,m),(38,O ((av.length:Int)))]) s') aB ?_ ?_ ?_
 ·have aG:=ae.nilArr Gb 134
  have bk:=aG.nilArr Gb 134
  exact fq
 ·intro l bh _ _ _ aO aC b
  obtain ⟨aj,ak⟩:=bh
  replace b:=QC b
  obtain ⟨_,ab,x,aS,af,_,rfl⟩:=aC
  refine Qa b fun a aa b=>?_
  obtain ⟨_,_,ap⟩:=(af.f2).arr_at aa
  refine G ?_
  refine Qi S27.h Z ap Z (Qj aa).1 (Qj aa).2.1 (G ?_)
  refine Qw (F:=Gg) (af.f2) ap A43.h Z Z Z aa (Sub.refl _) ?_
  intro _ aY
  obtain rfl:=QH.1 aY
  refine G ?_
  refine DT (cs:=[O 0,O 0]) af Z43 Z Z fun _ _ _=>?_
  refine G ?_
  refine Xst Z Z Z fun _ z=>?_
  refine G ?_
  refine QT (n0:=14) (qs 0 6 (qs 7 4 (.e 6 [0,1,2,3,4,7,8,9,10] (.q 11 (.e 12 [0,1,2,3,4] (.e 13 [0] .done)))))) JQ (G ?_)
  refine Zn ((z.drew).f2) A126.h Z Z Z ⟨Z,G ?_⟩
  refine Zn (z.drew) A3.h Z Z Z ⟨Z,G ?_⟩
  refine Zn (z.drew) A3.h Z Z Z ⟨Z,G ?_⟩
  refine Tc Z Z Z Z (Ka (JZ (l:Int)) z.drew).r ?_
  rintro _ _ ⟨_,aT,aH,rfl⟩
  refine ⟨Yd,G ?_⟩
  refine Q2 Z (Qb (Qd Z Z) (Qb (Qd Z Z) (Qb (Qd Z Z) (Qb (Qd Z Z) Qg)))) (v:=Value.agg #[O ((Qr (l:Int))),O (a.At),O (a.Job),Vb false]) ⟨Z,G ?_⟩
  refine Qt (Te:=134) (cs:=[O ((Qr (l:Int))),O (a.At),O (a.Job),Vb false]) aH Z (Qb (Qd Z Z) Qg) fun _ _ aI=>?_
  refine ⟨Yd,Qa b fun _ aZ b=>G ?_⟩
  refine Qn (E:=Gb) (ys:=[(⟨(Qr (l:Int)),a.At,a.Job,false⟩:Gq)]) aI.f5 S126.h Qwm Z (by decide) Z Z Z Z ⟨[_,_,_,_],_,Z,⟨[_],_,Z,Z,[_],_,Z,Z,[_],_,Z,Z,Z⟩,Z⟩ Z aZ fun ac _ ag=>?_
  refine ⟨Yd,G ?_⟩
  refine Qu (ds:=[ac]) (es:=[d,g,i,j,m,ac,x]) ag.f3 A126.h Z Z Z (Qs ((ag.f3).f1).arr_one) (Zj ((ag.f3).f1).arr_one QM) (Xc Z) Z fun _ aJ=>?_
  refine G ?_
  refine QT (n0:=22) (qs 0 6 (qs 7 12 (.e 6 [0,1,2,3,4,7,8,9,10,11,12,13,14,15,16,17,18] (.q 19 (.e 20 [0,1,2,3,4] (.e 21 [0] .done)))))) JQ ?_
  have au:=aJ.drew
  refine Qa b fun ad ba b=>G ?_
  refine Qy S24.h Z Z Z (al.mono (Zt (Zt (Zt (Zt aP aQ) aR) aS) aT)) ba fun _ _ am aA=>?_
  refine ⟨Z,G ?_⟩
  refine Zw (E:=(Qc .i64)) au A3.h Z Z Z (am.sub (Sub.iso (Sub.snd (Sub.fst (Sub.refl _)) Z)) Z) ?_
  intro bi bb
  obtain rfl:bi=O (ad.Duration):=Qo.1 bb
  refine ⟨Z,G ?_⟩
  refine Tc Z Z Z Z (YF (YE (l:Int)) au).r ?_
  rintro _ _ ⟨be,aU,o,rfl⟩
  refine ⟨(Qm (Q8 Z Z (Zm (v:=Vq y) Z Z ⟨Z,Z⟩)) (Qm (Q8 Z Z (Zm (v:=Vq y) Z Z ⟨Z,Z⟩)) (Qm (Q8 Z Z (Jt Z Z ⟨Z,Z⟩)) (Qm (Q8 Z Z (Zp F128_3.h Z Z Z ⟨Z,Z⟩)) (Qm (Q8 Z Z (Zn (o) A126.h Z Z Z ⟨Z,Z⟩)) (Qm (Q8 Z Z (Zp F43_0.h Z Z Z ⟨Z,Z⟩)) (Qm (Q8 Z Z (Zn (o.f2) A3.h Z Z Z ⟨Z,Z⟩)) (Qm (Q8 Z Z (Zp F26_3.h Z Z Z ⟨Z,Z⟩)) (Qm (Q8 Z Z (Zn (o.f3) A24.h Z Z Z ⟨Z,Z⟩)) (Qm (Q8 Z Z (Zp F43_1.h Z Z Z ⟨Z,Z⟩)) (Qm (Q8 Z Z (Zn (o.f2) A3.h Z Z Z ⟨Z,Z⟩)) (Qm (Q8 Z Z (Yk Z Z Z aA ⟨Z,Z⟩)) (Qm (Q8 Z Z (Zp F85_1.h Z Z Z ⟨Z,Z⟩)) (Qm (Q8 Z Z (Zw (E:=(Qc .i64)) o A3.h Z Z Z ((am.sub (Sub.iso (Sub.snd (Sub.fst (Sub.refl _)) Z)) Z).mono aU) (fun _ q=>⟨Z,Qo.1 q⟩))) (Qm (Q8 Z Z (DG Z Z Z ⟨Z,Z⟩)) (Qm (Q8 Z Z (Zp F43_1.h Z Z Z ⟨Z,Z⟩)) (Qm (Q8 Z Z (Zn (o.f2) A3.h Z Z Z ⟨Z,Z⟩)) K7))))))))))))))))),G ?_⟩
  refine Q2 Z (Qb (Qd Z Z) (Qb (Qd Z Z) (Qb (Qd Z Z) (Qb (Qd Z Z) Qg)))) (v:=Value.agg #[O ((Q0 (l:Int))),O (IntKind.i64.wrap (a.At+ad.Duration)),O (a.Job),Vb true]) ⟨Z,G ?_⟩
  refine Qt (Te:=134) (cs:=[O ((Q0 (l:Int))),O (IntKind.i64.wrap (a.At+ad.Duration)),O (a.Job),Vb true]) o Z (Qb (Qd Z Z) Qg) fun _ _ aK=>?_
  refine ⟨Yd,Qa b fun _ bc b=>G ?_⟩
  refine Qn (E:=Gb) (ys:=[(⟨(Q0 (l:Int)),IntKind.i64.wrap (a.At+ad.Duration),a.Job,true⟩:Gq)]) aK.f6 S126.h Qwm Z (by decide) Z Z Z Z ⟨[_,_,_,_],_,Z,⟨[_],_,Z,Z,[_],_,Z,Z,[_],_,Z,Z,Z⟩,Z⟩ Z bc fun ai _ ah=>?_
  refine ⟨Yd,G ?_⟩
  refine Qu (ds:=[ai]) (es:=[d,g,i,j,m,ac,ai]) ah.f1 A126.h Z Z Z (Qs ((ah.f1).f1).arr_one) (Zj ((ah.f1).f1).arr_one QM) (Xc Z) Z ?_
  intro _ aL
  cases b
  refine G ?_
  exact ⟨be,ac,ai,lq,((((((aL.f3).drop).f1).f2).f4).f3).f4,(Fx.mk (FxL.cons (Jo aO ae.arr_le) fxl))⟩
 intro _ _ aD
 obtain ⟨aj,ak⟩:=bg
 replace hm:=QC hm
 obtain ⟨_,ab,x,_,_,_,rfl⟩:=aD
 cases hm
 refine G ?_
 exact ⟨_,Qcw Z,fq⟩
instance A134:ATy Tryz.prog 134 true 4:=⟨by kernel_rfl⟩
instance S298:STy Tryz.prog 298 297 8 64:=⟨by kernel_rfl⟩
instance A297:ATy Tryz.prog 297 true 8:=⟨by kernel_rfl⟩
theorem Qy3:JW Tryz.prog 297=some (Value.agg #[O 0,O 0,O 0,Value.bool false,O 0,O 0,O 0,Value.bool false]):=by kernel_rfl
instance F128_0:FTy Tryz.prog 128 0 0:=⟨by kernel_rfl⟩
instance F134_2:FTy Tryz.prog 134 2 2:=⟨by kernel_rfl⟩
instance F134_3:FTy Tryz.prog 134 3 3:=⟨by kernel_rfl⟩
theorem Qfj {b:Ge} {a c:Int} {d g:Bool} {h i j k:Value} {r:Bool×(Option Int)} (hm:Kb b a c d g=some r) (hS:St w0 s (H) w) (p:Ga (Qc .i64) s h b.Vars) (q:Ga (Qc .i64) s i b.Init) (t:Ga Gd s j b.Goal) (u:Ga Gw s k b.Jobs) :
  Cs Tryz.prog 178 #[Value.agg #[h,i,j,k],O a,O c,Value.bool (d),Value.bool (g)] w r fun v w'=>J5 fun (ag:Bool) (ah:Option Int)=>∃n,Gc.le s n∧St w0 n (H) w'∧v=Value.tuple #[Value.bool (ag),K8 63 (ah)]:=by
 unfold Kb at hm
 refine Qh Tryz.func178 Z Z (G ?_)
 refine JV Z Z fun l _ x=>?_
 refine Qa hm fun _ ad hm=>G ?_
 refine Tc Z Z Z Z (QbT ad x p q t u).r ?_
 rintro _ _ ⟨af,_,_,rfl⟩
 refine G ?_
 refine Qv (T:=63) Tryz.underlying30 Z Z Z (G ?_)
 refine Qe hm (fun m hm=>?_) fun m hm=>?_
 ·refine G ?_
  cases hm
 refine W_c Z m (QiV (Yx (Ze (Zc (Zc (QL (M:=fun f' w'=>∃o,Gc.le af o∧St w0 o (Res.box l 26 [h,i,j,k]::H) w'∧Fx f' [(1,O a),(2,O c),(3,Vb d),(4,Vb g),(5,Vq l),(37,Vb (((decide (a<0)) ||((decide ((b.Jobs.length:Int)<=a)) ||((decide (c<0)) ||decide ((b.Jobs.length:Int)<=c))))))]) ?_ ?_))))))
 ·refine G ?_
  rcases tf (decide (a<0)) with z |z
  ·refine G ?_
   exact fq
  refine G ?_
  rcases tf (decide ((b.Jobs.length:Int)<=a)) with aa |aa
  ·refine G ?_
   exact fq
  refine G ?_
  rcases tf (decide (c<0)) with ab |ab
  ·refine G ?_
   exact fq
  refine G ?_
  exact fq
 rintro _ _ ⟨_,_,y,_,rfl⟩
 refine G ?_
 refine Qe hm (fun ac hm=>?_) fun ac hm=>?_
 ·refine G ?_
  cases hm
 refine G ?_
 refine Q2 Z (Qb (Qd Z Z) (Qb (Qd Z Z) Qg)) (v:=Value.agg #[O a,Vb d]) (G ?_)
 refine Q2 Z (Qb (Qd Z Z) (Qb (Qd Z Z) Qg)) (v:=Value.agg #[O c,Vb g]) (Qa hm fun _ ae hm=>G ?_)
 refine Tc Z Z Z Z (Qcu ae y rq rq rq rq).r ?_
 rintro _ _ ⟨_,_,_,rfl⟩
 cases hm
 refine G ?_
 exact ⟨_,Qcw Z,fq⟩
instance F134_1:FTy Tryz.prog 134 1 1:=⟨by kernel_rfl⟩
instance F134_0:FTy Tryz.prog 134 0 0:=⟨by kernel_rfl⟩
theorem Z89:JW Tryz.prog 89=some (Value.agg #[O 0,O 0,O 0]):=by kernel_rfl
instance A89:ATy Tryz.prog 89 true 3:=⟨by kernel_rfl⟩
theorem Kz {c b a:Int} {r:Gp} (hm:Qbr c b a=some r) (hS:St w0 s (H) w) :
  Cv Tryz.prog 179 #[O c,O b,O a] w0 w s H r fun d=>Value.agg #[O (d.A),O (d.B),O (d.Most)]:=by
 unfold Qbr at hm
 refine Qh Tryz.func179 Z Z (G ?_)
 refine DT (cs:=[O 0,O 0,O 0]) hS Z89 Z Z fun _ _ _=>?_
 refine G ?_
 refine DK Z Z (G ?_)
 refine Q2 Z (Qb (Qd Z Z) (Qb (Qd Z Z) (Qb (Qd Z Z) Qg))) (v:=Value.agg #[O c,O b,O (IntKind.i64.wrap (0 - a))]) (G ?_)
 refine Xst Z Z Z ?_
 intro _ g
 cases hm
 refine G ?_
 exact ⟨_,Qls Z ⟨_,_,Z,Qdn (g) A89.h⟩,fq⟩
instance S135:STy Tryz.prog 135 89 3 24:=⟨by kernel_rfl⟩
theorem Qeu {a:Gx} {x:Nat} {ad ae af ag o p u:Value} {r:(List Gp)×(Option Int)} (hm:KH a=some r) (hS:St w0 s (Res.box x 128 [ad,ae,af,ag,o,p,u]::Res.arr Gg 43 o a.launches::Res.arr Gb 134 p a.starts::Res.arr Gb 134 u a.ends::H) w) (bN:Ga (Qc .i64) s ad a.t.Vars) (bO:Ga (Qc .i64) s ae a.t.Init) (bP:Ga Gd s af a.t.Goal) (bQ:Ga Gw s ag a.t.Jobs) :
  Cs Tryz.prog 110 #[Value.pointer (some ⟨x,0,none⟩)] w r fun v w'=>J5 fun (bL:List Gp) (bM:Option Int)=>∃ap aG,Gc.le s ap∧St w0 ap (Res.box x 128 [ad,ae,af,ag,o,p,u]::Res.arr Gg 43 o a.launches::Res.arr Gb 134 p a.starts::Res.arr Gb 134 u a.ends::H) w'∧v=Value.tuple #[aG,K8 63 (bM)]∧Ga Gz ap aG bL:=by
 unfold KH at hm
 refine Qh Tryz.func110 Z Z (G ?_)
 refine QK (hS.f1) S27.h Z Z (Q6 hm fun _ aI _ bo bg=>g ?_)
 refine Jn (fun k' s' f' w'=>(fun (ao:List Gp)=>∃aC aj,Gc.le s aC∧St w0 aC (Res.box x 128 [ad,ae,af,ag,o,p,u]::Res.arr Gg 43 o a.launches::Res.arr Gb 134 p a.starts::Res.arr Gb 134 u a.ends::Res.arr Gz 89 aj ao::H) w'∧Fx f' [(16,O (k':Int)),(0,Vq x),(4,aj),(15,O ((a.launches.length:Int)))]) s') aI ?_ ?_ ?_ ?_
 ·have bR:=hS.nilArr Gz 89
  exact fq
 ·intro ah ao _ _ _ bn aL ai _
  obtain ⟨bB,aj,_,aT,_,rfl⟩:=aL
  refine Q6 ai fun _ aJ _ bp bh=>Zc (Zd (g ?_))
  refine Zc (QbR (Zx (decide_eq_true (by omega))) (Yx (Ze (Zc (QaU (Zc (Zd (g ?_))))))))
  refine Zc (Zd (g ?_))
  refine QeQ (fun s' f' w'=>(J5 fun (al:Int) (aB:List Gp)=>∃aD aq,Gc.le bB aD∧St w0 aD (Res.box x 128 [ad,ae,af,ag,o,p,u]::Res.arr Gg 43 o a.launches::Res.arr Gb 134 p a.starts::Res.arr Gb 134 u a.ends::Res.arr Gz 89 aq aB::H) w'∧Fx f' [(0,Vq x),(4,aq),(5,O ((ah:Int))),(6,O al),(15,O ((a.launches.length:Int))),(16,O ((ah:Int)))]) s') aJ ?_ ?_ ?_
  ·have bS:=aT.f4
   exact fq
  ·intro bH _ _ _ aM m br
   obtain ⟨al,aB⟩:=bH
   replace m:=QC m
   obtain ⟨_,aq,_,a5,_,rfl⟩:=aM
   refine G ?_
   refine QK (a5.f1) S27.h Z Z (G ?_)
   refine Qe m (fun bj m=>?_) fun bj m=>?_
   ·refine G ?_
    refine QT (n0:=63) (qs 0 60 (.q 62 (.e 60 [62] (.q 61 .done)))) JQ ?_
    have l:=a5.drew
    refine Qa m fun b z m=>?_
    obtain ⟨_,_,av⟩:=(l.f2).arr_at z
    refine G ?_
    refine Qi S126.h Z av Z (Qj z).1 (Qj z).2.1 ⟨Z,G ?_⟩
    refine Qw (F:=Gb) (l.f2) av A134.h Z Z Z z (Sub.refl _) ?_
    intro _ bx
    obtain rfl:=QF.1 bx
    refine ⟨Z,Qa m fun c aa m=>?_⟩
    obtain ⟨_,_,aw⟩:=(l.f2).arr_at aa
    refine G ?_
    refine Qi S126.h Z aw Z (Qj aa).1 (Qj aa).2.1 ⟨Z,G ?_⟩
    refine Qw (F:=Gb) (l.f2) aw A134.h Z Z Z aa (Sub.refl _) ?_
    intro _ bz
    obtain rfl:=QF.1 bz
    refine ⟨Z,G ?_⟩
    refine Q2 Z (Qb (Qd Z Z) (Qb (Qd Z Z) Qg)) (v:=Value.agg #[O (b.point),O (b.at_),O (b.job),Vb (b.end_),O (c.point),O (c.at_),O (c.job),Vb (c.end_)]) ⟨Z,?_⟩
    obtain ⟨_,_,ax⟩:=(l.f2).arr_at z
    refine G ?_
    refine Qi S126.h Z ax Z (Qj z).1 (Qj z).2.1 ⟨Z,G ?_⟩
    refine Qw (F:=Gb) (l.f2) ax A134.h Z Z Z z (Sub.refl _) ?_
    intro _ b0
    obtain rfl:=QF.1 b0
    refine ⟨Z,Qa m fun d ab m=>?_⟩
    obtain ⟨_,_,ay⟩:=(l.f3).arr_at ab
    refine G ?_
    refine Qi S126.h Z ay Z (Qj ab).1 (Qj ab).2.1 ⟨Z,G ?_⟩
    refine Qw (F:=Gb) (l.f3) ay A134.h Z Z Z ab (Sub.refl _) ?_
    intro _ b1
    obtain rfl:=QF.1 b1
    refine ⟨Z,G ?_⟩
    refine Q2 Z (Qb (Qd Z Z) (Qb (Qd Z Z) Qg)) (v:=Value.agg #[O (b.point),O (b.at_),O (b.job),Vb (b.end_),O (d.point),O (d.at_),O (d.job),Vb (d.end_)]) ⟨Z,Qa m fun i ac m=>?_⟩
    obtain ⟨_,_,az⟩:=(l.f3).arr_at ac
    refine G ?_
    refine Qi S126.h Z az Z (Qj ac).1 (Qj ac).2.1 ⟨Z,G ?_⟩
    refine Qw (F:=Gb) (l.f3) az A134.h Z Z Z ac (Sub.refl _) ?_
    intro _ b2
    obtain rfl:=QF.1 b2
    refine ⟨Z,?_⟩
    obtain ⟨_,_,a2⟩:=(l.f2).arr_at aa
    refine G ?_
    refine Qi S126.h Z a2 Z (Qj aa).1 (Qj aa).2.1 ⟨Z,G ?_⟩
    refine Qw (F:=Gb) (l.f2) a2 A134.h Z Z Z aa (Sub.refl _) ?_
    intro _ b3
    obtain rfl:=QF.1 b3
    refine ⟨Z,G ?_⟩
    refine Q2 Z (Qb (Qd Z Z) (Qb (Qd Z Z) Qg)) (v:=Value.agg #[O (i.point),O (i.at_),O (i.job),Vb (i.end_),O (c.point),O (c.at_),O (c.job),Vb (c.end_)]) ⟨Z,?_⟩
    obtain ⟨_,_,a3⟩:=(l.f3).arr_at ac
    refine G ?_
    refine Qi S126.h Z a3 Z (Qj ac).1 (Qj ac).2.1 ⟨Z,G ?_⟩
    refine Qw (F:=Gb) (l.f3) a3 A134.h Z Z Z ac (Sub.refl _) ?_
    intro _ b4
    obtain rfl:=QF.1 b4
    refine ⟨Z,?_⟩
    obtain ⟨_,_,a4⟩:=(l.f3).arr_at ab
    refine G ?_
    refine Qi S126.h Z a4 Z (Qj ab).1 (Qj ab).2.1 ⟨Z,G ?_⟩
    refine Qw (F:=Gb) (l.f3) a4 A134.h Z Z Z ab (Sub.refl _) ?_
    intro _ b5
    obtain rfl:=QF.1 b5
    refine ⟨Z,G ?_⟩
    refine Q2 Z (Qb (Qd Z Z) (Qb (Qd Z Z) Qg)) (v:=Value.agg #[O (i.point),O (i.at_),O (i.job),Vb (i.end_),O (d.point),O (d.at_),O (d.job),Vb (d.end_)]) ⟨Z,G ?_⟩
    refine Qt (Te:=297) (cs:=[O (b.point),O (b.at_),O (b.job),Vb (b.end_),O (c.point),O (c.at_),O (c.job),Vb (c.end_),O (b.point),O (b.at_),O (b.job),Vb (b.end_),O (d.point),O (d.at_),O (d.job),Vb (d.end_),O (i.point),O (i.at_),O (i.job),Vb (i.end_),O (c.point),O (c.at_),O (c.job),Vb (c.end_),O (i.point),O (i.at_),O (i.job),Vb (i.end_),O (d.point),O (d.at_),O (d.job),Vb (d.end_)]) l Z (Qb (Qd Z Z) (Qb (Qd Z Z) (Qb (Qd Z Z) (Qb (Qd Z Z) Qg)))) fun au _ aU=>?_
    refine ⟨Yd,?_⟩
    obtain ⟨bC,_,aV,_⟩:=(St.boxArr (E:=G9) (xs:=[(⟨b,c⟩:Gk),(⟨b,d⟩:Gk),(⟨i,c⟩:Gk),(⟨i,d⟩:Gk)]) aU ⟨[_,_,_,_,_,_,_,_],_,rfl,⟨[_,_,_,_],_,rfl,⟨[_],_,rfl,rfl,[_],_,rfl,rfl,[_],_,rfl,rfl,rfl⟩,[_],_,rfl,rfl,[_],_,rfl,rfl,[_],_,rfl,rfl,rfl⟩,[_,_,_,_,_,_,_,_],_,rfl,⟨[_,_,_,_],_,rfl,⟨[_],_,rfl,rfl,[_],_,rfl,rfl,[_],_,rfl,rfl,rfl⟩,[_],_,rfl,rfl,[_],_,rfl,rfl,[_],_,rfl,rfl,rfl⟩,[_,_,_,_,_,_,_,_],_,rfl,⟨[_,_,_,_],_,rfl,⟨[_],_,rfl,rfl,[_],_,rfl,rfl,[_],_,rfl,rfl,rfl⟩,[_],_,rfl,rfl,[_],_,rfl,rfl,[_],_,rfl,rfl,rfl⟩,[_,_,_,_,_,_,_,_],_,rfl,⟨[_,_,_,_],_,rfl,⟨[_],_,rfl,rfl,[_],_,rfl,rfl,[_],_,rfl,rfl,rfl⟩,[_],_,rfl,rfl,[_],_,rfl,rfl,[_],_,rfl,rfl,rfl⟩,rfl⟩ (by simp [maxLen])).freezeArr
    refine Q6 m fun _ aK _ bq bi=>g ?_
    refine Jn (fun k' s' f' w'=>(fun (am:List Gp)=>∃aE ak,Gc.le bC aE∧St w0 aE (Res.box x 128 [ad,ae,af,ag,o,p,u]::Res.arr Gg 43 o a.launches::Res.arr Gb 134 p a.starts::Res.arr Gb 134 u a.ends::Res.arr Gz 89 ak am::H) w'∧Fx f' [(92,O (k':Int)),(0,Vq x),(4,ak),(5,O ((ah:Int))),(6,O al),(15,O ((a.launches.length:Int))),(16,O ((ah:Int))),(90,Vs (some ⟨au,0,none⟩) 4 4),(91,O (([(⟨b,c⟩:Gk),(⟨b,d⟩:Gk),(⟨i,c⟩:Gk),(⟨i,d⟩:Gk)].length:Int)))]) s') aK ?_ ?_ ?_ ?_
    ·have bT:=aV.f4
     exact fq
    ·intro bu am _ _ _ _ aN n _
     obtain ⟨_,ak,_,a6,_,rfl⟩:=aN
     refine Qa n fun j b6 n=>G ?_
     refine Jv Z Z Z b6 fun _ _ aH=>?_
     refine G ?_
     refine Zw (E:=G9) a6 A297.h Z Z Z aH ?_
     intro _ b7
     obtain rfl:=QcZ.1 b7
     refine G ?_
     refine DT (cs:=[O 0,O 0,O 0,Vb false,O 0,O 0,O 0,Vb false]) a6 Qy3 Z Z fun _ _ _=>?_
     refine G ?_
     refine Xst Z Z Z fun _ aW=>?_
     refine G ?_
     refine QT (n0:=21) (qs 0 16 (.e 16 [] (qs 17 4 .done))) JQ ?_
     have aX:=aW.drew
     refine G ?_
     refine Ke Tryz.underlying297 A134.h Z Z Z (by decide) Z ⟨Z,G ?_⟩
     refine Ke Tryz.underlying297 A134.h Z Z Z (by decide) Z ⟨Z,G ?_⟩
     refine Ke Tryz.underlying297 A134.h Z Z Z (by decide) Z ⟨Z,G ?_⟩
     refine Ke Tryz.underlying297 A134.h Z Z Z (by decide) Z ⟨Z,Qa n fun bI b8 n=>?_⟩
     obtain ⟨_,_⟩:=bI
     replace n:=QC n
     refine G ?_
     refine Tc Z Z Z Z (Qfj b8 aX rq rq rq rq).r ?_
     rintro _ _ ⟨bD,_,a7,rfl⟩
     refine ⟨Yd,G ?_⟩
     refine Qv (T:=63) Tryz.underlying30 Z Z Z (G ?_)
     refine Qe n (fun bk n=>?_) fun bk n=>?_
     ·refine G ?_
      cases n
     refine G ?_
     refine Qe n (fun bl n=>?_) fun bl n=>?_
     ·cases n
      refine G ?_
      exact ⟨_,Z,fq⟩
     refine G ?_
     refine Ke Tryz.underlying297 A134.h Z Z Z (by decide) Z (G ?_)
     refine Ke Tryz.underlying297 A134.h Z Z Z (by decide) Z (Qa n fun an y n=>g ?_)
     refine QL (M:=fun f' w'=>(fun (an:List Gp)=>∃aF ar,Gc.le bD aF∧St w0 aF (Res.box x 128 [ad,ae,af,ag,o,p,u]::Res.arr Gg 43 o a.launches::Res.arr Gb 134 p a.starts::Res.arr Gb 134 u a.ends::Res.arr Gz 89 ar an::H) w'∧Fx f' [(0,Vq x),(4,ar),(5,O ((ah:Int))),(6,O al),(15,O ((a.launches.length:Int))),(16,O ((ah:Int))),(90,Vs (some ⟨au,0,none⟩) 4 4),(91,O (([(⟨b,c⟩:Gk),(⟨b,d⟩:Gk),(⟨i,c⟩:Gk),(⟨i,d⟩:Gk)].length:Int))),(92,O ((bu:Int)))]) an) ?_ ?_
     ·refine Qe y (fun bm y=>?_) fun bm y=>?_
      ·refine G ?_
       refine Ke Tryz.underlying297 A134.h Z Z Z (by decide) Z (G ?_)
       refine Ke Tryz.underlying297 A134.h Z Z Z (by decide) Z (G ?_)
       refine Tc Z Z Z Z (Kz (Ky j.a1.point j.a0.point 1) a7).r ?_
       rintro _ _ ⟨_,_,aY,rfl⟩
       refine G ?_
       refine Qt (Te:=89) (cs:=[O ((Qp j.a1.point j.a0.point 1).A),O ((Qp j.a1.point j.a0.point 1).B),O ((Qp j.a1.point j.a0.point 1).Most)]) aY Z (Qb (Qd Z Z) Qg) fun _ _ aZ=>?_
       refine Qa y fun _ b9 y=>G ?_
       refine Qn (E:=Gz) (ys:=[(Qp j.a1.point j.a0.point 1)]) aZ.f6 S135.h Z89 Z (by decide) Z Z Z Z ⟨[_,_,_],_,Z,⟨[_],_,Z,Z,[_],_,Z,Z,Z⟩,Z⟩ Z b9 ?_
       intro _ _ _
       cases y
       refine G ?_
       exact fq
      refine G ?_
      refine Ke Tryz.underlying297 A134.h Z Z Z (by decide) Z (G ?_)
      refine Ke Tryz.underlying297 A134.h Z Z Z (by decide) Z (G ?_)
      refine Tc Z Z Z Z (Kz (Ky j.a0.point j.a1.point 1) a7).r ?_
      rintro _ _ ⟨_,_,ba,rfl⟩
      refine G ?_
      refine Qt (Te:=89) (cs:=[O ((Qp j.a0.point j.a1.point 1).A),O ((Qp j.a0.point j.a1.point 1).B),O ((Qp j.a0.point j.a1.point 1).Most)]) ba Z (Qb (Qd Z Z) Qg) fun _ _ bb=>?_
      refine Qa y fun _ bA y=>G ?_
      refine Qn (E:=Gz) (ys:=[(Qp j.a0.point j.a1.point 1)]) bb.f6 S135.h Z89 Z (by decide) Z Z Z Z ⟨[_,_,_],_,Z,⟨[_],_,Z,Z,[_],_,Z,Z,Z⟩,Z⟩ Z bA ?_
      intro _ _ _
      cases y
      refine G ?_
      exact fq
     rintro _ _ ⟨_,ar,_,_,_,rfl⟩
     cases n
     refine G ?_
     exact ⟨_,Z,fq⟩
    ·intro am _ _ aO bs
     obtain ⟨bE,ak,bv,bc,_,rfl⟩:=aO
     refine G ?_
     refine ⟨[(⟨b,c⟩:Gk),(⟨b,d⟩:Gk),(⟨i,c⟩:Gk),(⟨i,d⟩:Gk)].length,_, .inl bs,?_⟩;exact ⟨bE,ak,bv,((((bc.f4).f4).f4).f4).f4,(Fx.mk)⟩
    rintro _ _ ⟨_,_,a8,aQ⟩
    have m:=a8.elim (bq _) (bi _)
    clear a8
    obtain ⟨_,_,_,_,_,rfl⟩:=aQ
    cases m
    refine G ?_
    exact ⟨_,Z,fq⟩
   cases m
   refine G ?_
   exact ⟨_, .inr (br (by intro _ h;cases h)),fq⟩
  rintro _ _ ⟨bJ,a9,aR⟩
  have ai:=a9.elim (bp _) (bh _)
  clear a9
  obtain ⟨_,_⟩:=bJ
  replace ai:=QC ai
  obtain ⟨bF,bK,_,bd,_,rfl⟩:=aR
  cases ai
  refine G ?_
  refine ⟨_,Z,?_⟩;exact ⟨bF,bK,lq,((((bd.f4).f4).f4).f4).f4,(Fx.mk (FxL.cons (Jo bn (hS.f1).arr_le) fxl))⟩
 ·intro ao _ _ aP bt
  obtain ⟨bG,aj,bw,be,_,rfl⟩:=aP
  refine G ?_
  refine ⟨a.launches.length,_, .inl bt,?_⟩;exact ⟨bG,aj,bw,((((be.f4).f4).f4).f4).f4,(Fx.mk)⟩
 rintro _ _ ⟨_,_,aA,aS⟩
 have hm:=aA.elim (bo _) (bg _)
 clear aA
 obtain ⟨_,_,_,bf,_,rfl⟩:=aS
 cases hm
 refine G ?_
 refine ⟨_,Qcw Z,?_⟩
 obtain ⟨_,_,_,_⟩:=bf.f4.freezeArr
 exact fq
theorem Qdw {b:Gx} {l:Nat} {o p q u g i j:Value} {r:(List Gp)} (hm:Kj b=some r) (hS:St w0 s (Res.box l 128 [o,p,q,u,g,i,j]::Res.arr Gg 43 g b.launches::Res.arr Gb 134 i b.starts::Res.arr Gb 134 j b.ends::H) w) (a3:Ga (Qc .i64) s o b.t.Vars) (a4:Ga (Qc .i64) s p b.t.Init) (a5:Ga Gd s q b.t.Goal) (ae:Ga Gw s u b.t.Jobs) :
  Cs Tryz.prog 111 #[Value.pointer (some ⟨l,0,none⟩)] w r fun v w'=>fun (a2:List Gp)=>∃ab ad,Gc.le s ab∧St w0 ab (Res.box l 128 [o,p,q,u,g,i,j]::Res.arr Gg 43 g b.launches::Res.arr Gb 134 i b.starts::Res.arr Gb 134 j b.ends::Res.arr Gz 89 ad a2::H) w'∧v=ad:=by
 unfold Kj at hm
 refine Qh Tryz.func111 Z Z (G ?_)
 refine QK (hS.f1) S27.h Z Z (Qa hm fun z ag hm=>G ?_)
 refine QO (fun k' s' f' w'=>(fun (z:List Gp)=>∃ac x,Gc.le s ac∧St w0 ac (Res.box l 128 [o,p,q,u,g,i,j]::Res.arr Gg 43 g b.launches::Res.arr Gb 134 i b.starts::Res.arr Gb 134 j b.ends::Res.arr Gz 89 x z::H) w'∧Fx f' [(12,O (k':Int)),(0,Vq l),(3,x),(10,g),(11,O ((b.launches.length:Int)))]) s') ag ?_ ?_ ?_
 ·have a6:=hS.nilArr Gz 89
  exact fq
 ·intro a z _ _ _ ar ah d
  obtain ⟨_,x,au,y,_,rfl⟩:=ah
  refine Qa d fun _ n d=>?_
  obtain ⟨_,_,aa⟩:=(y.f1).arr_at n
  refine G ?_
  refine Qi S27.h Z aa Z (Qj n).1 (Qj n).2.1 (G ?_)
  refine Qw (F:=Gg) (y.f1) aa A43.h Z Z Z n (Sub.refl _) ?_
  intro _ av
  obtain rfl:=QH.1 av
  refine G ?_
  refine DT (cs:=[O 0,O 0]) y Z43 Z Z fun _ _ _=>?_
  refine G ?_
  refine Xst Z Z Z fun _ m=>?_
  refine G ?_
  refine QT (n0:=10) (qs 0 10 .done) JQ (G ?_)
  refine Zn ((m.drew).f1) A24.h Z Z Z ⟨Z,G ?_⟩
  refine Zn (m.drew) A3.h Z Z Z ⟨Z,Qa d fun c aw d=>G ?_⟩
  refine Qy S24.h Z Z Z (ae.mono au) aw fun _ _ af _=>?_
  refine ⟨Z,G ?_⟩
  refine Zw (E:=(Qc .i64)) m.drew A3.h Z Z Z (af.sub (Sub.iso (Sub.snd (Sub.fst (Sub.refl _)) Z)) Z) ?_
  intro a0 ax
  obtain rfl:a0=O (c.Duration):=Qo.1 ax
  refine ⟨Z,G ?_⟩
  refine Tc Z Z Z Z (Ka (JZ (a:Int)) m.drew).r ?_
  rintro _ _ ⟨_,_,ai,rfl⟩
  refine G ?_
  refine Tc Z Z Z Z (Kz (Ky (Qr (a:Int)) 0 0) ai).r ?_
  rintro _ _ ⟨_,_,aj,rfl⟩
  refine G ?_
  refine Tc Z Z Z Z (YF (YE (a:Int)) aj).r ?_
  rintro _ _ ⟨_,_,ak,rfl⟩
  refine G ?_
  refine Tc Z Z Z Z (Ka (JZ (a:Int)) ak).r ?_
  rintro _ _ ⟨_,_,al,rfl⟩
  refine G ?_
  refine Tc Z Z Z Z (Kz (Ky (Q0 (a:Int)) (Qr (a:Int)) c.Duration) al).r ?_
  rintro _ _ ⟨_,_,am,rfl⟩
  refine G ?_
  refine Tc Z Z Z Z (Ka (JZ (a:Int)) am).r ?_
  rintro _ _ ⟨_,_,an,rfl⟩
  refine G ?_
  refine Tc Z Z Z Z (YF (YE (a:Int)) an).r ?_
  rintro _ _ ⟨az,_,ao,rfl⟩
  refine G ?_
  refine Q2 Z (Qb (Qd Z Z) (Qb (Qd Z Z) (Qb (Qd Z Z) Qg))) (v:=Value.agg #[O ((Qr (a:Int))),O ((Q0 (a:Int))),O (c.Duration)]) (G ?_)
  refine Qt (Te:=89) (cs:=[O ((Qp (Qr (a:Int)) 0 0).A),O ((Qp (Qr (a:Int)) 0 0).B),O ((Qp (Qr (a:Int)) 0 0).Most),O ((Qp (Q0 (a:Int)) (Qr (a:Int)) c.Duration).A),O ((Qp (Q0 (a:Int)) (Qr (a:Int)) c.Duration).B),O ((Qp (Q0 (a:Int)) (Qr (a:Int)) c.Duration).Most),O ((Qr (a:Int))),O ((Q0 (a:Int))),O (c.Duration)]) ao Z (Qb (Qd Z Z) (Qb (Qd Z Z) (Qb (Qd Z Z) Qg))) fun _ _ ap=>?_
  refine Qa d fun _ ay d=>G ?_
  refine Qn (E:=Gz) (ys:=[(Qp (Qr (a:Int)) 0 0),(Qp (Q0 (a:Int)) (Qr (a:Int)) c.Duration),(⟨(Qr (a:Int)),(Q0 (a:Int)),c.Duration⟩:Gp)]) ap.f6 S135.h Z89 Z (by decide) Z Z Z Z ⟨[_,_,_],_,Z,⟨[_],_,Z,Z,[_],_,Z,Z,Z⟩,[_,_,_],_,Z,⟨[_],_,Z,Z,[_],_,Z,Z,Z⟩,[_,_,_],_,Z,⟨[_],_,Z,Z,[_],_,Z,Z,Z⟩,Z⟩ Z ay ?_
  intro a1 _ aq
  cases d
  refine G ?_
  exact ⟨az,a1,lq,(((((aq.f1).drop).f4).f4).f4).f4,(Fx.mk (FxL.cons (Jo ar (hS.f1).arr_le) fxl))⟩
 rintro _ _ ⟨_,x,_,_,_,rfl⟩
 cases hm
 refine G ?_
 exact fr
theorem Qy5:(Tryz.f254.name == "runtime.NumGoroutine")=false:=by kernel_rfl
theorem QcE {b a:Gj} {c d:Nat} {r:Bool} (hm:Kw b a=some r) (hS:St w0 s (H) w) (g:At s c d Gd a) :
  Cv Tryz.prog 254 #[Value.agg #[O (b.Var),O (b.Val)],Value.pointer (some ⟨c,d,none⟩)] w0 w s H r fun l=>Value.bool (l):=by
 unfold Kw at hm
 refine Qh Tryz.func254 Z Z (G ?_)
 refine JV Z Z fun _ _ i=>?_
 refine G ?_
 refine Zw (E:=(Qc .i64)) i A3.h Z Z Z (g.sub (Sub.iso (Sub.fst (Sub.refl _))) Z) ?_
 intro k j
 obtain rfl:k=O (a.Var):=Qo.1 j
 cases hm
 refine G ?_
 exact fr
theorem QaK {b:(List Gj)} {d:Gj} {j:Value} {c i:Nat} {r:Int} (hm:Jr b d=some r) (hS:St w0 s (H) w) (ao:Ga Gd s j b) (p:At s c i Gd d) :
  Cv Tryz.prog 190 #[j,Value.func (.func 254) #[] #[Value.pointer (some ⟨c,i,none⟩)]] w0 w s H r fun an=>O an:=by
 unfold Jr at hm
 refine Qh Tryz.func190 Z Z (Q6 hm fun _ t ae ac aa=>Zc (Zd (g ?_)))
 refine Zc (Zc (Zd (g ?_)))
 refine Jn (fun k' s' f' w'=>(fun (_:Unit)=>∃o,Gc.le s o∧St w0 o (H) w'∧Fx f' [(8,O (k':Int)),(0,j),(1,Value.func (.func 254) #[] #[Vp (some ⟨c,i,none⟩)]),(7,O ((b.length:Int)))]) s') t ?_ ?_ ?_ ?_
 ·exact fq
 ·intro _ _ _ _ _ _ u a af
  obtain ⟨_,ah,l,_,rfl⟩:=u
  refine Qa a fun am aj a=>G ?_
  refine Jv Z Z Z aj fun _ _ q=>?_
  refine G ?_
  refine Zw (E:=Gd) l A82.h Z Z Z q ?_
  intro _ ak
  obtain rfl:=J2.1 ak
  refine G ?_
  refine Qa1 Z Z Tryz.func254 Z Qy5 (Zi Z Jh) Z ((QcE (QcD am d) l (p.mono ah)).mono ?_)
  rintro _ _ ⟨_,rfl,_,_,_,rfl⟩
  refine ⟨_,Z,G ?_⟩
  refine Qe a (fun ab a=>?_) fun ab a=>?_
  ·cases a
   have ad:=ae _ (af (by intro _ h;cases h))
   cases ad
   refine G ?_
   exact fr
  cases a
  refine G ?_
  exact ⟨_,Z,fq⟩
 ·intro _ _ _ x ag
  obtain ⟨al,ai,z,_,rfl⟩:=x
  refine G ?_
  refine ⟨b.length,_, .inl ag,?_⟩;exact ⟨al,ai,z,(Fx.mk)⟩
 rintro _ _ ⟨_,_,m,y⟩
 have hm:=m.elim (ac _) (aa _)
 clear m
 obtain ⟨_,_,_,_,rfl⟩:=y
 cases hm
 refine G ?_
 exact fr
theorem Qaw {f:(List Gj)} {b:Gj} {g:Value} {a c:Nat} {r:Bool} (hm:QN f b=some r) (hS:St w0 s (H) w) (h:Ga Gd s g f) (i:At s a c Gd b) :
  Cv Tryz.prog 121 #[g,Value.func (.func 254) #[] #[Value.pointer (some ⟨a,c,none⟩)]] w0 w s H r fun k=>Value.bool (k):=by
 unfold QN at hm
 refine Qh Tryz.func121 Z Z (Qa hm fun _ j hm=>G ?_)
 refine Tc Z Z Z Z (QaK j hS h i).r ?_
 rintro _ _ ⟨_,_,_,rfl⟩
 cases hm
 refine G ?_
 exact fr
theorem Qy6:(Tryz.f253.name == "runtime.NumGoroutine")=false:=by kernel_rfl
theorem Qdv {a:Gj} {c:(List Gj)} {b f:Nat} {r:Bool} (hm:KN a c=some r) (hS:St w0 s (H) w) (i:At s b f (Qk Gd) c) :
  Cv Tryz.prog 253 #[Value.agg #[O (a.Var),O (a.Val)],Value.pointer (some ⟨b,f,none⟩)] w0 w s H r fun n=>Value.bool (n):=by
 unfold KN at hm
 refine Qh Tryz.func253 Z Z (G ?_)
 refine JV Z Z fun _ _ d=>?_
 refine G ?_
 refine Zw (E:=(Qk Gd)) d A23.h Z Z Z i ?_
 intro _ k
 have o:=Q5.1 k
 obtain ⟨_,_,j,m⟩:=St.freezeVar (E:=Gd) (y:=a) d ⟨[_],_,rfl,rfl,rfl⟩
 refine G ?_
 refine DZ Z (Zi Z Jh) (Qa hm fun _ l hm=>G ?_)
 refine Tc Z Z Z Z (Qaw l j rq m).r ?_
 rintro _ _ ⟨_,_,_,rfl⟩
 cases hm
 refine G ?_
 exact fr
theorem Qbl {b:(List Gj)} {j:(List Gj)} {i:Value} {c d:Nat} {r:Int} (hm:J4 b j=some r) (hS:St w0 s (H) w) (ao:Ga Gd s i b) (p:At s c d (Qk Gd) j) :
  Cv Tryz.prog 190 #[i,Value.func (.func 253) #[] #[Value.pointer (some ⟨c,d,none⟩)]] w0 w s H r fun an=>O an:=by
 unfold J4 at hm
 refine Qh Tryz.func190 Z Z (Q6 hm fun _ t ae ac aa=>Zc (Zd (g ?_)))
 refine Zc (Zc (Zd (g ?_)))
 refine Jn (fun k' s' f' w'=>(fun (_:Unit)=>∃o,Gc.le s o∧St w0 o (H) w'∧Fx f' [(8,O (k':Int)),(0,i),(1,Value.func (.func 253) #[] #[Vp (some ⟨c,d,none⟩)]),(7,O ((b.length:Int)))]) s') t ?_ ?_ ?_ ?_
 ·exact fq
 ·intro _ _ _ _ _ _ u a af
  obtain ⟨_,ah,l,_,rfl⟩:=u
  refine Qa a fun _ aj a=>G ?_
  refine Jv Z Z Z aj fun _ _ q=>?_
  refine G ?_
  refine Zw (E:=Gd) l A82.h Z Z Z q ?_
  intro _ ak
  obtain rfl:=J2.1 ak
  refine Qa a fun _ al a=>G ?_
  refine Qa1 Z Z Tryz.func253 Z Qy6 (Zi Z Jh) Z ((Qdv al l (p.mono ah)).mono ?_)
  rintro _ _ ⟨_,rfl,_,_,_,rfl⟩
  refine ⟨_,Z,G ?_⟩
  refine Qe a (fun ab a=>?_) fun ab a=>?_
  ·cases a
   have ad:=ae _ (af (by intro _ h;cases h))
   cases ad
   refine G ?_
   exact fr
  cases a
  refine G ?_
  exact ⟨_,Z,fq⟩
 ·intro _ _ _ x ag
  obtain ⟨am,ai,z,_,rfl⟩:=x
  refine G ?_
  refine ⟨b.length,_, .inl ag,?_⟩;exact ⟨am,ai,z,(Fx.mk)⟩
 rintro _ _ ⟨_,_,m,y⟩
 have hm:=m.elim (ac _) (aa _)
 clear m
 obtain ⟨_,_,_,_,rfl⟩:=y
 cases hm
 refine G ?_
 exact fr
theorem QaL {f:(List Gj)} {b:(List Gj)} {g:Value} {a c:Nat} {r:Bool} (hm:QX f b=some r) (hS:St w0 s (H) w) (h:Ga Gd s g f) (i:At s a c (Qk Gd) b) :
  Cv Tryz.prog 121 #[g,Value.func (.func 253) #[] #[Value.pointer (some ⟨a,c,none⟩)]] w0 w s H r fun k=>Value.bool (k):=by
 unfold QX at hm
 refine Qh Tryz.func121 Z Z (Qa hm fun _ j hm=>G ?_)
 refine Tc Z Z Z Z (Qbl j hS h i).r ?_
 rintro _ _ ⟨_,_,_,rfl⟩
 cases hm
 refine G ?_
 exact fr
theorem Qet {a:Gx} {j:Gq} {ab:(List Gj)} {i:Nat} {o p q u b c d x:Value} {r:Bool} (hm:Kh a j ab=some r) (hS:St w0 s (Res.box i 128 [o,p,q,u,b,c,d]::Res.arr Gg 43 b a.launches::Res.arr Gb 134 c a.starts::Res.arr Gb 134 d a.ends::H) w) (a8:Ga (Qc .i64) s o a.t.Vars) (a9:Ga (Qc .i64) s p a.t.Init) (aA:Ga Gd s q a.t.Goal) (ao:Ga Gw s u a.t.Jobs) (ap:Ga Gd s x ab) :
  Cv Tryz.prog 180 #[Value.pointer (some ⟨i,0,none⟩),Value.agg #[O (j.point),O (j.at_),O (j.job),Value.bool (j.end_)],x] w0 w s (Res.box i 128 [o,p,q,u,b,c,d]::Res.arr Gg 43 b a.launches::Res.arr Gb 134 c a.starts::Res.arr Gb 134 d a.ends::H) r fun a7=>Value.bool (a7):=by
 unfold Kh at hm
 refine Qh Tryz.func180 Z Z (G ?_)
 refine JV Z Z fun _ _ av=>?_
 refine G ?_
 refine DR (cs:=[x]) av Z Z (Qs ap.one) fun ag _ m=>?_
 refine G ?_
 refine QT (n0:=10) (qs 0 9 (.e 9 [0,1,2,3,4,5,6,7,8] .done)) JQ (G ?_)
 refine Zn ((m.drew).f2) A24.h Z Z Z ⟨Z,G ?_⟩
 refine Zn ((m.drew).f1) A3.h Z Z Z ⟨Z,Qa hm fun z a0 hm=>G ?_⟩
 refine Qy S24.h Z Z Z ao a0 fun _ _ aq ar=>?_
 refine ⟨Z,G ?_⟩
 refine Qll (E:=Gw) m.drew A85.h Z Z Z aq ?_
 intro _ a1 au
 obtain ⟨al,am,an,ad,ae,rfl,a3,a4,a5,ai,aj⟩:=K9.1 a1
 refine ⟨Z,G ?_⟩
 refine DT (cs:=[Value.string (⟨#[]⟩),O 0,Vn,Vn,Vn,Vn,Vn]) m.drew Z85 Z Z fun _ _ n=>?_
 refine ⟨(Qm (Q8 Z Z (Zm (v:=Vq i) Z Z ⟨Z,Z⟩)) (Qm (Q8 Z Z (Jt Z Z ⟨Z,Z⟩)) (Qm (Q8 Z Z (Zp F128_0.h Z Z Z ⟨Z,Z⟩)) (Qm (Q8 Z Z (Zp F26_3.h Z Z Z ⟨Z,Z⟩)) (Qm (Q8 Z Z (Zn (n.f3) A24.h Z Z Z ⟨Z,Z⟩)) (Qm (Q8 Z Z (Zp F134_2.h Z Z Z ⟨Z,Z⟩)) (Qm (Q8 Z Z (Zn (n.f2) A3.h Z Z Z ⟨Z,Z⟩)) (Qm (Q8 Z Z (Yk Z Z Z ar ⟨Z,Z⟩)) (Qm (Q8 Z Z (QgK Z Z (au (Zv _) n) ⟨Z,Z⟩)) K7))))))))),G ?_⟩
 refine Qu (ds:=[Value.string (z.Name),O (z.Duration),al,am,an,ad,ae]) (es:=[Value.string (z.Name),O (z.Duration),al,am,an,ad,ae]) n A85.h Z Z Z Z (Zj Z (Zj Z (Zj a3.one (Zj a4.one (Zj a5.one (Zj ai.one (Zj aj.one QM))))))) (Xc Z) Z fun _ ah=>?_
 refine Qa hm fun l k hm=>g ?_
 refine Zc (Zd (g ?_))
 refine Zc (Zc (Zd (g ?_)))
 refine QL (M:=fun f' w'=>(fun (l:List Gj)=>∃ac af,Gc.le s ac∧St w0 ac (Res.box i 128 [o,p,q,u,b,c,d]::Res.arr Gg 43 b a.launches::Res.arr Gb 134 c a.starts::Res.arr Gb 134 d a.ends::Res.box ag 23 [x]::H) w'∧Fx f' [(5,Vq ag),(8,af)]∧Ga Gd ac af l) l) ?_ ?_
 ·refine Qd4 k (fun aa k=>?_) fun aa k=>?_
  ·have aB:=Zu k
   subst l
   refine G ?_
   exact ⟨s,ae,(Zv _),((((((ah.drop).f1).drop).f4).f4).f4).f4,(Fx.mk),aj⟩
  replace aa:=Zk aa
  have aC:=Zu k
  subst l
  refine G ?_
  exact ⟨s,ad,(Zv _),((((((ah.drop).f1).drop).f4).f4).f4).f4,(Fx.mk),ai⟩
 rintro _ _ ⟨_,af,_,aw,⟨_,rfl⟩,ay⟩
 refine G ?_
 obtain ⟨_,az,ax,a6⟩:=St.freezeVar (E:=(Qk Gd)) (y:=ab) aw.f4 ⟨_,rfl,rq⟩
 refine G ?_
 refine DZ Z (Zi Z Jh) (Qa hm fun _ a2 hm=>G ?_)
 refine Tc Z Z Z Z (QaL a2 ax (ay.mono az) a6).r ?_
 rintro _ _ ⟨_,_,_,rfl⟩
 cases hm
 refine G ?_
 exact fr
theorem QeJ {a:Gx} {j:Nat} {y z aa ab c d i:Value} {r:(List Gp)} (hm:KW a=some r) (hS:St w0 s (Res.box j 128 [y,z,aa,ab,c,d,i]::Res.arr Gg 43 c a.launches::Res.arr Gb 134 d a.starts::Res.arr Gb 134 i a.ends::H) w) (bK:Ga (Qc .i64) s y a.t.Vars) (bL:Ga (Qc .i64) s z a.t.Init) (bM:Ga Gd s aa a.t.Goal) (aR:Ga Gw s ab a.t.Jobs) :
  Cs Tryz.prog 112 #[Value.pointer (some ⟨j,0,none⟩)] w r fun v w'=>fun (bJ:List Gp)=>∃a6 aQ,Gc.le s a6∧St w0 a6 (Res.box j 128 [y,z,aa,ab,c,d,i]::Res.arr Gg 43 c a.launches::Res.arr Gb 134 d a.starts::Res.arr Gb 134 i a.ends::H) w'∧v=aQ∧Ga Gz a6 aQ bJ:=by
 unfold KW at hm
 refine Qh Tryz.func112 Z Z (G ?_)
 refine QK (hS.f1) S27.h Z Z (Qa hm fun a5 aU hm=>G ?_)
 refine QO (fun k' s' f' w'=>(fun (a5:List Gp)=>∃aK aw,Gc.le s aK∧St w0 aK (Res.box j 128 [y,z,aa,ab,c,d,i]::Res.arr Gg 43 c a.launches::Res.arr Gb 134 d a.starts::Res.arr Gb 134 i a.ends::Res.arr Gz 89 aw a5::H) w'∧Fx f' [(14,O (k':Int)),(0,Vq j),(3,aw),(12,c),(13,O ((a.launches.length:Int)))]) s') aU ?_ ?_ ?_
 ·have bP:=hS.nilArr Gz 89
  exact fq
 ·intro b a5 b7 _ _ bp aX aj
  obtain ⟨b8,aw,bq,ax,_,rfl⟩:=aX
  refine Qa aj fun p ap aj=>?_
  obtain ⟨_,_,aB⟩:=(ax.f1).arr_at ap
  refine G ?_
  refine Qi S27.h Z aB Z (Qj ap).1 (Qj ap).2.1 (G ?_)
  refine Qw (F:=Gg) (ax.f1) aB A43.h Z Z Z ap (Sub.refl _) ?_
  intro _ bt
  obtain rfl:=QH.1 bt
  refine G ?_
  refine DT (cs:=[O 0,O 0]) ax Z43 Z Z fun o _ _=>?_
  refine G ?_
  refine Xst Z Z Z fun _ am=>?_
  refine G ?_
  refine QK (am.f2) S27.h Z Z (Qa aj fun az aV aj=>G ?_)
  refine QO (fun k' s' f' w'=>(fun (az:List Gp)=>∃aL ag,Gc.le b8 aL∧St w0 aL (Res.box j 128 [y,z,aa,ab,c,d,i]::Res.arr Gg 43 c a.launches::Res.arr Gb 134 d a.starts::Res.arr Gb 134 i a.ends::Res.arr Gz 89 ag az::Res.box o 43 [O (p.At),O (p.Job)]::H) w'∧Fx f' [(24,O (k':Int)),(0,Vq j),(3,ag),(4,O ((b:Int))),(5,Vq o),(12,c),(13,O ((a.launches.length:Int))),(14,O ((b:Int))),(23,O ((a.launches.length:Int)))]) s') aV ?_ ?_ ?_
  ·have bQ:=am.f5
   exact fq
  ·intro ao az b9 _ _ aI aY m
   obtain ⟨bA,ag,a0,aG,_,rfl⟩:=aY
   refine G ?_
   refine Qe m (fun bl m=>?_) fun bl m=>?_
   ·cases m
    refine G ?_
    exact ⟨bA,ag,a0,(((((aG.f5).f5).f5).f5).f5).f5,(Fx.mk (FxL.cons (Jo aI (am.f2).arr_le) fxl))⟩
   refine G ?_
   refine QT (n0:=17) (qs 0 14 (.q 16 (.e 14 [16] (.q 15 .done)))) JQ ?_
   have ah:=aG.drew
   refine Qa m fun ac aq m=>?_
   obtain ⟨_,_,aC⟩:=(ah.f2).arr_at aq
   refine G ?_
   refine Qi S126.h Z aC Z (Qj aq).1 (Qj aq).2.1 ⟨Z,G ?_⟩
   refine Qw (F:=Gb) (ah.f2) aC A134.h Z Z Z aq (Sub.refl _) ?_
   intro _ bu
   obtain rfl:=QF.1 bu
   refine ⟨Z,Qa m fun ad ar m=>?_⟩
   obtain ⟨_,_,aD⟩:=(ah.f3).arr_at ar
   refine G ?_
   refine Qi S126.h Z aD Z (Qj ar).1 (Qj ar).2.1 ⟨Z,G ?_⟩
   refine Qw (F:=Gb) (ah.f3) aD A134.h Z Z Z ar (Sub.refl _) ?_
   intro _ bv
   obtain rfl:=QF.1 bv
   refine ⟨Z,G ?_⟩
   refine Qt (Te:=134) (cs:=[O (ac.point),O (ac.at_),O (ac.job),Vb (ac.end_),O (ad.point),O (ad.at_),O (ad.job),Vb (ad.end_)]) ah Z (Qb (Qd Z Z) (Qb (Qd Z Z) Qg)) fun al _ ba=>?_
   refine ⟨Yd,?_⟩
   obtain ⟨bB,aJ,bb,_⟩:=(St.boxArr (E:=Gb) (xs:=[ac,ad]) ba ⟨[_,_,_,_],_,rfl,⟨[_],_,rfl,rfl,[_],_,rfl,rfl,[_],_,rfl,rfl,rfl⟩,[_,_,_,_],_,rfl,⟨[_],_,rfl,rfl,[_],_,rfl,rfl,[_],_,rfl,rfl,rfl⟩,rfl⟩ (by simp [maxLen])).freezeArr
   refine Qa m fun a1 aW m=>G ?_
   refine QO (fun k' s' f' w'=>(fun (a1:List Gp)=>∃aM ak,Gc.le bB aM∧St w0 aM (Res.box j 128 [y,z,aa,ab,c,d,i]::Res.arr Gg 43 c a.launches::Res.arr Gb 134 d a.starts::Res.arr Gb 134 i a.ends::Res.arr Gz 89 ak a1::Res.box o 43 [O (p.At),O (p.Job)]::H) w'∧Fx f' [(46,O (k':Int)),(0,Vq j),(3,ak),(4,O ((b:Int))),(5,Vq o),(12,c),(13,O ((a.launches.length:Int))),(14,O ((b:Int))),(23,O ((a.launches.length:Int))),(24,O ((ao:Int))),(44,Vs (some ⟨al,0,none⟩) 2 2),(45,O (([ac,ad].length:Int)))]) s') aW ?_ ?_ ?_
   ·have bR:=bb.f5
    exact fq
   ·intro ay a1 _ _ _ _ aZ u
    obtain ⟨_,ak,br,aH,_,rfl⟩:=aZ
    refine Qa u fun l bw u=>G ?_
    refine Jv Z Z Z bw fun _ _ aS=>?_
    refine G ?_
    refine Zw (E:=Gb) aH A134.h Z Z Z aS ?_
    intro _ bx
    obtain rfl:=QF.1 bx
    refine G ?_
    refine DT (cs:=[O 0,O 0,O 0,Vb false]) aH Qwm Z Z fun _ _ _=>?_
    refine G ?_
    refine Xst Z Z Z fun _ ai=>?_
    refine G ?_
    refine QT (n0:=15) (qs 0 12 (.e 12 [] (.q 13 (.q 14 .done)))) JQ (G ?_)
    refine Q4 (ds:=[O (l.point),O (l.at_),O (l.job),Vb (l.end_)]) (ai.drew) A134.h Z Z Z ⟨Z,G ?_⟩
    refine Zn ((ai.drew).f1) A24.h Z Z Z ⟨Z,G ?_⟩
    refine Zn ((ai.drew).f6) A3.h Z Z Z ⟨Z,Qa u fun bG bz u=>G ?_⟩
    refine Qy S24.h Z Z Z (aR.mono (Zt (Zt (Zt bq a0) aJ) br)) bz fun _ _ aT _=>?_
    refine ⟨Z,G ?_⟩
    refine Zw (E:=(Qk Gd)) ai.drew A23.h Z Z Z (aT.sub (Sub.iso (Sub.snd (Sub.snd (Sub.snd (Sub.fst (Sub.refl _)) Z) Z) Z)) Z) ?_
    intro _ b0
    have b6:Ga _ _ _ (bG.Over):=Q5.1 b0
    refine ⟨Z,Qa u fun _ b1 u=>G ?_⟩
    refine Tc Z Z Z (Zi Z (Zi Z (Zi Z Jh))) (Qet b1 ((((ai.drew).f4).f4).f4).f4 rq rq rq rq b6).r ?_
    rintro _ _ ⟨a7,_,ae,rfl⟩
    refine ⟨Yd,Qa u fun a2 x u=>g ?_⟩
    refine QL (M:=fun f' w'=>(fun (a2:List Gp)=>∃aN a8,Gc.le a7 aN∧St w0 aN (Res.box j 128 [y,z,aa,ab,c,d,i]::Res.arr Gg 43 c a.launches::Res.arr Gb 134 d a.starts::Res.arr Gb 134 i a.ends::Res.arr Gz 89 a8 a2::Res.box o 43 [O (p.At),O (p.Job)]::H) w'∧Fx f' [(0,Vq j),(3,a8),(4,O ((b:Int))),(5,Vq o),(12,c),(13,O ((a.launches.length:Int))),(14,O ((b:Int))),(23,O ((a.launches.length:Int))),(24,O ((ao:Int))),(44,Vs (some ⟨al,0,none⟩) 2 2),(45,O (([ac,ad].length:Int))),(46,O ((ay:Int)))]) a2) ?_ ?_
    ·refine Qe x (fun bm x=>?_) fun bm x=>?_
     ·cases x
      refine G ?_
      exact fq
     refine G ?_
     refine QT (n0:=12) (qs 0 12 .done) JQ (G ?_)
     refine Zn ((ae.drew).f4) A3.h Z Z Z ⟨Z,G ?_⟩
     refine Zn (ae.drew) A126.h Z Z Z ⟨Z,Qa x fun bH au x=>?_⟩
     obtain ⟨_,_,aE⟩:=((ae.drew).f2).arr_at au
     refine G ?_
     refine Qi S126.h Z aE Z (Qj au).1 (Qj au).2.1 ⟨Z,G ?_⟩
     refine Qw (F:=(Qc .i64)) ((ae.drew).f2) aE A3.h Z Z Z au (Sub.iso (Sub.snd (Sub.fst (Sub.refl _)) Z)) ?_
     intro bE b2
     obtain rfl:bE=O (bH.at_):=Qo.1 b2
     refine ⟨Z,Qa x fun a3 n x=>g ?_⟩
     refine QL (M:=fun f' w'=>(fun (a3:List Gp)=>∃aO a9,Gc.le a7 aO∧St w0 aO (Res.box j 128 [y,z,aa,ab,c,d,i]::Res.arr Gg 43 c a.launches::Res.arr Gb 134 d a.starts::Res.arr Gb 134 i a.ends::Res.arr Gz 89 a9 a3::Res.box o 43 [O (p.At),O (p.Job)]::H) w'∧Fx f' [(0,Vq j),(3,a9),(4,O ((b:Int))),(5,Vq o),(12,c),(13,O ((a.launches.length:Int))),(14,O ((b:Int))),(23,O ((a.launches.length:Int))),(24,O ((ao:Int))),(44,Vs (some ⟨al,0,none⟩) 2 2),(45,O (([ac,ad].length:Int))),(46,O ((ay:Int)))]) a3) ?_ ?_
     ·refine Qe n (fun bn n=>?_) fun bn n=>?_
      ·refine G ?_
       refine QT (n0:=8) (.q 0 (.q 1 (.q 3 (.q 4 (.e 2 [0,3,4] (.e 5 [0] (.e 6 [0] (.e 7 [] .done)))))))) JQ (G ?_)
       refine Zn ((ae.drew.drew).f4) A3.h Z Z Z ⟨Z,G ?_⟩
       refine Tc Z Z Z Z (Ka (JZ (b:Int)) ae.drew.drew).r ?_
       rintro _ _ ⟨_,_,bc,rfl⟩
       refine ⟨Yd,G ?_⟩
       refine Tc Z Z Z Z (Kz (Ky (Qr (b:Int)) l.point 0) bc).r ?_
       rintro _ _ ⟨_,_,bd,rfl⟩
       refine ⟨Yd,G ?_⟩
       refine Qt (Te:=89) (cs:=[O ((Qp (Qr (b:Int)) l.point 0).A),O ((Qp (Qr (b:Int)) l.point 0).B),O ((Qp (Qr (b:Int)) l.point 0).Most)]) bd Z (Qb (Qd Z Z) Qg) fun _ _ be=>?_
       refine ⟨Yd,Qa n fun _ b3 n=>G ?_⟩
       refine Qn (E:=Gz) (ys:=[(Qp (Qr (b:Int)) l.point 0)]) be.f6 S135.h Z89 Z (by decide) Z Z Z Z ⟨[_,_,_],_,Z,⟨[_],_,Z,Z,[_],_,Z,Z,Z⟩,Z⟩ Z b3 fun _ _ _=>?_
       refine ⟨Yd,?_⟩
       cases n
       refine G ?_
       exact fq
      refine G ?_
      refine QT (n0:=12) (qs 0 12 .done) JQ ?_
      have an:=ae.drew.drew
      refine Qa n fun bI av n=>?_
      obtain ⟨_,_,aF⟩:=(an.f3).arr_at av
      refine G ?_
      refine Qi S126.h Z aF Z (Qj av).1 (Qj av).2.1 ⟨Z,G ?_⟩
      refine Qw (F:=(Qc .i64)) (an.f3) aF A3.h Z Z Z av (Sub.iso (Sub.snd (Sub.fst (Sub.refl _)) Z)) ?_
      intro bF b4
      obtain rfl:bF=O (bI.at_):=Qo.1 b4
      refine ⟨Z,Qa n fun a4 af n=>g ?_⟩
      refine QL (M:=fun f' w'=>(fun (a4:List Gp)=>∃aP aA,Gc.le a7 aP∧St w0 aP (Res.box j 128 [y,z,aa,ab,c,d,i]::Res.arr Gg 43 c a.launches::Res.arr Gb 134 d a.starts::Res.arr Gb 134 i a.ends::Res.arr Gz 89 aA a4::Res.box o 43 [O (p.At),O (p.Job)]::H) w'∧Fx f' [(0,Vq j),(3,aA),(4,O ((b:Int))),(5,Vq o),(12,c),(13,O ((a.launches.length:Int))),(14,O ((b:Int))),(23,O ((a.launches.length:Int))),(24,O ((ao:Int))),(44,Vs (some ⟨al,0,none⟩) 2 2),(45,O (([ac,ad].length:Int))),(46,O ((ay:Int)))]) a4) ?_ ?_
      ·refine Qe af (fun bo af=>?_) fun bo af=>?_
       ·refine G ?_
        refine QT (n0:=8) (qs 0 4 (.e 4 [0,1,2] (.e 5 [0] (.e 6 [0] (.e 7 [] .done))))) JQ (G ?_)
        refine Zn ((an.drew).f4) A3.h Z Z Z ⟨Z,G ?_⟩
        refine Tc Z Z Z Z (YF (YE (b:Int)) an.drew).r ?_
        rintro _ _ ⟨_,_,bf,rfl⟩
        refine ⟨Yd,G ?_⟩
        refine Tc Z Z Z Z (Kz (Ky l.point (Q0 (b:Int)) 0) bf).r ?_
        rintro _ _ ⟨_,_,bg,rfl⟩
        refine ⟨Yd,G ?_⟩
        refine Qt (Te:=89) (cs:=[O ((Qp l.point (Q0 (b:Int)) 0).A),O ((Qp l.point (Q0 (b:Int)) 0).B),O ((Qp l.point (Q0 (b:Int)) 0).Most)]) bg Z (Qb (Qd Z Z) Qg) fun _ _ bh=>?_
        refine ⟨Yd,Qa af fun _ b5 af=>G ?_⟩
        refine Qn (E:=Gz) (ys:=[(Qp l.point (Q0 (b:Int)) 0)]) bh.f6 S135.h Z89 Z (by decide) Z Z Z Z ⟨[_,_,_],_,Z,⟨[_],_,Z,Z,[_],_,Z,Z,Z⟩,Z⟩ Z b5 fun _ _ _=>?_
        refine ⟨Yd,?_⟩
        cases af
        refine G ?_
        exact fq
       cases af
       refine G ?_
       exact fq
      rintro _ _ ⟨_,aA,_,_,_,rfl⟩
      cases n
      refine G ?_
      exact fq
     rintro _ _ ⟨_,a9,_,_,_,rfl⟩
     cases x
     refine G ?_
     exact fq
    rintro _ _ ⟨_,a8,_,_,_,rfl⟩
    cases u
    refine G ?_
    exact fq
   rintro _ _ ⟨bC,ak,bs,bi,_,rfl⟩
   have bN:=Zu m
   subst b9
   refine G ?_
   exact ⟨bC,ak,(Zt (Zt a0 aJ) bs),(((((bi.f5).f5).f5).f5).f5).f5,(Fx.mk (FxL.cons (Jo aI (am.f2).arr_le) fxl))⟩
  rintro _ _ ⟨bD,ag,_,bj,_,rfl⟩
  have bO:=Zu aj
  subst b7
  refine G ?_
  exact ⟨bD,ag,lq,((((((bj.f5).drop).f4).f4).f4).f4).f4,(Fx.mk (FxL.cons (Jo bp (hS.f1).arr_le) fxl))⟩
 rintro _ _ ⟨_,aw,_,bk,_,rfl⟩
 cases hm
 refine G ?_
 refine ⟨_,Qd0 Z,?_⟩
 obtain ⟨_,_,_,_⟩:=bk.f4.freezeArr
 exact fq
theorem QdN {a:Gx} {m:Nat} {o p q u c j l:Value} {r:(List Gp)} (hm:K6 a=some r) (hS:St w0 s (Res.box m 128 [o,p,q,u,c,j,l]::Res.arr Gg 43 c a.launches::Res.arr Gb 134 j a.starts::Res.arr Gb 134 l a.ends::H) w) (aK:Ga (Qc .i64) s o a.t.Vars) (aL:Ga (Qc .i64) s p a.t.Init) (aM:Ga Gd s q a.t.Goal) (aN:Ga Gw s u a.t.Jobs) :
  Cs Tryz.prog 113 #[Value.pointer (some ⟨m,0,none⟩)] w r fun v w'=>fun (aJ:List Gp)=>∃ad ao,Gc.le s ad∧St w0 ad (Res.box m 128 [o,p,q,u,c,j,l]::Res.arr Gg 43 c a.launches::Res.arr Gb 134 j a.starts::Res.arr Gb 134 l a.ends::H) w'∧v=ao∧Ga Gz ad ao aJ:=by
 unfold K6 at hm
 refine Qh Tryz.func113 Z Z (G ?_)
 refine QK (hS.f1) S27.h Z Z (Qa hm fun ac aq hm=>G ?_)
 refine QO (fun k' s' f' w'=>(fun (ac:List Gp)=>∃am z,Gc.le s am∧St w0 am (Res.box m 128 [o,p,q,u,c,j,l]::Res.arr Gg 43 c a.launches::Res.arr Gb 134 j a.starts::Res.arr Gb 134 l a.ends::Res.arr Gz 89 z ac::H) w'∧Fx f' [(12,O (k':Int)),(0,Vq m),(3,z),(10,c),(11,O ((a.launches.length:Int)))]) s') aq ?_ ?_ ?_
 ·have aO:=hS.nilArr Gz 89
  exact fq
 ·intro d ac _ _ _ a7 au n
  obtain ⟨aC,z,_,aa,_,rfl⟩:=au
  refine Qa n fun ap x n=>?_
  obtain ⟨_,_,ag⟩:=(aa.f1).arr_at x
  refine G ?_
  refine Qi S27.h Z ag Z (Qj x).1 (Qj x).2.1 (G ?_)
  refine Qw (F:=Gg) (aa.f1) ag A43.h Z Z Z x (Sub.refl _) ?_
  intro _ a9
  obtain rfl:=QH.1 a9
  refine G ?_
  refine DT (cs:=[O 0,O 0]) aa Z43 Z Z fun af _ _=>?_
  refine G ?_
  refine Xst Z Z Z fun _ ax=>?_
  refine Q6 n fun _ ar _ a8 a4=>g ?_
  refine Zc (Zd (g ?_))
  refine QeQ (fun s' f' w'=>(J5 fun (i:Int) (al:List Gp)=>∃an ae,Gc.le aC an∧St w0 an (Res.box m 128 [o,p,q,u,c,j,l]::Res.arr Gg 43 c a.launches::Res.arr Gb 134 j a.starts::Res.arr Gb 134 l a.ends::Res.arr Gz 89 ae al::Res.box af 43 [O (ap.At),O (ap.Job)]::H) w'∧Fx f' [(0,Vq m),(3,ae),(4,O ((d:Int))),(5,Vq af),(6,O i),(10,c),(11,O ((a.launches.length:Int))),(12,O ((d:Int)))]) s') ar ?_ ?_ ?_
  ·have aP:=ax.f5
   exact fq
  ·intro aE _ _ _ av b ak
   obtain ⟨i,al⟩:=aE
   replace b:=QC b
   obtain ⟨_,ae,_,ai,_,rfl⟩:=av
   refine G ?_
   refine QK (ai.f1) S27.h Z Z (G ?_)
   refine Qe b (fun a5 b=>?_) fun a5 b=>?_
   ·refine G ?_
    refine QT (n0:=11) (qs 0 11 .done) JQ ?_
    have ab:=ai.drew
    refine Qa b fun aI y b=>?_
    obtain ⟨_,_,ah⟩:=(ab.f1).arr_at y
    refine G ?_
    refine Qi S27.h Z ah Z (Qj y).1 (Qj y).2.1 ⟨Z,G ?_⟩
    refine Qw (F:=(Qc .i64)) (ab.f1) ah A3.h Z Z Z y (Sub.iso (Sub.snd (Sub.refl _) Z)) ?_
    intro aG aA
    obtain rfl:aG=O (aI.Job):=Qo.1 aA
    refine ⟨Z,G ?_⟩
    refine Qe b (fun a6 b=>?_) fun a6 b=>?_
    ·refine G ?_
     refine Tc Z Z Z Z (Ka (JZ i) ab).r ?_
     rintro _ _ ⟨_,_,ay,rfl⟩
     refine G ?_
     refine Tc Z Z Z Z (YF (YE (d:Int)) ay).r ?_
     rintro _ _ ⟨_,_,az,rfl⟩
     refine G ?_
     refine Tc Z Z Z Z (Kz (Ky (Qr i) (Q0 (d:Int)) 1) az).r ?_
     rintro _ _ ⟨_,_,a0,rfl⟩
     refine G ?_
     refine Qt (Te:=89) (cs:=[O ((Qp (Qr i) (Q0 (d:Int)) 1).A),O ((Qp (Qr i) (Q0 (d:Int)) 1).B),O ((Qp (Qr i) (Q0 (d:Int)) 1).Most)]) a0 Z (Qb (Qd Z Z) Qg) fun _ _ a1=>?_
     refine Qa b fun _ aB b=>G ?_
     refine Qn (E:=Gz) (ys:=[(Qp (Qr i) (Q0 (d:Int)) 1)]) a1.f5 S135.h Z89 Z (by decide) Z Z Z Z ⟨[_,_,_],_,Z,⟨[_],_,Z,Z,[_],_,Z,Z,Z⟩,Z⟩ Z aB ?_
     intro _ _ _
     cases b
     refine G ?_
     exact ⟨_, .inr (ak (by intro _ h;cases h)),fq⟩
    cases b
    refine G ?_
    exact ⟨_,Z,fq⟩
   cases b
   refine G ?_
   exact ⟨_, .inr (ak (by intro _ h;cases h)),fq⟩
  rintro _ _ ⟨aF,aj,aw⟩
  have n:=aj.elim (a8 _) (a4 _)
  clear aj
  obtain ⟨_,_⟩:=aF
  replace n:=QC n
  obtain ⟨aD,aH,_,a2,_,rfl⟩:=aw
  cases n
  refine G ?_
  exact ⟨aD,aH,lq,((((((a2.f5).drop).f4).f4).f4).f4).f4,(Fx.mk (FxL.cons (Jo a7 (hS.f1).arr_le) fxl))⟩
 rintro _ _ ⟨_,z,_,a3,_,rfl⟩
 cases hm
 refine G ?_
 refine ⟨_,Qd0 Z,?_⟩
 obtain ⟨_,_,_,_⟩:=a3.f4.freezeArr
 exact fq
theorem Qev {a:Gx} {f:Nat} {i j k l b c d:Value} {r:(List Gp)×(Option Int)} (hm:KI a=some r) (hS:St w0 s (Res.box f 128 [i,j,k,l,b,c,d]::Res.arr Gg 43 b a.launches::Res.arr Gb 134 c a.starts::Res.arr Gb 134 d a.ends::H) w) (n:Ga (Qc .i64) s i a.t.Vars) (o:Ga (Qc .i64) s j a.t.Init) (p:Ga Gd s k a.t.Goal) (q:Ga Gw s l a.t.Jobs) :
  Cs Tryz.prog 58 #[Value.pointer (some ⟨f,0,none⟩)] w r fun v w'=>J5 fun (al:List Gp) (am:Option Int)=>∃g m,Gc.le s g∧St w0 g (Res.box f 128 [i,j,k,l,b,c,d]::Res.arr Gg 43 b a.launches::Res.arr Gb 134 c a.starts::Res.arr Gb 134 d a.ends::H) w'∧v=Value.tuple #[m,K8 63 (am)]∧Ga Gz g m al:=by
 unfold KI at hm
 refine Qh Tryz.func58 Z Z (Qa hm fun ak ab hm=>?_)
 obtain ⟨an,_⟩:=ak
 replace hm:=QC hm
 refine G ?_
 refine Tc Z Z Z Z (Qeu ab hq n o p q).r ?_
 rintro _ _ ⟨_,_,_,_,rfl,_⟩
 refine G ?_
 refine Qv (T:=63) Tryz.underlying30 Z Z Z (G ?_)
 refine Qe hm (fun aa hm=>?_) fun aa hm=>?_
 ·refine G ?_
  cases hm
 refine Qa hm fun _ ac hm=>G ?_
 refine Tc Z Z Z Z (Qdw ac hq rq rq rq rq).r ?_
 rintro _ _ ⟨_,_,_,u,rfl⟩
 refine Qa hm fun _ ad hm=>G ?_
 refine JH (E:=Gz) (ys:=an) u.f4 S135.h Z89 Z (by decide) Z Z Z rq ad fun _ _ _=>?_
 refine Qa hm fun ao ae hm=>G ?_
 refine Tc Z Z Z Z (QeJ ae hq rq rq rq rq).r ?_
 rintro _ _ ⟨_,_,_,x,rfl,ai⟩
 refine Qa hm fun _ af hm=>G ?_
 refine JH (E:=Gz) (ys:=ao) x.f4 S135.h Z89 Z (by decide) Z Z Z ai af fun _ _ _=>?_
 refine Qa hm fun ap ag hm=>G ?_
 refine Tc Z Z Z Z (QdN ag hq rq rq rq rq).r ?_
 rintro _ _ ⟨_,_,_,y,rfl,aj⟩
 refine Qa hm fun _ ah hm=>G ?_
 refine JH (E:=Gz) (ys:=ap) y.f4 S135.h Z89 Z (by decide) Z Z Z aj ah ?_
 intro _ _ z
 cases hm
 refine G ?_
 refine ⟨_,Qcw Z,?_⟩
 obtain ⟨_,_,_,_⟩:=z.freezeArr
 exact fq
instance F152_0:FTy Tryz.prog 152 0 0:=⟨by kernel_rfl⟩
instance A36:ATy Tryz.prog 36 false 1:=⟨by kernel_rfl⟩
instance S36:STy Tryz.prog 36 22 1 24:=⟨by kernel_rfl⟩
theorem Z22:JW Tryz.prog 22=some (Value.slice none 0 0):=by kernel_rfl
theorem Qog {a:Int} {r:Gu×(Option Int)} (hm:Qe7 a=some r) (hS:St w0 s (H) w) :
  Cs Tryz.prog 59 #[O a] w r fun v w'=>J5 fun (ap:Gu) (aJ:Option Int)=>∃(aj:Gc) (ac:Nat) (ao:Value) (ag:List Value),Gc.le s aj∧St w0 aj (Res.box ac 152 [ao]::Res.arr G4 22 ao ag::Res.rows (Qc .i64) 3 ag ap.d::H) w'∧v=Value.tuple #[Value.pointer (some ⟨ac,0,none⟩),K8 63 (aJ)]:=by
 unfold Qe7 at hm
 refine Qh Tryz.func59 Z Z (Zc (Zd (g ?_)))
 refine Zc (Zc (QL (M:=fun f' w'=>∃ak,Gc.le s ak∧St w0 ak (H) w'∧Fx f' [(0,O a),(13,Vb (((decide (a<1)) ||decide (128<a))))]) ?_ ?_))
 ·refine G ?_
  rcases tf (decide (a<1)) with a2 |a2
  ·refine G ?_
   exact fq
  refine G ?_
  exact fq
 rintro _ _ ⟨aD,_,_,_,rfl⟩
 refine G ?_
 refine Qe hm (fun a3 hm=>?_) fun a3 hm=>?_
 ·refine G ?_
  cases hm
 refine G ?_
 refine Q2 Z Qg (v:=Value.agg #[Vn]) (G ?_)
 refine JV Z Z fun n _ aw=>?_
 refine Qa hm fun _ aA hm=>Qa hm fun o aq hm=>G ?_
 refine QO (fun k' s' f' w'=>(fun (o:List (List Int))=>∃(al:Gc) (j:Value) (b:List Value),Gc.le aD al∧St w0 al (Res.box n 152 [j]::Res.arr G4 22 j b::Res.rows (Qc .i64) 3 b o::H) w'∧Fx f' [(18,O (k':Int)),(0,O a),(4,Vq n),(17,O a)]) s') aq ?_ ?_ ?_
 ·have aL:=(aw.rows_nil (Qc .i64) 3).nilArr G4 22
  exact fq
 ·intro q o aE _ _ a5 au m
  obtain ⟨aF,j,b,_,ax,_,rfl⟩:=au
  refine Qa m fun ah aB m=>G ?_
  refine XO (E:=(Qc .i64)) ax S22.h Z3 Z Z Z Z aB fun l _ t=>?_
  refine G ?_
  refine QK (t) S22.h Z Z (Qa m fun y ar m=>G ?_)
  refine QO (fun k' s' f' w'=>(fun (y:List Int)=>∃am,Gc.le aF am∧St w0 am (Res.box n 152 [j]::Res.arr (Qc .i64) 3 l y::Res.arr G4 22 j b::Res.rows (Qc .i64) 3 b o::H) w'∧Fx f' [(25,O (k':Int)),(0,O a),(4,Vq n),(5,O ((q:Int))),(6,l),(17,O a),(18,O ((q:Int))),(24,O ((ah.length:Int)))]) s') ar ?_ ?_ ?_
  ·have aM:=(t.f3).f3
   exact fq
  ·intro a7 y _ _ _ a6 av x
   obtain ⟨aG,a8,ae,_,rfl⟩:=av
   refine Qa x fun z i x=>Zc (Zd (g ?_))
   refine Zc (QbR (Zx (decide_eq_true (by omega))) (Yx (Ze (Zc (QaU (Zc (Zd (g ?_))))))))
   refine Zc (Zd (g ?_))
   refine QL (M:=fun f' w'=>(fun (z:List Int)=>∃an,Gc.le aG an∧St w0 an (Res.box n 152 [j]::Res.arr (Qc .i64) 3 l z::Res.arr G4 22 j b::Res.rows (Qc .i64) 3 b o::H) w'∧Fx f' [(0,O a),(4,Vq n),(5,O ((q:Int))),(6,l),(17,O a),(18,O ((q:Int))),(24,O ((ah.length:Int))),(25,O ((a7:Int)))]) z) ?_ ?_
   ·refine Qe i (fun a4 i=>?_) fun a4 i=>?_
    ·refine Qa i fun _ aa i=>?_
     obtain ⟨_,_,ad⟩:=(ae.f1).arr_at aa
     refine G ?_
     refine Qi S22.h Z ad Z (Qj aa).1 (Qj aa).2.1 (Qa i fun _ aC i=>G ?_)
     refine JG ae.f1 ad A3.h Z Z Z Z (Qo.2 Z) aC ?_
     intro _ _
     cases i
     refine G ?_
     exact fq
    cases i
    refine G ?_
    exact fq
   rintro _ _ ⟨aH,a9,ay,_,rfl⟩
   cases x
   refine G ?_
   exact ⟨aH,(Zt a8 a9),(((ay.f3).f3).f3).f3,(Fx.mk (FxL.cons (Jo a6 t.arr_le) fxl))⟩
  rintro _ _ ⟨aI,_,af,_,rfl⟩
  refine G ?_
  refine Qt (Te:=22) (cs:=[l]) af Z (Qb (c:=[l]) (Qd Z (Qs (af.f1).arr_one)) Qg) fun _ _ az=>?_
  refine Qa m fun _ ai m=>?_
  have u:=(((((az.f2).f1).f4).f4).f2).f1
  refine G ?_
  refine QiB (E:=G4) (ys:=[l]) u S36.h Z22 Z (by decide) Z Z Z Z (QsC ⟨Z,(u.f3).arr_one⟩) Z Z (u.f2).rows_len ai ?_
  intro ab _ a0
  have p:=(a0.f1.f2.rows_push).f1
  rw [<-(QhK ai).2] at p
  refine G ?_
  refine Qu (ds:=[ab]) (es:=[ab]) p.f2 A36.h Z Z Z (Qs (((p.f2).f2).f2).arr_one) (Zj (((p.f2).f2).f2).arr_one QM) (Xc Z) Z ?_
  intro _ a1
  have aK:=Zu m
  subst aE
  refine G ?_
  exact ⟨aI,ab,(b++[l]),lq,((a1.f2).f2).f2,(Fx.mk (FxL.cons (Jo a5 (by have h:=Qbn aA;simp at h;simp only [maxLen];omega)) fxl))⟩
 rintro _ _ ⟨_,j,b,_,_,_,rfl⟩
 cases hm
 refine G ?_
 exact ⟨_,Qcw Z,fq⟩
instance F89_0:FTy Tryz.prog 89 0 0:=⟨by kernel_rfl⟩
theorem YQ {c:Gu} {i:Int} {j:Nat} {b:Value} {a:List Value} {r:Bool} (hm:Qal c i=some r) (hS:St w0 s (Res.box j 152 [b]::Res.arr G4 22 b a::Res.rows (Qc .i64) 3 a c.d::H) w) :
  Cv Tryz.prog 70 #[Value.pointer (some ⟨j,0,none⟩),O i] w0 w s (Res.box j 152 [b]::Res.arr G4 22 b a::Res.rows (Qc .i64) 3 a c.d::H) r fun n=>Value.bool (n):=by
 unfold Qal at hm
 refine Qh Tryz.func70 Z Z (Zc (Zd (g ?_)))
 refine Zc (QL (M:=fun f' w'=>∃l,Gc.le s l∧St w0 l (Res.box j 152 [b]::Res.arr G4 22 b a::Res.rows (Qc .i64) 3 a c.d::H) w'∧Fx f' [(4,Vb (((decide (0<=i)) && decide (i<(c.d.length:Int)))))]) ?_ ?_)
 ·refine G ?_
  rcases tf (decide (0<=i)) with m |m
  ·refine G ?_
   refine QgL ((hS.f2).f2) ((hS.f2).f2).f1.rows_len S36.h Z Z (G ?_)
   exact fq
  refine G ?_
  exact fq
 rintro _ _ ⟨_,_,_,_,rfl⟩
 cases hm
 refine G ?_
 exact fr
instance F89_1:FTy Tryz.prog 89 1 1:=⟨by kernel_rfl⟩
instance F89_2:FTy Tryz.prog 89 2 2:=⟨by kernel_rfl⟩
theorem Qdg {p:Gu} {a:Gp} {l:Nat} {b:Value} {j:List Value} {r:(Option Int)×(List (List Int))} (hm:J8 p a=some r) (hS:St w0 s (Res.box l 152 [b]::Res.arr G4 22 b j::Res.rows (Qc .i64) 3 j p.d::H) w) :
  Cs Tryz.prog 28 #[Value.pointer (some ⟨l,0,none⟩),Value.agg #[O (a.A),O (a.B),O (a.Most)]] w r fun v w'=>J5 fun (bx:Option Int) (bg:List (List Int))=>∃aG,Gc.le s aG∧St w0 aG (Res.box l 152 [b]::Res.arr G4 22 b j::Res.rows (Qc .i64) 3 j bg::H) w'∧v=K8 63 (bx):=by
 unfold J8 at hm
 refine Qh Tryz.func28 Z Z (G ?_)
 refine JV Z Z fun n _ _=>?_
 refine G ?_
 refine Qeg Tryz.underlying68 Z Z Z (Qa hm fun ar m hm=>g ?_)
 refine QaT Z (Yx (Ze (Zc (Zc (QL (M:=fun f' w'=>(fun (ar:Bool)=>∃aH,Gc.le s aH∧St w0 aH (Res.box l 152 [b]::Res.arr G4 22 b j::Res.rows (Qc .i64) 3 j p.d::Res.box n 89 [O (a.A),O (a.B),O (a.Most)]::H) w'∧Fx f' [(0,Vq l),(3,Vq n),(34,Vb ar)]) ar) ?_ ?_)))))
 ·refine G ?_
  refine Tc Z Z Z Z (YQ (YP p a.A) hq).r ?_
  rintro _ _ ⟨_,_,_,rfl⟩
  refine G ?_
  refine Qe m (fun aX m=>?_) fun aX m=>?_
  ·cases m
   refine G ?_
   exact fq
  refine G ?_
  refine Tc Z Z Z Z (YQ (YP p a.B) hq).r ?_
  rintro _ _ ⟨_,_,_,rfl⟩
  refine G ?_
  refine Qe m (fun aY m=>?_) fun aY m=>?_
  ·cases m
   refine G ?_
   exact fq
  refine G ?_
  refine Qe m (fun aZ m=>?_) fun aZ m=>?_
  ·cases m
   refine G ?_
   exact fq
  cases m
  refine G ?_
  exact fq
 rintro _ _ ⟨aI,_,aS,_,rfl⟩
 refine G ?_
 refine Qe hm (fun ba hm=>?_) fun ba hm=>?_
 ·refine G ?_
  cases hm
 refine G ?_
 refine QT (n0:=12) (qs 0 12 .done) JQ ?_
 have y:=aS.drew
 refine Qa hm fun _ ao hm=>?_
 obtain ⟨_,ac,au,_⟩:=(((y.f2).f2).f1).rows_at ao
 obtain ⟨_,_,av⟩:=((y.f2).f2).arr_at ac
 refine G ?_
 refine Qi S36.h Z av Z (Qj ac).1 (Qj ac).2.1 ⟨Z,G ?_⟩
 refine Qw (F:=G4) ((y.f2).f2) av A22.h Z Z Z ac (Sub.refl _) ?_
 intro bu a9
 replace a9:=(Qfd.1 a9).1
 subst bu
 refine ⟨Z,Qa hm fun aq af hm=>?_⟩
 obtain ⟨_,_,aw⟩:=((((y.f2).f2).f1).rows_split au (Qj ao).2.2).arr_at af
 refine G ?_
 refine Qi S22.h Z aw Z (Qj af).1 (Qj af).2.1 ⟨Z,G ?_⟩
 refine Qw (F:=(Qc .i64)) ((((y.f2).f2).f1).rows_split au (Qj ao).2.2) aw A3.h Z Z Z af (Sub.refl _) ?_
 intro _ bi
 obtain rfl:=Qo.1 bi
 refine ⟨Z,g ?_⟩
 refine Zc (QL (M:=fun f' w'=>∃aJ,Gc.le aI aJ∧St w0 aJ (Res.box l 152 [b]::Res.arr G4 22 b j::Res.rows (Qc .i64) 3 j p.d::Res.box n 89 [O (a.A),O (a.B),O (a.Most)]::H) w'∧Fx f' [(0,Vq l),(3,Vq n),(56,Vb (((decide (aq<1125899906842624)) && decide ((IntKind.i64.wrap (aq+a.Most))<0))))]) ?_ ?_)
 ·refine G ?_
  rcases tf (decide (aq<1125899906842624)) with a6 |a6
  ·refine G ?_
   exact ⟨aI,(Zv _),(((y.f3).f3).f3).f3,(Fx.mk (FxL.cons Z (FxL.cons Z (FxL.cons (Zx (QxU a6)).symm fxl))))⟩
  refine G ?_
  exact fq
 rintro _ _ ⟨bp,_,q,_,rfl⟩
 refine G ?_
 refine Qe hm (fun bb hm=>?_) fun bb hm=>?_
 ·refine G ?_
  cases hm
 refine G ?_
 refine QgL ((q.f2).f2) ((q.f2).f2).f1.rows_len S36.h Z Z (Qa hm fun al aO hm=>G ?_)
 refine QO (fun k' s' f' w'=>(fun (al:List (List Int))=>∃aK,Gc.le bp aK∧St w0 aK (Res.box l 152 [b]::Res.arr G4 22 b j::Res.rows (Qc .i64) 3 j al::Res.box n 89 [O (a.A),O (a.B),O (a.Most)]::H) w'∧Fx f' [(63,O (k':Int)),(0,Vq l),(3,Vq n),(61,b),(62,O ((p.d.length:Int)))]) s') aO ?_ ?_ ?_
 ·have b0:=q.f3
  exact fq
 ·intro a8 al bq _ _ a7 aQ c
  obtain ⟨aL,bh,t,_,rfl⟩:=aQ
  refine Qa c fun _ ap c=>?_
  obtain ⟨a4,ad,o,_⟩:=(((t.f2).f2).f1).rows_at ap
  obtain ⟨_,_,ax⟩:=((t.f2).f2).arr_at ad
  refine G ?_
  refine Qi S36.h Z ax Z (Qj ad).1 (Qj ad).2.1 (G ?_)
  refine Qw (F:=G4) ((t.f2).f2) ax A22.h Z Z Z ad (Sub.refl _) ?_
  intro bv aA
  replace aA:=(Qfd.1 aA).1
  subst bv
  refine Qa c fun _ ag c=>?_
  obtain ⟨_,_,ay⟩:=((((t.f2).f2).f1).rows_split o (Qj ap).2.2).arr_at ag
  refine G ?_
  refine Qi S22.h Z ay Z (Qj ag).1 (Qj ag).2.1 (G ?_)
  refine Qw (F:=(Qc .i64)) ((((t.f2).f2).f1).rows_split o (Qj ap).2.2) ay A3.h Z Z Z ag (Sub.refl _) ?_
  intro _ bj
  obtain rfl:=Qo.1 bj
  refine G ?_
  refine Qe c (fun bc c=>?_) fun bc c=>?_
  ·cases c
   refine G ?_
   exact ⟨aL,bh,(((t.f3).f3).f3).f3,(Fx.mk (FxL.cons (Jo a7 (by have h:=((q.f2).f2).f1.rows_len;have h2:=((q.f2).f2).arr_le;omega)) fxl))⟩
  refine G ?_
  refine QT (n0:=10) (qs 0 10 .done) JQ ?_
  have ab:=t.drew
  refine Qa c fun aF aB c=>?_
  obtain ⟨a5,ae,aj,_⟩:=(((ab.f2).f2).f1).rows_at aB
  obtain ⟨_,_,az⟩:=((ab.f2).f2).arr_at ae
  refine G ?_
  refine Qi S36.h Z az Z (Qj ae).1 (Qj ae).2.1 ⟨Z,G ?_⟩
  refine Qw (F:=G4) ((ab.f2).f2) az A22.h Z Z Z ae (Sub.refl _) ?_
  intro bw aC
  replace aC:=(Qfd.1 aC).1
  subst bw
  refine ⟨Z,G ?_⟩
  refine QK ((((ab.f2).f2).f1).rows_split aj (Qj aB).2.2) S22.h Z Z ⟨Z,Qa c fun _ bk c=>Qa c fun am aP c=>G ?_⟩
  refine QO (fun k' s' f' w'=>(fun (am:List (List Int))=>∃aM,Gc.le aL aM∧St w0 aM (Res.box l 152 [b]::Res.arr G4 22 b j::Res.rows (Qc .i64) 3 j am::Res.box n 89 [O (a.A),O (a.B),O (a.Most)]::H) w'∧Fx f' [(82,O (k':Int)),(0,Vq l),(3,Vq n),(7,a4),(61,b),(62,O ((p.d.length:Int))),(63,O ((a8:Int))),(80,a5),(81,O ((aF.length:Int)))]) s') aP ?_ ?_ ?_
  ·have b1:=ab.f3
   exact fq
  ·intro bf am _ _ _ be aR u
   obtain ⟨br,_,ak,_,rfl⟩:=aR
   refine Qa u fun _ aD u=>Qa u fun _ ah u=>?_
   obtain ⟨_,_,a0⟩:=((((ak.f2).f2).f1).rows_split aj (Qj aD).2.2).arr_at ah
   refine G ?_
   refine Qi S22.h Z a0 Z (Qj ah).1 (Qj ah).2.1 (G ?_)
   refine Qw (F:=(Qc .i64)) ((((ak.f2).f2).f1).rows_split aj (Qj aD).2.2) a0 A3.h Z Z Z ah (Sub.refl _) ?_
   intro _ bl
   obtain rfl:=Qo.1 bl
   refine Qa u fun an i u=>g ?_
   refine Zc (Zd (g ?_))
   refine QL (M:=fun f' w'=>(fun (an:List (List Int))=>∃aN,Gc.le br aN∧St w0 aN (Res.box l 152 [b]::Res.arr G4 22 b j::Res.rows (Qc .i64) 3 j an::Res.box n 89 [O (a.A),O (a.B),O (a.Most)]::H) w'∧Fx f' [(0,Vq l),(3,Vq n),(7,a4),(61,b),(62,O ((p.d.length:Int))),(63,O ((a8:Int))),(80,a5),(81,O ((aF.length:Int))),(82,O ((bf:Int)))]) an) ?_ ?_
   ·refine Qe i (fun bd i=>?_) fun bd i=>?_
    ·refine G ?_
     refine QT (n0:=17) (qs 0 17 .done) JQ ?_
     have z:=ak.drew
     refine Qa i fun _ aa i=>Qa i fun _ x i=>?_
     obtain ⟨_,_,a1⟩:=((((z.f2).f2).f1).rows_split o (Qj aa).2.2).arr_at x
     refine G ?_
     refine Qi S22.h Z a1 Z (Qj x).1 (Qj x).2.1 ⟨Z,G ?_⟩
     refine Qw (F:=(Qc .i64)) ((((z.f2).f2).f1).rows_split o (Qj aa).2.2) a1 A3.h Z Z Z x (Sub.refl _) ?_
     intro _ bm
     obtain rfl:=Qo.1 bm
     refine ⟨Z,Qa i fun _ ai i=>?_⟩
     obtain ⟨_,_,a2⟩:=((((z.f2).f2).f1).rows_split o (Qj aa).2.2).arr_at ai
     refine G ?_
     refine Qi S22.h Z a2 Z (Qj ai).1 (Qj ai).2.1 ⟨Z,G ?_⟩
     refine Qw (F:=(Qc .i64)) ((((z.f2).f2).f1).rows_split o (Qj aa).2.2) a2 A3.h Z Z Z ai (Sub.refl _) ?_
     intro _ bn
     obtain rfl:=Qo.1 bn
     refine ⟨Z,G ?_⟩
     refine QlN Z Z Z ⟨Z,?_⟩
     obtain ⟨_,_,a3⟩:=((((z.f2).f2).f1).rows_split o (Qj aa).2.2).arr_at x
     refine G ?_
     refine Qi S22.h Z a3 Z (Qj x).1 (Qj x).2.1 (Qa i fun _ bo i=>Qa i fun _ aE i=>G ?_)
     refine JG ((((z.f2).f2).f1).rows_split o (Qj aa).2.2) a3 A3.h Z Z Z Z (Qo.2 Z) bo ?_
     intro _ aT
     have aU:=aT.rows_back o (Qgn aE).2.1
     rw [<-(Qgn aE).2.2] at aU
     cases i
     refine G ?_
     exact fq
    cases i
    refine G ?_
    exact fq
   rintro _ _ ⟨bs,_,aV,_,rfl⟩
   cases u
   refine G ?_
   exact ⟨bs,lq,(((aV.f3).f3).f3).f3,(Fx.mk (FxL.cons (Jo be (by have h:=Qbn bk;simpa [maxLen] using h)) fxl))⟩
  rintro _ _ ⟨bt,_,aW,_,rfl⟩
  have bz:=Zu c
  subst bq
  refine G ?_
  exact ⟨bt,lq,(((aW.f3).f3).f3).f3,(Fx.mk (FxL.cons (Jo a7 (by have h:=((q.f2).f2).f1.rows_len;have h2:=((q.f2).f2).arr_le;omega)) fxl))⟩
 rintro _ _ ⟨_,_,_,_,rfl⟩
 cases hm
 refine G ?_
 exact fr
theorem Qb2 {a:Gx} {l:Nat} {m n o p c i j:Value} {r:Gu×(Option Int)} (hm:J6 a=some r) (hS:St w0 s (Res.box l 128 [m,n,o,p,c,i,j]::Res.arr Gg 43 c a.launches::Res.arr Gb 134 i a.starts::Res.arr Gb 134 j a.ends::H) w) (aj:Ga (Qc .i64) s m a.t.Vars) (ak:Ga (Qc .i64) s n a.t.Init) (al:Ga Gd s o a.t.Goal) (am:Ga Gw s p a.t.Jobs) :
  Cs Tryz.prog 20 #[Value.pointer (some ⟨l,0,none⟩)] w r fun v w'=>J5 fun (ao:Gu) (aE:Option Int)=>∃(ac:Gc) (u:Nat) (ae:Value) (ab:List Value),Gc.le s ac∧St w0 ac (Res.box l 128 [m,n,o,p,c,i,j]::Res.arr Gg 43 c a.launches::Res.arr Gb 134 i a.starts::Res.arr Gb 134 j a.ends::Res.box u 152 [ae]::Res.arr G4 22 ae ab::Res.rows (Qc .i64) 3 ab ao.d::H) w'∧v=Value.tuple #[Value.pointer (some ⟨u,0,none⟩),K8 63 (aE)]:=by
 unfold J6 at hm
 refine Qh Tryz.func20 Z Z (Qa hm fun aA a3 hm=>?_)
 obtain ⟨ai,_⟩:=aA
 replace hm:=QC hm
 refine G ?_
 refine Tc Z Z Z Z (Qev a3 hq aj ak al am).r ?_
 rintro _ _ ⟨_,aD,_,x,rfl,_⟩
 refine G ?_
 refine Qv (T:=63) Tryz.underlying30 Z Z Z (G ?_)
 refine Qe hm (fun ay hm=>?_) fun ay hm=>?_
 ·refine G ?_
  cases hm
 refine G ?_
 refine QK (x.f1) S27.h Z Z (Qa hm fun aB a4 hm=>?_)
 obtain ⟨_,_⟩:=aB
 replace hm:=QC hm
 refine G ?_
 refine Tc Z Z Z Z (Qog a4 x).r ?_
 rintro _ _ ⟨a8,af,ag,ah,_,av,rfl⟩
 refine G ?_
 refine Qv (T:=63) Tryz.underlying30 Z Z Z (G ?_)
 refine Qe hm (fun z hm=>?_) fun z hm=>?_
 ·refine G ?_
  cases hm
 refine Q6 hm fun _ ap _ a0 ax=>W_c Z z (QiV (Yx (Ze (Zc (Zc (Zd (g ?_)))))))
 refine Jn (fun k' s' f' w'=>(fun (q:List (List Int))=>∃ad,Gc.le a8 ad∧St w0 ad (Res.box l 128 [m,n,o,p,c,i,j]::Res.arr Gg 43 c a.launches::Res.arr Gb 134 i a.starts::Res.arr Gb 134 j a.ends::Res.box af 152 [ag]::Res.arr G4 22 ag ah::Res.rows (Qc .i64) 3 ah q::H) w'∧Fx f' [(34,O (k':Int)),(6,Vq af),(32,aD),(33,O ((ai.length:Int)))]) s') ap ?_ ?_ ?_ ?_
 ·have aF:=(av.f2).f2
  exact fq
 ·intro _ q _ _ _ _ aq b _
  obtain ⟨_,_,y,_,rfl⟩:=aq
  refine Qa b fun _ a5 b=>G ?_
  refine Jv Z Z Z a5 fun _ _ an=>?_
  refine G ?_
  refine Zw (E:=Gz) y A89.h Z Z Z an ?_
  intro _ a6
  obtain rfl:=QmE.1 a6
  refine G ?_
  refine DT (cs:=[O 0,O 0,O 0]) y Z89 Z Z fun _ _ _=>?_
  refine G ?_
  refine Xst Z Z Z fun _ _=>?_
  refine Qa b fun aC a7 b=>?_
  obtain ⟨_,_⟩:=aC
  replace b:=QC b
  refine G ?_
  refine Tc Z Z Z Z (Qdg a7 hq).r ?_
  rintro _ _ ⟨_,_,_,rfl⟩
  refine G ?_
  refine Qv (T:=63) Tryz.underlying30 Z Z Z (G ?_)
  refine Qe b (fun az b=>?_) fun az b=>?_
  ·refine G ?_
   cases b
  cases b
  refine G ?_
  exact ⟨_,Z,fq⟩
 ·intro q _ _ ar a1
  obtain ⟨a9,a2,aw,_,rfl⟩:=ar
  refine G ?_
  refine ⟨ai.length,_, .inl a1,?_⟩;exact ⟨a9,a2,((((((aw.f6).f6).f6).f6).f6).f6).f6,(Fx.mk)⟩
 rintro _ _ ⟨_,_,aa,au⟩
 have hm:=aa.elim (a0 _) (ax _)
 clear aa
 obtain ⟨_,_,_,_,rfl⟩:=au
 cases hm
 refine G ?_
 exact ⟨_,Qcw Z,fq⟩
end Go.Pw
