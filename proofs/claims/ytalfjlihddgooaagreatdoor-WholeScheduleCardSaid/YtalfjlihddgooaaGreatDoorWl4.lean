/- -/
import Derived.Test.YtalfjlihddgooaaGreatDoorLD
import Derived.Test.YtalfjlihddgooaaGreatDoorLC
import Derived.Test.YtalfjlihddgooaaGreatDoorW3
set_option maxRecDepth 100000
set_option maxHeartbeats 4000000
set_option linter.unusedVariables false
namespace Go.Pw
open Go.Proofs
variable {w0 w:World} {s:Gc} {H:List Res}
attribute [local irreducible] Exec WL W andThen QaB DL Jm
theorem QbG {a:Gu} {b j:Int} {k:Nat} {i:Value} {c:List Value} {r:Int×(Option Int)} (hm:Kg a b j=some r) (hS:St w0 s (Res.box k 152 [i]::Res.arr G4 22 i c::Res.rows (Qc .i64) 3 c a.d::H) w) :
  Cs Tryz.prog 71 #[Value.pointer (some ⟨k,0,none⟩),O b,O j] w r fun v w'=>J5 fun (ad:Int) (ae:Option Int)=>∃x,Gc.le s x∧St w0 x (Res.box k 152 [i]::Res.arr G4 22 i c::Res.rows (Qc .i64) 3 c a.d::H) w'∧v=Value.tuple #[O ad,K8 63 (ae)]:=by
 unfold Kg at hm
 refine Qh Tryz.func71 Z Z (G ?_)
 refine Qeg Tryz.underlying68 Z Z Z (g ?_)
 refine QaT Z (Yx (Ze (Zc (Zc (QL (M:=fun f' w'=>∃y,Gc.le s y∧St w0 y (Res.box k 152 [i]::Res.arr G4 22 i c::Res.rows (Qc .i64) 3 c a.d::H) w'∧Fx f' [(0,Vq k),(1,O b),(2,O j),(20,Vb (((!(QI a b)) ||!(QI a j))))]) ?_ ?_)))))
 ·refine G ?_
  refine Tc Z Z Z Z (YQ (YP a b) hq).r ?_
  rintro _ _ ⟨_,_,_,rfl⟩
  refine G ?_
  rcases tf (!(QI a b)) with z |z
  ·refine G ?_
   exact fq
  refine G ?_
  refine Tc Z Z Z Z (YQ (YP a j) hq).r ?_
  rintro _ _ ⟨_,_,_,rfl⟩
  refine G ?_
  exact fq
 rintro _ _ ⟨_,_,l,_,rfl⟩
 refine G ?_
 refine Qe hm (fun aa hm=>?_) fun aa hm=>?_
 ·refine G ?_
  cases hm
 refine Qa hm fun _ o hm=>?_
 obtain ⟨_,m,p,_⟩:=(((l.f2).f2).f1).rows_at o
 obtain ⟨_,_,q⟩:=((l.f2).f2).arr_at m
 refine G ?_
 refine Qi S36.h Z q Z (Qj m).1 (Qj m).2.1 (G ?_)
 refine Qw (F:=G4) ((l.f2).f2) q A22.h Z Z Z m (Sub.refl _) ?_
 intro ac u
 replace u:=(Qfd.1 u).1
 subst ac
 refine Qa hm fun _ n hm=>?_
 obtain ⟨_,_,t⟩:=((((l.f2).f2).f1).rows_split p (Qj o).2.2).arr_at n
 refine G ?_
 refine Qi S22.h Z t Z (Qj n).1 (Qj n).2.1 (G ?_)
 refine Qw (F:=(Qc .i64)) ((((l.f2).f2).f1).rows_split p (Qj o).2.2) t A3.h Z Z Z n (Sub.refl _) ?_
 intro _ ab
 obtain rfl:=Qo.1 ab
 cases hm
 refine G ?_
 exact ⟨_,Qcw Z,fq⟩
theorem Qes {f:Gu} {g:Int} {c:Nat} {b:Value} {a:List Value} {r:Int×(Option Int)} (hm:KE f g=some r) (hS:St w0 s (Res.box c 152 [b]::Res.arr G4 22 b a::Res.rows (Qc .i64) 3 a f.d::H) w) :
  Cs Tryz.prog 60 #[Value.pointer (some ⟨c,0,none⟩),O g] w r fun v w'=>J5 fun (m:Int) (n:Option Int)=>∃h,Gc.le s h∧St w0 h (Res.box c 152 [b]::Res.arr G4 22 b a::Res.rows (Qc .i64) 3 a f.d::H) w'∧v=Value.tuple #[O m,K8 63 (n)]:=by
 unfold KE at hm
 refine Qh Tryz.func60 Z Z (Qa hm fun l k hm=>?_)
 obtain ⟨_,_⟩:=l
 replace hm:=QC hm
 refine G ?_
 refine Tc Z Z Z Z (QbG k hq).r ?_
 rintro _ _ ⟨_,_,_,rfl⟩
 refine G ?_
 refine Qv (T:=63) Tryz.underlying30 Z Z Z (G ?_)
 refine Qe hm (fun i hm=>?_) fun i hm=>?_
 ·refine G ?_
  cases hm
 refine G ?_
 refine Qe hm (fun j hm=>?_) fun j hm=>?_
 ·refine G ?_
  cases hm
 refine G ?_
 refine DK Z Z ?_
 cases hm
 refine G ?_
 exact ⟨_,Qcw Z,fq⟩
theorem Qcd {a:Gx} {q:Gu} {p:Nat} {x y z aa c j l:Value} {n:Nat} {m:Value} {i:List Value} {r:(List Launch)×(Option Int)} (hm:JP a q=some r) (hS:St w0 s (Res.box p 128 [x,y,z,aa,c,j,l]::Res.arr Gg 43 c a.launches::Res.arr Gb 134 j a.starts::Res.arr Gb 134 l a.ends::Res.box n 152 [m]::Res.arr G4 22 m i::Res.rows (Qc .i64) 3 i q.d::H) w) (aB:Ga (Qc .i64) s x a.t.Vars) (aC:Ga (Qc .i64) s y a.t.Init) (aD:Ga Gd s z a.t.Goal) (aE:Ga Gw s aa a.t.Jobs) :
  Cs Tryz.prog 21 #[Value.pointer (some ⟨p,0,none⟩),Value.pointer (some ⟨n,0,none⟩)] w r fun v w'=>J5 fun (a9:List Launch) (aA:Option Int)=>∃ah aj,Gc.le s ah∧St w0 ah (Res.box p 128 [x,y,z,aa,c,j,l]::Res.arr Gg 43 c a.launches::Res.arr Gb 134 j a.starts::Res.arr Gb 134 l a.ends::Res.box n 152 [m]::Res.arr G4 22 m i::Res.rows (Qc .i64) 3 i q.d::Res.arr Gg 43 aj a9::H) w'∧v=Value.tuple #[aj,K8 63 (aA)]:=by
 unfold JP at hm
 refine Qh Tryz.func21 Z Z (G ?_)
 refine QK (hS.f1) S27.h Z Z (Q6 hm fun _ ak _ ay av=>g ?_)
 refine Jn (fun k' s' f' w'=>(fun (ac:List Launch)=>∃ai o,Gc.le s ai∧St w0 ai (Res.box p 128 [x,y,z,aa,c,j,l]::Res.arr Gg 43 c a.launches::Res.arr Gb 134 j a.starts::Res.arr Gb 134 l a.ends::Res.box n 152 [m]::Res.arr G4 22 m i::Res.rows (Qc .i64) 3 i q.d::Res.arr Gg 43 o ac::H) w'∧Fx f' [(16,O (k':Int)),(1,Vq n),(6,o),(14,c),(15,O ((a.launches.length:Int)))]) s') ak ?_ ?_ ?_ ?_
 ·have aF:=hS.nilArr Gg 43
  exact fq
 ·intro a0 ac _ _ _ ax al b _
  obtain ⟨_,o,_,ab,_,rfl⟩:=al
  refine Qa b fun ad u b=>?_
  obtain ⟨_,_,af⟩:=(ab.f1).arr_at u
  refine G ?_
  refine Qi S27.h Z af Z (Qj u).1 (Qj u).2.1 (G ?_)
  refine Qw (F:=Gg) (ab.f1) af A43.h Z Z Z u (Sub.refl _) ?_
  intro _ a2
  obtain rfl:=QH.1 a2
  refine G ?_
  refine DT (cs:=[O 0,O 0]) ab Z43 Z Z fun _ _ _=>?_
  refine G ?_
  refine Xst Z Z Z fun _ ao=>?_
  refine G ?_
  refine Tc Z Z Z Z (Ka (JZ (a0:Int)) ao).r ?_
  rintro _ _ ⟨_,_,_,rfl⟩
  refine Qa b fun a7 a3 b=>?_
  obtain ⟨ae,_⟩:=a7
  replace b:=QC b
  refine G ?_
  refine Tc Z Z Z Z (Qes a3 hq).r ?_
  rintro _ _ ⟨a5,_,ap,rfl⟩
  refine G ?_
  refine Qv (T:=63) Tryz.underlying30 Z Z Z (G ?_)
  refine Qe b (fun aw b=>?_) fun aw b=>?_
  ·refine G ?_
   cases b
  refine G ?_
  refine Q2 Z (Qb (Qd Z Z) (Qb (Qd Z Z) Qg)) (v:=Value.agg #[O ae,O (ad.Job)]) (G ?_)
  refine Qt (Te:=43) (cs:=[O ae,O (ad.Job)]) ap Z (Qb (Qd Z Z) Qg) fun _ _ aq=>?_
  refine Qa b fun _ a4 b=>G ?_
  refine Qn (E:=Gg) (ys:=[(⟨ae,ad.Job⟩:Launch)]) aq.f9 S27.h Z43 Z (by decide) Z Z Z Z ⟨[_,_],_,Z,⟨[_],_,Z,Z,Z⟩,Z⟩ Z a4 ?_
  intro a8 _ ar
  cases b
  refine G ?_
  refine ⟨_,Z,?_⟩;exact ⟨a5,a8,lq,((((((((ar.f4).drop).f3).f3).f3).f7).f7).f7).f7,(Fx.mk (FxL.cons (Jo ax (hS.f1).arr_le) fxl))⟩
 ·intro ac _ _ am az
  obtain ⟨a6,o,a1,au,_,rfl⟩:=am
  refine G ?_
  refine ⟨a.launches.length,_, .inl az,?_⟩;exact ⟨a6,o,a1,(((((((au.f7).f7).f7).f7).f7).f7).f7).f7,(Fx.mk)⟩
 rintro _ _ ⟨_,_,ag,an⟩
 have hm:=ag.elim (ay _) (av _)
 clear ag
 obtain ⟨_,_,_,_,_,rfl⟩:=an
 cases hm
 refine G ?_
 exact ⟨_,Qcw Z,fq⟩
theorem Qhl {a:Ge} {b:(List Launch)} {d f g h i:Value} {r:(List Launch)×(Option Int)} (hm:YG a b=some r) (hS:St w0 s (H) w) (k:Ga (Qc .i64) s d a.Vars) (l:Ga (Qc .i64) s f a.Init) (m:Ga Gd s g a.Goal) (n:Ga Gw s h a.Jobs) (o:Ga Gg s i b) :
  Cs Tryz.prog 6 #[Value.agg #[d,f,g,h],i] w r fun v w'=>J5 fun (ag:List Launch) (ah:Option Int)=>∃c j,Gc.le s c∧St w0 c (Res.arr Gg 43 j ag::H) w'∧v=Value.tuple #[j,K8 63 (ah)]:=by
 unfold YG at hm
 refine Qh Tryz.func6 Z Z (G ?_)
 refine JV Z Z fun _ _ p=>?_
 refine Qa hm fun ad u hm=>?_
 obtain ⟨_,_⟩:=ad
 replace hm:=QC hm
 refine G ?_
 refine Tc Z Z Z Z (Qed u p k l m n o).r ?_
 rintro _ _ ⟨_,_,_,_,_,_,_,_,_,_,_,rfl,z,aa,ab,ac⟩
 refine G ?_
 refine Qv (T:=63) Tryz.underlying30 Z Z Z (G ?_)
 refine Qe hm (fun q hm=>?_) fun q hm=>?_
 ·refine G ?_
  cases hm
 refine Qa hm fun ae x hm=>?_
 obtain ⟨_,_⟩:=ae
 replace hm:=QC hm
 refine G ?_
 refine Tc Z Z Z Z (Qb2 x hq z aa ab ac).r ?_
 rintro _ _ ⟨_,_,_,_,_,_,rfl⟩
 refine G ?_
 refine Qv (T:=63) Tryz.underlying30 Z Z Z (G ?_)
 refine Qe hm (fun t hm=>?_) fun t hm=>?_
 ·refine G ?_
  cases hm
 refine Qa hm fun af y hm=>?_
 obtain ⟨_,_⟩:=af
 replace hm:=QC hm
 refine G ?_
 refine Tc Z Z Z Z (Qcd y hq rq rq rq rq).r ?_
 rintro _ _ ⟨_,_,_,_,rfl⟩
 cases hm
 refine G ?_
 exact ⟨_,Qcw Z,fq⟩
theorem Z39:JW Tryz.prog 39=some (Value.agg #[Value.slice none 0 0,Value.slice none 0 0,Value.slice none 0 0,O 0]):=by kernel_rfl
theorem Qry:(Tryz.prog.info? 63).map (·.comparable)=some true:=by kernel_rfl
theorem Qgf {a:(Option Int)} {r:Bool} (hm:Qa5 a=some r) (hS:St w0 s (H) w) :
  Cv Tryz.prog 22 #[K8 63 (a)] w0 w s H r fun k=>Value.bool (k):=by
 unfold Qa5 at hm
 refine Qh Tryz.func22 Z Z (Zc (Zd (g ?_)))
 refine Zc (QL (M:=fun f' w'=>∃c,Gc.le s c∧St w0 c (H) w'∧Fx f' [(2,Vb (((decide (a=some 18)) ||((decide (a=some 17)) ||((decide (a=some 12)) ||((decide (a=some 16)) ||decide (a=some 13)))))))]) ?_ ?_)
 ·refine G ?_
  refine DO C63 Z Z (G ?_)
  refine Qcp (T:=63) Tryz.underlying30 ⟨Qry,Tryz.underlying63⟩ Z Z Z (G ?_)
  rcases tf (decide (a=some 18)) with d |d
  ·refine G ?_
   exact fq
  refine G ?_
  refine DO C63 Z Z (G ?_)
  refine Qcp (T:=63) Tryz.underlying30 ⟨Qry,Tryz.underlying63⟩ Z Z Z (G ?_)
  rcases tf (decide (a=some 17)) with h |h
  ·refine G ?_
   exact fq
  refine G ?_
  refine DO C63 Z Z (G ?_)
  refine Qcp (T:=63) Tryz.underlying30 ⟨Qry,Tryz.underlying63⟩ Z Z Z (G ?_)
  rcases tf (decide (a=some 12)) with i |i
  ·refine G ?_
   exact fq
  refine G ?_
  refine DO C63 Z Z (G ?_)
  refine Qcp (T:=63) Tryz.underlying30 ⟨Qry,Tryz.underlying63⟩ Z Z Z (G ?_)
  rcases tf (decide (a=some 16)) with j |j
  ·refine G ?_
   exact fq
  refine G ?_
  refine DO C63 Z Z (G ?_)
  refine Qcp (T:=63) Tryz.underlying30 ⟨Qry,Tryz.underlying63⟩ Z Z Z (G ?_)
  exact fq
 rintro _ _ ⟨_,_,_,_,rfl⟩
 cases hm
 refine G ?_
 exact fr
instance F75_1:FTy Tryz.prog 75 1 4:=⟨by kernel_rfl⟩
instance F75_2:FTy Tryz.prog 75 2 5:=⟨by kernel_rfl⟩
instance F39_0:FTy Tryz.prog 39 0 0:=⟨by kernel_rfl⟩
instance A35:ATy Tryz.prog 35 false 1:=⟨by kernel_rfl⟩
instance F75_0:FTy Tryz.prog 75 0 0:=⟨by kernel_rfl⟩
theorem QcX {a:Gt} {o:Int} {f:Nat} {g i j k m b c d:Value} {r:Int} (hm:Yc a o=some r) (hS:St w0 s (Res.box f 75 [g,i,j,k,m,b,c,d,O (a.out.Makespan)]::Res.arr Gi 78 b a.out.Events::Res.arr (Qk (Qc .i64)) 22 c a.out.States::Res.arr Ql 149 d a.out.Problems::H) w) (ak:Ga (Qc .i64) s g a.t.Vars) (al:Ga (Qc .i64) s i a.t.Init) (am:Ga Gd s j a.t.Goal) (x:Ga Gw s k a.t.Jobs) (n:Ga Gg s m a.l) :
  Cv Tryz.prog 61 #[Value.pointer (some ⟨f,0,none⟩),O o] w0 w s (Res.box f 75 [g,i,j,k,m,b,c,d,O (a.out.Makespan)]::Res.arr Gi 78 b a.out.Events::Res.arr (Qk (Qc .i64)) 22 c a.out.States::Res.arr Ql 149 d a.out.Problems::H) r fun aj=>O aj:=by
 unfold Yc at hm
 refine Qh Tryz.func61 Z Z (G ?_)
 refine QT (n0:=25) (qs 0 25 .done) JQ (G ?_)
 refine Zn (hS.drew) A27.h Z Z Z ⟨Z,Qa hm fun u p hm=>G ?_⟩
 refine Qy S27.h Z Z Z n p fun _ _ y _=>?_
 refine ⟨Z,G ?_⟩
 refine Zw (E:=(Qc .i64)) hS.drew A3.h Z Z Z (y.sub (Sub.iso (Sub.fst (Sub.refl _))) Z) ?_
 intro af ab
 obtain rfl:af=O (u.At):=Qo.1 ab
 refine ⟨Z,G ?_⟩
 refine Zn (hS.drew) A24.h Z Z Z ⟨Z,G ?_⟩
 refine Zn (hS.drew) A27.h Z Z Z ⟨Z,G ?_⟩
 refine Qy S27.h Z Z Z n p fun _ _ z _=>?_
 refine ⟨Z,G ?_⟩
 refine Zw (E:=(Qc .i64)) hS.drew A3.h Z Z Z (z.sub (Sub.iso (Sub.snd (Sub.refl _) Z)) Z) ?_
 intro ag ac
 obtain rfl:ag=O (u.Job):=Qo.1 ac
 refine ⟨Z,Qa hm fun ai ad hm=>G ?_⟩
 refine Qy S24.h Z Z Z x ad fun _ _ aa _=>?_
 refine ⟨Z,G ?_⟩
 refine Zw (E:=(Qc .i64)) hS.drew A3.h Z Z Z (aa.sub (Sub.iso (Sub.snd (Sub.fst (Sub.refl _)) Z)) Z) ?_
 intro ah ae
 obtain rfl:ah=O (ai.Duration):=Qo.1 ae
 refine ⟨Z,?_⟩
 cases hm
 refine G ?_
 exact ⟨_,Qd0 Z,⟨s,(Zv _),((((hS.drew).f3).f3).f3).f3,Z⟩⟩
instance S35:STy Tryz.prog 35 78 3 24:=⟨by kernel_rfl⟩
theorem Z78:JW Tryz.prog 78=some (Value.agg #[O 0,O 0,Value.bool false]):=by kernel_rfl
instance F39_3:FTy Tryz.prog 39 3 3:=⟨by kernel_rfl⟩
instance F78_0:FTy Tryz.prog 78 0 0:=⟨by kernel_rfl⟩
instance F78_2:FTy Tryz.prog 78 2 2:=⟨by kernel_rfl⟩
instance F78_1:FTy Tryz.prog 78 1 1:=⟨by kernel_rfl⟩
theorem QaX {a:Bool} {r:Int} (hm:QbM a=some r) (hS:St w0 s (H) w) :
  Cv Tryz.prog 64 #[Value.bool (a)] w0 w s H r fun d=>O d:=by
 unfold QbM at hm
 refine Qh Tryz.func64 Z Z (G ?_)
 refine Qe hm (fun c hm=>?_) fun c hm=>?_
 ·cases hm
  refine G ?_
  exact fr
 cases hm
 refine G ?_
 exact fr
theorem QdH {a b:Gf} {r:Int} (hm:Yh a b=some r) (hS:St w0 s (H) w) :
  Cv Tryz.prog 63 #[Value.agg #[O (a.At),O (a.Launch),Value.bool (a.End)],Value.agg #[O (b.At),O (b.Launch),Value.bool (b.End)]] w0 w s H r fun p=>O p:=by
 unfold Yh at hm
 refine Qh Tryz.func63 Z Z (G ?_)
 refine JV Z Z fun _ _ _=>?_
 refine G ?_
 refine JV Z Z fun _ _ d=>?_
 refine G ?_
 refine QT (n0:=19) (qs 0 4 (.q 5 (.q 6 (.q 8 (.q 9 (qs 12 4 (.e 4 [5,6,8,9,12,13,14,15] (.e 7 [8,9,12,13,14,15] (.e 10 [12,13,14,15] (.e 11 [12,13,14,15] (.e 16 [] (.e 17 [] (.e 18 [] .done))))))))))))) JQ ?_
 have f:=d.drew
 refine G ?_
 refine Tc Z Z Z Z (Jq (Jj a.At b.At) f).r ?_
 rintro _ _ ⟨_,_,g,rfl⟩
 refine ⟨Yd,G ?_⟩
 refine Tc Z Z Z Z (QaX (QaW a.End) g).r ?_
 rintro _ _ ⟨_,_,h,rfl⟩
 refine ⟨Yd,G ?_⟩
 refine Tc Z Z Z Z (QaX (QaW b.End) h).r ?_
 rintro _ _ ⟨_,_,i,rfl⟩
 refine ⟨Yd,G ?_⟩
 refine Tc Z Z Z Z (Jq (Jj (Q9 a.End) (Q9 b.End)) i).r ?_
 rintro _ _ ⟨_,_,j,rfl⟩
 refine ⟨Yd,G ?_⟩
 refine Tc Z Z Z Z (Jq (Jj a.Launch b.Launch) j).r ?_
 rintro _ _ ⟨_,_,k,rfl⟩
 refine ⟨Yd,G ?_⟩
 refine Qt (Te:=3) (cs:=[O ((Qx a.At b.At)),O ((Qx (Q9 a.End) (Q9 b.End))),O ((Qx a.Launch b.Launch))]) k Z (Qb (Qd Z Z) (Qb (Qd Z Z) (Qb (Qd Z Z) Qg))) fun _ _ l=>?_
 refine ⟨Yd,?_⟩
 obtain ⟨_,_,m,o⟩:=(St.boxArr (E:=(Qc .i64)) (xs:=[(Qx a.At b.At),(Qx (Q9 a.End) (Q9 b.End)),(Qx a.Launch b.Launch)]) l ⟨[_],_,rfl,rfl,[_],_,rfl,rfl,[_],_,rfl,rfl,rfl⟩ (by simp [maxLen])).freezeArr
 refine Qa hm fun _ n hm=>G ?_
 refine Tc Z Z Z Z (Qcr n m o).r ?_
 rintro _ _ ⟨_,_,_,rfl⟩
 refine ⟨Yd,?_⟩
 cases hm
 refine G ?_
 exact fr
end Go.Pw
