/- -/
import Derived.Test.YtalfjlihddgooaaGreatDoorBa
import Derived.Test.YtalfjlihddgooaaGreatDoorTF
import Derived.Test.YtalfjlihddgooaaGreatDoorTC
set_option linter.unusedVariables false
set_option linter.unusedSimpArgs false
namespace Go.Pw
structure Wt (t:Ge) (S:List Launch) (N:Nat) (u:GD) (a:Int) (σ:List Int) (m:Nat) (p:Int) (s:List Int):Prop where
 len:s.length=N+1
 prop:GV u.Vars s
 var:∀v,v<t.Vars.length->s[v]?=σ[v]?
 r0:∀i,i<S.length->(Q3 S i).At<=a->a<QV t (Q3 S i)->m<=YT S i->s[t.Vars.length+2 * YT S i]?=some (QV t (Q3 S i) - a)
 r1:∀i,i<S.length->(Q3 S i).At<=a->a<QV t (Q3 S i)->YT S i<m->s[t.Vars.length+2 * YT S i]?=some (if QV t (Q3 S i) - a=1 then (jn t (YT S i)).Duration+1 else QV t (Q3 S i) - a - 1)
 id:∀j,j<t.Jobs.length->(∀i,i<S.length->YT S i=j->¬((Q3 S i).At<=a∧a<QV t (Q3 S i)))->s[t.Vars.length+2 * j]?=some 0
 ph:s[N]?=some p
def Dh (t:Ge) (S:List Launch) (a:Int) (j k:Nat):Prop:=(∃i,i<S.length∧YT S i=j∧(Q3 S i).At<=a∧a<QV t (Q3 S i)∧(k:Int)=QV t (Q3 S i) - a)∨((∀i,i<S.length->YT S i=j->¬((Q3 S i).At<=a∧a<QV t (Q3 S i)))∧k=0)
def Qp8 (t:Ge) (S:List Launch) (a:Int) (j k:Nat):Prop:=(∃i,i<S.length∧YT S i=j∧(Q3 S i).At<a∧a<QV t (Q3 S i)∧(k:Int)=QV t (Q3 S i) - a)∨((∀i,i<S.length->YT S i=j->¬((Q3 S i).At<a∧a<QV t (Q3 S i)))∧k=0)
section
variable {t:Ge} {x:Gl} {N:Nat} {u:GD} {S:List Launch} {a:Int} {σ s:List Int}
theorem Dh.next {j k:Nat} (h:Dh t S a j k) (hA:Acc t S) (hF:GJ t S):Qp8 t S (a+1) j (k - 1):=by
 rcases h with ⟨i,hi,hj,h1,h2,h3⟩ |⟨h1,rfl⟩
 ·by_cases c:a+1<QV t (Q3 S i)
  ·exact .inl ⟨i,hi,hj,by omega,c,by omega⟩
  ·refine .inr ⟨fun i' hi' hj' ⟨h4,h5⟩=>?_,by omega⟩
   by_cases e:i'=i
   ·subst e;exact c h5
   ·have:=Qjs hF hi' hi e (by rw [hj',hj]) hA
    omega
 ·exact .inr ⟨fun i hi hj ⟨h4,h5⟩=>h1 i hi hj ⟨by omega,by omega⟩,Z⟩
theorem Mid.aft {Y:Nat×Bool->Prop} (h:Mid t S x N u a σ Y s) (hY:∀y:Nat×Bool,y.1<S.length->Kl t S y=a->Y y) (hσ:SOK t S (a - 1) σ) (hA:Acc t S) (hL:Lay t x N):∃σ',SOK t S a σ'∧Wt t S N u a σ' 0 0 s:=by
 have hlen:=h.len
 have hVN:=hL.m.ge
 have hsl:(s.take t.Vars.length).length=t.Vars.length:=by rw [XF];omega
 have hget:∀v,v<t.Vars.length->(s.take t.Vars.length)[v]?=s[v]?:=fun v hv=>by rw [Xo,if_pos hv]
 have hAft:Do t S a σ (s.take t.Vars.length):=by
  refine ⟨by rw [hsl,hσ.1],fun v hv=>?_⟩
  rw [hσ.1] at hv
  rw [hget v hv]
  by_cases c:∃y:Nat×Bool,y.1<S.length∧Kl t S y=a∧∃c,Wv t S y v c
  ·obtain ⟨y,h1,h2,c,f,h3,h4,h5⟩:=c
   refine .inl ⟨y,h1,h2,f,h3,h4,?_⟩
   exact h.vaw v y f.Val hv (hY y h1 h2) ⟨f,h3,h4,Z⟩
  ·refine .inr ⟨fun y h1 h2 f h3 h4=>c ⟨y,h1,h2,f.Val,f,h3,h4,Z⟩,?_⟩
   exact h.var v hv fun y hy d hd=>c ⟨y,(h.at_ y hy).1,(h.at_ y hy).2,d,hd⟩
 refine ⟨s.take t.Vars.length,hσ.step hAft,hlen,h.prop,fun v hv=>(hget v hv).symm,fun i hi h1 h2 _=>?_,fun i hi h1 h2 h3=>absurd h3 (by omega),fun j hj hno=>?_,h.ph⟩
 ·by_cases c:(Q3 S i).At=a
  ·rw [h.ss i (hY (i,false) hi c)]
   have:=KM hA hi
   congr 1;omega
  ·exact h.sr i hi (by omega) h2
 ·by_cases c:∃i,i<S.length∧YT S i=j∧QV t (Q3 S i)=a
  ·obtain ⟨i,hi,rfl,he⟩:=c
   exact h.sd i (hY (i,true) hi he)
  ·refine h.si j hj fun i hi hij=>⟨fun ⟨h1,h2⟩=>?_,fun hy=>?_⟩
   ·by_cases e:QV t (Q3 S i)=a
    ·exact c ⟨i,hi,hij,e⟩
    ·exact hno i hi hij ⟨by omega,by omega⟩
   ·have h1:(Q3 S i).At=a:=(h.at_ _ hy).2
    have:=KM hA hi
    exact hno i hi hij ⟨by omega,by omega⟩
theorem Qqy (hL:Lay t x N) (hT:CT t x N u) (hck:Jb u=some none) (hA:Acc t S) (hJ:0<t.Jobs.length) (h:Wt t S N u a σ 0 0 s) {c:Int} (hc0:0<=c∧c<=1000000):∃s',QdO u (s,c) (2 * (t.Jobs.length:Int))=some (s',c)∧Wt t S N u a σ 0 1 s':=by
 have hlen:=h.len
 have hc:=hA.chk
 have hv:=hc.vars;have hj:=hc.jobs
 have hN:=hL.N_le hc
 have hVN:=hL.m.ge
 obtain ⟨o,ho,hs⟩:=hT.tick hJ
 obtain ⟨s',h1,h2,h3,h4,h5⟩:=Qjp (k:=c) (c:=0) hck (op:=2 * (t.Jobs.length:Int)) (by rw [show 2 * (t.Jobs.length:Int)=((2 * t.Jobs.length:Nat):Int) by omega,Qq];exact ho) hs h.prop (by omega) (fun f hf=>by
  subst hf
  show idx s (N:Int)=some 0
  rw [Qq];exact h.ph) ⟨hc0.1,hc0.2,by omega,by omega⟩
 rw [Int.add_zero] at h1
 have keep:∀i,i<N->s'[i]?=s[i]?:=fun i hi=>h4 i fun b hb=>by have:=hb.1;omega
 refine ⟨s',h1,by omega,h2,fun v hv'=>?_,fun i hi g1 g2 g3=>?_,fun i hi g1 g2 g3=>absurd g3 (by omega),fun j hj' hno=>?_,h5 N 1 (by omega) ⟨Z,Z⟩ fun b hb=>hb.2⟩
 ·rw [keep v (by omega)];exact h.var v hv'
 ·have:=(Qag hA hi).1
  rw [keep _ (by omega)];exact h.r0 i hi g1 g2 g3
 ·rw [keep _ (by omega)];exact h.id j hj' hno
theorem Qqv (hL:Lay t x N) (hT:CT t x N u) (hck:Jb u=some none) (hA:Acc t S) (hF:GJ t S) (hσ:SOK t S a σ) {m k:Nat} (hm:m<t.Jobs.length) (h:Wt t S N u a σ m ((m:Int)+1) s) (hl:Dh t S a m k) {c:Int} (hc0:0<=c∧c<=1000000) :
  ∃s',QdO u (s,c) ((QbA t m+k:Nat):Int)=some (s',c)∧Wt t S N u a σ (m+1) ((m:Int)+2) s':=by
 have hlen:=h.len
 have hc:=hA.chk
 have hv:=hc.vars;have hj:=hc.jobs
 have hN:=hL.N_le hc
 have hVN:=hL.m.ge
 have hkd:k<=(jn t m).Duration.toNat:=by
  rcases hl with ⟨i,hi,rfl,g1,g2,g3⟩ |⟨_,rfl⟩
  ·have:=KM hA hi;omega
  ·omega
 have hst:s[t.Vars.length+2 * m]?=some (k:Int):=by
  rcases hl with ⟨i,hi,rfl,g1,g2,g3⟩ |⟨g1,rfl⟩
  ·rw [h.r0 i hi g1 g2 (Xi _),g3]
  ·exact h.id m hm g1
 obtain ⟨o,ho,hs⟩:=hT.wait m k hm hkd
 obtain ⟨s',h1,h2,h3,h4,h5⟩:=Qjp (k:=c) (c:=0) hck (op:=((QbA t m+k:Nat):Int)) (by rw [Qq];exact ho) hs h.prop (by omega) (fun f hf=>by
  rcases hf with ⟨hk0,hf⟩ |rfl |rfl
  ·rcases hl with ⟨i,hi,hij,g1,g2,g3⟩ |⟨_,g1⟩
   ·have hjb:=(Qag hA hi).2.2
    rw [<-hij,hjb] at hf
    have hv1:=hF.over i hi a g1 g2 f hf
    have hr:=((hc.job _ (QbP (hA.ok _ (QQ hi)))).over).rng f hf
    obtain ⟨c,hc1,hc2⟩:=hσ.2 f.Var.toNat (by omega)
    have:=hv1.uniq hA (fun b _=>hF.ni b) hc2
    subst this
    unfold idx
    rw [if_pos hr.1,h.var _ (by omega),hc1]
   ·omega
  ·show idx s ((t.Vars.length+2 * m:Nat):Int)=some (k:Int)
   rw [Qq];exact hst
  ·show idx s (N:Int)=some _
   rw [Qq];exact h.ph) ⟨hc0.1,hc0.2,by omega,by omega⟩
 rw [Int.add_zero] at h1
 have keep:∀i,i<N->i≠t.Vars.length+2 * m->s'[i]?=s[i]?:=fun i hi hne=>h4 i fun b hb=>by
  rcases hb with ⟨g,_⟩ |⟨g,_⟩
  ·unfold stV at g;omega
  ·omega
 refine ⟨s',h1,by omega,h2,fun v hv'=>?_,fun i hi g1 g2 g3=>?_,fun i hi g1 g2 g3=>?_,fun j hj' hno=>?_,h5 N _ (by omega) (.inr ⟨Z,Z⟩) fun b hb=>?_⟩
 ·rw [keep v (by omega) (by omega)];exact h.var v hv'
 ·have:=(Qag hA hi).1
  rw [keep _ (by omega) (by omega)];exact h.r0 i hi g1 g2 (by omega)
 ·have hji:=(Qag hA hi).1
  by_cases e:YT S i=m
  ·subst e
   have hk:(k:Int)=QV t (Q3 S i) - a:=by
    have:=h.r0 i hi g1 g2 (Xi _)
    rw [hst] at this
    exact Zu this
   by_cases c1:QV t (Q3 S i) - a=1
   ·rw [if_pos c1]
    exact h5 _ _ (by omega) (.inl ⟨Z, .inr ⟨by omega,Z⟩⟩) fun b hb=>by
     rcases hb with ⟨_,g |g⟩ |⟨g,_⟩ <;> omega
   ·rw [if_neg c1]
    exact h5 _ _ (by omega) (.inl ⟨Z, .inl ⟨by omega,by omega⟩⟩) fun b hb=>by
     rcases hb with ⟨_,g |g⟩ |⟨g,_⟩ <;> omega
  ·rw [keep _ (by omega) (by omega)];exact h.r1 i hi g1 g2 (by omega)
 ·by_cases e:j=m
  ·subst e
   have hk:k=0:=by
    rcases hl with ⟨i,hi,g1,g2,g3,_⟩ |⟨_,g⟩
    ·exact absurd ⟨g2,g3⟩ (hno i hi g1)
    ·exact g
   subst hk
   rw [h4 _ fun b hb=>?_]
   ·exact h.id j hj' hno
   ·rcases hb with ⟨_,g |g⟩ |⟨g,_⟩ <;> omega
  ·rw [keep _ (by omega) (by omega)];exact h.id j hj' hno
 ·rcases hb with ⟨g,_⟩ |⟨_,g⟩
  ·unfold stV at g;omega
  ·exact g
theorem Qtv (hL:Lay t x N) (hT:CT t x N u) (hck:Jb u=some none) (hA:Acc t S) (hF:GJ t S) (hJ:0<t.Jobs.length) (h:Wt t S N u a σ t.Jobs.length ((t.Jobs.length:Int)+1) s) {c:Int} (hc0:0<=c∧c<=1000000) :
  ∃s',QdO u (s,c) ((QbA t t.Jobs.length:Nat):Int)=some (s',c+1)∧Mid t S x N u (a+1) σ (fun _=>False) s':=by
 have hlen:=h.len
 have hc:=hA.chk
 have hv:=hc.vars;have hj:=hc.jobs
 have hN:=hL.N_le hc
 have hVN:=hL.m.ge
 obtain ⟨_,o,ho,hs⟩:=hT.adv hJ
 obtain ⟨s',h1,h2,h3,h4,h5⟩:=Qjp (k:=c) (c:=1) hck (op:=((QbA t t.Jobs.length:Nat):Int)) (by rw [Qq];exact ho) hs h.prop (by omega) (fun f hf=>by
  subst hf
  show idx s (N:Int)=some _
  rw [Qq];exact h.ph) ⟨hc0.1,hc0.2,by omega,by omega⟩
 have rng:∀z,Qr0 t x N z->(∃j,j<t.Jobs.length∧z=((t.Vars.length+2 * j+1:Nat):Int))∨((t.Vars.length+2 * t.Jobs.length:Nat):Int)<=z:=fun z hz=>by
  rcases hz with hz |⟨v,hv',⟨g,rfl⟩ |⟨g,rfl⟩⟩ |rfl
  ·exact .inl hz
  ·have:=hL.m.wn v hv';exact .inr (by omega)
  ·have:=hL.m.rn v hv';exact .inr (by omega)
  ·exact .inr (by omega)
 have keepV:∀v,v<t.Vars.length->s'[v]?=s[v]?:=fun v hv'=>h4 v fun b ⟨_,hb⟩=>by
  rcases rng _ hb with ⟨j,_,g⟩ |g <;> omega
 have keepJ:∀j,j<t.Jobs.length->s'[t.Vars.length+2 * j]?=s[t.Vars.length+2 * j]?:=fun j hj'=>h4 _ fun b ⟨_,hb⟩=>by
  rcases rng _ hb with ⟨j',_,g⟩ |g <;> omega
 have zero:∀i:Nat,i<N+1->Qr0 t x N (i:Int)->s'[i]?=some 0:=fun i hi hz=>h5 i 0 (by omega) ⟨rfl,hz⟩ fun b hb=>hb.1
 refine ⟨s',h1,⟨fun y hy=>hy.elim,by omega,h2,fun v hv' _=>?_,fun v y c _ hy=>hy.elim,fun i hi _ g1 g2=>?_,fun i hi g1 g2=>?_,fun i hy=>hy.elim,fun i hy=>hy.elim,fun j hj' hno=>?_,fun j hj' _=>?_,fun v hv' g _=>?_,fun v hv' g _=>?_,zero N (by omega) (.inr (.inr Z))⟩⟩
 ·rw [keepV v hv'];exact h.var v hv'
 ·have hji:=(Qag hA hi).1
  rw [keepJ _ hji,h.r1 i hi (by omega) (by omega) hji,if_pos (by omega)]
 ·have hji:=(Qag hA hi).1
  rw [keepJ _ hji,h.r1 i hi (by omega) (by omega) hji,if_neg (by omega)]
  congr 1;omega
 ·rw [keepJ j hj']
  refine h.id j hj' fun i hi hij ⟨g1,g2⟩=>(hno i hi hij).1 ⟨by omega,by omega⟩
 ·exact zero _ (by omega) (.inl ⟨j,hj',Z⟩)
 ·have:=hL.m.wn v hv'
  exact zero _ (by omega) (.inr (.inl ⟨v,hv', .inl ⟨g,by omega⟩⟩))
 ·have:=hL.m.rn v hv'
  exact zero _ (by omega) (.inr (.inl ⟨v,hv', .inr ⟨g,by omega⟩⟩))
theorem Quh (hL:Lay t x N) (hT:CT t x N u) (hck:Jb u=some none) (hA:Acc t S) (hF:GJ t S) (hJ:0<t.Jobs.length) (hσ:SOK t S a σ) {fs l out:List Int} (hfs:∀j,j<t.Jobs.length->fs[j]?=some ((QbA t j:Nat):Int)) (hll:l.length=t.Jobs.length) (hl:∀j,j<t.Jobs.length->∃k:Nat,l[j]?=some (k:Int)∧Dh t S a j k)
  {c:Int} (hc0:0<=c∧c<=100000) (ho:out.length<=1000000) (hr:Qdi u (u.Init,0) out=some (s,c)) (h:Wt t S N u a σ 0 0 s) :
  Ok (KX ⟨t,fs,IntKind.i64.wrap ((u.Ops.length:Int) - 1),l,out⟩) fun r=>∃s',Qdi u (u.Init,0) r.2=some (s',c+1)∧Mid t S x N u (a+1) σ (fun _=>False) s'∧r.1.length=t.Jobs.length∧(∀j,j<t.Jobs.length->∃k:Nat,r.1[j]?=some (k:Int)∧Qp8 t S (a+1) j k)∧r.2.length=out.length+t.Jobs.length+2:=by
 have hj:=hA.chk.jobs
 unfold KX
 simp only []
 rw [Q7 (n:=2 * (t.Jobs.length:Int)) (by omega) (by omega)]
 obtain ⟨s0,g1,g2⟩:=Qqy hL hT hck hA hJ h ⟨hc0.1,by omega⟩
 have hr0:=Qe9 hr g1
 refine Ok.step (QD (by simp;omega)) ?_
 refine Ok.bind (Ok.forS (fun i (r:List Int×List Int)=>(∃s',Qdi u (u.Init,0) r.2=some (s',c)∧Wt t S N u a σ i ((i:Int)+1) s')∧r.1.length=t.Jobs.length∧(∀j,j<i->∃k:Nat,r.1[j]?=some (k:Int)∧Qp8 t S (a+1) j k)∧(∀j,i<=j->r.1[j]?=l[j]?)∧r.2.length=out.length+1+i)
  ⟨⟨s0,hr0,g2⟩,hll,fun j hj'=>absurd hj' (by omega),fun j _=>rfl,by simp⟩ ?_ ?_)
 ·rintro i ⟨l',o'⟩ hi ⟨⟨s1,k1,k2⟩,k3,k4,k5,k6⟩
  have k3:l'.length=t.Jobs.length:=k3
  have k5:∀j,i<=j->l'[j]?=l[j]?:=k5
  have k6:o'.length=out.length+1+i:=k6
  obtain ⟨k,h6,h7⟩:=hl i hi
  obtain ⟨s2,q1,q2⟩:=Qqv hL hT hck hA hF hσ hi k2 h7 ⟨hc0.1,by omega⟩
  have hwo:=Qgh hA.chk i (by omega)
  have hkd:(k:Int)<=62:=by
   rcases h7 with ⟨z,hz,_,e1,e2,e3⟩ |⟨_,rfl⟩
   ·have:=KM hA hz;omega
   ·omega
  show Ok ((idx fs (i:Int)).bind _) _
  refine Ok.step (by rw [Qq];exact hfs i hi) (Ok.step (a:=(k:Int)) (by rw [Qq];show l'[i]?=_;rw [k5 i (Xi _)];exact h6) ?_)
  refine Ok.step (QD (by show (o'.length+_) * _<=_;simp;omega)) (Ok.step (QaE (by show i<l'.length;omega)) ⟨_,Z,⟨s2,?_,q2⟩,?_,fun j hj'=>?_,fun j hj'=>?_,?_⟩)
  ·rw [Q7 (n:=((QbA t i:Nat):Int)+(k:Int)) (by omega) (by omega),show ((QbA t i:Nat):Int)+(k:Int)=((QbA t i+k:Nat):Int) by omega]
   exact Qe9 k1 q1
  ·show (l'.set i _).length=_
   rw [List.length_set];exact k3
  ·show ∃k',(l'.set i _)[j]?=_∧_
   by_cases e:j=i
   ·subst e
    refine ⟨k - 1,?_,h7.next hA hF⟩
    rw [List.getElem?_set_self (by omega),Q7 (by omega) (by omega)]
    congr 1;omega
   ·rw [List.getElem?_set_ne (by omega)]
    exact k4 j (by omega)
  ·show (l'.set i _)[j]?=_
   rw [List.getElem?_set_ne (by omega)]
   exact k5 j (by omega)
  ·show (o'++_).length=_
   simp;omega
 ·rintro ⟨l',o'⟩ ⟨⟨s1,k1,k2⟩,k3,k4,k5,k6⟩
  have k6:o'.length=out.length+1+t.Jobs.length:=k6
  obtain ⟨s2,q1,q2⟩:=Qtv hL hT hck hA hF hJ k2 (c:=c) ⟨hc0.1,by omega⟩
  have hol:=(hT.adv hJ).1
  have hwo:=Qgh hA.chk t.Jobs.length (Xi _)
  show Ok ((app 8 o' _).bind _) _
  rw [Q7 (n:=(u.Ops.length:Int) - 1) (by omega) (by omega),show (u.Ops.length:Int) - 1=((QbA t t.Jobs.length:Nat):Int) by omega]
  refine Ok.step (QD (by simp;omega)) ⟨_,Z,s2,Qe9 k1 q1,q2,k3,k4,?_⟩
  show (o'++_).length=_
  simp;omega
end
end Go.Pw
/- -/
namespace Go.Pw
section
variable {t:Ge} {x:Gl} {N:Nat} {u:GD} {S:List Launch} {a:Int} {σ s:List Int}
theorem Mid.congr {Y Y':Nat×Bool->Prop} (h:Mid t S x N u a σ Y s) (e:∀z,Y z↔Y' z):Mid t S x N u a σ Y' s:=by
 have:Y=Y':=funext fun z=>propext (e z)
 rwa [<-this]
theorem Qtz (hL:Lay t x N) (hT:CT t x N u) (hck:Jb u=some none) (hA:Acc t S):Mid t S x N u 0 t.Init (fun _=>False) u.Init:=by
 have hVN:=hL.m.ge
 have z1:=fun i h1 h2=>hT.i1 i h1 h2
 refine ⟨fun y hy=>hy.elim,hT.il,(QfL hck).1,fun v hv _=>hT.i0 v hv,fun v y c _ hy=>hy.elim,fun i hi _ g1 g2=>?_,fun i hi g1 g2=>?_,fun i hy=>hy.elim,fun i hy=>hy.elim,fun j hj _=>z1 _ (by omega) (by omega),fun j hj _=>z1 _ (by omega) (by omega),fun v hv g _=>?_,fun v hv g _=>?_,z1 N (by omega) (by omega)⟩
 ·have:=KM hA hi;omega
 ·have:=KM hA hi;omega
 ·have:=hL.m.wn v hv;exact z1 _ (by omega) (by omega)
 ·have:=hL.m.rn v hv;exact z1 _ (by omega) (by omega)
theorem QnV (hA:Acc t S):SOK t S (0 - 1) t.Init:=by
 refine ⟨hA.chk.ini,fun v hv=>?_⟩
 have:v<t.Init.length:=by rw [hA.chk.ini];exact hv
 exact ⟨t.Init[v],Xb this, .inr ⟨fun y hy _=>by have:=(QjB hA hy).1;omega,Xb this⟩⟩
theorem Qow (S:List Launch) (v:Launch):JR S v=some (S.any fun x=>decide (x.At=v.At∧x.Job=v.Job)):=by
 unfold JR Yf
 refine QbF (p:=fun x:Launch=>decide (x.At=v.At∧x.Job=v.Job)) fun j y hy=>?_
 rw [Qq,hy,Xa]
 by_cases c:y.At=v.At∧y.Job=v.Job
 ·rw [if_pos (by simp [eqs,c.1,c.2])];simp [c]
 ·rw [if_neg (by simp [eqs];intro e1 e2;exact c ⟨e1.symm,e2.symm⟩)];simp [c]
theorem Qxu {j:Nat}:flV t j≠stV t j:=by unfold flV stV;omega
theorem Qtg (hA:Acc t S) (hF:GJ t S) (hL:Lay t x N) (hT:CT t x N u) (hck:Jb u=some none) {Y:Nat×Bool->Prop} (hM:Mid t S x N u a σ Y s) (hσ:SOK t S (a - 1) σ) {i:Nat} (hi:i<S.length) (he:QV t (Q3 S i)=a) (hn:¬Y (i,true)) {k:Int} (hk:0<=k∧k<=1000000) :
  ∃s',QdO u (s,k) ((2 * YT S i+1:Nat):Int)=some (s',k)∧Mid t S x N u a σ (fun z=>Y z∨z=(i,true)) s':=by
 have hj:=Qag hA hi
 obtain ⟨o,ho,hs⟩:=hT.end_ _ hj.1
 have hd:=KM hA hi
 have hs:D0 t x N (rdX t S (i,true)) (wrX t S (i,true)) [⟨stV t (YT S i),(jn t (YT S i)).Duration+1⟩] (fun a b=>(a=stV t (YT S i)∧b=0)∨(a=flV t (YT S i)∧b=1)) o:=by
  have e1:rdX t S (i,true)=(jn t (YT S i)).End:=by rw [hj.2.2];rfl
  have e2:wrX t S (i,true)=(jn t (YT S i)).AtEnd:=by rw [hj.2.2];rfl
  rw [e1,e2];exact hs
 refine QnF hA hF hL hck hM hσ (y:=(i,true)) hi he hn hk (by rw [Qq];exact ho) hs (fun f hf=>?_) (fun b c h=>?_) (fun b=>?_) fun h=>by cases h
 ·have:f=⟨stV t (YT S i),(jn t (YT S i)).Duration+1⟩:=X8.1 hf
  subst this
  show idx s ((t.Vars.length+2 * YT S i:Nat):Int)=some _
  rw [Qq];exact hM.se i hi hn (by omega) he
 ·exact h.imp (fun h=>h.1) fun h=>h.1
 ·show (_∧b=0)∨(stV t (YT S i)=flV t (YT S i)∧_)↔b=0
  exact ⟨fun h=>h.elim (fun h=>h.2) fun h=>absurd h.1.symm Qxu,fun h=> .inl ⟨Z,h⟩⟩
theorem QoW (hA:Acc t S) (hF:GJ t S) (hL:Lay t x N) (hT:CT t x N u) (hck:Jb u=some none) {Y:Nat×Bool->Prop} (hM:Mid t S x N u a σ Y s) (hσ:SOK t S (a - 1) σ) {i:Nat} (hi:i<S.length) (he:(Q3 S i).At=a) (hn:¬Y (i,false)) {k:Int} (hk:0<=k∧k<=1000000) :
  ∃s',QdO u (s,k) ((2 * YT S i:Nat):Int)=some (s',k)∧Mid t S x N u a σ (fun z=>Y z∨z=(i,false)) s':=by
 have hj:=Qag hA hi
 obtain ⟨o,ho,hs⟩:=hT.start _ hj.1
 have hd:=KM hA hi
 have hs:D0 t x N (rdX t S (i,false)) (wrX t S (i,false)) [⟨stV t (YT S i),0⟩,⟨flV t (YT S i),0⟩] (fun a b=>a=stV t (YT S i)∧b=(jn t (YT S i)).Duration) o:=by
  have e1:rdX t S (i,false)=(jn t (YT S i)).Start:=by rw [hj.2.2];rfl
  have e2:wrX t S (i,false)=(jn t (YT S i)).AtStart:=by rw [hj.2.2];rfl
  rw [e1,e2];exact hs
 have alone:∀i',i'<S.length->YT S i'=YT S i->i'≠i->QV t (Q3 S i')<a∨a<(Q3 S i').At:=fun i' hi' e hne=>by
  have:=Qjs hF hi' hi hne e hA;omega
 refine QnF hA hF hL hck hM hσ (y:=(i,false)) hi he hn hk (by rw [Qq];exact ho) hs (fun f hf=>?_) (fun b c h=> .inl h.1) (fun b=>?_) fun _ b h=>Qxu h.1
 ·simp only [Xr,List.not_mem_nil,or_false] at hf
  rcases hf with rfl |rfl
  ·show idx s ((t.Vars.length+2 * YT S i:Nat):Int)=some _
   rw [Qq]
   refine hM.si _ hj.1 fun i' hi' e=>?_
   by_cases c:i'=i
   ·subst c;exact ⟨fun h=>by omega,hn⟩
   ·have h1:=alone i' hi' e c
    have:=KM hA hi'
    refine ⟨fun h=>by omega,fun h=>?_⟩
    have h2:(Q3 S i').At=a:=(hM.at_ _ h).2
    omega
  ·show idx s ((t.Vars.length+2 * YT S i+1:Nat):Int)=some _
   rw [Qq]
   refine hM.fl _ hj.1 fun i' hi' e h=>?_
   have h2:QV t (Q3 S i')=a:=(hM.at_ _ h).2
   by_cases c:i'=i
   ·subst c;omega
   ·have h1:=alone i' hi' e c
    have:=KM hA hi'
    omega
 ·show (_∧b=_)↔b=_
  exact ⟨fun h=>h.2,fun h=>⟨Z,h⟩⟩
def QrR (t:Ge) (S:List Launch) (a:Int) (n j k:Nat):Prop:=(∃i,i<S.length∧YT S i=j∧(((Q3 S i).At<a∧a<QV t (Q3 S i))∨((Q3 S i).At=a∧i<n))∧(k:Int)=QV t (Q3 S i) - a)∨((∀i,i<S.length->YT S i=j->¬(((Q3 S i).At<a∧a<QV t (Q3 S i))∨((Q3 S i).At=a∧i<n)))∧k=0)
structure PI (t:Ge) (S:List Launch) (x:Gl) (N:Nat) (u:GD) (a:Int) (c:Int) (out left:List Int):Prop where
 ex:∃s σ,Qdi u (u.Init,0) out=some (s,c)∧SOK t S (a - 1) σ∧Mid t S x N u a σ (fun _=>False) s
 ll:left.length=t.Jobs.length
 lf:∀j,j<t.Jobs.length->∃k:Nat,left[j]?=some (k:Int)∧Qp8 t S a j k
theorem QuT (ht:GX t) (hA:Acc t S) (hF:GJ t S) (hs:Yi S=S) (hl:S.length<=100) (hn:mkS t S<=200) (hL:Lay t x N) (hT:CT t x N u) (hck:Jb u=some none) (hcomp:Jc t=some (none,u)) :
  ∃pl,Yj t S=some (pl,none)∧YD u pl=some (mkS t S,none):=by
 have hc:=hA.chk
 have hv:=hc.vars;have hj:=hc.jobs
 have hN:=hL.N_le hc
 have hn0:0<=mkS t S:=Qc2.1
 have hend:∀i,i<S.length->QV t (Q3 S i)<=mkS t S:=fun i hi=>Qc2.2 _ (QQ hi)
 suffices h:Ok (Yj t S) fun r=>r.2=none∧∃s,Qdi u (u.Init,0) r.1=some (s,mkS t S)∧r.1.length<=65536∧∀f ∈ u.Goal,idx s f.Var=some f.Val by
  obtain ⟨⟨pl,e⟩,h1,h2,s,h3,h4,h5⟩:=h
  have h2:e=none:=h2
  subst h2
  exact ⟨pl,h1,Qra hck (by rw [hT.il];omega) h4 h3 h5⟩
 unfold Yj
 rw [QcK ht hA hF,Xa]
 simp only [J5,Option.isSome_none,Xf,if_false]
 rw [hcomp,Xa]
 simp only [J5,Option.isSome_none,Xf,if_false]
 have hmul:0<=mkS t S * ((t.Jobs.length:Int)+2)∧mkS t S * ((t.Jobs.length:Int)+2)<=200 * 26:=⟨Int.mul_nonneg hn0 (by omega),Int.mul_le_mul hn (by omega) (by omega) (by omega)⟩
 rw [Q7 (n:=2 * (S.length:Int)) (by omega) (by omega),Q7 (n:=(t.Jobs.length:Int)+2) (by omega) (by omega),Q7 (n:=mkS t S * ((t.Jobs.length:Int)+2)) (by omega) (by omega),Q7 (n:=2 * (S.length:Int)+mkS t S * ((t.Jobs.length:Int)+2)) (by omega) (by omega),if_neg (by simp;omega)]
 refine Ok.step (Qvq (by omega) (by omega)) ?_
 rw [Q7 (n:=2 * (t.Jobs.length:Int)) (by omega) (by omega),Q7 (n:=2 * (t.Jobs.length:Int)+1) (by omega) (by omega),Q7 (n:=mkS t S+1) (by omega) (by omega)]
 refine Ok.bind (Ok.forS (fun i (r:Int×List Int)=>r.1=((QbA t i:Nat):Int)∧r.2.length=i∧∀j,j<i->r.2[j]?=some ((QbA t j:Nat):Int)) ⟨by simp only [QbA];omega,Z,fun j h=>absurd h (by omega)⟩ ?_ ?_)
 ·rintro i ⟨p,z⟩ hi ⟨h1,h2,h3⟩
  have h1:p=((QbA t i:Nat):Int):=h1
  have h2:z.length=i:=h2
  have h3:∀j,j<i->z[j]?=some ((QbA t j:Nat):Int):=h3
  subst h1
  have hd:=(hc.job _ (QgR hi)).dur
  have hwo:=Qgh hc i (by omega)
  show Ok ((idx t.Jobs (i:Int)).bind _) _
  refine Ok.step (by rw [Qq];exact Qij hi) (Ok.step (QD (by simp;omega)) ⟨_,Z,?_,?_,fun j hj'=>?_⟩)
  ·show IntKind.i64.wrap (((QbA t i:Nat):Int)+IntKind.i64.wrap ((jn t i).Duration+1))=_
   rw [Q7 (n:=(jn t i).Duration+1) (by omega) (by omega),Q7 (by omega) (by omega)]
   simp only [QbA];omega
  ·show (z++_).length=_
   simp [h2]
  ·show (z++_)[j]?=_
   by_cases c:j=i
   ·subst c;exact Qim h2.symm
   ·exact Qc3 (h3 j (by omega))
 rintro ⟨p,fs⟩ ⟨_,hfl,hfs⟩
 have hfs:∀j,j<t.Jobs.length->fs[j]?=some ((QbA t j:Nat):Int):=hfs
 have hsl:Qdx S=some S:=by
  unfold Qdx
  rw [if_pos (by omega)]
  exact congrArg some hs
 show Ok ((Qdx S).bind _) _
 refine Ok.step hsl (Ok.must (by simp;omega) ?_)
 refine Ok.bind (Ok.forS (fun i (r:List Int×List Int)=>r.1.length<=i * 200∧((i:Int)<=mkS t S->PI t S x N u (i:Int) (i:Int) r.1 r.2)∧((i:Int)=mkS t S+1->∃s,Qdi u (u.Init,0) r.1=some (s,mkS t S)∧∀f ∈ u.Goal,idx s f.Var=some f.Val)) ?_ ?_ ?_)
 ·refine ⟨by simp,fun _=>⟨⟨u.Init,t.Init,Z,QnV hA,Qtz hL hT hck hA⟩,by simp,fun j hj'=>⟨0,by simp [hj'], .inr ⟨fun i hi _ h=>?_,Z⟩⟩⟩,fun h=>by simp at h;omega⟩
  have:=KM hA hi;simp at h;omega
 ·rintro i ⟨out,left⟩ hi ⟨h0,h1,_⟩
  have h0:out.length<=i * 200:=h0
  have hia:(i:Int)<=mkS t S:=by omega
  obtain ⟨⟨s,σ,hrun,hσ,hM⟩,hll,hlf⟩:=h1 hia
  have hrun:Qdi u (u.Init,0) out=some (s,(i:Int)):=hrun
  have hll:left.length=t.Jobs.length:=hll
  have hi200:i<=200:=by omega
  show Ok ((forS _ t.Jobs.length 0 out).bind _) _
  refine Ok.bind (Ok.forS (fun j (l:List Int)=>l.length<=out.length+j∧∃s,Qdi u (u.Init,0) l=some (s,(i:Int))∧Mid t S x N u (i:Int) σ (fun y=>y.2=true∧y.1<S.length∧Kl t S y=(i:Int)∧YT S y.1<j) s) ⟨by omega,s,hrun,hM.congr fun z=>⟨fun h=>h.elim,fun h=>by omega⟩⟩ ?_ ?_)
  ·rintro j l hj' ⟨g0,s1,g1,g2⟩
   have hd:=(hc.job _ (QgR hj')).dur
   refine Ok.step (by rw [Qq];exact Qij hj') ?_
   rw [Q7 (n:=(i:Int) - (jn t j).Duration) (by omega) (by omega)]
   refine Ok.step (Qow _ _) ?_
   cases hcn:S.any fun y=>decide (y.At=(i:Int) - (jn t j).Duration∧y.Job=(j:Int)) with
   | true =>
    obtain ⟨y,hy,hy2⟩:=List.any_eq_true.1 hcn
    have hy2:=of_decide_eq_true hy2
    obtain ⟨q,hq,rfl⟩:=List.mem_iff_getElem.1 hy
    have eq:S[q]=Q3 S q:=by simp [Q3,hq]
    rw [eq] at hy2
    have hjq:=Qag hA hq
    have hjj:YT S q=j:=by omega
    have hde:=KM hA hq
    rw [hjj] at hde
    obtain ⟨s2,k1,k2⟩:=Qtg hA hF hL hT hck g2 hσ hq (by omega) (fun h=>by have:=h.2.2.2;simp only at this;omega) (k:=(i:Int)) ⟨by omega,by omega⟩
    rw [if_pos rfl]
    refine Ok.bind (Ok.step (QD (by simp;omega)) ⟨_,Z,⟨_,Z,by simp;omega,s2,?_,k2.congr fun z=>⟨fun h=>?_,fun h=>?_⟩⟩⟩)
    ·rw [Q7 (n:=2 * (j:Int)) (by omega) (by omega),Q7 (by omega) (by omega),show 2 * (j:Int)+1=((2 * YT S q+1:Nat):Int) by omega]
     exact Qe9 g1 k1
    ·rcases h with h |rfl
     ·exact ⟨h.1,h.2.1,h.2.2.1,by omega⟩
     ·exact ⟨Z,hq,by show QV t (Q3 S q)=_;omega,by simp only;omega⟩
    ·by_cases c:YT S z.1<j
     ·exact .inl ⟨h.1,h.2.1,h.2.2.1,c⟩
     ·right
      obtain ⟨z1,z2⟩:=z
      have hz2:z2=true:=h.1
      subst hz2
      have hz3:QV t (Q3 S z1)=(i:Int):=h.2.2.1
      have hz4:z1<S.length:=h.2.1
      have hz5:YT S z1<j+1:=h.2.2.2
      have hz6:¬YT S z1<j:=c
      have:=KM hA hz4
      by_cases e:z1=q
      ·rw [e]
      ·have:=Qjs hF hz4 hq e (by omega) hA
       omega
   | false =>
    rw [if_neg (by simp)]
    refine Ok.step Z ⟨_,Z,by omega,s1,g1,g2.congr fun z=>⟨fun h=>⟨h.1,h.2.1,h.2.2.1,by omega⟩,fun h=>⟨h.1,h.2.1,h.2.2.1,?_⟩⟩⟩
    obtain ⟨z1,z2⟩:=z
    have hz2:z2=true:=h.1
    subst hz2
    have hz3:QV t (Q3 S z1)=(i:Int):=h.2.2.1
    have hz4:z1<S.length:=h.2.1
    have hz5:YT S z1<j+1:=h.2.2.2
    show YT S z1<j
    by_cases e:YT S z1=j
    ·exfalso
     have hz7:=Qag hA hz4
     have hz8:=KM hA hz4
     rw [e] at hz8
     have:=List.any_eq_false.1 hcn (Q3 S z1) (QQ hz4)
     refine this (decide_eq_true ⟨by omega,by omega⟩)
    ·omega
  rintro l ⟨g0,s1,g1,g2⟩
  refine Ok.bind (Ok.forS (fun n (r:List Int×List Int)=>r.2.length<=out.length+t.Jobs.length+n∧r.1.length=t.Jobs.length∧(∀j,j<t.Jobs.length->∃k:Nat,r.1[j]?=some (k:Int)∧QrR t S (i:Int) n j k)∧∃s,Qdi u (u.Init,0) r.2=some (s,(i:Int))∧Mid t S x N u (i:Int) σ (fun y=>y.1<S.length∧Kl t S y=(i:Int)∧(y.2=true∨y.1<n)) s) ?_ ?_ ?_)
  ·refine ⟨by simp;omega,hll,fun j hj'=>?_,s1,g1,g2.congr fun z=>⟨fun h=>⟨h.2.1,h.2.2.1, .inl h.1⟩,fun h=>⟨by have:=h.2.2;simpa using this,h.1,h.2.1,(Qag hA h.1).1⟩⟩⟩
   obtain ⟨k,k1,k2⟩:=hlf j hj'
   refine ⟨k,k1,?_⟩
   rcases k2 with ⟨q,q1,q2,q3,q4,q5⟩ |⟨q1,q2⟩
   ·exact .inl ⟨q,q1,q2, .inl ⟨q3,q4⟩,q5⟩
   ·exact .inr ⟨fun q h1 h2 h3=>by
     rcases h3 with h3 |h3
     ·exact q1 q h1 h2 h3
     ·omega,q2⟩
  ·rintro n ⟨lf,l2⟩ hnS ⟨b0,b1,b2,s2,b3,b4⟩
   have b0:l2.length<=out.length+t.Jobs.length+n:=b0
   have b1:lf.length=t.Jobs.length:=b1
   have b2:∀j,j<t.Jobs.length->∃k:Nat,lf[j]?=some (k:Int)∧QrR t S (i:Int) n j k:=b2
   have hjn:=Qag hA hnS
   have hde:=KM hA hnS
   show Ok ((idx S (n:Int)).bind _) _
   refine Ok.step (by rw [Qq];exact Kr hnS) ?_
   by_cases cA:(Q3 S n).At=(i:Int)
   ·rw [if_pos (by simpa using cA)]
    obtain ⟨s3,k1,k2⟩:=QoW hA hF hL hT hck b4 hσ hnS cA (fun h=>by have:=h.2.2;simp at this) (k:=(i:Int)) ⟨by omega,by omega⟩
    refine Ok.bind (Ok.step (QD (by show (l2.length+_) * _<=_;simp;omega)) ?_)
    rw [<-hjn.2.1]
    obtain ⟨k0,e0,_⟩:=b2 _ hjn.1
    refine Ok.step (by rw [Qq];exact Qij hjn.1) (Ok.step (by rw [Qq];exact e0) (Ok.step (QaE (by show YT S n<lf.length;omega)) ⟨_,Z,⟨_,Z,?_,?_,fun j hj'=>?_,s3,?_,k2.congr fun z=>⟨fun h=>?_,fun h=>?_⟩⟩⟩))
    ·show (l2++_).length<=_
     simp;omega
    ·show (lf.set _ _).length=_
     rw [List.length_set];exact b1
    ·show ∃k,(lf.set _ _)[j]?=_∧_
     by_cases e:j=YT S n
     ·subst e
      refine ⟨(jn t (YT S n)).Duration.toNat,?_, .inl ⟨n,hnS,Z, .inr ⟨cA,by omega⟩,by omega⟩⟩
      rw [List.getElem?_set_self (by omega)]
      congr 1;omega
     ·rw [List.getElem?_set_ne (by omega)]
      obtain ⟨k,q1,q2⟩:=b2 j hj'
      refine ⟨k,q1,?_⟩
      rcases q2 with ⟨q,c1,c2,c3,c4⟩ |⟨c1,c2⟩
      ·exact .inl ⟨q,c1,c2,c3.imp (fun h=>h) fun h=>⟨h.1,by omega⟩,c4⟩
      ·refine .inr ⟨fun q h1 h2 h3=>c1 q h1 h2 (h3.imp (fun h=>h) fun h=>⟨h.1,?_⟩),c2⟩
       by_cases e2:q=n
       ·subst e2;exact absurd h2.symm e
       ·omega
    ·rw [Q7 (n:=2 * ((YT S n:Nat):Int)) (by omega) (by omega),show 2 * ((YT S n:Nat):Int)=((2 * YT S n:Nat):Int) by omega]
     exact Qe9 b3 k1
    ·rcases h with h |rfl
     ·exact ⟨h.1,h.2.1,h.2.2.imp (fun h=>h) fun h=>by omega⟩
     ·exact ⟨hnS,cA, .inr (by simp only;omega)⟩
    ·by_cases e:z.2=true∨z.1<n
     ·exact .inl ⟨h.1,h.2.1,e⟩
     ·right
      obtain ⟨z1,z2⟩:=z
      have e1:z2=false:=by
       cases z2 with
       |false=>rfl
       |true=>exact absurd (.inl rfl) e
      subst e1
      have h3:z1<n+1:=by have:=h.2.2;simpa using this
      have h4:¬z1<n:=fun h5=>e (.inr h5)
      have:z1=n:=by omega
      rw [this]
   ·rw [if_neg (by simpa using cA)]
    refine Ok.step Z ⟨_,Z,?_,b1,fun j hj'=>?_,s2,b3,b4.congr fun z=>⟨fun h=>⟨h.1,h.2.1,h.2.2.imp (fun h=>h) fun h=>by omega⟩,fun h=>⟨h.1,h.2.1,?_⟩⟩⟩
    ·show l2.length<=_;omega
    ·obtain ⟨k,q1,q2⟩:=b2 j hj'
     refine ⟨k,q1,?_⟩
     rcases q2 with ⟨q,c1,c2,c3,c4⟩ |⟨c1,c2⟩
     ·exact .inl ⟨q,c1,c2,c3.imp (fun h=>h) fun h=>⟨h.1,by omega⟩,c4⟩
     ·refine .inr ⟨fun q h1 h2 h3=>c1 q h1 h2 (h3.imp (fun h=>h) fun h=>⟨h.1,?_⟩),c2⟩
      by_cases e2:q=n
      ·subst e2;exact absurd h.1 cA
      ·omega
    ·rcases h.2.2 with h3 |h3
     ·exact .inl h3
     ·by_cases e2:z.1=n
      ·obtain ⟨z1,z2⟩:=z
       cases z2 with
       |true=>exact .inl rfl
       |false =>
        have h5:(Q3 S z1).At=(i:Int):=h.2.1
        have e2:z1=n:=e2
        subst e2
        exact absurd h5 cA
      ·exact .inr (by omega)
  rintro ⟨lf,l2⟩ ⟨b0,b1,b2,s2,b3,b4⟩
  have b0:l2.length<=out.length+t.Jobs.length+S.length:=b0
  have b1:lf.length=t.Jobs.length:=b1
  have b2:∀j,j<t.Jobs.length->∃k:Nat,lf[j]?=some (k:Int)∧QrR t S (i:Int) S.length j k:=b2
  obtain ⟨σ',hσ',hW⟩:=b4.aft (fun y h1 h2=>⟨h1,h2, .inr h1⟩) hσ hA hL
  have hlI:∀j,j<t.Jobs.length->∃k:Nat,lf[j]?=some (k:Int)∧Dh t S (i:Int) j k:=fun j hj'=>by
   obtain ⟨k,q1,q2⟩:=b2 j hj'
   refine ⟨k,q1,?_⟩
   rcases q2 with ⟨q,c1,c2,c3,c4⟩ |⟨c1,c2⟩
   ·have:=KM hA c1
    exact .inl ⟨q,c1,c2,by omega,by omega,c4⟩
   ·exact .inr ⟨fun q h1 h2 h3=>c1 q h1 h2 (by omega),c2⟩
  show Ok (Option.bind (if decide ((i:Int)<mkS t S)=true then _ else _) _) _
  by_cases cn:(i:Int)<mkS t S
  ·rw [if_pos (by simpa using cn)]
   have hJ:0<t.Jobs.length:=by
    rcases Nat.eq_zero_or_pos t.Jobs.length with e |e
    ·exfalso
     have:mkS t S<=0:=Qii (by omega) fun l hl=>by
      have h1:=hA.ok l hl
      have:=h1.j0;have:=h1.j1
      omega
     omega
    ·exact e
   refine Ok.bind (Ok.bind ((Quh hL hT hck hA hF hJ hσ' hfs b1 hlI (c:=(i:Int)) ⟨by omega,by omega⟩ (by omega) b3 hW).mono ?_))
   rintro ⟨lf3,l3⟩ ⟨s3,d1,d2,d3,d4,d5⟩
   have d5:l3.length=l2.length+t.Jobs.length+2:=d5
   refine ⟨_,Z,⟨_,Z,?_,fun _=>⟨⟨s3,σ',d1,?_,d2⟩,d3,d4⟩,fun h=>by omega⟩⟩
   ·show l3.length<=_
    rw [Nat.add_mul];omega
   ·rw [show ((i+1:Nat):Int) - 1=(i:Int) by omega];exact hσ'
  ·rw [if_neg (by simpa using cn)]
   have ein:(i:Int)=mkS t S:=by omega
   refine Ok.step Z ⟨_,Z,?_,fun h=>by omega,fun _=>⟨s2,by rw [<-ein];exact b3,fun f hf=>?_⟩⟩
   ·show l2.length<=_
    rw [Nat.add_mul];omega
   ·rcases hT.goal f hf with hf |⟨j,hj',rfl⟩ |rfl
    ·have hr:=hc.goal.rng f hf
     have hv1:=hF.goal f hf
     rw [<-ein] at hv1
     obtain ⟨c,hc1,hc2⟩:=hσ'.2 f.Var.toNat (by omega)
     have:=hv1.uniq hA (fun b _=>hF.ni b) hc2
     subst this
     unfold idx
     rw [if_pos hr.1,hW.var _ (by omega),hc1]
    ·show idx s2 ((t.Vars.length+2 * j:Nat):Int)=some 0
     rw [Qq]
     exact hW.id j hj' fun q h1 _ h3=>by have:=hend q h1;omega
    ·show idx s2 (N:Int)=some 0
     rw [Qq];exact hW.ph
 ·rintro ⟨out,left⟩ ⟨h0,_,h2⟩
  have h0:out.length<=(mkS t S+1).toNat * 200:=h0
  obtain ⟨s,k1,k2⟩:=h2 (by omega)
  refine ⟨_,Z,Z,s,k1,?_,k2⟩
  show out.length<=_
  omega
end
end Go.Pw
/- -/
namespace Go.Pw
section
variable {t:Ge} {L:List Launch}
structure Evs (t:Ge) (L:List Launch) (E:List Gf):Prop where
 perm:E.Perm ((Qf7 L.length).map (evX t L))
 asc:E.Pairwise fun a b=>a.At<=b.At
theorem QhM:∀n:Nat,(Qf7 n).length=2 * n
 |0=>rfl
 |n+1=>by rw [Qg0,Xt,QhM n];simp;omega
theorem QqQ (hA:Acc t L) (hn:L.length<=6):Ok (KU ⟨t,L,⟨[],[],[],0⟩⟩) fun r=>r.1=mkS t L∧Evs t L r.2:=by
 unfold KU
 simp only
 refine Ok.bind (Ok.forS (fun i (r:Int×List Gf)=>r.1=(L.take i).foldl (fun m l=>max m (QV t l)) 0∧r.2=(Qf7 i).map (evX t L)) ⟨Z,Z⟩ ?_ ?_)
 ·rintro i ⟨z,l⟩ hi ⟨h1,h2⟩
  have h1:z=(L.take i).foldl (fun m l=>max m (QV t l)) 0:=h1
  have h2:l=(Qf7 i).map (evX t L):=h2
  subst h1 h2
  have hlen:=QhM i
  show Ok ((idx L (i:Int)).bind _) _
  refine Ok.step (by rw [Qq];exact Kr hi) (Ok.step (Qgp hA hi).1 (Ok.step (QD (by simp;omega)) (Ok.step (Qgp hA hi).1 ⟨_,Z,?_,?_⟩)))
  ·show max _ _=_
   rw [Qbm hi,List.foldl_append]
   have:L[i]=Q3 L i:=by simp [Q3,hi]
   rw [this];rfl
  ·show (Qf7 i).map (evX t L)++_=_
   rw [Qg0,List.map_append];rfl
 ·rintro ⟨z,l⟩ ⟨h1,h2⟩
  have h1:z=(L.take L.length).foldl (fun m l=>max m (QV t l)) 0:=h1
  have h2:l=(Qf7 L.length).map (evX t L):=h2
  have hlen:=QhM L.length
  show Ok ((QcU l).bind _) _
  unfold QcU
  rw [if_pos (by rw [h2];simp;omega)]
  refine ⟨_,Z,by rw [h1,List.take_length];rfl,?_,?_⟩
  ·rw [<-h2];exact List.mergeSort_perm _ _
  ·have h3:(l.mergeSort fun x y=>!decide (Qla y x<0)).Pairwise (fun x y=>(!decide (Qla y x<0))=true):=by
    apply List.pairwise_mergeSort
    ·intro a b c e1 e2
     simp only [Bool.not_eq_true',Xx,Qd5] at *
     omega
    ·intro a b
     simp only [X4,Bool.not_eq_true',Xx,Qd5]
     omega
   refine h3.imp fun h=>?_
   simp only [Bool.not_eq_true',Xx,Qd5] at h
   omega
theorem Evs.len {E:List Gf} (h:Evs t L E):E.length=2 * L.length:=by rw [h.perm.length_eq,X6,QhM]
theorem Evs.get {E:List Gf} (h:Evs t L E) {j:Nat} (hj:j<E.length):∃x:Nat×Bool,x.1<L.length∧E[j]=evX t L x:=by
 obtain ⟨x,h1,h2⟩:=X5.1 (h.perm.mem_iff.1 (List.getElem_mem hj))
 exact ⟨x,QfF.1 h1,h2.symm⟩
theorem Evs.find {E:List Gf} (h:Evs t L E) {x:Nat×Bool} (hx:x.1<L.length):∃j,∃hj:j<E.length,E[j]=evX t L x:=by
 have:=h.perm.mem_iff.2 (List.mem_map_of_mem (f:=evX t L) (QfF.2 hx))
 obtain ⟨j,hj,e⟩:=List.mem_iff_getElem.1 this
 exact ⟨j,hj,e⟩
theorem Evs.le {E:List Gf} (h:Evs t L E) {i j:Nat} (hij:i<=j) (hj:j<E.length):(E[i]'(by omega)).At<=E[j].At:=by
 by_cases c:i=j
 ·subst c;exact Int.le_refl _
 ·exact List.pairwise_iff_getElem.1 h.asc i j (by omega) hj (by omega)
theorem Evs.nodup {E:List Gf} (h:Evs t L E):E.Nodup:=by
 refine h.perm.nodup_iff.2 ?_
 rw [List.Nodup,List.pairwise_map]
 exact (Qhf L.length).imp fun hne e=>hne (QpV e)
structure D9 (t:Ge) (L:List Launch) (E:List Gf) (i:Nat) (s:List Int) (S:List (List Int)):Prop where
 le:i<=E.length
 sl:S.length<=i
 sv:∀x ∈ S,x.length=t.Vars.length
 ex:∃τ,SOK t L τ s∧(∀j (hj:j<E.length),j<i->E[j].At<=τ)∧(∀j (hj:j<E.length),i<=j->τ<E[j].At)
theorem QwO (ht:GX t) (hA:Acc t L) (hF:GJ t L) (hn:L.length<=6):Ok (Qbj t L) fun r=>r.1=none∧r.2.Problems=[]∧r.2.Makespan=mkS t L:=by
 have hv:=hA.chk.vars
 unfold Qbj
 rw [QcK ht hA hF,Xa]
 simp only [J5,Option.isSome_none,Bool.false_and,Xf,if_false]
 refine Ok.bind ((QqQ hA hn).mono ?_)
 rintro ⟨m,E⟩ ⟨hm,hE⟩
 have hm:m=mkS t L:=hm
 have hE:Evs t L E:=hE
 have hlen:=hE.len
 have hini:=hA.chk.ini
 show Ok ((QW t.Init).bind _) _
 rw [Qe4 (by omega),Xa]
 refine Qml (fun q=>q.2.2.1=E∧∃i:Nat,q.2.1=(i:Int)∧D9 t L E i q.1 q.2.2.2) (fun q=>q.2.2.1=E∧q.2.1=(E.length:Int)∧D9 t L E E.length q.1 q.2.2.2) (fun _=>False) (fun q=>E.length - q.2.1.toNat)
  ⟨rfl,0,rfl,X7 _,Xi _,by simp,0 - 1,QnV hA,fun j hj h=>absurd h (by omega),fun j hj _=>?_⟩ ?_ (fun r hr=>hr.elim) ?_
 ·obtain ⟨x,x1,x2⟩:=hE.get hj
  rw [x2]
  have:=(QjB hA x1).1
  show 0 - 1<Kl t L x
  omega
 ·rintro ⟨s,i',E',S⟩ ⟨e1,i,e2,hI⟩
  have e1:E'=E:=e1
  have e2:i'=(i:Int):=e2
  have hI:D9 t L E i s S:=hI
  subst e1 e2
  obtain ⟨hle,hsl,hsv,τ,hτ,hlo,hhi⟩:=hI
  have hsl:S.length<=i:=hsl
  simp only [un4]
  by_cases ci:i<E'.length
  ·rw [if_pos (by simpa using ci)]
   have gi:idx E' (i:Int)=some E'[i]:=by rw [Qq];exact Xb ci
   refine Qml (fun k=>∃k':Nat,k=(k':Int)∧i<=k'∧k'<=E'.length∧∀j (hj:j<E'.length),i<=j->j<k'->E'[j].At=E'[i].At)
    (fun k=>∃k':Nat,k=(k':Int)∧i<k'∧k'<=E'.length∧(∀j (hj:j<E'.length),i<=j->j<k'->E'[j].At=E'[i].At)∧∀j (hj:j<E'.length),k'<=j->E'[i].At<E'[j].At) (fun _=>False) (fun k=>E'.length - k.toNat)
    ⟨i,rfl,Xi _,by omega,fun j hj h1 h2=>by omega⟩ ?_ (fun r hr=>hr.elim) ?_
   ·rintro k ⟨k',rfl,k1,k2,k3⟩
    by_cases ck:k'<E'.length
    ·have gk:idx E' (k':Int)=some E'[k']:=by rw [Qq];exact Xb ck
     rw [if_pos (by simpa using ck)]
     refine Ok.bind (Ok.step gk (Ok.step gi ⟨_,Z,?_⟩))
     refine Jl (fun h=>⟨_,Z,⟨k'+1,?_,by omega,by omega,fun j hj h1 h2=>?_⟩,?_⟩) fun h=>⟨_,Z,k',Z,?_,k2,k3,fun j hj h1=>?_⟩
     ·rw [Q7 (by omega) (by omega)];omega
     ·by_cases e:j=k'
      ·subst e;exact QjH h
      ·exact k3 j hj h1 (by omega)
     ·rw [Q7 (by omega) (by omega)];show E'.length - ((k':Int)+1).toNat<E'.length - ((k':Int)).toNat;omega
     ·have h:=QiE h
      by_cases e:i=k'
      ·subst e;exact absurd rfl h
      ·omega
     ·have h:=QiE h
      have:=hE.le (i:=i) (j:=k') k1 ck
      have:=hE.le h1 hj
      omega
    ·rw [if_neg (by simpa using ck)]
     refine Ok.step Z ?_
     rw [if_neg (by simp)]
     exact ⟨_,Z,k',Z,by omega,k2,k3,fun j hj h1=>by omega⟩
   ·rintro k ⟨k',rfl,k1,k2,k3,k4⟩
    refine Ok.step gi ?_
    have ecut:cut E' (i:Int) (k':Int)=some ((E'.take k').drop i):=by
     unfold cut
     rw [if_pos ⟨by omega,by omega,by omega⟩,XD,XD]
    rw [ecut,Xa]
    have hgl:((E'.take k').drop i).length=k' - i:=by rw [List.length_drop,XF];omega
    have hg:Grp t L E'[i].At ((E'.take k').drop i):=by
     refine ⟨fun e he=>?_,fun x x1 x2=>?_,?_⟩
     ·obtain ⟨j,hj,rfl⟩:=List.mem_iff_getElem.1 he
      rw [hgl] at hj
      have hj2:i+j<E'.length:=by omega
      have e3:((E'.take k').drop i)[j]'(by rw [hgl];exact hj)=E'[i+j]:=by rw [List.getElem_drop,List.getElem_take]
      rw [e3]
      obtain ⟨x,x1,x2⟩:=hE.get hj2
      refine ⟨x,x1,?_,x2⟩
      have:=k3 (i+j) hj2 (by omega) (by omega)
      rw [x2] at this;exact this
     ·obtain ⟨j,hj,ej⟩:=hE.find x1
      have hat:E'[j].At=E'[i].At:=by rw [ej];exact x2
      have h5:i<=j:=by
       by_cases c:j<i
       ·have:=hlo j hj c;have:=hhi i ci (Xi _);omega
       ·omega
      have h6:j<k':=by
       by_cases c:j<k'
       ·exact c
       ·have:=k4 j hj (by omega);omega
      rw [<-ej]
      refine List.mem_of_getElem? (i:=j - i) ?_
      rw [Xu,List.getElem?_take_of_lt (by omega),show i+(j - i)=j by omega]
      exact Xb hj
     ·exact (hE.nodup.sublist (List.take_sublist _ _)).sublist (List.drop_sublist _ _)
    have hτ2:SOK t L (E'[i].At - 1) s:=hτ.idle (by have:=hhi i ci (Xi _);omega) fun y y1 y2=>by
     obtain ⟨j,hj,ej⟩:=hE.find y1
     have hat:E'[j].At=Kl t L y:=by rw [ej];rfl
     by_cases c:j<i
     ·have:=hlo j hj c;omega
     ·have:=hE.le (i:=i) (j:=j) (by omega) hj;omega
    refine Ok.bind ((Qoj (o:=⟨E',S,[],m⟩) hA hF hg (by rw [hgl];omega) hτ2 (by show S.length<=1000;omega)).mono ?_)
    rintro ⟨s2,S2⟩ ⟨h1,h2⟩
    have h1:SOK t L E'[i].At s2:=h1
    have h2:S2=S++[s2]:=h2
    subst h2
    refine ⟨_,Z,⟨Z,k',Z,k2,by show (S++[s2]).length<=k';simp;omega,fun x hx=>?_,E'[i].At,h1,fun j hj h3=>?_,fun j hj h3=>k4 j hj h3⟩,by show E'.length - ((k':Int)).toNat<E'.length - ((i:Int)).toNat;omega⟩
    ·rcases Xn.1 hx with c |c
     ·exact hsv x c
     ·rw [X8.1 c];exact h1.1
    ·by_cases c:i<=j
     ·exact Int.le_of_eq (k3 j hj c h3)
     ·have:=hlo j hj (by omega);have:=hhi i ci (Xi _);omega
  ·rw [if_neg (by simpa using ci)]
   have:i=E'.length:=by omega
   subst this
   exact ⟨_,Z,Z,Z,hle,hsl,hsv,τ,hτ,hlo,hhi⟩
 ·rintro ⟨s,i',E',S⟩ ⟨e1,_,hI⟩
  have e1:E'=E:=e1
  subst e1
  have hI:D9 t L E' E'.length s S:=hI
  obtain ⟨hle,hsl,hsv,τ,hτ,hlo,_⟩:=hI
  simp only [un4]
  have hall:∀y:Nat×Bool,y.1<L.length->Kl t L y<=τ:=fun y y1=>by
   obtain ⟨j,hj,ej⟩:=hE.find y1
   have:=hlo j hj hj
   rw [ej] at this;exact this
  rw [Qfg,Xa]
  ·refine Ok.step (a:=()) Z ?_
   refine Ok.bind (Ok.forS (fun i (l:List (List Int))=>l=S) Z ?_ fun l hl=>⟨_,Z,Z,Z,hm⟩)
   rintro i l hi rfl
   have:=hsv l[i] (List.getElem_mem hi)
   refine Ok.step (by rw [Qq];exact Xb hi) (Ok.step (Qe4 (by omega)) (Ok.step (QaE hi) ⟨_,Z,?_⟩))
   exact List.set_getElem_self hi
  ·have h2:SOK t L (max τ (mkS t L)) s:=hτ.idle (Int.le_max_left _ _) fun y y1 _=>hall y y1
   refine (Qca hA (fun b _=>hF.ni b) h2 hA.chk.goal).2 fun f hf=>(hF.goal f hf).idle (Int.le_max_right _ _) fun y y1 _ _=>(QjB hA y1).2
end
end Go.Pw
/- -/
namespace Go.Pw
theorem QfV {u:GD} (hf:∀o ∈ u.Ops,QgF o) (hn:u.Ops.length<=5000):Ok (Ys u) fun _=>True:=by
 unfold Ys
 refine Ok.bind (Ok.forS (fun i (l:List (List Gj))=>l.length<=1+i * 1001) (by simp) ?_ fun l _=>⟨_,Z,trivial⟩)
 intro i l hi hl
 have hel:=(hf _ (List.getElem_mem hi)).2
 refine Ok.step (by rw [Qq,Xb hi]) (Ok.step (QD (by simp;omega)) ?_)
 refine Ok.bind (Ok.forS (fun j (m:List (List Gj))=>m.length<=l.length+1+j) (by simp) ?_ fun m hm=>⟨_,Z,?_⟩)
 ·intro j m hj hm
  refine Ok.step (by rw [Qq,Xb hj]) (Ok.step (QD (by simp;omega)) ⟨_,Z,?_⟩)
  simp;omega
 ·rw [Nat.add_mul];omega
theorem QqB {s:ByteArray} (h:s.size<=9223372036854775807):Ok (Qcm s) fun _=>True:=by
 unfold Qcm
 refine Ok.must (by simp;omega) ?_
 refine Ok.ctl (fun _ _=>True) (fun _=>True) trivial ?_ (fun r _=>⟨r,Z,trivial⟩) fun _ _=>⟨_,Z,trivial⟩
 intro j _ hj _
 have hb:j<(QcJ s).length:=by simp [QcJ];omega
 rw [Qq,Xb hb]
 simp only [Xa]
 by_cases c:(QcJ s)[j]<32
 ·simp only [c,decide_true,if_true,Xa];exact ⟨_,rfl,trivial⟩
 ·simp only [c,decide_false,Xf,if_false,Xa]
  exact Jl (fun _=>⟨_,Z,trivial⟩) fun _=>⟨_,Z,trivial⟩
theorem Qph (l:List (List Gj)):Ok (QZ l) fun _=>True:=by
 unfold QZ J9
 refine Ok.bind (Ok.ctl (fun _ _=>True) (fun _=>True) trivial ?_ (fun r _=>⟨r,Z,_,Z,trivial⟩) fun _ _=>⟨_,Z,_,Z,trivial⟩)
 intro j _ hj _
 refine Ok.step (by rw [Qq,Xb hj]) ?_
 exact Jl (fun _=>⟨_,Z,trivial⟩) fun _=>⟨_,Z,trivial⟩
theorem QoU {u:GD} (hf:∀o ∈ u.Ops,QgF o) (hn:u.Ops.length<=5000):Ok (Jb u) fun _=>True:=by
 have hlarge:Ok (Qcn u) fun _=>True:=by
  unfold Qcn
  refine Jl (fun _=>⟨_,Z,trivial⟩) fun _=>?_
  refine Ok.ctl (fun _ _=>True) (fun _=>True) trivial ?_ (fun r _=>⟨r,Z,trivial⟩) fun _ _=>?_
  ·intro j _ hj _
   refine Ok.step (by rw [Qq,Xb hj]) ?_
   exact Jl (fun _=>⟨_,Z,trivial⟩) fun _=>⟨_,Z,trivial⟩
  ·exact Ok.bind ((QfV hf hn).mono fun y _=>Ok.bind ((Qph y).mono fun b _=>⟨b,Z,trivial⟩))
 unfold Jb
 refine Ok.bind (hlarge.mono fun b _=>Jl (fun _=>⟨_,Z,trivial⟩) fun _=>?_)
 refine Ok.ctl (fun _ _=>True) (fun _=>True) trivial ?_ (fun r _=>⟨r,Z,trivial⟩) fun _ _=>?_
 ·intro j _ hj _
  refine Ok.step (by rw [Qq,Xb hj]) ?_
  exact Jl (fun _=>⟨_,Z,trivial⟩) fun _=>⟨_,Z,trivial⟩
 refine Ok.ctl (fun _ _=>True) (fun _=>True) trivial ?_ (fun r _=>⟨r,Z,trivial⟩) fun _ _=>?_
 ·intro j _ hj _
  refine Ok.step (by rw [Qq,Xb hj]) ?_
  exact Jl (fun _=>⟨_,Z,trivial⟩) fun _=>⟨_,Z,trivial⟩
 refine Ok.bind ((Qhg u.Vars u.Init).mono fun b _=>Jl (fun _=>⟨_,Z,trivial⟩) fun _=>?_)
 refine Ok.bind ((QfV hf hn).mono fun cs _=>?_)
 refine Ok.ctl (fun _ _=>True) (fun _=>True) trivial ?_ (fun r _=>⟨r,Z,trivial⟩) fun _ _=>?_
 ·intro j _ hj _
  refine Ok.step (by rw [Qq,Xb hj]) ?_
  refine Ok.bind ((QhO u.Vars cs[j]).mono fun b _=>?_)
  exact Jl (fun _=>⟨_,Z,trivial⟩) fun _=>⟨_,Z,trivial⟩
 refine Ok.ctl (fun _ _=>True) (fun _=>True) trivial ?_ (fun r _=>⟨r,Z,trivial⟩) fun _ _=>?_
 ·intro j _ hj _
  refine Ok.step (by rw [Qq,Xb hj]) ?_
  refine Ok.ctl (fun _ _=>True) (fun _=>True) trivial ?_ (fun r _=>⟨_,Z,trivial⟩) fun _ _=>⟨_,Z,trivial⟩
  intro k _ hk _
  refine Ok.step (by rw [Qq,Xb hk]) ?_
  refine Ok.bind ((QhO u.Vars _).mono fun b _=>?_)
  exact Jl (fun _=>⟨_,Z,trivial⟩) fun _=>⟨_,Z,trivial⟩
 refine Ok.ctl (fun _ _=>True) (fun _=>True) trivial ?_ (fun r _=>⟨r,Z,trivial⟩) fun _ _=>⟨_,Z,trivial⟩
 intro j _ hj _
 refine Ok.step (by rw [Qq,Xb hj]) ?_
 refine Ok.bind ((QqB (hf _ (List.getElem_mem hj)).1).mono fun b _=>?_)
 exact Jl (fun _=>⟨_,Z,trivial⟩) fun _=>⟨_,Z,trivial⟩
end Go.Pw
