/- -/
import Derived.Test.YtalfjlihddgooaaGreatDoorBa
import Derived.Test.YtalfjlihddgooaaGreatDoorTE
import Derived.Test.YtalfjlihddgooaaGreatDoorTB
import Derived.Test.YtalfjlihddgooaaGreatDoorWlP
set_option linter.unusedVariables false
set_option linter.unusedSimpArgs false
namespace Go.Pw
def jn (t:Ge) (j:Nat):Job:=t.Jobs[j]!
theorem Qij {t:Ge} {j:Nat} (h:j<t.Jobs.length):t.Jobs[j]?=some (jn t j):=by simp [jn,h]
theorem QgR {t:Ge} {j:Nat} (h:j<t.Jobs.length):jn t j ∈ t.Jobs:=List.mem_of_getElem? (Qij h)
def QbA (t:Ge):Nat->Nat
 |0=>2 * t.Jobs.length+1
 |i+1=>QbA t i+((jn t i).Duration.toNat+1)
theorem Qgh {t:Ge} (hc:Chk t):∀i,i<=t.Jobs.length->QbA t i<=2 * t.Jobs.length+1+63 * i
 |0,_=>by simp [QbA]
 |i+1,h=>by
  have:=Qgh hc i (by omega)
  have:=(hc.job _ (QgR (t:=t) (j:=i) (by omega))).dur
  simp only [QbA];omega
def stV (t:Ge) (j:Nat):Int:=((t.Vars.length+2 * j:Nat):Int)
def flV (t:Ge) (j:Nat):Int:=((t.Vars.length+2 * j+1:Nat):Int)
def D0 (t:Ge) (x:Gl) (N:Nat) (rd wr more:List Gj) (E:Int->Int->Prop) (o:Op):Prop:=GR o 0 (fun f=>f ∈ rd∨f ∈ more∨f=⟨(N:Int),0⟩∨MkP x t.Vars.length rd wr f) (fun a b=>(∃f ∈ wr,f.Var=a∧f.Val=b)∨E a b∨(b=1∧MkE x t.Vars.length rd wr a))
def QoR (t:Ge) (x:Gl) (N j:Nat):Op->Prop:=D0 t x N (jn t j).Start (jn t j).AtStart [⟨stV t j,0⟩,⟨flV t j,0⟩] fun a b=>a=stV t j∧b=(jn t j).Duration
def Qwo (t:Ge) (x:Gl) (N j:Nat):Op->Prop:=D0 t x N (jn t j).End (jn t j).AtEnd [⟨stV t j,(jn t j).Duration+1⟩] fun a b=>(a=stV t j∧b=0)∨(a=flV t j∧b=1)
def Qnm (t:Ge) (N j k:Nat) (o:Op):Prop:=GR o 0 (fun f=>(0<k∧f ∈ (jn t j).Over)∨f=⟨stV t j,(k:Int)⟩∨f=⟨(N:Int),(j:Int)+1⟩)
 (fun a b=>(a=stV t j∧((1<k∧b=(k:Int) - 1)∨(k=1∧b=(jn t j).Duration+1)))∨(a=(N:Int)∧b=(j:Int)+2))
def QgF (o:Op):Prop:=o.Name.size<=9223372036854775807∧o.Effs.length<=1000
structure CT (t:Ge) (x:Gl) (N:Nat) (u:GD):Prop where
 vars:u.Vars=x.vars
 il:u.Init.length=N+1
 i0:∀v,v<t.Vars.length->u.Init[v]?=t.Init[v]?
 i1:∀i,t.Vars.length<=i->i<=N->u.Init[i]?=some 0
 goal:∀f ∈ u.Goal,f ∈ t.Goal∨(∃j,j<t.Jobs.length∧f=⟨stV t j,0⟩)∨f=⟨(N:Int),0⟩
 fin:∀o ∈ u.Ops,QgF o
 nops:u.Ops.length<=5000
 start:∀j,j<t.Jobs.length->∃o,u.Ops[2 * j]?=some o∧QoR t x N j o
 end_:∀j,j<t.Jobs.length->∃o,u.Ops[2 * j+1]?=some o∧Qwo t x N j o
 tick:0<t.Jobs.length->∃o,u.Ops[2 * t.Jobs.length]?=some o∧GR o 0 (fun f=>f=⟨(N:Int),0⟩) (fun a b=>a=(N:Int)∧b=1)
 wait:∀j k,j<t.Jobs.length->k<=(jn t j).Duration.toNat->∃o,u.Ops[QbA t j+k]?=some o∧Qnm t N j k o
 adv:0<t.Jobs.length->u.Ops.length=QbA t t.Jobs.length+1∧∃o,u.Ops[QbA t t.Jobs.length]?=some o∧GR o 1 (fun f=>f=⟨(N:Int),(t.Jobs.length:Int)+1⟩) (fun a b=>b=0∧Qr0 t x N a)
theorem Qh3 {z:List Op} {o:Op} (h:∀o ∈ z,QgF o) (ho:QgF o):∀q ∈ z++[o],QgF q:=fun q hq=>by
 rcases Xn.1 hq with c |c
 ·exact h q c
 ·rw [X8.1 c];exact ho
theorem Qim {α:Type} {z:List α} {a:α} {i:Nat} (h:i=z.length):(z++[a])[i]?=some a:=by subst h;simp
theorem Qc3 {α:Type} {z y:List α} {i:Nat} {o:α} (h:z[i]?=some o):(z++y)[i]?=some o:=by
 rw [Xs (Xj.1 h).1];exact h
section
variable {t:Ge} {x:Gl} {N:Nat}
theorem Qqc {rd wr more:List Gj} {effs:List Gn} {E:Int->Int->Prop} {o:Op} (h:GR o 0 (fun f=>f ∈ rd∨f ∈ more∨f=⟨(N:Int),0⟩∨MkP x t.Vars.length rd wr f)
  (fun a b=>(∃f ∈ wr,f.Var=a∧f.Val=b)∨(∃e ∈ effs,e.Var=a∧e.Val=b)∨(b=1∧MkE x t.Vars.length rd wr a))) (k:∀a b,(∃e ∈ effs,e.Var=a∧e.Val=b)↔E a b):D0 t x N rd wr more E o:=by
 refine ⟨h.cost,h.pre,fun e he=>?_,fun a b hab=>h.all a b ?_,h.nm,h.el⟩
 ·obtain ⟨h1,h2⟩:=h.eff e he
  refine ⟨h1,?_⟩
  rcases h2 with h2 |h2 |h2
  ·exact .inl h2
  ·exact .inr (.inl ((k _ _).1 h2))
  ·exact .inr (.inr h2)
 ·rcases hab with h2 |h2 |h2
  ·exact .inl h2
  ·exact .inr (.inl ((k _ _).2 h2))
  ·exact .inr (.inr h2)
structure Dx (t:Ge) (x:Gl) (N i:Nat) (z:List Op) (l:List Gj):Prop where
 zl:z.length=2 * i
 s:∀j,j<i->∃o,z[2 * j]?=some o∧QoR t x N j o
 e:∀j,j<i->∃o,z[2 * j+1]?=some o∧Qwo t x N j o
 ll:l.length<=64+i
 g:∀f ∈ l,f ∈ t.Goal∨∃j,j<i∧f=⟨stV t j,0⟩
 fin:∀o ∈ z,QgF o
structure De (t:Ge) (N:Nat) (z0:List Op) (i n:Nat) (z:List Op):Prop where
 len:z.length=QbA t i+n
 keep:∀(j:Nat) (o:Op),z0[j]?=some o->z[j]?=some o
 w:∀j k,j<i->k<=(jn t j).Duration.toNat->∃o,z[QbA t j+k]?=some o∧Qnm t N j k o
 c:∀k,k<n->∃o,z[QbA t i+k]?=some o∧Qnm t N i k o
 fin:∀o ∈ z,QgF o
theorem De.next {z0 z:List Op} {i n:Nat} {o:Op} (h:De t N z0 i n z) (ho:Qnm t N i n o):De t N z0 i (n+1) (z++[o]):=by
 have:=h.len
 refine ⟨by simp;omega,fun j o h1=>Qc3 (h.keep j o h1),fun j k h1 h2=>?_,fun k hk=>?_,Qh3 h.fin ⟨ho.nm,ho.el⟩⟩
 ·obtain ⟨o,k1,k2⟩:=h.w j k h1 h2
  exact ⟨o,Qc3 k1,k2⟩
 ·by_cases c:k=n
  ·subst c;exact ⟨o,Qim (by omega),ho⟩
  ·obtain ⟨o,k1,k2⟩:=h.c k (by omega)
   exact ⟨o,Qc3 k1,k2⟩
theorem De.row {z0 z:List Op} {i n:Nat} (h:De t N z0 i n z) (hn:n=(jn t i).Duration.toNat+1):De t N z0 (i+1) 0 z:=by
 have:=h.len
 refine ⟨by simp only [QbA];omega,h.keep,fun j k h1 h2=>?_,fun k hk=>absurd hk (by omega),h.fin⟩
 by_cases c:j=i
 ·subst c;exact h.c k (by omega)
 ·exact h.w j k (by omega) h2
theorem Qps (hck:JN t=some none) (hc:Chk t):∃x N u,Lay t x N∧CT t x N u∧Jc t=(Jb u).bind fun e=>if e.isSome then some (e,⟨[],[],[],[]⟩) else some (none,u):=by
 obtain ⟨x,N,hx,hL⟩:=Qw9 hc
 have hv:=hc.vars
 have hj:=hc.jobs
 have hN:=hL.N_le hc
 have hg64:=Qlu hc.goal hv
 refine ⟨x,N,?_⟩
 have loop1:Ok (forS (fun i100=>J5 fun (z100:(List Op)) (l102:(List Gj))=>(idx t.Jobs (i100:Int)).bind fun x100 =>
   (cat (⟨#[115,116,97,114,116,32]⟩) x100.Name).bind fun c100 =>
   (QY x c100 x100.Start x100.AtStart [(⟨(Qf x (i100:Int)),0⟩:Gj),(⟨(Qz x (i100:Int)),0⟩:Gj)] ([(⟨[],(Qf x (i100:Int)),x100.Duration⟩:Gn)])).bind <|fun (y103:Op) =>
   (app 72 z100 [y103]).bind fun l103 =>
   (cat (⟨#[101,110,100,32]⟩) x100.Name).bind fun c101 =>
   (QY x c101 x100.End x100.AtEnd [(⟨(Qf x (i100:Int)),IntKind.i64.wrap (x100.Duration+1)⟩:Gj)] ([(⟨[],(Qf x (i100:Int)),0⟩:Gn),(⟨[],(Qz x (i100:Int)),1⟩:Gn)])).bind <|fun (y104:Op) =>
   (app 72 l103 [y104]).bind fun l104 =>
   (app 16 l102 [(⟨(Qf x (i100:Int)),0⟩:Gj)]).bind fun l105 =>
   some (l104,l105)) (t.Jobs.length) 0 (([]:List Op),t.Goal)) fun r=>Dx t x N t.Jobs.length r.1 r.2:=by
  refine Ok.forS (fun i (s:List Op×List Gj)=>Dx t x N i s.1 s.2) ⟨Z,fun j h=>absurd h (by omega),fun j h=>absurd h (by omega),by simpa using hg64,fun f hf=> .inl hf,by simp⟩ ?_ fun s hs=>hs
  rintro i ⟨z,l⟩ hi hs
  have hs:Dx t x N i z l:=hs
  have hzl:=hs.zl
  have hll:=hs.ll
  have hJ:=hc.job _ (QgR hi)
  have hnm:=hc.nam _ (QgR hi)
  have hd:=hJ.dur
  show Ok ((idx t.Jobs (i:Int)).bind _) _
  refine Ok.step (by rw [Qq];exact Qij hi) ?_
  rw [QpD hL hc hi,Qsg hL hc hi,Q7 (n:=(jn t i).Duration+1) (by omega) (by omega)]
  refine Ok.step (QjX (by show 6+_<=_;omega)) ?_
  refine Ok.bind ((QhV hL hc (by rw [ByteArray.size_append];show 6+_<=_;omega) (Qlu hJ.start hv) (Qlu hJ.atStart hv) (by simp) (by simp) (by simp)).mono fun o1 ho1=>?_)
  refine Ok.step (QD (by simp;omega)) (Ok.step (QjX (by show 4+_<=_;omega)) ?_)
  refine Ok.bind ((QhV hL hc (by rw [ByteArray.size_append];show 4+_<=_;omega) (Qlu hJ.end_ hv) (Qlu hJ.atEnd hv) (by simp) (by simp) (by simp)).mono fun o2 ho2=>?_)
  refine Ok.step (QD (by simp;omega)) (Ok.step (QD (by simp;omega)) ⟨_,Z,?_⟩)
  have hS:QoR t x N i o1:=Qqc ho1 fun a b=>by
   simp only [Xr,List.not_mem_nil,or_false,exists_eq_left]
   exact ⟨fun ⟨h1,h2⟩=>⟨h1.symm,h2.symm⟩,fun ⟨h1,h2⟩=>⟨h1.symm,h2.symm⟩⟩
  have hE:Qwo t x N i o2:=Qqc ho2 fun a b=>by
   simp only [Xr,List.not_mem_nil,or_false,exists_eq_or_imp,exists_eq_left]
   exact ⟨fun h=>h.imp (fun ⟨h1,h2⟩=>⟨h1.symm,h2.symm⟩) fun ⟨h1,h2⟩=>⟨h1.symm,h2.symm⟩,fun h=>h.imp (fun ⟨h1,h2⟩=>⟨h1.symm,h2.symm⟩) fun ⟨h1,h2⟩=>⟨h1.symm,h2.symm⟩⟩
  refine ⟨by simp;omega,fun j hj'=>?_,fun j hj'=>?_,by simp;omega,fun f hf=>?_,Qh3 (Qh3 hs.fin ⟨ho1.nm,ho1.el⟩) ⟨ho2.nm,ho2.el⟩⟩
  ·by_cases c:j=i
   ·subst c;exact ⟨o1,Qc3 (Qim (by show 2 * j=z.length;omega)),hS⟩
   ·obtain ⟨o,k1,k2⟩:=hs.s j (by omega)
    exact ⟨o,Qc3 (Qc3 k1),k2⟩
  ·by_cases c:j=i
   ·subst c;exact ⟨o2,Qim (by simp;omega),hE⟩
   ·obtain ⟨o,k1,k2⟩:=hs.e j (by omega)
    exact ⟨o,Qc3 (Qc3 k1),k2⟩
  ·rcases Xn.1 hf with c |c
   ·rcases hs.g f c with c |⟨j,hj',c⟩
    ·exact .inl c
    ·exact .inr ⟨j,by omega,c⟩
   ·exact .inr ⟨i,by omega,X8.1 c⟩
 obtain ⟨⟨z,l⟩,e1,h1⟩:=loop1
 have h1:Dx t x N t.Jobs.length z l:=h1
 have hzl:=h1.zl
 have hll:=h1.ll
 have loop2:Ok (if decide (0<(t.Jobs.length:Int))=true then ((app 72 z ([(⟨⟨#[116,105,99,107]⟩,0,[(⟨x.phase,0⟩:Gj)],[(⟨[],x.phase,1⟩:Gn)]⟩:Op)])).bind fun l107 =>
   (forS (fun i101=>fun (l108:(List Op))=>(idx t.Jobs (i101:Int)).bind fun x101 =>
   (must (decide (IntKind.i64.wrap (x101.Duration+1)<=9223372036854775807))).bind fun u100 =>
   (forS (fun i102=>fun (l109:(List Op))=>(Ko x x101 (i101:Int) (i102:Int)).bind <|fun (y105:Op) =>
   (app 72 l109 [y105]).bind fun l110 =>
   some l110) ((IntKind.i64.wrap (x101.Duration+1)).toNat) 0 l108).bind (fun (l109:(List Op))=>some l109)) (t.Jobs.length) 0 l107).bind (fun (l108:(List Op))=>(JO x (t.Jobs.length:Int)).bind <|fun (y106:Op) =>
   (app 72 l108 [y106]).bind fun l111 =>
   some l111)) else (some z)) fun r=>(∀(j:Nat) (o:Op),z[j]?=some o->r[j]?=some o)∧(∀o ∈ r,QgF o)∧r.length<=5000∧(0<t.Jobs.length->(∃o,r[2 * t.Jobs.length]?=some o∧GR o 0 (fun f=>f=⟨(N:Int),0⟩) (fun a b=>a=(N:Int)∧b=1)) ∧
   (∀j k,j<t.Jobs.length->k<=(jn t j).Duration.toNat->∃o,r[QbA t j+k]?=some o∧Qnm t N j k o) ∧
   r.length=QbA t t.Jobs.length+1∧∃o,r[QbA t t.Jobs.length]?=some o∧GR o 1 (fun f=>f=⟨(N:Int),(t.Jobs.length:Int)+1⟩) (fun a b=>b=0∧Qr0 t x N a)):=by
  refine Jl (fun c=>?_) fun c=>⟨z,Z,fun j o h=>h,h1.fin,by omega,fun hp=>by have:=of_decide_eq_false c;omega⟩
  have hp:0<t.Jobs.length:=by have:=of_decide_eq_true c;omega
  refine Ok.step (QD (by simp;omega)) ?_
  generalize hz0:z++[_]=z0
  have k0:∃o,z0[2 * t.Jobs.length]?=some o∧GR o 0 (fun f=>f=⟨(N:Int),0⟩) (fun a b=>a=(N:Int)∧b=1):=by
   subst hz0
   refine ⟨_,Qim (by omega),Z,fun f hf=>?_,fun e he=>?_,fun a b ⟨h1,h2⟩=>⟨⟨[],x.phase,1⟩,by simp,?_⟩,by show (4:Nat)<=_;omega,by simp⟩
   ·have:f=⟨x.phase,0⟩:=by simpa using hf
    rw [this,hL.ph]
   ·have:e=⟨[],x.phase,1⟩:=by simpa using he
    rw [this];exact ⟨rfl,hL.ph,rfl⟩
   ·exact ⟨by rw [h1];exact hL.ph,h2.symm⟩
  have kz:∀j o,z[j]?=some o->z0[j]?=some o:=fun j o h=>by subst hz0;exact Qc3 h
  have fz:∀o ∈ z0,QgF o:=by subst hz0;exact Qh3 h1.fin ⟨by show (4:Nat)<=_;omega,by simp⟩
  have hz0l:z0.length=2 * t.Jobs.length+1:=by subst hz0;simp;omega
  refine Ok.bind (Ok.forS (fun i q=>De t N z0 i 0 q) ⟨by simp [QbA,hz0l],fun j o h=>h,fun j k h=>absurd h (by omega),fun k h=>absurd h (by omega),fz⟩ ?_ ?_)
  ·intro i q hi hq
   have hJ:=hc.job _ (QgR hi)
   have hnm:=hc.nam _ (QgR hi)
   have hd:=hJ.dur
   have hwo:=Qgh hc i (by omega)
   refine Ok.step (by rw [Qq];exact Qij hi) ?_
   rw [Q7 (n:=(jn t i).Duration+1) (by omega) (by omega)]
   refine Ok.must (by simp;omega) ?_
   rw [show ((jn t i).Duration+1).toNat=(jn t i).Duration.toNat+1 by omega]
   refine Ok.bind (Ok.forS (fun k q=>De t N z0 i k q) hq ?_ fun q hq=>⟨_,Z,hq.row Z⟩)
   intro k q hk hq
   have:=hq.len
   refine Ok.bind ((QtS hL hc hJ hnm hi (k:=k) (by omega)).mono fun o ho=>?_)
   exact Ok.step (QD (by simp;omega)) ⟨_,Z,hq.next ho⟩
  ·intro q hq
   have hlen:=hq.len
   have hwo:=Qgh hc t.Jobs.length (Xi _)
   refine Ok.bind ((Qpq hL hc).mono fun o ho=>?_)
   refine Ok.step (QD (by simp;omega)) ⟨_,Z,fun j o h=>Qc3 (hq.keep j o (kz j o h)),Qh3 hq.fin ⟨ho.nm,ho.el⟩,by simp;omega,fun _=>⟨?_,fun j k h1 h2=>?_,by simp;omega,o,Qim (by omega),ho⟩⟩
   ·obtain ⟨o,k1,k2⟩:=k0
    exact ⟨o,Qc3 (hq.keep _ _ k1),k2⟩
   ·obtain ⟨o,k1,k2⟩:=hq.w j k h1 h2
    exact ⟨o,Qc3 k1,k2⟩
 obtain ⟨r,e2,k1,kf,kn,k2⟩:=loop2
 have ecp:Qni (List.replicate (N+1) 0) t.Init=some (t.Init++(List.replicate (N+1) (0:Int)).drop t.Init.length):=by
  unfold Qni
  rw [if_pos (by rw [List.length_replicate,hc.ini];have:=hL.m.ge;omega)]
 have hVN:t.Vars.length<=N:=by have:=hL.m.ge;omega
 refine ⟨⟨x.vars,t.Init++(List.replicate (N+1) (0:Int)).drop t.Init.length,l++[⟨x.phase,0⟩],r⟩,hL,?_,?_⟩
 ·refine ⟨Z,by simp [hc.ini];omega,fun v hv'=>?_,fun i h3 h4=>?_,fun f hf=>?_,kf,kn,fun j hj'=>?_,fun j hj'=>?_,fun hp=>(k2 hp).1,fun j k h3 h4=>(k2 (by omega)).2.1 j k h3 h4,fun hp=>(k2 hp).2.2⟩
  ·show (t.Init++_)[v]?=_
   rw [Xs (by rw [hc.ini];exact hv')]
  ·show (t.Init++_)[i]?=_
   rw [Xy (by rw [hc.ini];exact h3),hc.ini,Xu,List.getElem?_replicate,if_pos (by omega)]
  ·have hf:f ∈ l++[⟨x.phase,0⟩]:=hf
   rcases Xn.1 hf with c |c
   ·rcases h1.g f c with c |c
    ·exact .inl c
    ·exact .inr (.inl c)
   ·have:f=⟨x.phase,0⟩:=by simpa using c
    rw [this,hL.ph];exact .inr (.inr rfl)
  ·obtain ⟨o,h3,h4⟩:=h1.s j hj'
   exact ⟨o,k1 _ _ h3,h4⟩
  ·obtain ⟨o,h3,h4⟩:=h1.e j hj'
   exact ⟨o,k1 _ _ h3,h4⟩
 ·unfold Jc
  rw [hck,Xa,if_neg (by simp),hx,Xa,hL.vl,Qvq (by omega) (by omega),Xa]
  have eg:Ju t.Goal=some t.Goal:=by unfold Ju;rw [QD (by simp;omega)];rfl
  rw [eg,Xa,ecp,Xa,e1,Xa]
  simp only [J5]
  rw [QD (by simp;omega),Xa,e2,Xa]
end
end Go.Pw
/- -/
namespace Go.Pw
section
variable {t:Ge} {x:Gl} {N:Nat} {u:GD} {S:List Launch}
theorem Qjp {s:List Int} {k op c:Int} {o:Op} {P:Gj->Prop} {E:Int->Int->Prop} (hck:Jb u=some none) (h0:idx u.Ops op=some o) (hs:GR o c P E) (hp:GV u.Vars s) (hsl:s.length<=1000) (hP:∀f,P f->idx s f.Var=some f.Val) (hk:0<=k∧k<=1000000∧0<=c∧c<=1) :
  ∃s',QdO u (s,k) op=some (s',k+c)∧GV u.Vars s'∧s'.length=s.length∧(∀i:Nat,(∀b,¬E (i:Int) b)->s'[i]?=s[i]?)∧(∀(i:Nat) (r:Int),i<s.length->E (i:Int) r->(∀b,E (i:Int) b->b=r)->s'[i]?=some r):=by
 have hT:=(QfL hck).2 o (List.mem_of_getElem? (Qj h0).2.2)
 have hr:∀e ∈ o.Effs,e.When=[]∧0<=e.Var∧e.Var<s.length:=fun e he=>by
  obtain ⟨h1,n,h2,_⟩:=hT e he
  have:=(Xj.1 h2).1
  have:=hp.1
  exact ⟨(hs.eff e he).1,h1,by omega⟩
 have hA:∀e ∈ o.Effs.map toE,∃n,u.Vars[e.1]?=some n∧0<=e.2∧e.2<n:=fun e he=>by
  obtain ⟨e',he',rfl⟩:=X5.1 he
  obtain ⟨_,n,h2,h3,h4⟩:=hT e' he'
  exact ⟨n,h2,h3,h4⟩
 refine ⟨Qg4 s (o.Effs.map toE),?_,hp.upd hA,Qkb _ _,fun i hi=>Qka fun e he e1=>?_,fun i r hi h1 h2=>Qnq hi ?_ fun e he e1=>?_⟩
 ·unfold QdO
  rw [Qtq (Qj h0).1 h0 hp (fun f hf=>hP f (hs.pre f hf)) hr hsl,Xa]
  simp only [J5,Option.isSome_none,Xf,if_false]
  rw [h0,Xa,hs.cost,Q7 (by omega) (by omega)]
 ·obtain ⟨e',he',rfl⟩:=X5.1 he
  have:=(hs.eff e' he').2
  have e2:e'.Var=(i:Int):=by have:=(hr e' he').2.1;simp only [toE] at e1;omega
  rw [e2] at this
  exact hi _ this
 ·obtain ⟨e,he,h3,h4⟩:=hs.all _ _ h1
  exact ⟨toE e,X5.2 ⟨e,he,Z⟩,by simp [toE,h3]⟩
 ·obtain ⟨e',he',rfl⟩:=X5.1 he
  have:=(hs.eff e' he').2
  have e2:e'.Var=(i:Int):=by have:=(hr e' he').2.1;simp only [toE] at e1;omega
  rw [e2] at this
  exact h2 _ this
def YT (S:List Launch) (i:Nat):Nat:=(Q3 S i).Job.toNat
theorem Qag (hA:Acc t S) {i:Nat} (hi:i<S.length):YT S i<t.Jobs.length∧((YT S i:Nat):Int)=(Q3 S i).Job∧jn t (YT S i)=jb t (Q3 S i):=by
 have h:=hA.ok _ (QQ hi)
 have:=h.j0;have:=h.j1
 refine ⟨by unfold YT;omega,by unfold YT;omega,Z⟩
theorem Qjs (hF:GJ t S) {i k:Nat} (hi:i<S.length) (hk:k<S.length) (hne:i≠k) (hj:YT S i=YT S k) (hA:Acc t S):QV t (Q3 S i)<(Q3 S k).At∨QV t (Q3 S k)<(Q3 S i).At:=by
 have e:(Q3 S i).Job=(Q3 S k).Job:=by rw [<-(Qag hA hi).2.1, <-(Qag hA hk).2.1,hj]
 have h1:=hF.ov (Q3 S i).At i k hi hk hne rfl e
 have h2:=hF.ov (Q3 S k).At k i hk hi (Ne.symm hne) rfl e.symm
 omega
theorem KM (hA:Acc t S) {i:Nat} (hi:i<S.length):QV t (Q3 S i)=(Q3 S i).At+(jn t (YT S i)).Duration∧1<=(jn t (YT S i)).Duration∧(jn t (YT S i)).Duration<=62∧0<=(Q3 S i).At:=by
 have h:=(Qag hA hi).2.2
 have:=(hA.chk.job _ (QbP (hA.ok _ (QQ hi)))).dur
 have:=(hA.ok _ (QQ hi)).a0
 rw [h]
 exact ⟨Z,by omega,by omega,by omega⟩
structure Mid (t:Ge) (S:List Launch) (x:Gl) (N:Nat) (u:GD) (a:Int) (σ:List Int) (Y:Nat×Bool->Prop) (s:List Int):Prop where
 at_:∀y,Y y->y.1<S.length∧Kl t S y=a
 len:s.length=N+1
 prop:GV u.Vars s
 var:∀v,v<t.Vars.length->(∀y,Y y->∀c,¬Wv t S y v c)->s[v]?=σ[v]?
 vaw:∀v y c,v<t.Vars.length->Y y->Wv t S y v c->s[v]?=some c
 se:∀i,i<S.length->¬Y (i,true)->(Q3 S i).At<a->QV t (Q3 S i)=a->s[t.Vars.length+2 * YT S i]?=some ((jn t (YT S i)).Duration+1)
 sr:∀i,i<S.length->(Q3 S i).At<a->a<QV t (Q3 S i)->s[t.Vars.length+2 * YT S i]?=some (QV t (Q3 S i) - a)
 ss:∀i,Y (i,false)->s[t.Vars.length+2 * YT S i]?=some (jn t (YT S i)).Duration
 sd:∀i,Y (i,true)->s[t.Vars.length+2 * YT S i]?=some 0
 si:∀j,j<t.Jobs.length->(∀i,i<S.length->YT S i=j->¬((Q3 S i).At<a∧a<=QV t (Q3 S i))∧¬Y (i,false))->s[t.Vars.length+2 * j]?=some 0
 fl:∀j,j<t.Jobs.length->(∀i,i<S.length->YT S i=j->¬Y (i,true))->s[t.Vars.length+2 * j+1]?=some 0
 mw:∀v,v<t.Vars.length->0<=Yu x.write v->(∀y,Y y->tB (wrX t S y) (v:Int)=false)->s[(Yu x.write v).toNat]?=some 0
 mr:∀v,v<t.Vars.length->0<=Yu x.read v->(∀y,Y y->tB (wrX t S y) (v:Int)=false->tB (rdX t S y) (v:Int)=false)->s[(Yu x.read v).toNat]?=some 0
 ph:s[N]?=some 0
theorem Qpu {y:Nat×Bool} {v:Nat}:tB (wrX t S y) (v:Int)=true↔∃c,Wv t S y v c:=by
 rw [QlY]
 exact ⟨fun ⟨f,h1,h2⟩=>⟨f.Val,f,h1,h2,rfl⟩,fun ⟨c,f,h1,h2,_⟩=>⟨f,h1,h2⟩⟩
theorem Qt9 {l:List Gj} {v:Int} (h:¬tB l v=true):tB l v=false:=by simpa using h
theorem QtD (hA:Acc t S) {y:Nat×Bool} (hy:y.1<S.length) {v:Nat}:(tB (wrX t S y) (v:Int)=true->Wd t v)∧(tB (rdX t S y) (v:Int)=true->Rd t v):=by
 have hm:=QbP (hA.ok _ (QQ hy))
 constructor
 ·intro h
  refine List.any_eq_true.2 ⟨_,hm,?_⟩
  unfold wrX wrH jH at h
  rw [X4]
  split at h
  ·exact .inr h
  ·exact .inl h
 ·intro h
  refine List.any_eq_true.2 ⟨_,hm,?_⟩
  unfold rdX rdH jH at h
  rw [X4]
  split at h
  ·exact .inr h
  ·exact .inl h
theorem Qmt (hL:Lay t x N) (hA:Acc t S) {y:Nat×Bool} (hy:y.1<S.length) {a:Int} (h:MkE x t.Vars.length (rdX t S y) (wrX t S y) a):((t.Vars.length+2 * t.Jobs.length:Nat):Int)<=a∧a<N:=by
 obtain ⟨v,hv,⟨h1,rfl⟩ |⟨h1,h2,h3,rfl⟩⟩:=h
 ·have:=hL.m.wn v hv
  have:=hL.m.ww v hv ((QtD hA hy).1 h1)
  omega
 ·have:=hL.m.rn v hv
  have:=hL.m.rr v hv (hL.m.wc v hv h3) ((QtD hA hy).2 h2)
  omega
theorem QnF (hA:Acc t S) (hF:GJ t S) (hL:Lay t x N) (hck:Jb u=some none) {a:Int} {σ s:List Int} {Y:Nat×Bool->Prop} (hM:Mid t S x N u a σ Y s) (hσ:SOK t S (a - 1) σ) {y:Nat×Bool} (hy:y.1<S.length) (ht:Kl t S y=a) (hn:¬Y y) {op k:Int} {o:Op}
  (hk:0<=k∧k<=1000000) (ho:idx u.Ops op=some o) {more:List Gj} {E:Int->Int->Prop} (hs:D0 t x N (rdX t S y) (wrX t S y) more E o) (hm:∀f ∈ more,idx s f.Var=some f.Val) (hE:∀b c,E b c->b=stV t (YT S y.1)∨b=flV t (YT S y.1)) (hE1:∀b,E (stV t (YT S y.1)) b↔b=if y.2 then 0 else (jn t (YT S y.1)).Duration) (hE2:y.2=false->∀b,¬E (flV t (YT S y.1)) b) :
  ∃s',QdO u (s,k) op=some (s',k)∧Mid t S x N u a σ (fun z=>Y z∨z=y) s':=by
 have hlen:=hM.len
 have hc:=hA.chk
 have hv:=hc.vars;have hj:=hc.jobs
 have hN:=hL.N_le hc
 have hVN:=hL.m.ge
 have hw:∀z,Y z->z≠y:=fun z hz e=>hn (e ▸ hz)
 have ni:∀z,Y z->Qce t S z y=false:=fun z hz=>hF.ni a z y (hM.at_ z hz).1 hy (hM.at_ z hz).2 ht (hw z hz)
 have ww:∀z v c d,Y z->Wv t S z v c->¬Wv t S y v d:=fun z v c d hz h1 h2=>by have:=QjK h1 h2;rw [ni z hz] at this;cases this
 have nr:∀z v c,Y z->Wv t S z v c->tB (rdX t S y) (v:Int)=false:=fun z v c hz h1=>Qt9 fun h2=>by
  obtain ⟨f,hf,e⟩:=QlY.1 h2
  have:=QjL h1 hf e
  rw [ni z hz] at this;cases this
 have nr2:∀z v c,Y z->Wv t S y v c->tB (rdX t S z) (v:Int)=false:=fun z v c hz h1=>Qt9 fun h2=>by
  obtain ⟨f,hf,e⟩:=QlY.1 h2
  have:=QjL h1 hf e
  rw [QeA,ni z hz] at this;cases this
 have hjo:=Qag hA hy
 have hw0:∀v,v<t.Vars.length->0<=Yu x.write v->idx s (Yu x.write v)=s[(Yu x.write v).toNat]?:=fun v _ h=>by unfold idx;rw [if_pos h]
 have hr0:∀v,v<t.Vars.length->0<=Yu x.read v->idx s (Yu x.read v)=s[(Yu x.read v).toNat]?:=fun v _ h=>by unfold idx;rw [if_pos h]
 obtain ⟨s',h1,h2,h3,h4,h5⟩:=Qjp (k:=k) (c:=0) hck ho hs hM.prop (by omega) (fun f hf=>by
  rcases hf with hf |hf |rfl |⟨h0,v,hv',hf⟩
  ·have hr:=(QjO hA hy).rng f hf
   have hv1:=hF.pre y hy f hf
   rw [ht] at hv1
   obtain ⟨c,hc1,hc2⟩:=hσ.2 f.Var.toNat (by omega)
   have:=hv1.uniq hA (fun b _=>hF.ni b) hc2
   subst this
   have hsv:=hM.var f.Var.toNat (by omega) fun z hz c hzc=>by
    have:=nr z _ c hz hzc
    have h6:tB (rdX t S y) ((f.Var.toNat:Nat):Int)=true:=QlY.2 ⟨f,hf,by omega⟩
    rw [this] at h6;cases h6
   unfold idx
   rw [if_pos hr.1,hsv,hc1]
  ·exact hm f hf
  ·show idx s (N:Int)=some 0
   rw [Qq];exact hM.ph
  ·rw [h0]
   rcases hf with ⟨hw1,hf |⟨hr1,hf⟩⟩ |⟨hw1,hr1,hw2,hf⟩
   ·have g:=hL.m.ww v hv' ((QtD hA hy).1 hw1)
    rw [hf,hw0 v hv' g]
    obtain ⟨c,hwc⟩:=Qpu.1 hw1
    exact hM.mw v hv' g fun z hz=>Qt9 fun h6=>by
     obtain ⟨d,h7⟩:=Qpu.1 h6
     exact ww z v d c hz h7 hwc
   ·rw [hf,hr0 v hv' hr1]
    obtain ⟨c,hwc⟩:=Qpu.1 hw1
    exact hM.mr v hv' hr1 fun z hz _=>nr2 z v c hz hwc
   ·rw [hf,hw0 v hv' hw2]
    exact hM.mw v hv' hw2 fun z hz=>Qt9 fun h6=>by
     obtain ⟨d,h7⟩:=Qpu.1 h6
     have:=nr z v d hz h7
     rw [hr1] at this;cases this) ⟨hk.1,hk.2,by omega,by omega⟩
 rw [Int.add_zero] at h1
 have tv:∀(v:Nat) (b:Int),v<t.Vars.length->(((∃f ∈ wrX t S y,f.Var=(v:Int)∧f.Val=b)∨E (v:Int) b∨(b=1∧MkE x t.Vars.length (rdX t S y) (wrX t S y) (v:Int)))↔Wv t S y v b):=fun v b hv'=>by
  constructor
  ·rintro (h |h |⟨_,h⟩)
   ·exact h
   ·rcases hE _ _ h with e |e
    ·unfold stV at e;omega
    ·unfold flV at e;omega
   ·have:=Qmt hL hA hy h;omega
  ·intro h;exact .inl h
 have tj:∀(i:Nat) (b:Int),t.Vars.length<=i->i<t.Vars.length+2 * t.Jobs.length->(((∃f ∈ wrX t S y,f.Var=(i:Int)∧f.Val=b)∨E (i:Int) b∨(b=1∧MkE x t.Vars.length (rdX t S y) (wrX t S y) (i:Int)))->E (i:Int) b):=fun i b h6 h7 h=>by
  rcases h with ⟨f,hf,e,_⟩ |h |⟨_,h⟩
  ·have:=(QlV hA hy).rng f hf;omega
  ·exact h
  ·have:=Qmt hL hA hy h;omega
 have tm:∀(i:Nat) (b:Int),t.Vars.length+2 * t.Jobs.length<=i->(((∃f ∈ wrX t S y,f.Var=(i:Int)∧f.Val=b)∨E (i:Int) b∨(b=1∧MkE x t.Vars.length (rdX t S y) (wrX t S y) (i:Int)))->MkE x t.Vars.length (rdX t S y) (wrX t S y) (i:Int)):=fun i b h6 h=>by
  rcases h with ⟨f,hf,e,_⟩ |h |⟨_,h⟩
  ·have:=(QlV hA hy).rng f hf;omega
  ·rcases hE _ _ h with e |e
   ·unfold stV at e;omega
   ·unfold flV at e;omega
  ·exact h
 have keepJ:∀j,j<t.Jobs.length->j≠YT S y.1->s'[t.Vars.length+2 * j]?=s[t.Vars.length+2 * j]?:=fun j hj' hne=>h4 _ fun b hb=>by
  rcases hE _ _ (tj _ b (by omega) (by omega) hb) with e |e
  ·unfold stV at e;omega
  ·unfold flV at e;omega
 have setJ:s'[t.Vars.length+2 * YT S y.1]?=some (if y.2 then 0 else (jn t (YT S y.1)).Duration):=by
  have hE0:∀b,E ((t.Vars.length+2 * YT S y.1:Nat):Int) b↔b=if y.2 then 0 else (jn t (YT S y.1)).Duration:=hE1
  exact h5 _ _ (by omega) (.inr (.inl ((hE0 _).2 Z))) fun b hb=>(hE0 b).1 (tj _ b (by omega) (by omega) hb)
 have other:∀i,i<S.length->i≠y.1->YT S i=YT S y.1->QV t (Q3 S i)<(Q3 S y.1).At∨QV t (Q3 S y.1)<(Q3 S i).At:=fun i hi hne he=>Qjs hF hi hy hne he hA
 have hdy:=KM hA hy
 have hay:(y.2=false∧(Q3 S y.1).At=a)∨(y.2=true∧QV t (Q3 S y.1)=a):=by
  unfold Kl at ht
  cases e:y.2 with
  |false=>rw [e] at ht;exact .inl ⟨rfl,ht⟩
  |true=>rw [e] at ht;exact .inr ⟨rfl,ht⟩
 refine ⟨s',h1,?_⟩
 refine ⟨fun z hz=>?_,by omega,h2,fun v hv' hz=>?_,fun v z c hv' hz hwz=>?_,fun i hi hz ha1 ha2=>?_,fun i hi ha1 ha2=>?_,fun i hz=>?_,fun i hz=>?_,fun j hj' hz=>?_,fun j hj' hz=>?_,fun v hv' hw1 hz=>?_,fun v hv' hr1 hz=>?_,?_⟩
 ·rcases hz with hz |rfl
  ·exact hM.at_ z hz
  ·exact ⟨hy,ht⟩
 ·rw [h4 v fun b hb=>hz y (.inr rfl) b ((tv v b hv').1 hb)]
  exact hM.var v hv' fun z hzz=>hz z (.inl hzz)
 ·rcases hz with hz |rfl
  ·rw [h4 v fun b hb=>ww z v c b hz hwz ((tv v b hv').1 hb)]
   exact hM.vaw v z c hv' hz hwz
  ·exact h5 v c (by omega) ((tv v c hv').2 hwz) fun b hb=>((tv v b hv').1 hb).uniq hA hy hwz
 ·have hdi:=KM hA hi
  have hji:=(Qag hA hi).1
  by_cases e:YT S i=YT S y.1
  ·by_cases ei:i=y.1
   ·exfalso
    subst ei
    rcases hay with ⟨h6,h7⟩ |⟨h6,h7⟩
    ·omega
    ·exact hz (.inr (by rw [<-h6]))
   ·have:=other i hi ei e;omega
  ·rw [keepJ _ hji e]
   exact hM.se i hi (fun h=>hz (.inl h)) ha1 ha2
 ·have hdi:=KM hA hi
  have hji:=(Qag hA hi).1
  by_cases e:YT S i=YT S y.1
  ·by_cases ei:i=y.1
   ·subst ei;omega
   ·have:=other i hi ei e;omega
  ·rw [keepJ _ hji e]
   exact hM.sr i hi ha1 ha2
 ·rcases hz with hz |hz
  ·have hi:i<S.length:=(hM.at_ _ hz).1
   have ha:=(hM.at_ _ hz).2
   have ha:(Q3 S i).At=a:=ha
   have hdi:=KM hA hi
   have hji:=(Qag hA hi).1
   by_cases e:YT S i=YT S y.1
   ·by_cases ei:i=y.1
    ·exfalso
     subst ei
     rcases hay with ⟨h6,h7⟩ |⟨h6,h7⟩
     ·exact hn (by rw [<-h6] at hz;exact hz)
     ·omega
    ·have:=other i hi ei e;omega
   ·rw [keepJ _ hji e];exact hM.ss i hz
  ·subst hz;exact setJ
 ·rcases hz with hz |hz
  ·have hi:i<S.length:=(hM.at_ _ hz).1
   have ha:=(hM.at_ _ hz).2
   have ha:QV t (Q3 S i)=a:=ha
   have hdi:=KM hA hi
   have hji:=(Qag hA hi).1
   by_cases e:YT S i=YT S y.1
   ·by_cases ei:i=y.1
    ·exfalso
     subst ei
     rcases hay with ⟨h6,h7⟩ |⟨h6,h7⟩
     ·omega
     ·exact hn (by rw [<-h6] at hz;exact hz)
    ·have:=other i hi ei e;omega
   ·rw [keepJ _ hji e];exact hM.sd i hz
  ·subst hz;exact setJ
 ·by_cases e:j=YT S y.1
  ·exfalso
   subst e
   have:=hz y.1 hy rfl
   rcases hay with ⟨h6,h7⟩ |⟨h6,h7⟩
   ·exact this.2 (.inr (by rw [<-h6]))
   ·exact this.1 ⟨by omega,by omega⟩
  ·rw [keepJ _ hj' e]
   exact hM.si j hj' fun i hi he=>⟨(hz i hi he).1,fun h=>(hz i hi he).2 (.inl h)⟩
 ·have h6:∀b,¬E (((t.Vars.length+2 * j+1:Nat)):Int) b:=fun b hb=>by
   by_cases e:j=YT S y.1
   ·subst e
    rcases hay with ⟨h7,_⟩ |⟨h7,_⟩
    ·exact hE2 h7 b hb
    ·exact hz y.1 hy Z (.inr (by rw [<-h7]))
   ·rcases hE _ _ hb with e' |e'
    ·unfold stV at e';omega
    ·unfold flV at e';omega
  rw [h4 _ fun b hb=>h6 b (tj _ b (by omega) (by omega) hb)]
  exact hM.fl j hj' fun i hi he h=>hz i hi he (.inl h)
 ·have hrg:=hL.m.wn v hv'
  have hge:t.Vars.length+2 * t.Jobs.length<=(Yu x.write v).toNat:=by omega
  rw [h4 _ fun b hb=>?_]
  ·exact hM.mw v hv' hw1 fun z hzz=>hz z (.inl hzz)
  ·have:=tm _ b hge hb
   rw [Int.toNat_of_nonneg hw1] at this
   obtain ⟨v',hv2,⟨h6,h7⟩ |⟨h6,h7,h8,h9⟩⟩:=this
   ·have:=hL.m.iw v v' hv' hv2 hw1 h7
    subst this
    rw [hz y (.inr rfl)] at h6;cases h6
   ·exact hL.m.wr v v' hv' hv2 hw1 h9
 ·have hrg:=hL.m.rn v hv'
  have hge:t.Vars.length+2 * t.Jobs.length<=(Yu x.read v).toNat:=by omega
  rw [h4 _ fun b hb=>?_]
  ·exact hM.mr v hv' hr1 fun z hzz=>hz z (.inl hzz)
  ·have:=tm _ b hge hb
   rw [Int.toNat_of_nonneg hr1] at this
   obtain ⟨v',hv2,⟨h6,h7⟩ |⟨h6,h7,h8,h9⟩⟩:=this
   ·have hww:=hL.m.ww v' hv2 ((QtD hA hy).1 h6)
    exact hL.m.wr v' v hv2 hv' hww h7.symm
   ·have:=hL.m.ir v v' hv' hv2 hr1 h9
    subst this
    rw [hz y (.inr rfl) h6] at h7;cases h7
 ·rw [h4 N fun b hb=>by have:=Qmt hL hA hy (tm _ b hVN hb);omega]
  exact hM.ph
end
end Go.Pw
/- -/
namespace Go.Pw
/-! ### small functions -/
theorem QlR {n:Nat} {B:Nat->Unit->Option Unit} (h:∀i,i<n->B i ()=some ()):forS B n 0 ()=some ():=by
 obtain ⟨s,h1,_⟩:=Ok.forS (B:=B) (n:=n) (s:=()) (Q:=fun _=>True) (fun _ _=>True) trivial (fun j s hj _=>⟨(),h j hj,trivial⟩) fun _ _=>trivial
 exact h1
theorem QfM {a b:List Gj} (h:Kp a b=false):KD a b=some (-1):=by
 unfold KD
 rw [QlR fun i hi=>?_]
 ·rfl
 rw [Qq,Xb hi,Xa,QlR fun j hj=>?_]
 ·rfl
 rw [Qq,Xb hj,Xa,if_neg]
 intro e
 rw [Xl] at e
 have:=Qgv.2 ⟨a[i],List.getElem_mem hi,b[j],List.getElem_mem hj,of_decide_eq_true e.1⟩
 rw [h] at this;cases this
theorem QoJ (j:Job) (e:Bool):QE j e=(rdH j e,wrH j e):=by
 unfold QE rdH wrH;cases e <;> rfl
theorem QmB {a b:Job} {e f:Bool} (h:QiR a b e f=false):YL a e b f=some (-1):=by
 unfold QiR at h
 simp only [Bool.or_eq_false_iff] at h
 unfold YL
 simp only [QoJ]
 rw [QfM h.1.1,Xa,QfM h.1.2,Xa,QfM (by rw [QdA];exact h.2),Xa]
 rfl
theorem Qfg {l:List Gj} {s:List Int} (h:Qan l s=true):Kx l s=some []:=by
 unfold Kx
 rw [QlR fun i hi=>?_]
 ·rfl
 rw [Qq,Xb hi,Xa,Qd7,Xa]
 have h1:Qan [l[i]] s=true:=by
  unfold Qan at *
  rw [List.all_eq_true] at *
  intro f hf
  have:f=l[i]:=by simpa using hf
  subst this
  exact h _ (List.getElem_mem hi)
 rw [h1];rfl
/-! ### events -/
def evX (t:Ge) (L:List Launch) (x:Nat×Bool):Gf:=⟨Kl t L x,(x.1:Int),x.2⟩
theorem QpV {t:Ge} {L:List Launch} {x y:Nat×Bool} (h:evX t L x=evX t L y):x=y:=by
 obtain ⟨a,b⟩:=x
 obtain ⟨c,d⟩:=y
 have h1:(a:Int)=c:=congrArg Gf.Launch h
 have h2:b=d:=congrArg Gf.End h
 have:a=c:=by omega
 rw [this,h2]
def Qwn (L:List Launch) (e:Gf):Prop:=0<=e.Launch∧e.Launch<L.length
def EvA (L:List Launch) (l:List Gf):Prop:=∀e ∈ l,Qwn L e
theorem EvA.perm {L:List Launch} {l l':List Gf} (h:EvA L l) (hp:l'.Perm l):EvA L l':=fun e he=>h e (hp.mem_iff.1 he)
theorem QuK {c:Gt} {x y:Gf} (hx:Qwn c.l x) (hy:Qwn c.l y):Ok (K4 x y c) fun r=>True:=by
 unfold K4 Y9
 obtain ⟨p,hp,_⟩:=GI hx.1 hx.2
 obtain ⟨q,hq,_⟩:=GI hy.1 hy.2
 rw [hp,Xa,hq,Xa]
 show Ok ((ctl (Jf _ 2 0 ()) _ _).bind _) _
 simp only [Jf,idx,ctl]
 by_cases h1:Qx (Q9 x.End) (Q9 y.End)=0
 ·by_cases h2:Qx p.Job q.Job=0
  ·exact ⟨_,by simp [h1,h2];rfl,trivial⟩
  ·exact ⟨_,by simp [h1,h2];rfl,trivial⟩
 ·exact ⟨_,by simp [h1];rfl,trivial⟩
def WhP {S R:Type} (Inv Bp:S->Prop) (Rp:R->Prop) (μ:S->Nat) (s:S):Ctl S R->Prop
 | .next s'=>Inv s'∧μ s'<μ s
 | .brk s'=>Bp s'
 | .ret r=>Rp r
theorem Qml {S R β:Type} {B:S->Option (Ctl S R)} {s:S} {Q:β->Prop} {kr:R->Option β} {k:S->Option β} (Inv Bp:S->Prop) (Rp:R->Prop) (μ:S->Nat) (h0:Inv s)
  (h:∀s,Inv s->Ok (B s) (WhP Inv Bp Rp μ s)) (hr:∀r,Rp r->Ok (kr r) Q) (hb:∀s,Bp s->Ok (k s) Q):Ok (Go.Pw.ctl (Yw B s) kr k) Q :=
 Qk1 Inv Bp Rp μ h0 (fun s hs=>let ⟨c,h1,h2⟩:=h s hs;⟨c,h1,(fun s' e=>by subst e;exact h2),(fun s' e=>by subst e;exact h2),(fun r e=>by subst e;exact h2)⟩) hr hb
theorem Ok.swap {α β:Type} {l:List α} {p q:Int} {f:List α->Option β} {P:β->Prop} (hp0:0<=p) (hp:p<l.length) (hq0:0<=q) (hq:q<l.length) (k:∀l',l'.Perm l->Ok (f l') P) :
  Ok ((idx l p).bind fun x=>(idx l q).bind fun y=>(QbN l q x).bind fun l1=>(idx l1 p).bind fun _=>(QbN l1 p y).bind f) P:=by
 obtain ⟨i,rfl⟩:∃n:Nat,p=(n:Int):=⟨p.toNat,by omega⟩
 obtain ⟨j,rfl⟩:∃n:Nat,q=(n:Int):=⟨q.toNat,by omega⟩
 have hi:i<l.length:=by omega
 have hj:j<l.length:=by omega
 rw [Qq,Qq,Xb hi,Xb hj,Xa,Xa,QaE hj,Xa,Qq,Xb (by simpa using hi),Xa,QaE (by simpa using hi),Xa]
 exact k _ (List.set_set_perm hj hi)
section
variable {c:Gt}
theorem QkO {l0:List Gf} (hlen:l0.length<=1000) (hok:EvA c.l l0) {b:Int} (hb:b<=l0.length) :
  Ok (QA l0 0 b c) fun l=>l.Perm l0:=by
 unfold QA
 refine Qml (fun q=>1<=q.1∧q.1<=1001∧q.2.Perm l0) (fun q=>q.2.Perm l0) (fun _=>False) (fun q=>(1001 - q.1).toNat) ⟨by rw [Q7 (by omega) (by omega)];exact Int.le_refl _,by simp only [Q7 (n:=(0:Int)+1) (by omega) (by omega)];omega, .refl _⟩ ?_ (fun r hr=>hr.elim) fun q hq=>⟨q.2,Z,hq⟩
 rintro ⟨i,l⟩ ⟨h1,h2,hp⟩
 simp only at h1 h2 hp
 simp only [J5]
 have hl:=hp.length_eq
 refine Jl (fun hlt=>?_) fun hlt=>⟨_,Z,hp⟩
 have hlt:=QjH hlt
 refine Qml (fun q=>0<=q.1∧q.1<=i∧q.2.Perm l0) (fun q=>q.2.Perm l0) (fun _=>False) (fun q=>q.1.toNat) ⟨by simp only;omega,Int.le_refl _,hp⟩ ?_ (fun r hr=>hr.elim) fun q hq=>⟨_,Z,⟨?_,?_,hq⟩,?_⟩
 ·rintro ⟨k,m⟩ ⟨g1,g2,g3⟩
  simp only at g1 g2 g3
  simp only [J5]
  have hml:=g3.length_eq
  refine Ok.bind (Jl (fun hk=>?_) fun hk=>⟨_,Z,_,Z,g3⟩)
  have hk:=QjH hk
  have ew:IntKind.i64.wrap (k - 1)=k - 1:=Q7 (by omega) (by omega)
  rw [ew]
  obtain ⟨x,e1,x1⟩:=GI (s:=m) (i:=k) (by omega) (by omega)
  obtain ⟨y,e2,y1⟩:=GI (s:=m) (i:=k - 1) (by omega) (by omega)
  have hm:=hok.perm g3
  obtain ⟨r,e3,_⟩:=QuK (hm x (List.mem_of_getElem? x1)) (hm y (List.mem_of_getElem? y1))
  refine Ok.step e1 (Ok.step e2 (Ok.step e3 ⟨_,Z,?_⟩))
  refine Jl (fun _=>?_) fun _=>⟨_,Z,g3⟩
  exact Ok.swap (by omega) (by omega) (by omega) (by omega) fun m' hm=>⟨_,Z,⟨by simp only;omega,by simp only;omega,hm.trans g3⟩,by simp only;omega⟩
 ·simp only;rw [Q7 (by omega) (by omega)];omega
 ·simp only;rw [Q7 (by omega) (by omega)];omega
 ·simp only;rw [Q7 (by omega) (by omega)];omega
theorem Qoh {l0:List Gf} (hlen:l0.length<20) (hok:EvA c.l l0):Ok (QG l0 c) fun l=>l.Perm l0:=by
 unfold QG QU
 have stop:∀(b:Bool),b=false->∀{β:Type} {kr:List Gf->Option β} {k:Unit->Option β},ctl (Yw (R:=List Gf) (fun (_:Unit)=>if b=true then none else some (Ctl.brk ())) ()) kr k=k ():=fun b hb β kr k=>by
  unfold ctl
  rw [QfK (c:=Ctl.brk ()) (by rw [hb];rfl) (fun _ e=>by cases e)];rfl
 rw [stop _ (by simp;omega)]
 refine Ok.bind (Ok.bind ((QkO (by omega) hok (Int.le_refl _)).mono fun l hl=>?_))
 rw [stop _ (by simp;omega)]
 exact ⟨l,Z,l,Z,hl⟩
end
section
variable {t:Ge} {L:List Launch} {a:Int} {s:List Int} {o:G1}
theorem Qgo (hA:Acc t L) {x:Nat×Bool} (hx:x.1<L.length):JY ⟨t,L,o⟩ (evX t L x)=some (jH t L x):=by
 unfold JY evX
 simp only
 rw [Qq,Kr hx,Xa,Qb4 (hA.ok _ (QQ hx))]
 rfl
theorem Qgp (hA:Acc t L) {i:Nat} (hi:i<L.length):Yc ⟨t,L,o⟩ (i:Int)=some (QV t (Q3 L i))∧Kn ⟨t,L,o⟩ (i:Int)=some (QV t (Q3 L i)):=by
 have h:=hA.ok _ (QQ hi)
 have hd:=Qcl hA.chk h
 have:=h.a0;have:=h.a1
 unfold Yc Kn
 simp only
 rw [Qq,Kr hi,Xa,Qb4 h,Xa]
 unfold QV at hd ⊢
 rw [Q7 (by omega) (by omega)]
 exact ⟨Z,Z⟩
structure Grp (t:Ge) (L:List Launch) (a:Int) (g:List Gf):Prop where
 is:∀e ∈ g,∃x:Nat×Bool,x.1<L.length∧Kl t L x=a∧e=evX t L x
 all:∀x:Nat×Bool,x.1<L.length->Kl t L x=a->evX t L x ∈ g
 nd:g.Nodup
theorem Grp.eva {g:List Gf} (h:Grp t L a g):EvA L g:=fun e he=>by
 obtain ⟨x,h1,_,rfl⟩:=h.is e he
 exact ⟨by show (0:Int)<=(x.1:Int);omega,by show (x.1:Int)<_;omega⟩
theorem Qs1 (hA:Acc t L) {g:List Gf} (hg:Grp t L a g) (hl:g.length<20) (hs:s.length=t.Vars.length):Ok (Yn ⟨t,L,o⟩ s g) fun s'=>Do t L a s s':=by
 have hv:=hA.chk.vars
 unfold Yn
 have ec:JI g=some g:=by unfold JI;rw [QD (by simp;omega)];rfl
 rw [ec,Xa]
 refine Ok.bind ((Qoh (c:=⟨t,L,o⟩) hl hg.eva).mono fun g' hp=>?_)
 rw [Qe4 (by omega),Xa]
 refine Ok.bind (QdY (fun l s'=>s'.length=s.length∧∀v:Nat,v<s.length->(∃x:Nat×Bool,evX t L x ∈ l∧x.1<L.length∧Kl t L x=a∧∃f ∈ wrX t L x,f.Var=(v:Int)∧s'[v]?=some f.Val)∨((∀x:Nat×Bool,evX t L x ∈ l->x.1<L.length->∀f ∈ wrX t L x,f.Var≠(v:Int))∧s'[v]?=s[v]?)) ⟨Z,fun v hv=> .inr ⟨by simp,Z⟩⟩ ?_ ?_)
 ·intro j l e s' he _ ⟨h1,h2⟩
  obtain ⟨x,x1,x2,rfl⟩:=hg.is e (hp.mem_iff.1 (List.mem_of_getElem? he))
  refine Ok.step (by rw [Qq];exact he) (Ok.step (Qgo hA x1) ?_)
  rw [QoJ]
  have hw:wrH (jH t L x) (evX t L x).End=wrX t L x:=rfl
  simp only [hw]
  refine Ok.bind ((QkC (s:=s') (fs:=wrX t L x) fun f hf=>by have:=(QlV hA x1).rng f hf;omega).mono ?_)
  rintro s2 ⟨k1,k2⟩
  refine ⟨s2,Z,by omega,fun v hv=>?_⟩
  rcases k2 v (by omega) with ⟨f,f1,f2,f3⟩ |⟨k3,k4⟩
  ·exact .inl ⟨x,by simp,x1,x2,f,f1,f2,f3⟩
  ·rcases h2 v hv with ⟨y,y1,y2,y3,f,f1,f2,f3⟩ |⟨h3,h4⟩
   ·exact .inl ⟨y,List.mem_append_left _ y1,y2,y3,f,f1,f2,by rw [k4];exact f3⟩
   ·refine .inr ⟨fun y hy yL=>?_,by rw [k4];exact h4⟩
    rcases Xn.1 hy with hy |hy
    ·exact h3 y hy yL
    ·have:y=x:=QpV (X8.1 hy)
     rw [this];exact k3
 ·rintro s' ⟨h1,h2⟩
  refine ⟨s',Z,h1,fun v hv=>?_⟩
  rcases h2 v hv with ⟨x,_,x1,x2,f⟩ |⟨h3,h4⟩
  ·exact .inl ⟨x,x1,x2,f⟩
  ·exact .inr ⟨fun x x1 x2=>h3 x (hp.mem_iff.2 (hg.all x x1 x2)) x1,h4⟩
theorem Qlf (hA:Acc t L) (hN:QmY t L a):K5 ⟨t,L,o⟩ a=some ():=by
 unfold K5
 simp only
 rw [QlR fun i hi=>?_]
 ·rfl
 rw [Qq,Kr hi,Xa,QlR fun k hk=>?_]
 ·rfl
 rw [Qq,Kr hk,Xa,(Qgp hA hk).2]
 have hd:=Qcl hA.chk (hA.ok _ (QQ hk))
 have hn:=hN i k hi hk
 by_cases c1:(Q3 L i).At=a
 ·by_cases c2:(k:Int)=(i:Int)
  ·simp [c1,c2]
  ·by_cases c3:(Q3 L i).Job=(Q3 L k).Job
   ·have hn:=hn (by omega) c1 c3
    have c4:¬(Q3 L k).At=a:=by omega
    by_cases c5:(Q3 L k).At<a
    ·have c6:¬a<=QV t (Q3 L k):=by omega
     simp [c1,c2,c3,c4,c5,c6]
    ·simp [c1,c2,c3,c4,c5]
   ·simp [c1,c2,c3]
 ·simp [c1]
theorem Qoj (hA:Acc t L) (hF:GJ t L) {g:List Gf} (hg:Grp t L a g) (hl:g.length<20) (hs:SOK t L (a - 1) s) (ho:o.States.length<=1000) :
  Ok (Y5 ⟨t,L,o⟩ a g s) fun r=>SOK t L a r.1∧r.2=o.States++[r.1]:=by
 unfold Y5
 rw [Qlf hA (hF.ov a),Xa]
 rw [QlR fun i hi=>?_,Xa]
 ·rw [QlR fun i hi=>?_,Xa]
  ·refine Ok.bind ((Qs1 hA hg hl hs.1).mono fun s' hs'=>?_)
   have hS:=hs.step hs'
   rw [QlR fun i hi=>?_,Xa]
   ·exact Ok.step (QD (by simp;omega)) ⟨_,Z,hS,Z⟩
   ·simp only at hi ⊢
    rw [Qq,Kr hi,Xa,(Qgp hA hi).2]
    have hok:=hA.ok _ (QQ hi)
    by_cases c1:a<(Q3 L i).At
    ·simp [c1]
    ·by_cases c2:QV t (Q3 L i)<=a
     ·simp [c1,c2]
     ·simp only [c1,c2,decide_false,Xf,if_false,Xa]
      rw [Qb4 hok,Xa,Qfg]
      ·rfl
      ·exact (Qca hA (fun b _=>hF.ni b) hS (hA.chk.job _ (QbP hok)).over).2 (hF.over i hi a (by omega) (by omega))
  ·obtain ⟨x,x1,x2,ex⟩:=hg.is g[i] (List.getElem_mem hi)
   rw [Qq,Xb hi,Xa,ex,Qgo hA x1,Xa,QoJ]
   have hr:rdH (jH t L x) (evX t L x).End=rdX t L x:=rfl
   simp only [hr]
   rw [Qfg]
   ·rfl
   ·exact (Qca hA (fun b _=>hF.ni b) hs (QjO hA x1)).2 fun f hf=>by have:=hF.pre x x1 f hf;rw [x2] at this;exact this
 ·obtain ⟨x,x1,x2,ex⟩:=hg.is g[i] (List.getElem_mem hi)
  rw [Qq,Xb hi,Xa]
  have ecut:cut g (IntKind.i64.wrap ((i:Int)+1)) (g.length:Int)=some (g.drop (i+1)):=by
   rw [Q7 (by omega) (by omega)]
   unfold cut
   rw [if_pos ⟨by omega,by omega,by omega⟩,XD,List.take_length]
   congr 2
  rw [ecut,Xa,QlR fun j hj=>?_]
  ·rfl
  have hj':i+1+j<g.length:=by rw [List.length_drop] at hj;omega
  have ed:(g.drop (i+1))[j]?=some g[i+1+j]:=by rw [Xu,Xb hj']
  obtain ⟨y,y1,y2,ey⟩:=hg.is g[i+1+j] (List.getElem_mem hj')
  rw [Qq,ed,Xa,ex,ey,Qgo hA x1,Xa,Qgo hA y1,Xa,QmB,Xa]
  ·rfl
  ·refine hF.ni a x y x1 y1 x2 y2 fun e=>?_
   have:=(List.pairwise_iff_getElem.1 hg.nd) i (i+1+j) hi hj' (by omega)
   exact this (by rw [ex,ey,e])
end
end Go.Pw
