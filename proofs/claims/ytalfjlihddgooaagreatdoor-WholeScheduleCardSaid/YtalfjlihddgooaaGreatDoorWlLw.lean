/- -/
import Derived.Test.YtalfjlihddgooaaGreatDoorBa
import Derived.Test.YtalfjlihddgooaaGreatDoorTD
import Derived.Test.YtalfjlihddgooaaGreatDoorTG
set_option linter.unusedVariables false
set_option linter.unusedSimpArgs false
namespace Go.Pw
/-! ### the launches put in order -/
theorem QsA {L:List Launch} (hl:L.length<=4096):forS (fun i100=>fun (l100:(List Launch))=>ctl (Yw (R:=(Bool)) (J5 fun (k100:Int) (l101:(List Launch))=>(if decide (0<k100) then ((idx l101 k100).bind fun x100 =>
  (idx l101 (IntKind.i64.wrap (k100 - 1))).bind fun x101 =>
  if decide (x100.At<x101.At) then (some true)
  else (if decide (x100.At=x101.At) then (some (decide (x100.Job<x101.Job)))
  else (some false)))
  else (some false)).bind (fun (z101:Bool)=>if z101 then ((idx l101 (IntKind.i64.wrap (k100 - 1))).bind fun x102 =>
  (idx l101 k100).bind fun x103 =>
  (QbN l101 k100 x102).bind fun l102 =>
  (idx l102 (IntKind.i64.wrap (k100 - 1))).bind fun x104 =>
  (QbN l102 (IntKind.i64.wrap (k100 - 1)) x103).bind fun l103 =>
  some (Ctl.next (IntKind.i64.wrap (k100 - 1),l103)))
  else (some (Ctl.brk (k100,l101))))) ((i100:Int),l100)) (fun r=>none) (J5 fun (k101:Int) (l104:(List Launch))=>some l104)) (L.length) 0 L=some (Yi L):=by
 refine Ok.eq (Ok.forS (fun i l=>l.Perm L∧∀a b,a<b->b<i->LeL (Q3 l a) (Q3 l b)) ⟨.refl _,fun a b h1 h2=>by omega⟩ ?_ fun l hl'=>?_)
 ·rintro i l hi ⟨hp,hs⟩
  have hlen:=hp.length_eq
  refine Qk1 (fun q=>∃k:Nat,q.1=(k:Int)∧k<=i∧q.2.Perm L∧∀a b,a<b->b<=i->b≠k->LeL (Q3 q.2 a) (Q3 q.2 b)) (fun q=>q.2.Perm L∧∀a b,a<b->b<i+1->LeL (Q3 q.2 a) (Q3 q.2 b)) (fun _=>False) (fun q=>q.1.toNat) ⟨i,Z,Xi _,hp,fun a b h1 h2 h3=>hs a b h1 (by omega)⟩ ?_ (fun r hr=>hr.elim) fun q hq=>⟨q.2,Z,hq⟩
  rintro ⟨k',l⟩ ⟨k,hk,hki,hp,hs⟩
  simp only at hk hp hs
  subst hk
  have hlen:=hp.length_eq
  have done:(k=0∨∃m,k=m+1∧LeL (Q3 l m) (Q3 l k))->∀a b,a<b->b<i+1->LeL (Q3 l a) (Q3 l b):=fun h a b h1 h2=>by
   by_cases c:b=k
   ·subst c
    rcases h with h |⟨m,rfl,h⟩
    ·omega
    ·by_cases e:a=m
     ·subst e;exact h
     ·have h3:=hs a m (by omega) (by omega) (by omega)
      unfold LeL at *;omega
   ·exact hs a b h1 (by omega) c
  cases k with
  |zero =>
   refine ⟨_,Z,(fun s' e=>by cases e),fun s' e=>?_,(fun r e=>by cases e)⟩
   cases e
   exact ⟨hp,done (.inl Z)⟩
  | succ m =>
   have hm1:m+1<l.length:=by omega
   have gx:idx l ((m+1:Nat):Int)=some (Q3 l (m+1)):=by rw [Qq];exact Kr hm1
   have gy:idx l (m:Int)=some (Q3 l m):=by rw [Qq];exact Kr (by omega)
   have ew:IntKind.i64.wrap (((m+1:Nat):Int) - 1)=(m:Int):=by rw [Q7 (by omega) (by omega)];omega
   simp only [J5,ew,gx,gy,Xa]
   rw [if_pos (by simp)]
   have stop:LeL (Q3 l m) (Q3 l (m+1))->∃c,(some (Ctl.brk (((m+1:Nat):Int),l)):Option (Ctl (Int×List Launch) Bool))=some c∧(∀s',c= .next s'->(∃k:Nat,s'.1=(k:Int)∧k<=i∧s'.2.Perm L∧∀a b,a<b->b<=i->b≠k->LeL (Q3 s'.2 a) (Q3 s'.2 b))∧s'.1.toNat<((m+1:Nat):Int).toNat)∧(∀s',c= .brk s'->s'.2.Perm L∧∀a b,a<b->b<i+1->LeL (Q3 s'.2 a) (Q3 s'.2 b))∧(∀r,c= .ret r->False):=fun h =>
    ⟨_,rfl,(fun s' e=>by cases e),(fun s' e=>by cases e;exact ⟨hp,done (.inr ⟨m,rfl,h⟩)⟩),(fun r e=>by cases e)⟩
   have go:¬LeL (Q3 l m) (Q3 l (m+1))->∃c,((QbN l ((m+1:Nat):Int) (Q3 l m)).bind fun l104=>(idx l104 (m:Int)).bind fun x104=>(QbN l104 (m:Int) (Q3 l (m+1))).bind fun l105=>(some (Ctl.next ((m:Int),l105)):Option (Ctl (Int×List Launch) Bool)))=some c∧(∀s',c= .next s'->(∃k:Nat,s'.1=(k:Int)∧k<=i∧s'.2.Perm L∧∀a b,a<b->b<=i->b≠k->LeL (Q3 s'.2 a) (Q3 s'.2 b))∧s'.1.toNat<((m+1:Nat):Int).toNat)∧(∀s',c= .brk s'->s'.2.Perm L∧∀a b,a<b->b<i+1->LeL (Q3 s'.2 a) (Q3 s'.2 b))∧(∀r,c= .ret r->False):=fun h=>by
    rw [QaE hm1,Xa,Qq,Kr (by simp;omega),Xa,QaE (by simp;omega),Xa]
    refine ⟨_,Z,fun s' e=>?_,(fun s' e=>by cases e),(fun r e=>by cases e)⟩
    cases e
    refine ⟨⟨m,Z,by omega,?_,fun a b h1 h2 h3=>?_⟩,by simp⟩
    ·have e1:Q3 l m=l[m]:=by simp [Q3,show m<l.length by omega]
     have e2:Q3 l (m+1)=l[m+1]:=by simp [Q3,hm1]
     rw [e1,e2]
     exact (List.set_set_perm hm1 (by omega)).trans hp
    ·have hla:∀a,Q3 ((l.set (m+1) (Q3 l m)).set m (Q3 l (m+1))) a=if a=m then Q3 l (m+1) else if a=m+1 then Q3 l m else Q3 l a:=fun a=>by
      rw [Qmu (by simp;omega),Qmu hm1]
     show LeL (Q3 ((l.set (m+1) (Q3 l m)).set m (Q3 l (m+1))) a) (Q3 ((l.set (m+1) (Q3 l m)).set m (Q3 l (m+1))) b)
     rw [hla a,hla b]
     by_cases c1:b=m+1
     ·subst c1
      rw [if_neg (by omega:¬m+1=m),if_pos rfl]
      by_cases c2:a=m
      ·subst c2;rw [if_pos rfl];unfold LeL at *;omega
      ·rw [if_neg c2,if_neg (by omega)]
       exact hs a m (by omega) (by omega) (by omega)
     ·rw [if_neg h3,if_neg c1]
      by_cases c2:a=m
      ·subst c2;rw [if_pos rfl]
       exact hs (a+1) b (by omega) h2 c1
      ·rw [if_neg c2]
       by_cases c3:a=m+1
       ·subst c3;rw [if_pos rfl]
        exact hs m b (by omega) h2 c1
       ·rw [if_neg c3];exact hs a b h1 h2 c1
   by_cases c1:(Q3 l (m+1)).At<(Q3 l m).At
   ·simp only [c1,decide_true,if_true,Xa]
    exact go (by unfold LeL;omega)
   ·by_cases c2:(Q3 l (m+1)).At=(Q3 l m).At
    ·by_cases c3:(Q3 l (m+1)).Job<(Q3 l m).Job
     ·simp only [c1,c2,c3,decide_true,decide_false,Xf,if_true,if_false,Xa]
      simp only [Int.lt_irrefl,decide_false,Xf,if_false,Xa,if_true]
      exact go (by unfold LeL;omega)
     ·simp only [c1,c2,c3,decide_true,decide_false,Xf,if_true,if_false,Xa]
      simp only [Int.lt_irrefl,decide_false,Xf,if_false,Xa]
      exact stop (by unfold LeL;omega)
    ·simp only [c1,c2,decide_true,decide_false,Xf,if_true,if_false,Xa]
     exact stop (by unfold LeL;omega)
 ·obtain ⟨hp,hs⟩:=hl'
  refine (Ql0 hp (List.pairwise_iff_getElem.2 fun a b ha hb hab=>?_)).symm
  have:=hs a b hab (by rw [<-hp.length_eq];exact hb)
  have e1:Q3 l a=l[a]:=by simp [Q3,ha]
  have e2:Q3 l b=l[b]:=by simp [Q3,hb]
  rw [e1,e2] at this
  exact this
/-! ### who is alone -/
def Qie (j:Job):List (List Gj):=[j.Start,j.Over,j.End,j.AtStart,j.AtEnd]
def GY (a b:Job):Prop:=∀l ∈ Qie a,∀m ∈ Qie b,Kp l m=false
theorem QsP (a b:Job):Ok (Yl a b) fun r=>r=false->GY a b:=by
 have h3:∀(f:Gj) (m:List Gj),ctl (Jf (R:=Bool) (fun i103=>fun (_:Unit)=>(idx m (i103:Int)).bind fun x103=>if decide (f.Var=x103.Var) then (some (Ctl.ret true)) else (some (Ctl.next ()))) (m.length) 0 ()) (fun r=>some (Ctl.ret r)) (fun (_:Unit)=>some (Ctl.next ()))=some (if m.all (fun g=>!decide (f.Var=g.Var)) then (Ctl.next ():Ctl Unit Bool) else Ctl.ret true):=fun f m=>by
  rw [Qe3 (p:=fun g:Gj=>!decide (f.Var=g.Var)) (r:=true)]
  ·split <;> rfl
  ·intro j x hx
   rw [Qq,hx,Xa]
   cases decide (f.Var=x.Var) <;> rfl
 have h2:∀(l m:List Gj),ctl (Jf (R:=Bool) (fun i102=>fun (_:Unit)=>(idx l (i102:Int)).bind fun x102=>ctl (Jf (R:=Bool) (fun i103=>fun (_:Unit)=>(idx m (i103:Int)).bind fun x103=>if decide (x102.Var=x103.Var) then (some (Ctl.ret true)) else (some (Ctl.next ()))) (m.length) 0 ()) (fun r=>some (Ctl.ret r)) (fun (_:Unit)=>some (Ctl.next ()))) (l.length) 0 ()) (fun r=>some (Ctl.ret r)) (fun (_:Unit)=>some (Ctl.next ()))=some (if !Kp l m then (Ctl.next ():Ctl Unit Bool) else Ctl.ret true):=fun l m=>by
  rw [Qe3 (p:=fun f:Gj=>m.all (fun g=>!decide (f.Var=g.Var))) (r:=true)]
  ·have e:(l.all fun f=>m.all fun g=>!decide (f.Var=g.Var))=!Kp l m:=by
    unfold Kp
    rw [List.not_any_eq_all_not]
    congr 1;funext f
    rw [List.not_any_eq_all_not]
   rw [e]
   split <;> rfl
  ·intro j x hx
   rw [Qq,hx,Xa,h3]
 unfold Yl
 have e5:∀j:Job,(5:Int).toNat=(Qie j).length:=fun _=>rfl
 have h1:∀l:List Gj,ctl (Jf (R:=Bool) (fun i101=>fun (_:Unit)=>(idx [b.Start,b.Over,b.End,b.AtStart,b.AtEnd] (i101:Int)).bind fun x101=>ctl (Jf (R:=Bool) (fun i102=>fun (_:Unit)=>(idx l (i102:Int)).bind fun x102=>ctl (Jf (R:=Bool) (fun i103=>fun (_:Unit)=>(idx x101 (i103:Int)).bind fun x103=>if decide (x102.Var=x103.Var) then (some (Ctl.ret true)) else (some (Ctl.next ()))) (x101.length) 0 ()) (fun r=>some (Ctl.ret r)) (fun (_:Unit)=>some (Ctl.next ()))) (l.length) 0 ()) (fun r=>some (Ctl.ret r)) (fun (_:Unit)=>some (Ctl.next ()))) ((5:Int).toNat) 0 ()) (fun r=>some (Ctl.ret r)) (fun (_:Unit)=>some (Ctl.next ()))=some (if (Qie b).all (fun m=>!Kp l m) then (Ctl.next ():Ctl Unit Bool) else Ctl.ret true):=fun l=>by
  rw [e5 b,Qe3 (p:=fun m:List Gj=>!Kp l m) (r:=true)]
  ·split <;> rfl
  ·intro j x hx
   have hx':[b.Start,b.Over,b.End,b.AtStart,b.AtEnd][j]?=some x:=hx
   rw [Qq,hx',Xa,h2]
 rw [e5 a,Qe3 (p:=fun l:List Gj=>(Qie b).all fun m=>!Kp l m) (r:=true)]
 ·cases hb:(Qie a).all fun l=>(Qie b).all fun m=>!Kp l m with
  |false=>exact ⟨true,rfl,fun h=>by cases h⟩
  |true =>
   refine ⟨false,Z,fun _ l hl m hm=>?_⟩
   have:=List.all_eq_true.1 (List.all_eq_true.1 hb l hl) m hm
   simpa using this
 ·intro j x hx
  have hx':[a.Start,a.Over,a.End,a.AtStart,a.AtEnd][j]?=some x:=hx
  rw [Qq,hx',Xa]
  exact h1 x
section
variable {t:Ge} {L:List Launch}
def QvP (t:Ge) (L:List Launch) (i:Nat):Prop:=∀k,k<L.length->k≠i->(Q3 L k).Job≠(Q3 L i).Job∧GY (jb t (Q3 L k)) (jb t (Q3 L i))
theorem Qtr (hA:Acc t L) {i:Nat} (hi:i<L.length):Ok (K2 t L (i:Int)) fun b=>b=true->QvP t L i:=by
 unfold K2
 refine Ok.ctl (fun j _=>∀k,k<j->k≠i->(Q3 L k).Job≠(Q3 L i).Job∧GY (jb t (Q3 L k)) (jb t (Q3 L i))) (fun r=>r=false) (fun k hk=>absurd hk (by omega)) ?_ (fun r hr=>⟨r,rfl,fun h=>by rw [hr] at h;cases h⟩) fun _ h=>⟨true,rfl,fun _=>h⟩
 intro j _ hj hI
 refine Jl (fun h=>⟨_,Z,fun k hk hne=>hI k (by have:=QjH h;omega) hne⟩) fun h=>?_
 have hji:j≠i:=by have:=QiE h;omega
 refine Ok.bind (Ok.step (by rw [Qq];exact Kr hj) (Ok.step (by rw [Qq];exact Kr hi) ?_))
 refine Jl (fun _=>⟨_,Z,_,Z,Z⟩) fun hne=>?_
 have hne:=QiE hne
 refine Ok.step (Qb4 (hA.ok _ (QQ hj))) (Ok.step (Qb4 (hA.ok _ (QQ hi))) ?_)
 refine Ok.bind ((QsP _ _).mono fun r hr=>⟨r,Z,?_⟩)
 show Ok (if r=true then _ else _) _
 cases r with
 |true=>exact ⟨_,rfl,rfl⟩
 |false =>
  refine ⟨_,Z,fun k hk hki=>?_⟩
  by_cases c:k=j
  ·subst c;exact ⟨hne,hr rfl⟩
  ·exact hI k (by omega) hki
theorem Qlr (j:Job) (e:Bool):wrH j e ∈ Qie j:=by unfold wrH Qie;cases e <;> simp
theorem Qvk (j:Job) (e:Bool):rdH j e ∈ Qie j:=by unfold rdH Qie;cases e <;> simp
theorem GY.int {a b:Job} (h:GY a b) (e f:Bool):QiR a b e f=false:=by
 unfold QiR
 rw [h _ (Qlr a e) _ (Qlr b f),h _ (Qlr a e) _ (Qvk b f),h _ (Qvk a e) _ (Qlr b f)];rfl
theorem GY.symm {a b:Job} (h:GY a b):GY b a:=fun l hl m hm=>by rw [QdA];exact h m hm l hl
theorem QqD (hA:Acc t L) (hF:GJ t L) {i:Nat} (hi:i<L.length) {V:Int} (hV:(Q3 L i).At<=V∧V<=1048576) (hal:QvP t L i):GJ t (L.set i ⟨V,(Q3 L i).Job⟩):=by
 have hla:∀a,Q3 (L.set i ⟨V,(Q3 L i).Job⟩) a=if a=i then ⟨V,(Q3 L i).Job⟩ else Q3 L a:=fun a=>Qmu hi
 have hsame:∀x:Nat×Bool,x.1≠i->Kl t (L.set i ⟨V,(Q3 L i).Job⟩) x=Kl t L x:=fun x hx=>by unfold Kl;rw [hla,if_neg hx]
 have hint:∀x y:Nat×Bool,x.1<L.length->y.1<L.length->x.1≠y.1->Qce t L x y=true->x.1≠i∧y.1≠i:=fun x y hx hy hne h=>by
  constructor
  ·intro e
   have:=(hal y.1 hy (by omega)).2.symm.int x.2 y.2
   rw [<-e] at this
   have h2:Qce t L x y=false:=this
   rw [h2] at h;cases h
  ·intro e
   have:=(hal x.1 hx (by omega)).2.int x.2 y.2
   rw [<-e] at this
   have h2:Qce t L x y=false:=this
   rw [h2] at h;cases h
 have hov:∀(k:Nat) (x:Nat×Bool),k<L.length->x.1<L.length->x.1≠k->Kp (wrX t L x) (jb t (Q3 L k)).Over=true->x.1≠i∧k≠i:=fun k x hk hx hne h=>by
  have ho:∀j:Job,j.Over ∈ Qie j:=fun j=>by simp [Qie]
  constructor
  ·intro e
   have:=(hal k hk (by omega)).2.symm _ (Qlr _ x.2) _ (ho _)
   rw [<-e] at this
   have h2:Kp (wrX t L x) (jb t (Q3 L k)).Over=false:=this
   rw [h2] at h;cases h
  ·intro e
   have:=(hal x.1 hx (by omega)).2 _ (Qlr _ x.2) _ (ho _)
   rw [<-e] at this
   have h2:Kp (wrX t L x) (jb t (Q3 L k)).Over=false:=this
   rw [h2] at h;cases h
 refine GF.fine (L:=L) ⟨by simp,fun a ha=>?_,fun l hl=>?_,fun x y hx hy hne h hlt=>?_,fun k x hk hx hne h hle=>?_,fun k x hk hx hne h hle=>?_,fun a b ha hb hne hj hlt=>?_⟩ hA hF
 ·rw [hla];split
  ·rename_i e;rw [e]
  ·rfl
 ·rcases List.mem_or_eq_of_mem_set hl with h |h
  ·exact hA.ok l h
  ·have:=hA.ok _ (QQ hi)
   rw [h]
   exact ⟨this.j0,this.j1,by have:=this.a0;show 0<=V;omega,by show V<=_;omega⟩
 ·obtain ⟨h1,h2⟩:=hint x y hx hy hne h
  rw [hsame x h1,hsame y h2];exact hlt
 ·obtain ⟨h1,h2⟩:=hov k x hk hx hne h
  rw [hsame x h1,hla,if_neg h2];exact hle
 ·obtain ⟨h1,h2⟩:=hov k x hk hx hne h
  rw [hsame x h1,hla,if_neg h2];exact hle
 ·by_cases e1:a=i
  ·subst e1;exact absurd hj.symm (hal b hb (by omega)).1
  ·by_cases e2:b=i
   ·subst e2;exact absurd hj (hal a ha (by omega)).1
   ·have h3:=hF.ov (Q3 L b).At b a hb ha (Ne.symm hne) rfl hj.symm
    rw [hla,hla,if_neg e1,if_neg e2]
    omega
theorem QpC (ht:GX t) (hA:Acc t L) (hF:GJ t L) (hs:Yi L=L) (hl:L.length<=100) {n:Int} (he:n=mkS t L) (hn:n<=200):((Jc t).bind <|J5 fun (y123:(Option Int)) (y124:GD) =>
  if y123.isSome then (some true)
  else ((Yj t L).bind <|J5 fun (y125:(List Int)) (y126:(Option Int)) =>
  if y126.isSome then (none)
  else ((Jc t).bind <|J5 fun (y127:(Option Int)) (y128:GD) =>
  if y127.isSome then (none)
  else ((YD y128 y125).bind <|J5 fun (y129:Int) (y130:(Option Int)) =>
  some (y130.isNone && decide (y129=n))))))=some true:=by
 subst he
 obtain ⟨x,N,u,hL,hT,hC⟩:=Qps hA.check hA.chk
 obtain ⟨e,he,_⟩:=QoU hT.fin hT.nops
 rw [he,Xa] at hC
 cases e with
 |some z=>rw [hC];rfl
 |none =>
  have hC:Jc t=some (none,u):=hC
  obtain ⟨pl,h1,h2⟩:=QuT ht hA hF hs hl hn hL hT he hC
  rw [hC,Xa]
  simp only [J5,Option.isSome_none,Xf,if_false]
  rw [h1,Xa]
  simp only [J5,Xa,Option.isSome_none,Xf,if_false]
  rw [h2,Xa]
  simp
end
theorem Qqt (t:Ge) (L:List Launch) (which:Int) (hnm:∀j ∈ t.Jobs,(j.Name.size:Int)<=9223372036854775807) (hw:0<=which∧which<256):Kv t L which=some true:=by
 unfold Kv
 have haw:Qj1=some true:=rfl
 refine Ok.eq ?_
 by_cases c1:8<(t.Vars.length:Int)
 ·rw [if_pos (by simpa using c1)];exact ⟨true,rfl,rfl⟩
 by_cases c2:6<(t.Jobs.length:Int)
 ·rw [if_neg (by simpa using c1),if_pos (by simpa using c2)];exact ⟨true,rfl,rfl⟩
 by_cases c3:6<(L.length:Int)
 ·rw [if_neg (by simpa using c1),if_neg (by simpa using c2),if_pos (by simpa using c3)];exact ⟨true,rfl,rfl⟩
 rw [if_neg (by simpa using c1),if_neg (by simpa using c2),if_neg (by simpa using c3),haw,Xa,Xa]
 simp only [Bool.not_true,Xf,if_false]
 have ht:GX t:=⟨by omega,hnm⟩
 obtain ⟨⟨m,e⟩,hv1,hv2,hv3⟩:=QfP ht L
 rw [hv1,Xa]
 simp only [J5]
 cases e with
 |some z=>exact ⟨true,rfl,rfl⟩
 |none =>
 by_cases c4:200<m
 ·rw [if_pos (by simp [c4])];exact ⟨true,rfl,rfl⟩
 rw [if_neg (by simp;omega)]
 obtain ⟨hA,hF⟩:=hv2.1 rfl
 have hm:m=mkS t L:=hv3 rfl
 subst hm
 have hp:=(YV L).symm
 have hAS:=hA.perm hp
 have hFS:=hF.perm hp
 have hSL:=Qp6 (Qgi L)
 have hlen:(Yi L).length=L.length:=(YV L).length_eq
 obtain ⟨f0,d0,_,_,_,_,_,_,hLe,hSh⟩:=QnU ht hA hF (by omega)
 have hsh:=hLe.shifted hAS hFS
 have hmv:=hsh.moved hAS hFS hSL
 have hmk:mkS t (Yi L)=mkS t L:=(Qkk hp).symm
 generalize (fun i=> -(f0 (2 * i+1) 0))=U at *
 rw [hSh,Xa]
 simp only [J5]
 rw [if_neg (by simp [QaN,hlen]),QcK ht hmv.acc hmv.fine,Xa]
 simp only [J5]
 obtain ⟨⟨re,rp⟩,hr0,hr1,hr2,hr3⟩:=QwO ht hmv.acc hmv.fine (by rw [QaN,hlen];omega)
 have hr1:re=none:=hr1
 have hr2:rp.Problems=[]:=hr2
 have hr3:rp.Makespan=mkS t (LU (Yi L) U):=hr3
 subst hr1
 have hspan:=hmv.span
 rw [hr0,Xa]
 simp only [J5]
 rw [hr2,hr3,if_neg (by simp;omega),QsA (by rw [QaN,hlen];omega),Xa]
 have hp2:=(YV (LU (Yi L) U)).symm
 have hA2:=hmv.acc.perm hp2
 have hF2:=hmv.fine.perm hp2
 have hSL2:=Qp6 (Qgi (LU (Yi L) U))
 have hs2:Yi (Yi (LU (Yi L) U))=Yi (LU (Yi L) U):=Ql0 (.refl _) (Qgi _)
 have hmk2:mkS t (Yi (LU (Yi L) U))=mkS t (LU (Yi L) U):=(Qkk hp2).symm
 have hlen2:(Yi (LU (Yi L) U)).length<=6:=by rw [(YV _).length_eq,QaN,hlen];omega
 obtain ⟨U2,f,hsh2,hmv2,_,hSO,_,hSl⟩:=Qty ht hA2 hF2 (by omega)
 rw [hs2] at hsh2 hmv2 hSO hSl
 have hag:=Qtt hsh hAS hFS hSL hp2 hSL2 hsh2
 rw [hag] at hSO
 rw [<-hmk2] at hspan
 rw [<-hmk2]
 generalize Yi (LU (Yi L) U)=S at *
 have hn:mkS t S<=200:=by omega
 have hU:∀i,i<S.length->U2 i=(Q3 S i).At:=fun i hi=>by
  have:=Qci (S:=S) (U:=U2) hi
  rw [hag] at this
  rw [this]
 rw [hSl,Xa]
 simp only [J5]
 rw [if_neg (by simp)]
 by_cases c5:0<(S.length:Int)
 ·rw [if_pos (by simpa using c5)]
  refine Ok.must (by rw [decide_eq_false (by omega)];rfl) (Ok.step (a:=S) (by rw [QD (by simp;omega)];rfl) ?_)
  rw [Q7 (n:=which) (by omega) (by omega)]
  obtain ⟨i,hi,hi2⟩:∃i:Nat,which.tmod (S.length:Int)=(i:Int)∧i<S.length:=by
   have h1:=Int.tmod_nonneg (S.length:Int) hw.1
   have h2:=Int.tmod_lt_of_pos which c5
   exact ⟨(which.tmod (S.length:Int)).toNat,by omega,by omega⟩
  rw [hi]
  have g1:=hSO.ge i hi2
  have g2:=hSO.le i hi2
  have g3:=KM hA2 hi2
  have g4:=hU i hi2
  have g5:=(Qag hA2 hi2).2.2
  rw [g5] at g3
  refine Ok.step (by rw [Qq];exact Kr hi2) (Ok.step (a:=f 0 (2 * i+1) - U2 i) (by rw [Qq];simp [hi2]) ?_)
  rw [show (Q3 S i).At+(f 0 (2 * i+1) - U2 i)=f 0 (2 * i+1) by omega,Q7 (n:=f 0 (2 * i+1)) (by omega) (by omega)]
  refine Ok.step (QaE hi2) ?_
  rw [if_neg (by simp;omega)]
  generalize hV:f 0 (2 * i+1)=V at *
  obtain ⟨⟨m2,e2⟩,q1,q2,q3⟩:=QfP ht (S.set i { Q3 S i with At:=V })
  rw [q1,Xa]
  simp only [J5]
  have hz:Ok (if e2.isSome then ((K2 t S (i:Int)).bind <|fun (y114:Bool) =>
    if y114 then (some true)
    else (if e2.isNone then (some (decide (mkS t S<m2)))
    else (some false)))
    else (if e2.isNone then (some (decide (mkS t S<m2)))
    else (some false))) fun z=>z=false:=by
   cases e2 with
   | some z =>
    refine Jl (fun _=>?_) fun h=>by cases h
    refine Ok.bind ((Qtr hA2 hi2).mono fun b hb=>?_)
    cases b with
    |false=>exact ⟨false,rfl,rfl⟩
    | true =>
     exfalso
     have hfi:=QqD hA2 hF2 hi2 (V:=V) ⟨by omega,by omega⟩ (hb rfl)
     have hac:Acc t (S.set i { Q3 S i with At:=V }):=⟨hA2.check,hA2.chk,by rw [List.length_set];exact hA2.len,fun l hl=>by
      rcases List.mem_or_eq_of_mem_set hl with h |h
      ·exact hA2.ok l h
      ·have:=hA2.ok _ (QQ hi2)
       rw [h]
       exact ⟨this.j0,this.j1,by show 0<=V;omega,by show V<=_;omega⟩⟩
     have:=q2.2 ⟨hac,hfi⟩
     cases this
   | none =>
    refine Jl (fun h=>by cases h) fun _=>?_
    show Ok (some (decide (mkS t S<m2))) _
    refine ⟨_,Z,decide_eq_false ?_⟩
    have hm2:m2=mkS t (S.set i { Q3 S i with At:=V }):=q3 rfl
    have:mkS t (S.set i { Q3 S i with At:=V })<=mkS t S:=Qii Qc2.1 fun l hl=>by
     rcases List.mem_or_eq_of_mem_set hl with h |h
     ·exact Qc2.2 l h
     ·rw [h]
      show V+(jb t { Q3 S i with At:=V }).Duration<=_
      have:jb t { Q3 S i with At:=V }=jb t (Q3 S i):=QoH rfl
      rw [this];omega
    omega
  refine Ok.bind (hz.mono ?_)
  rintro z rfl
  rw [if_neg (by simp)]
  exact ⟨true,QpC ht hA2 hF2 hs2 (by omega) Z hn,Z⟩
 ·rw [if_neg (by simpa using c5)]
  exact ⟨true,QpC ht hA2 hF2 hs2 (by omega) Z hn,Z⟩
end Go.Pw
