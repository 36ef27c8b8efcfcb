/- -/
import Derived.Test.YtalfjlihddgooaaGreatDoorBa
import Derived.Test.YtalfjlihddgooaaGreatDoorTB
import Derived.Test.YtalfjlihddgooaaGreatDoorWlP
import Derived.Test.YtalfjlihddgooaaGreatDoorTA
set_option linter.unusedVariables false
set_option linter.unusedSimpArgs false
namespace Go.Pw
/-! ### loops that count on -/
theorem QlM {S R β:Type} {B:Int×S->Option (Ctl (Int×S) R)} {m n:Nat} {s:S} {Q:β->Prop} {kr:R->Option β} {k:Int×S->Option β} (Inv:Nat->S->Prop) (Bq:S->Prop) (Rp:R->Prop) (hmn:m<=n) (h0:Inv m s)
  (h:∀(j:Nat) (s:S),m<=j->j<n->Inv j s->Ok (B ((j:Int),s)) fun c=>match c with | .next q=>q.1=((j+1:Nat):Int)∧Inv (j+1) q.2 | .brk q=>Bq q.2 | .ret r=>Rp r)
  (he:∀s,Inv n s->Ok (B ((n:Int),s)) fun c=>∃q,c= .brk q∧Bq q.2)
  (hr:∀r,Rp r->Ok (kr r) Q) (hk:∀q,Bq q.2->Ok (k q) Q):Ok (Go.Pw.ctl (Yw B ((m:Int),s)) kr k) Q:=by
 refine Qk1 (fun q=>∃j:Nat,q.1=(j:Int)∧m<=j∧j<=n∧Inv j q.2) (fun q=>Bq q.2) Rp (fun q=>n - q.1.toNat) ⟨m,Z,Xi _,hmn,h0⟩ ?_ hr (fun q hq=>hk q hq)
 rintro ⟨i,s⟩ ⟨j,hj,hm,hle,hI⟩
 simp only at hj hI
 subst hj
 by_cases hlt:j<n
 ·obtain ⟨c,hc,hP⟩:=h j s hm hlt hI
  refine ⟨c,hc,?_,?_,?_⟩
  ·rintro ⟨i',s'⟩ rfl
   simp only at hP
   refine ⟨⟨j+1,hP.1,by omega,hlt,hP.2⟩,?_⟩
   simp only [hP.1]
   omega
  ·rintro s' rfl;exact hP
  ·rintro r rfl;exact hP
 ·obtain rfl:j=n:=by omega
  obtain ⟨c,hc,q,rfl,hq⟩:=he s hI
  refine ⟨_,hc,fun s' e=>(by cases e),fun s' e=>?_,fun r e=>(by cases e)⟩
  cases e;exact hq
theorem Qdl {α β:Type} (f:α->List β) (c:Nat):∀l:List α,(∀x ∈ l,(f x).length<=c)->(l.flatMap f).length<=l.length * c
 |[],_=>by simp
 |x::l,h=>by
  rw [List.flatMap_cons,Xt,Xw,Nat.add_mul]
  have h1:=h x (by simp)
  have h2:=Qdl f c l fun y hy=>h y (List.mem_cons_of_mem _ hy)
  omega
/-! ### the sorted launches -/
noncomputable def Yi (l:List Launch):List Launch:=l.mergeSort fun x y=>!decide (Qf6 y x<0)
theorem YV (l:List Launch):(Yi l).Perm l:=List.mergeSort_perm l _
def LeL (a b:Launch):Prop:=a.At<b.At∨a.At=b.At∧a.Job<=b.Job
theorem Qgi (l:List Launch):(Yi l).Pairwise LeL:=by
 have:(Yi l).Pairwise (fun x y=>(!decide (Qf6 y x<0))=true):=by
  apply List.pairwise_mergeSort
  ·intro a b c h1 h2;simp only [Bool.not_eq_true',Xx,Qd6] at *;omega
  ·intro a b;simp only [X4,Bool.not_eq_true',Xx,Qd6];omega
 refine this.imp fun {a b} h=>?_
 simp only [Bool.not_eq_true',Xx,Qd6] at h
 unfold LeL;omega
theorem LeL.anti {a b:Launch} (h1:LeL a b) (h2:LeL b a):a=b:=by
 unfold LeL at *
 obtain ⟨a1,a2⟩:=a
 obtain ⟨b1,b2⟩:=b
 simp only [Launch.mk.injEq] at *
 omega
theorem Ql0 {l k:List Launch} (h:k.Perm l) (hk:k.Pairwise LeL):Yi l=k :=
 List.Perm.eq_of_pairwise (fun a b _ _ h1 h2=>h1.anti h2) (Qgi l) hk ((YV l).trans h.symm)
theorem Qp6 {S:List Launch} (h:S.Pairwise LeL):SL S:=by
 intro i k hik hk
 have:=List.pairwise_iff_getElem.1 h i k (by omega) hk hik
 have e1:Q3 S i=S[i]:=by simp [Q3,show i<S.length by omega]
 have e2:Q3 S k=S[k]:=by simp [Q3,hk]
 rw [e1,e2]
 unfold LeL at this
 omega
/-! ### the plan -/
def ptH (x:Nat×Bool):Int:=if x.2 then 2 * (x.1:Int)+2 else 2 * (x.1:Int)+1
def hpS (t:Ge) (S:List Launch) (x:Nat×Bool):Gq:=⟨ptH x,Kl t S x,(Q3 S x.1).Job,x.2⟩
def KY (t:Ge) (S:List Launch):Gx:=⟨t,S,(List.range S.length).map fun i=>hpS t S (i,false),(List.range S.length).map fun i=>hpS t S (i,true)⟩
theorem Qe1 {i:Nat} (h:i<1000):Qr (i:Int)=2 * (i:Int)+1:=by
 unfold Qr;rw [Q7 (n:=2 * (i:Int)) (by omega) (by omega),Q7 (by omega) (by omega)]
theorem Da {i:Nat} (h:i<1000):Q0 (i:Int)=2 * (i:Int)+2:=by
 unfold Q0;rw [Q7 (n:=2 * (i:Int)) (by omega) (by omega),Q7 (by omega) (by omega)]
theorem QdE {α:Type} (f:Nat->α) (n:Nat):(List.range (n+1)).map f=(List.range n).map f++[f n]:=by rw [List.range_succ,List.map_append];rfl
theorem QpI {t:Ge} (ht:GX t) {L:List Launch} (hA:Acc t L) (hF:GJ t L) (hl:L.length<=63):YW t L=some (KY t (Yi L),none):=by
 unfold YW
 rw [QcK ht hA hF]
 simp only [Xa,J5,Option.isSome_none,Xf,if_false]
 rw [if_neg (by simp;omega)]
 unfold Yg Qdq
 rw [QD (by simp;omega)]
 simp only [Xa,List.nil_append]
 rw [if_pos (by omega)]
 simp only [Xa]
 have hS:L.mergeSort (fun x y=>!decide (Qf6 y x<0))=Yi L:=rfl
 rw [hS]
 have hAS:=hA.perm (YV L).symm
 have hlen:(Yi L).length<=63:=by rw [(YV L).length_eq];exact hl
 generalize Yi L=S at hAS hlen ⊢
 have h:Ok (forS (fun i100=>J5 fun (z100:(List Gq)) (z101:(List Gq))=>(idx S (i100:Int)).bind fun x100 =>
   (app 32 z100 [(⟨(Qr (i100:Int)),x100.At,x100.Job,false⟩:Gq)]).bind fun l101 =>
   (idx t.Jobs x100.Job).bind fun x101 =>
   (app 32 z101 [(⟨(Q0 (i100:Int)),IntKind.i64.wrap (x100.At+x101.Duration),x100.Job,true⟩:Gq)]).bind fun l102 =>
   some (l101,l102)) (S.length) 0 ([],[])) (fun r=>r=((List.range S.length).map fun i=>hpS t S (i,false),(List.range S.length).map fun i=>hpS t S (i,true))):=by
  refine Ok.forS (fun j r=>r=((List.range j).map fun i=>hpS t S (i,false),(List.range j).map fun i=>hpS t S (i,true))) Z ?_ fun s hs=>hs
  rintro j s hj rfl
  show Ok (J5 _ _) _
  simp only [J5]
  have hok:=hAS.ok _ (QQ hj)
  have hd:=Qcl hAS.chk hok
  have:=hok.a0;have:=hok.a1
  unfold QV at hd
  refine Ok.step (by rw [Qq];exact Kr hj) (Ok.step (QD (by simp;omega)) (Ok.step (Qb4 hok) (Ok.step (QD (by simp;omega)) ⟨_,Z,?_⟩)))
  rw [QdE,QdE,Qe1 (by omega),Da (by omega),Q7 (by omega) (by omega)]
  rfl
 obtain ⟨r,h1,rfl⟩:=h
 rw [h1]
 rfl
/-! ### the bounds -/
def Qj6 (t:Ge) (S:List Launch) (x y:Nat×Bool):List Gp :=
 if Qce t S x y then (if Kl t S x<Kl t S y then [⟨ptH y,ptH x, -1⟩] else [⟨ptH x,ptH y, -1⟩]) else []
def Qj5 (t:Ge) (S:List Launch) (i k:Nat):List Gp:=[((i,false),(k,false)),((i,false),(k,true)),((i,true),(k,false)),((i,true),(k,true))].flatMap fun p=>Qj6 t S p.1 p.2
def Qqk (t:Ge) (S:List Launch):List Gp:=(List.range S.length).flatMap fun i=>(List.range' (i+1) (S.length - (i+1))).flatMap fun k=>Qj5 t S i k
def Qo8 (t:Ge) (S:List Launch):List Gp:=(List.range S.length).flatMap fun i:Nat=>[⟨2 * (i:Int)+1,0,0⟩,⟨2 * (i:Int)+2,2 * (i:Int)+1, -(jb t (Q3 S i)).Duration⟩,⟨2 * (i:Int)+1,2 * (i:Int)+2,(jb t (Q3 S i)).Duration⟩]
def Qei (t:Ge) (S:List Launch) (i:Nat) (x:Nat×Bool):List Gp :=
 if Kp (wrX t S x) (jb t (Q3 S i)).Over then (if Kl t S x<=(Q3 S i).At then [⟨2 * (i:Int)+1,ptH x,0⟩] else if QV t (Q3 S i)<=Kl t S x then [⟨ptH x,2 * (i:Int)+2,0⟩] else []) else []
def Qqj (t:Ge) (S:List Launch):List Gp:=(List.range S.length).flatMap fun i=>(List.range S.length).flatMap fun k=>if k=i then [] else Qei t S i (k,false)++Qei t S i (k,true)
def Qhu (S:List Launch) (i:Nat):Option Nat:=(List.range' (i+1) (S.length - (i+1))).find? fun k=>decide ((Q3 S k).Job=(Q3 S i).Job)
def Qqi (S:List Launch):List Gp:=(List.range S.length).flatMap fun i=>match Qhu S i with |some k=>[⟨2 * (k:Int)+1,2 * (i:Int)+2, -1⟩] |none=>[]
def BD (t:Ge) (S:List Launch):List Gp:=Qo8 t S++Qqk t S++Qqj t S++Qqi S
theorem QeU (q p g:Int) (h0:0<=g) (h1:g<=1000000):Qp q p g=⟨q,p, -g⟩:=by
 unfold Qp;rw [Q7 (by omega) (by omega)];congr 1;omega
theorem Qn1 (t:Ge) (S:List Launch) (x y:Nat×Bool):(Qj6 t S x y).length<=1:=by
 unfold Qj6;split
 ·split <;> simp
 ·simp
theorem QsH (t:Ge) (S:List Launch) (i k:Nat):(Qj5 t S i k).length<=4:=by
 have:=Qdl (fun p:(Nat×Bool)×(Nat×Bool)=>Qj6 t S p.1 p.2) 1 [((i,false),(k,false)),((i,false),(k,true)),((i,true),(k,false)),((i,true),(k,true))] fun p _=>Qn1 _ _ _ _
 simpa [Qj5] using this
theorem QmF {t:Ge} {S:List Launch} (hA:Acc t S) (hl:S.length<=63) {p:Gx} (ht:p.t=t) (hp:p.launches=S):Kj p=some (Qo8 t S):=by
 unfold Kj
 rw [ht,hp]
 have h:Ok (forS (fun i100=>fun (out100:(List Gp))=>(idx S (i100:Int)).bind fun x100=>(idx t.Jobs x100.Job).bind fun x101 =>
   (app 24 out100 [(Qp (Qr (i100:Int)) 0 0),(Qp (Q0 (i100:Int)) (Qr (i100:Int)) x101.Duration),(⟨(Qr (i100:Int)),(Q0 (i100:Int)),x101.Duration⟩:Gp)]).bind fun l100 =>
   some l100) (S.length) 0 []) (fun r=>r=Qo8 t S):=by
  refine Ok.forS (fun j r=>r=(List.range j).flatMap fun i=>[⟨2 * (i:Int)+1,0,0⟩,⟨2 * (i:Int)+2,2 * (i:Int)+1, -(jb t (Q3 S i)).Duration⟩,⟨2 * (i:Int)+1,2 * (i:Int)+2,(jb t (Q3 S i)).Duration⟩]) Z ?_ fun s hs=>hs
  rintro j s hj rfl
  have hok:=hA.ok _ (QQ hj)
  have hd:=(hA.chk.job _ (QbP hok)).dur
  refine Ok.step (by rw [Qq];exact Kr hj) (Ok.step (Qb4 hok) (Ok.step (QD ?_) ⟨_,Z,?_⟩))
  ·have:=Qdl (fun i:Nat=>[(⟨2 * (i:Int)+1,0,0⟩:Gp),⟨2 * (i:Int)+2,2 * (i:Int)+1, -(jb t (Q3 S i)).Duration⟩,⟨2 * (i:Int)+1,2 * (i:Int)+2,(jb t (Q3 S i)).Duration⟩]) 3 (List.range j) (fun _ _=>by simp)
   rw [XK] at this
   simp only [Xw,XC]
   omega
  ·rw [List.range_succ,List.flatMap_append,Qe1 (by omega),Da (by omega),QeU _ _ _ (by omega) (by omega),QeU _ _ _ (by omega) (by omega)]
   simp
 obtain ⟨r,h1,rfl⟩:=h
 rw [h1];rfl
end Go.Pw
/- -/
namespace Go.Pw
section
variable {t:Ge} {S:List Launch}
theorem QmK (hA:Acc t S) {x y:Nat×Bool} (hx:x.1<S.length) (hy:y.1<S.length):Kb t (Q3 S x.1).Job (Q3 S y.1).Job x.2 y.2=some (Qce t S x y,none):=by
 unfold Kb
 rw [hA.check]
 have h1:=hA.ok _ (QQ hx)
 have h2:=hA.ok _ (QQ hy)
 simp only [Xa,Option.isSome_none,Xf,if_false]
 rw [if_neg (by have:=h1.j0;have:=h1.j1;have:=h2.j0;have:=h2.j1;simp;omega)]
 rw [QhU (i:=jH t S x) (j:=jH t S y) (Qb4 h1) (Qb4 h2)]
 rfl
theorem QeX {i:Nat} (h:i<S.length):idx (KY t S).starts (i:Int)=some (hpS t S (i,false)):=by
 rw [Qq];simp [KY,h]
theorem QhH {i:Nat} (h:i<S.length):idx (KY t S).ends (i:Int)=some (hpS t S (i,true)):=by
 rw [Qq];simp [KY,h]
def prs (i k:Nat):List ((Nat×Bool)×(Nat×Bool)):=[((i,false),(k,false)),((i,false),(k,true)),((i,true),(k,false)),((i,true),(k,true))]
theorem Qq9 (hA:Acc t S) {x y:Nat×Bool} (hx:x.1<S.length) (hy:y.1<S.length) {l:List Gp} (hl:l.length<=100000) :
  ((Kb (KY t S).t (hpS t S x).job (hpS t S y).job (hpS t S x).end_ (hpS t S y).end_).bind <|J5 fun (y100:Bool) (y101:(Option Int)) =>
   if y101.isSome then (none)
   else (if !y100 then (some (Ctl.next l))
   else ((if decide ((hpS t S x).at_<(hpS t S y).at_) then ((app 24 l [(Qp (hpS t S y).point (hpS t S x).point 1)]).bind fun l102=>some l102)
   else ((app 24 l [(Qp (hpS t S x).point (hpS t S y).point 1)]).bind fun l103=>some l103)).bind (fun (l104:(List Gp))=>some (Ctl.next l104)))))=some (Ctl.next (l++Qj6 t S x y):Ctl (List Gp) (List Gp×Option Int)):=by
 have h:=QmK hA hx hy
 have h':Kb (KY t S).t (hpS t S x).job (hpS t S y).job (hpS t S x).end_ (hpS t S y).end_=some (Qce t S x y,none):=h
 rw [h',Xa]
 simp only [J5,Option.isSome_none,Xf,if_false]
 rw [QD (by simp;omega),QD (by simp;omega),QeU _ _ _ (by omega) (by omega),QeU _ _ _ (by omega) (by omega)]
 unfold Qj6
 cases Qce t S x y with
 |false=>simp
 | true =>
  simp only [Bool.not_true,Xf,if_false,if_true]
  by_cases c:Kl t S x<Kl t S y
  ·have c':(hpS t S x).at_<(hpS t S y).at_:=c
   simp [c,c',hpS]
  ·have c':¬(hpS t S x).at_<(hpS t S y).at_:=c
   simp [c,c',hpS]
theorem QqA (hA:Acc t S) (hl:S.length<=63):KH (KY t S)=some (Qqk t S,none):=by
 unfold KH
 refine Ok.eq ?_
 show Ok (ctl (Jf _ S.length 0 []) _ _) _
 refine Ok.ctl (fun j out=>out.length<=252 * j∧out=(List.range j).flatMap fun i=>(List.range' (i+1) (S.length - (i+1))).flatMap fun k=>Qj5 t S i k) (fun _=>False) ⟨by simp,Z⟩ ?_ (fun r hr=>hr.elim) fun s hs=>⟨_,Z,by rw [hs.2];rfl⟩
 rintro i out hi ⟨hlen,rfl⟩
 rw [show ((i:Int)+1)=((i+1:Nat):Int) by omega,Q7 (by omega) (by omega)]
 refine QlM (n:=S.length) (fun j l=>l.length<=252 * i+4 * (j - (i+1))∧l=((List.range i).flatMap fun i=>(List.range' (i+1) (S.length - (i+1))).flatMap fun k=>Qj5 t S i k)++(List.range' (i+1) (j - (i+1))).flatMap fun k=>Qj5 t S i k)
  (fun l=>l.length<=252 * (i+1)∧l=(List.range (i+1)).flatMap fun i=>(List.range' (i+1) (S.length - (i+1))).flatMap fun k=>Qj5 t S i k) (fun _=>False) (by omega) ⟨by omega,by simp⟩ ?_ ?_ (fun r hr=>hr.elim) (fun q hq=>⟨_,rfl,hq⟩)
 ·rintro k l hk1 hk ⟨h1,h2⟩
  show Ok (if decide ((k:Int)<(S.length:Int))=true then _ else _) _
  rw [if_pos (by simpa using hk),QeX hi,Xa,QeX hk,Xa,QhH hk,Xa,QhH hi,Xa]
  have e:([(⟨hpS t S (i,false),hpS t S (k,false)⟩:Gk),⟨hpS t S (i,false),hpS t S (k,true)⟩,⟨hpS t S (i,true),hpS t S (k,false)⟩,⟨hpS t S (i,true),hpS t S (k,true)⟩])=(prs i k).map fun p=>⟨hpS t S p.1,hpS t S p.2⟩:=rfl
  rw [e,X6]
  refine Ok.ctl (fun q m=>m.length<=l.length+q∧m=l++((prs i k).take q).flatMap fun p=>Qj6 t S p.1 p.2) (fun _=>False) ⟨Xi _,by simp⟩ ?_ (fun r hr=>hr.elim) fun m hm=>⟨_,Z,?_,?_,?_⟩
  ·rintro q m hq ⟨g1,g2⟩
   have hq4:q<4:=hq
   have hm:∀p ∈ prs i k,p.1.1<S.length∧p.2.1<S.length:=fun p hp=>by
    simp only [prs,Xr,List.not_mem_nil,or_false] at hp
    rcases hp with rfl |rfl |rfl |rfl <;> exact ⟨hi,hk⟩
   obtain ⟨m1,m2⟩:=hm _ (List.getElem_mem hq)
   rw [Qq,X2,Xb hq,Option.map_some,Xa]
   rw [Qq9 hA m1 m2 (by omega)]
   refine ⟨_,Z,?_,?_⟩
   ·rw [Xt]
    have:=Qn1 t S (prs i k)[q].1 (prs i k)[q].2
    omega
   ·rw [Qbm hq,List.flatMap_append,g2];simp
  ·show IntKind.i64.wrap ((k:Int)+1)=((k+1:Nat):Int)
   rw [Q7 (by omega) (by omega)];rfl
  ·have h3:m.length<=l.length+4:=hm.1
   show m.length<=_
   omega
  ·have h3:m=l++(prs i k).flatMap fun p=>Qj6 t S p.1 p.2:=hm.2
   show m=_
   rw [h3,h2,show k+1 - (i+1)=(k - (i+1))+1 by omega,List.range'_concat,List.flatMap_append,List.append_assoc]
   congr 2
   rw [show i+1+1 * (k - (i+1))=k by omega]
   simp [Qj5,prs]
 ·rintro l ⟨h1,h2⟩
  show Ok (if decide ((S.length:Int)<(S.length:Int))=true then _ else _) _
  rw [if_neg (by simp)]
  refine ⟨_,Z,_,Z,by simp only;omega,?_⟩
  show l=_
  rw [h2,List.range_succ,List.flatMap_append]
  simp
theorem Qs0 (hA:Acc t S) {x:Nat×Bool} (hx:x.1<S.length) (over:List Gj):Kh (KY t S) (hpS t S x) over=some (Kp (wrX t S x) over):=by
 unfold Kh
 have hj:idx (KY t S).t.Jobs (hpS t S x).job=some (jH t S x):=Qb4 (hA.ok _ (QQ hx))
 rw [hj,Xa]
 have hc:∀(b:List Gj) (f:Gj),QN b f=some (b.any fun y=>decide (f.Var=y.Var)):=fun b f=>by
  unfold QN Jr
  refine QbF (p:=fun y:Gj=>decide (f.Var=y.Var)) fun j y hy=>?_
  rw [Qq,hy]
  simp only [Xa,JK]
  split <;> rfl
 have h:∀a:List Gj,QX a over=some (Kp a over):=fun a=>by
  unfold QX J4
  refine QbF (p:=fun x:Gj=>over.any fun y=>decide (x.Var=y.Var)) fun j x hx=>?_
  rw [Qq,hx]
  simp only [Xa,KN,hc]
  split <;> rfl
 have e:(if (hpS t S x).end_=true then some (jH t S x).AtEnd else some (jH t S x).AtStart)=some (wrX t S x):=by
  show (if x.2=true then _ else _)=some (wrH _ x.2)
  unfold wrH
  split <;> rfl
 rw [e,Xa,h]
 rfl
theorem Qkg (t:Ge) (S:List Launch) (i:Nat) (x:Nat×Bool):(Qei t S i x).length<=1:=by
 unfold Qei;split
 ·split
  ·simp
  ·split <;> simp
 ·simp
theorem Qub (hA:Acc t S) (hl:S.length<=63) {i:Nat} {x:Nat×Bool} (hi:i<S.length) (hx:x.1<S.length) {l:List Gp} (hll:l.length<=100000) :
  ((idx (KY t S).t.Jobs (Q3 S i).Job).bind fun x104=>(Kh (KY t S) (hpS t S x) x104.Over).bind <|fun (y100:Bool) =>
   (if !y100 then (some l)
   else ((idx (KY t S).starts (i:Int)).bind fun x105 =>
   (if decide ((hpS t S x).at_<=x105.at_) then ((app 24 l [(Qp (Qr (i:Int)) (hpS t S x).point 0)]).bind fun l102=>some l102)
   else ((idx (KY t S).ends (i:Int)).bind fun x106 =>
   (if decide (x106.at_<=(hpS t S x).at_) then ((app 24 l [(Qp (hpS t S x).point (Q0 (i:Int)) 0)]).bind fun l103=>some l103)
   else (some l)).bind (fun (l104:(List Gp))=>some l104))).bind (fun (l105:(List Gp))=>some l105))).bind (fun (l106:(List Gp))=>some l106))=some (l++Qei t S i x):=by
 have hok:=hA.ok _ (QQ hi)
 have hj:idx (KY t S).t.Jobs (Q3 S i).Job=some (jb t (Q3 S i)):=Qb4 hok
 rw [hj,Xa,Qs0 hA hx,Xa,QeX hi,QhH hi,QD (by simp;omega),QD (by simp;omega),Qe1 (by omega),Da (by omega),QeU _ _ _ (by omega) (by omega),QeU _ _ _ (by omega) (by omega)]
 unfold Qei
 cases Kp (wrX t S x) (jb t (Q3 S i)).Over with
 |false=>simp
 | true =>
  by_cases c:Kl t S x<=(Q3 S i).At
  ·have c':(hpS t S x).at_<=(hpS t S (i,false)).at_:=c
   simp only [Bool.not_true,Xf,if_false,if_true,Xa,c,c',decide_true]
   rfl
  ·have c':¬(hpS t S x).at_<=(hpS t S (i,false)).at_:=c
   by_cases d:QV t (Q3 S i)<=Kl t S x
   ·have d':(hpS t S (i,true)).at_<=(hpS t S x).at_:=d
    simp only [Bool.not_true,Xf,if_false,if_true,Xa,c,c',d,d',decide_true,decide_false]
    rfl
   ·have d':¬(hpS t S (i,true)).at_<=(hpS t S x).at_:=d
    simp only [Bool.not_true,Xf,if_false,if_true,Xa,c,c',d,d',decide_true,decide_false]
    simp
theorem QsG (hA:Acc t S) (hl:S.length<=63):KW (KY t S)=some (Qqj t S):=by
 unfold KW
 simp only [show (KY t S).launches=S from rfl]
 refine Ok.eq (Ok.bind ?_)
 show Ok (forS _ S.length 0 []) _
 refine Ok.forS (fun j out=>out.length<=126 * j∧out=(List.range j).flatMap fun i=>(List.range S.length).flatMap fun k=>if k=i then [] else Qei t S i (k,false)++Qei t S i (k,true)) ⟨by simp,Z⟩ ?_ fun s hs=>⟨_,Z,hs.2⟩
 rintro i out hi ⟨hlen,rfl⟩
 refine Ok.step (by rw [Qq];exact Kr hi) (Ok.bind ?_)
 show Ok (forS _ S.length 0 _) _
 generalize hout:((List.range i).flatMap fun i=>(List.range S.length).flatMap fun k=>if k=i then [] else Qei t S i (k,false)++Qei t S i (k,true))=out at hlen ⊢
 refine Ok.forS (fun j l=>l.length<=out.length+2 * j∧l=out++(List.range j).flatMap fun k=>if k=i then [] else Qei t S i (k,false)++Qei t S i (k,true)) ⟨by omega,by simp⟩ ?_ fun l hl'=>⟨_,Z,by have:=hl'.1;omega,?_⟩
 ·rintro k l hk ⟨g1,g2⟩
  by_cases c:k=i
  ·subst c
   rw [if_pos (by simp)]
   refine ⟨_,Z,by omega,?_⟩
   rw [List.range_succ,List.flatMap_append,g2];simp
  ·rw [if_neg (by simp;omega),QeX hk,Xa,QhH hk,Xa]
   refine Ok.bind ?_
   have e:([hpS t S (k,false),hpS t S (k,true)])=[(k,false),(k,true)].map (hpS t S):=rfl
   rw [e,X6]
   refine Ok.forS (fun q m=>m.length<=l.length+q∧m=l++([(k,false),(k,true)].take q).flatMap fun x=>Qei t S i x) ⟨by omega,by simp⟩ ?_ fun m hm=>⟨_,Z,?_,?_⟩
   ·rintro q m hq ⟨h1,h2⟩
    have hq2:q<2:=hq
    have hx:∀x ∈ [(k,false),(k,true)],x.1<S.length:=fun x hx=>by
     simp only [Xr,List.not_mem_nil,or_false] at hx
     rcases hx with rfl |rfl <;> exact hk
    have hxq:=hx _ (List.getElem_mem hq)
    rw [Qq,X2,Xb hq,Option.map_some,Xa]
    rw [Qub hA hl hi hxq (by omega)]
    refine ⟨_,Z,?_,?_⟩
    ·rw [Xt]
     have:=Qkg t S i [(k,false),(k,true)][q]
     omega
    ·rw [Qbm hq,List.flatMap_append,h2];simp
   ·have:m.length<=l.length+2:=hm.1
    omega
   ·have h3:m=l++[(k,false),(k,true)].flatMap fun x=>Qei t S i x:=hm.2
    rw [h3,List.range_succ,List.flatMap_append,g2]
    simp [c]
 ·rw [hl'.2,List.range_succ,List.flatMap_append,hout];simp
theorem Qk6 {i j:Nat} (h1:i<j) (h2:j<S.length) (hj:(Q3 S j).Job=(Q3 S i).Job) (hm:∀m,i<m->m<j->(Q3 S m).Job≠(Q3 S i).Job):Qhu S i=some j:=by
 unfold Qhu
 rw [List.find?_range'_eq_some]
 refine ⟨by simpa using hj,by rw [List.mem_range'_1];omega,fun m a b=>by simpa using hm m (by omega) b⟩
theorem Qpe {i:Nat} (hm:∀m,i<m->m<S.length->(Q3 S m).Job≠(Q3 S i).Job):Qhu S i=none:=by
 unfold Qhu
 rw [List.find?_eq_none]
 intro m hmm
 rw [List.mem_range'_1] at hmm
 simpa using hm m (by omega) (by omega)
theorem QsK {i j:Nat} (h:Qhu S i=some j):i<j∧j<S.length∧(Q3 S j).Job=(Q3 S i).Job∧∀m,i<m->m<j->(Q3 S m).Job≠(Q3 S i).Job:=by
 unfold Qhu at h
 rw [List.find?_range'_eq_some] at h
 obtain ⟨a,b,c⟩:=h
 rw [List.mem_range'_1] at b
 exact ⟨by omega,by omega,by simpa using a,fun m h1 h2=>by simpa using c m (by omega) h2⟩
def QgM (S:List Launch) (i:Nat):List Gp:=match Qhu S i with |some k=>[⟨2 * (k:Int)+1,2 * (i:Int)+2, -1⟩] |none=>[]
theorem Qny (S:List Launch) (i:Nat):(QgM S i).length<=1:=by unfold QgM;split <;> simp
theorem Qpa (hl:S.length<=63):K6 (KY t S)=some (Qqi S):=by
 unfold K6
 simp only [show (KY t S).launches=S from rfl]
 refine Ok.eq (Ok.bind ?_)
 show Ok (forS _ S.length 0 []) _
 refine Ok.forS (fun j out=>out.length<=j∧out=(List.range j).flatMap (QgM S)) ⟨by simp,Z⟩ ?_ fun s hs=>⟨_,Z,hs.2⟩
 rintro i out hi ⟨hlen,rfl⟩
 refine Ok.step (by rw [Qq];exact Kr hi) ?_
 generalize hout:(List.range i).flatMap (QgM S)=out at hlen ⊢
 rw [show ((i:Int)+1)=((i+1:Nat):Int) by omega,Q7 (by omega) (by omega)]
 refine QlM (n:=S.length) (fun j l=>l=out∧∀m,i<m->m<j->(Q3 S m).Job≠(Q3 S i).Job) (fun l=>l=out++QgM S i) (fun _=>False) (by omega) ⟨Z,fun m h1 h2=>by omega⟩ ?_ ?_ (fun r hr=>hr.elim) (fun q hq=>⟨_,Z,?_,?_⟩)
 ·rintro k l hk1 hk ⟨rfl,h2⟩
  show Ok (if decide ((k:Int)<(S.length:Int))=true then _ else _) _
  rw [if_pos (by simpa using hk)]
  refine Ok.step (by rw [Qq];exact Kr hk) ?_
  by_cases c:(Q3 S k).Job=(Q3 S i).Job
  ·rw [if_pos (by simpa using c),QD (by simp;omega),Qe1 (by omega),Da (by omega),QeU _ _ _ (by omega) (by omega)]
   refine ⟨_,Z,?_⟩
   show _++_=_++QgM S i
   unfold QgM
   rw [Qk6 (by omega) hk c h2]
  ·rw [if_neg (by simpa using c)]
   refine ⟨_,Z,?_,Z,fun m h3 h4=>?_⟩
   ·show IntKind.i64.wrap ((k:Int)+1)=((k+1:Nat):Int)
    rw [Q7 (by omega) (by omega)];rfl
   ·by_cases e:m=k
    ·subst e;exact c
    ·exact h2 m h3 (by omega)
 ·rintro l ⟨rfl,h2⟩
  show Ok (if decide ((S.length:Int)<(S.length:Int))=true then _ else _) _
  rw [if_neg (by simp)]
  refine ⟨_,Z,_,Z,?_⟩
  show _=_++QgM S i
  unfold QgM
  rw [Qpe h2];simp
 ·have h3:q.2=out++QgM S i:=hq
  show q.2.length<=_
  rw [h3,Xt]
  have:=Qny S i
  omega
 ·have h3:q.2=out++QgM S i:=hq
  show q.2=_
  rw [h3,List.range_succ,List.flatMap_append,hout];simp
end
end Go.Pw
/- -/
namespace Go.Pw
def Qid (f:Nat->Nat->Int) (a b:Nat) (v:Int):Nat->Nat->Int:=fun i j=>if i=a∧j=b then v else f i j
def Rc (m n:Nat) (l:List (List Int)) (f:Nat->Nat->Int):Prop :=
 l.length=m∧∀i,i<m->∃row,l[i]?=some row∧row.length=n∧∀j,j<n->row[j]?=some (f i j)
abbrev Mx (n:Nat) (l:List (List Int)) (f:Nat->Nat->Int):Prop:=Rc n n l f
theorem Rc.row {m n:Nat} {l:List (List Int)} {f:Nat->Nat->Int} (h:Rc m n l f) {i:Nat} (hi:i<m):∃row,idx l (i:Int)=some row∧row.length=n∧∀j,j<n->idx row (j:Int)=some (f i j):=by
 obtain ⟨row,h1,h2,h3⟩:=h.2 i hi
 exact ⟨row,by rw [Qq];exact h1,h2,fun j hj=>by rw [Qq];exact h3 j hj⟩
theorem Rc.congr {m n:Nat} {l:List (List Int)} {f g:Nat->Nat->Int} (h:Rc m n l f) (e:∀i j,i<m->j<n->f i j=g i j):Rc m n l g :=
 ⟨h.1,fun i hi=>let ⟨row,h1,h2,h3⟩:=h.2 i hi;⟨row,h1,h2,fun j hj=>by rw [h3 j hj,e i j hi hj]⟩⟩
theorem Rc.set {m n:Nat} {l:List (List Int)} {f:Nat->Nat->Int} (h:Rc m n l f) {i j:Nat} (hi:i<m) (hj:j<n) {row:List Int} (hr:idx l (i:Int)=some row) (v:Int) :
  ∃row' l',QbN row (j:Int) v=some row'∧QbN l (i:Int) row'=some l'∧Rc m n l' (Qid f i j v):=by
 obtain ⟨r,h1,h2,h3⟩:=h.2 i hi
 rw [Qq,h1] at hr
 cases hr
 refine ⟨row.set j v,l.set i (row.set j v),QaE (by omega),QaE (by rw [h.1];exact hi),by simp [h.1],fun i' hi'=>?_⟩
 by_cases e:i'=i
 ·subst e
  refine ⟨row.set j v,by rw [List.getElem?_set_self];rw [h.1];exact hi,by simp [h2],fun j' hj'=>?_⟩
  by_cases e2:j'=j
  ·subst e2;rw [List.getElem?_set_self (by omega)];simp [Qid]
  ·rw [List.getElem?_set_ne (Ne.symm e2),h3 j' hj'];simp [Qid,e2]
 ·obtain ⟨r',k1,k2,k3⟩:=h.2 i' hi'
  exact ⟨r',by rw [List.getElem?_set_ne (Ne.symm e)];exact k1,k2,fun j' hj'=>by rw [k3 j' hj'];simp [Qid,e]⟩
theorem Rc.push {m n:Nat} {l:List (List Int)} {f g:Nat->Nat->Int} (h:Rc m n l f) {row:List Int} (hl:row.length=n) (hr:∀j,j<n->row[j]?=some (g m j)) (hg:∀i j,i<m->j<n->f i j=g i j):Rc (m+1) n (l++[row]) g:=by
 refine ⟨by simp [h.1],fun i hi=>?_⟩
 by_cases e:i<m
 ·obtain ⟨r',k1,k2,k3⟩:=h.2 i e
  exact ⟨r',by rw [Xs (by rw [h.1];exact e)];exact k1,k2,fun j hj=>by rw [k3 j hj,hg i j e hj]⟩
 ·have:i=m:=by omega
  subst this
  exact ⟨row,by rw [Xy (by rw [h.1];exact Xi _),h.1];simp,hl,hr⟩
/-! ### walks in a graph -/
abbrev Gr:=Nat->Nat->Int->Prop
inductive Wk (E:Gr):Nat->Nat->Int->List Nat->Prop where
 |nil (i:Nat):Wk E i i 0 []
 |cons {i k j:Nat} {c w:Int} {L:List Nat} (h:E i k c) (t:Wk E k j w L):Wk E i j (c+w) (i::L)
section
variable {E E':Gr} {i j k n:Nat} {w w' c:Int} {L L':List Nat}
theorem Wk.one (h:E i j c):Wk E i j c [i]:=by
 have:=Wk.cons h (Wk.nil j)
 rwa [Int.add_zero] at this
theorem Wk.app (h:Wk E i k w L) (h':Wk E k j w' L'):Wk E i j (w+w') (L++L'):=by
 induction h with
 |nil=>simpa using h'
 |cons e _ ih=>rw [Int.add_assoc];exact Wk.cons e (ih h')
theorem Wk.mono (hE:∀i j c,E i j c->E' i j c) (h:Wk E i j w L):Wk E' i j w L:=by
 induction h with
 |nil=>exact .nil _
 |cons e _ ih=>exact .cons (hE _ _ _ e) ih
theorem Wk.head (h:Wk E i j w (k::L)):k=i:=by cases h;rfl
theorem Wk.split (h:Wk E i j w L):∀{x:Nat},x ∈ L->∃w1 w2 L1 L2,Wk E i x w1 L1∧Wk E x j w2 (x::L2)∧w=w1+w2∧L=L1++x::L2:=by
 induction h with
 |nil=>intro x hx;cases hx
 | @cons i k j c w L e t ih =>
  intro x hx
  by_cases hxi:x=i
  ·subst hxi
   exact ⟨0,c+w,[],L, .nil _, .cons e t,by omega,rfl⟩
  ·have hx':x ∈ L:=by simpa [hxi] using hx
   obtain ⟨w1,w2,L1,L2,h1,h2,h3,h4⟩:=ih hx'
   exact ⟨c+w1,w2,i::L1,L2, .cons e h1,h2,by omega,by rw [h4];rfl⟩
def Qqr (E:Gr) (n:Nat):Prop:=∀i j c,E i j c->i<n∧j<n∧ -1099511627776<=c∧c<=1099511627776
theorem Wk.src (hE:Qqr E n) (h:Wk E i j w L):∀x ∈ L,x<n:=by
 induction h with
 |nil=>intro x hx;cases hx
 |cons e _ ih=>intro x hx;rcases Xr.1 hx with rfl |hx;exact (hE _ _ _ e).1;exact ih x hx
theorem Wk.mag (hE:Qqr E n) (h:Wk E i j w L): -((L.length:Int) * 1099511627776)<=w∧w<=(L.length:Int) * 1099511627776:=by
 induction h with
 |nil=>simp
 |cons e _ ih=>have:=hE _ _ _ e;simp only [Xw];omega
theorem Wk.dst (hE:Qqr E n) (h:Wk E i j w L):i<n->j<n:=by
 induction h with
 |nil=>exact id
 |cons e _ ih=>exact fun _=>ih (hE _ _ _ e).2.1
theorem Qon (hn:L.Nodup) (h:∀x ∈ L,x<n):L.length<=n:=by
 obtain ⟨M,hp,_,_⟩:=Qnr L (List.range n) hn List.nodup_range (fun x hx=>by simpa using h x hx)
 have:=hp.length_eq
 simp at this
 omega
end
structure Cl (E:Gr) (n k:Nat) (f:Nat->Nat->Int):Prop where
 ok:Qqr E n
 kn:k<=n
 le:∀i j,i<n->j<n->f i j<=1125899906842624
 bnd:∀i j,i<n->j<n->f i j<1125899906842624-> -562949953421312<=f i j∧f i j<=562949953421312
 diag:∀i,i<n->f i i<=0
 edge:∀i j c,E i j c->f i j<=c
 tri:∀x,x<k->∀i j,i<n->j<n->f i x<1125899906842624->f x j<1125899906842624->f i j<=f i x+f x j
 snd:∀i j,i<n->j<n->f i j<1125899906842624->∃L,Wk E i j (f i j) L∧∀x ∈ L.tail,x<k
section
variable {E E':Gr} {n k:Nat} {f g:Nat->Nat->Int}
theorem Cl.compl (h:Cl E n k f) {i j:Nat} {w:Int} {L:List Nat} (hw:Wk E i j w L):(∀x ∈ L.tail,x<k)->i<n->f i j<=w∧f i j<1125899906842624:=by
 induction hw with
 |nil=>intro _ hi;have:=h.diag _ hi;omega
 | @cons i z j c w L e t ih =>
  intro hL hi
  obtain ⟨_,hz,c1,c2⟩:=h.ok _ _ _ e
  have he:=h.edge _ _ _ e
  cases L with
  |nil=>cases t;omega
  |cons z' L =>
   have:=t.head
   subst this
   have hzk:z'<k:=hL z' (by simp)
   have hj:j<n:=t.dst h.ok hz
   obtain ⟨ih1,ih2⟩:=ih (fun x hx=>hL x (by simpa using List.mem_cons_of_mem _ hx)) hz
   have:=h.tri _ hzk i j hi hj (by omega) ih2
   have:=h.bnd _ _ hz hj ih2
   omega
theorem Cl.cut (h:Cl E n k f) (hd:∀i,i<n->f i i=0) {i j:Nat} {w:Int} {L:List Nat} (hw:Wk E i j w L):(∀x ∈ L.tail,x<k)->i<n ->
  ∃w' L',Wk E i j w' L'∧w'<=w∧L'.Nodup∧∀x ∈ L'.tail,x<k:=by
 induction hw with
 |nil=>intro _ _;exact ⟨0,[], .nil _,Int.le_refl _,List.nodup_nil,by simp⟩
 | @cons i z j c w L e t ih =>
  intro hL hi
  cases L with
  |nil=>exact ⟨c+w,[i], .cons e t,Int.le_refl _,by simp,by simp⟩
  | cons z' L =>
   have:=t.head
   subst this
   have hzk:z'<k:=hL z' (by simp)
   have hz:z'<n:=(h.ok _ _ _ e).2.1
   obtain ⟨w'',L'',h1,h2,h3,h4⟩:=ih (fun x hx=>hL x (by simpa using List.mem_cons_of_mem _ hx)) hz
   have hall:∀x ∈ L'',x<k:=by
    intro x hx
    cases L'' with
    |nil=>cases hx
    |cons y L'' =>
     have:=h1.head
     subst this
     rcases Xr.1 hx with rfl |hx
     ·exact hzk
     ·exact h4 x (by simpa using hx)
   by_cases hiL:i ∈ L''
   ·obtain ⟨w1,w2,L1,L2,k1,k2,k3,k4⟩:=h1.split hiL
    subst k4
    have hc:=(h.compl (Wk.cons e k1) (fun x hx=>hall x (List.mem_append_left _ (by simpa using hx))) hi).1
    rw [hd i hi] at hc
    refine ⟨w2,i::L2,k2,by omega,(XA.1 h3).2.1,fun x hx=>hall x (List.mem_append_right _ (List.mem_cons_of_mem _ (by simpa using hx)))⟩
   ·exact ⟨c+w'',i::L'', .cons e h1,by omega,List.nodup_cons.2 ⟨hiL,h3⟩,fun x hx=>hall x (by simpa using hx)⟩
theorem Cl.fine (h:Cl E n k f) (hd:∀i,i<n->f i i=0) (hn:n<=128) {i j:Nat} (hi:i<n) (hj:j<n) (hf:f i j<1125899906842624): -140737488355328<=f i j∧f i j<=140737488355328:=by
 obtain ⟨L,hw,hL⟩:=h.snd i j hi hj hf
 obtain ⟨w',L',h1,h2,h3,h4⟩:=h.cut hd hw hL hi
 have h5:=(h.compl h1 h4 hi).1
 have h6:=h1.mag h.ok
 have h7:=Qon h3 (h1.src h.ok)
 have:(L'.length:Int)<=128:=by omega
 have h8:(L'.length:Int) * 1099511627776<=140737488355328:=by omega
 omega
theorem Cl.all (h:Cl E n n f) {i j:Nat} {w:Int} {L:List Nat} (hw:Wk E i j w L) (hi:i<n):f i j<=w∧f i j<1125899906842624 :=
 h.compl hw (fun x hx=>hw.src h.ok x (List.mem_of_mem_tail hx)) hi
theorem Cl.uniq (h:Cl E n n f) (h':Cl E n n g) {i j:Nat} (hi:i<n) (hj:j<n):f i j=g i j:=by
 have a:=h.le i j hi hj
 have b:=h'.le i j hi hj
 by_cases hf:f i j<1125899906842624
 ·obtain ⟨L,hw,_⟩:=h.snd i j hi hj hf
  obtain ⟨h1,h2⟩:=h'.all hw hi
  obtain ⟨L',hw',_⟩:=h'.snd i j hi hj h2
  have:=(h.all hw' hi).1
  omega
 ·by_cases hg:g i j<1125899906842624
  ·obtain ⟨L',hw',_⟩:=h'.snd i j hi hj hg
   have:=(h.all hw' hi).2
   omega
  ·omega
theorem Cl.congr (h:Cl E n k f) (e:∀i j,i<n->j<n->f i j=g i j):Cl E n k g where
 ok:=h.ok
 kn:=h.kn
 le i j hi hj:=by rw [<-e i j hi hj];exact h.le i j hi hj
 bnd i j hi hj:=by rw [<-e i j hi hj];exact h.bnd i j hi hj
 diag i hi:=by rw [<-e i i hi hi];exact h.diag i hi
 edge i j c hc:=by rw [<-e i j (h.ok _ _ _ hc).1 (h.ok _ _ _ hc).2.1];exact h.edge i j c hc
 tri x hx i j hi hj:=by
  intro h1 h2
  have hxn:x<n:=XL hx h.kn
  rw [<-e i x hi hxn] at h1 ⊢;rw [<-e x j hxn hj] at h2 ⊢;rw [<-e i j hi hj];exact h.tri x hx i j hi hj h1 h2
 snd i j hi hj:=by rw [<-e i j hi hj];exact h.snd i j hi hj
/-! ### one point more -/
def step (f:Nat->Nat->Int) (k:Nat):Nat->Nat->Int:=fun i j =>
 if f i k<1125899906842624∧f k j<1125899906842624 then min (f i j) (f i k+f k j) else f i j
theorem Qs6 (hk:f k k=0) (j:Nat):step f k k j=f k j:=by unfold step;split <;> omega
theorem Qs7 (hk:f k k=0) (i:Nat):step f k i k=f i k:=by unfold step;split <;> omega
theorem Cl.step (h:Cl E n k f) (hd:∀i,i<n->f i i=0) (hn:n<=128) (hk:k<n):Cl E n (k+1) (step f k):=by
 have fine:∀i j,i<n->j<n->f i j<1125899906842624-> -140737488355328<=f i j∧f i j<=140737488355328:=fun i j hi hj hf=>h.fine hd hn hi hj hf
 have hkk:=hd k hk
 have down:∀i j,Go.Pw.step f k i j<=f i j:=by intro i j;unfold Go.Pw.step;split <;> omega
 refine ⟨h.ok,hk,?_,?_,?_,?_,?_,?_⟩
 ·intro i j hi hj
  have:=h.le i j hi hj
  have:=down i j
  omega
 ·intro i j hi hj hf
  unfold Go.Pw.step at hf ⊢
  split
  ·rename_i hc
   have a:=fine i k hi hk hc.1
   have b:=fine k j hk hj hc.2
   by_cases hij:f i j<1125899906842624
   ·have:=fine i j hi hj hij;omega
   ·have:=h.le i j hi hj;omega
  ·rename_i hc;rw [if_neg hc] at hf;have:=fine i j hi hj hf;omega
 ·intro i hi
  have:=down i i
  have:=h.diag i hi
  omega
 ·intro i j c hc
  have:=h.edge i j c hc
  have:=down i j
  omega
 ·intro x hx i j hi hj h1 h2
  have hxn:x<n:=by omega
  by_cases hxk:x=k
  ·subst hxk
   rw [Qs7 hkk] at h1 ⊢
   rw [Qs6 hkk] at h2 ⊢
   unfold Go.Pw.step
   rw [if_pos ⟨h1,h2⟩]
   omega
  ·have hx':x<k:=by omega
   have t:=h.tri x hx'
   have key:f i k<1125899906842624->f k j<1125899906842624->Go.Pw.step f k i j<=f i k+f k j:=by
    intro a b;unfold Go.Pw.step;rw [if_pos ⟨a,b⟩];omega
   have dij:=down i j
   by_cases c1:f i k<1125899906842624∧f k x<1125899906842624
   ·by_cases c2:f x k<1125899906842624∧f k j<1125899906842624
    ·have e1:Go.Pw.step f k i x=min (f i x) (f i k+f k x):=by unfold Go.Pw.step;rw [if_pos c1]
     have e2:Go.Pw.step f k x j=min (f x j) (f x k+f k j):=by unfold Go.Pw.step;rw [if_pos c2]
     have t0:=t k k hk hk c1.2 c2.1
     have k0:=key c1.1 c2.2
     rw [e1,e2]
     by_cases f1:f i x<1125899906842624
     ·have t1:=t i k hi hk f1 c2.1
      by_cases f2:f x j<1125899906842624
      ·have t2:=t k j hk hj c1.2 f2
       have t3:=t i j hi hj f1 f2
       omega
      ·have b1:=fine x k hxn hk c2.1
       have b2:=fine k j hk hj c2.2
       omega
     ·by_cases f2:f x j<1125899906842624
      ·have t2:=t k j hk hj c1.2 f2
       have b1:=fine i k hi hk c1.1
       have b2:=fine k x hk hxn c1.2
       omega
      ·have b1:=fine i k hi hk c1.1
       have b2:=fine k x hk hxn c1.2
       have b3:=fine x k hxn hk c2.1
       have b4:=fine k j hk hj c2.2
       omega
    ·have e1:Go.Pw.step f k i x=min (f i x) (f i k+f k x):=by unfold Go.Pw.step;rw [if_pos c1]
     have e2:Go.Pw.step f k x j=f x j:=by unfold Go.Pw.step;rw [if_neg c2]
     rw [e2] at h2
     have t2:=t k j hk hj c1.2 h2
     have b2:=fine k x hk hxn c1.2
     have b3:=fine x j hxn hj h2
     have k0:=key c1.1 (by omega)
     rw [e1,e2]
     by_cases f1:f i x<1125899906842624
     ·have t3:=t i j hi hj f1 h2;omega
     ·have b1:=fine i k hi hk c1.1
      omega
   ·have e1:Go.Pw.step f k i x=f i x:=by unfold Go.Pw.step;rw [if_neg c1]
    rw [e1] at h1 ⊢
    by_cases c2:f x k<1125899906842624∧f k j<1125899906842624
    ·have e2:Go.Pw.step f k x j=min (f x j) (f x k+f k j):=by unfold Go.Pw.step;rw [if_pos c2]
     have t1:=t i k hi hk h1 c2.1
     have b1:=fine i x hi hxn h1
     have b2:=fine x k hxn hk c2.1
     have k0:=key (by omega) c2.2
     rw [e2]
     by_cases f2:f x j<1125899906842624
     ·have t3:=t i j hi hj h1 f2;omega
     ·have b3:=fine k j hk hj c2.2
      omega
    ·have e2:Go.Pw.step f k x j=f x j:=by unfold Go.Pw.step;rw [if_neg c2]
     rw [e2] at h2 ⊢
     have t3:=t i j hi hj h1 h2
     omega
 ·intro i j hi hj hf
  unfold Go.Pw.step at hf ⊢
  split
  ·rename_i hc
   rw [if_pos hc] at hf
   by_cases hm:f i j<=f i k+f k j
   ·have e:min (f i j) (f i k+f k j)=f i j:=by omega
    rw [e] at hf ⊢
    obtain ⟨L,h1,h2⟩:=h.snd i j hi hj hf
    exact ⟨L,h1,fun x hx=>by have:=h2 x hx;omega⟩
   ·have e:min (f i j) (f i k+f k j)=f i k+f k j:=by omega
    rw [e]
    obtain ⟨L1,h1,h2⟩:=h.snd i k hi hk hc.1
    obtain ⟨L2,h3,h4⟩:=h.snd k j hk hj hc.2
    refine ⟨L1++L2,h1.app h3,fun x hx=>?_⟩
    have hall2:∀x ∈ L2,x<k+1:=by
     intro x hx
     cases L2 with
     |nil=>cases hx
     |cons y L2 =>
      have:=h3.head
      subst this
      rcases Xr.1 hx with rfl |hx
      ·omega
      ·have:=h4 x (by simpa using hx);omega
    cases L1 with
    |nil=>exact hall2 x (List.mem_of_mem_tail (by simpa using hx))
    |cons y L1 =>
     simp only [List.cons_append,List.tail_cons,Xn] at hx
     rcases hx with hx |hx
     ·have:=h2 x (by simpa using hx);omega
     ·exact hall2 x hx
  ·rename_i hc
   rw [if_neg hc] at hf
   obtain ⟨L,h1,h2⟩:=h.snd i j hi hj hf
   exact ⟨L,h1,fun x hx=>by have:=h2 x hx;omega⟩
/-! ### one edge more -/
def Qno (E:Gr) (a b:Nat) (m:Int):Gr:=fun i j c=>E i j c∨(i=a∧j=b∧c=m)
def more (f:Nat->Nat->Int) (a b:Nat) (m:Int):Nat->Nat->Int:=fun i j =>
 if f i a<1125899906842624∧f b j<1125899906842624 then min (f i j) (f i a+m+f b j) else f i j
theorem QsM {a b:Nat} {m:Int} (hba:f b a<1125899906842624->0<=f b a+m) (j:Nat):more f a b m b j=f b j:=by
 unfold more;split
 ·rename_i h;have:=hba h.1;omega
 ·rfl
theorem QsN {a b:Nat} {m:Int} (hba:f b a<1125899906842624->0<=f b a+m) (i:Nat):more f a b m i a=f i a:=by
 unfold more;split
 ·rename_i h;have:=hba h.2;omega
 ·rfl
theorem Cl.more (h:Cl E n n f) (hd:∀i,i<n->f i i=0) (hn:n<=128) {a b:Nat} {m:Int} (ha:a<n) (hb:b<n) (hm1: -1099511627776<=m) (hm2:m<=1099511627776)
  (hba:f b a<1125899906842624->0<=f b a+m):Cl (Qno E a b m) n n (more f a b m)∧∀i,i<n->more f a b m i i=0:=by
 have fine:∀i j,i<n->j<n->f i j<1125899906842624-> -140737488355328<=f i j∧f i j<=140737488355328:=fun i j hi hj hf=>h.fine hd hn hi hj hf
 have down:∀i j,Go.Pw.more f a b m i j<=f i j:=by intro i j;unfold Go.Pw.more;split <;> omega
 have haa:=hd a ha
 have hbb:=hd b hb
 have hdiag:∀i,i<n->Go.Pw.more f a b m i i=0:=by
  intro i hi
  have h0:=hd i hi
  unfold Go.Pw.more
  split
  ·rename_i hc
   have:=h.tri i hi b a hb ha hc.2 hc.1
   have b1:=fine i a hi ha hc.1
   have b2:=fine b i hb hi hc.2
   have:=hba (by omega)
   omega
  ·exact h0
 refine ⟨⟨?_,Xi _,?_,?_,?_,?_,?_,?_⟩,hdiag⟩
 ·rintro i j c (hc |⟨rfl,rfl,rfl⟩)
  ·exact h.ok _ _ _ hc
  ·exact ⟨ha,hb,hm1,hm2⟩
 ·intro i j hi hj
  have:=h.le i j hi hj
  have:=down i j
  omega
 ·intro i j hi hj hf
  unfold Go.Pw.more at hf ⊢
  split
  ·rename_i hc
   rw [if_pos hc] at hf
   have p:=fine i a hi ha hc.1
   have q:=fine b j hb hj hc.2
   by_cases hij:f i j<1125899906842624
   ·have:=fine i j hi hj hij;omega
   ·have:=h.le i j hi hj;omega
  ·rename_i hc;rw [if_neg hc] at hf;have:=fine i j hi hj hf;omega
 ·intro i hi;rw [hdiag i hi];exact Int.le_refl _
 ·rintro i j c (hc |⟨rfl,rfl,rfl⟩)
  ·have:=h.edge i j c hc
   have:=down i j
   omega
  ·unfold Go.Pw.more
   rw [if_pos (by omega)]
   omega
 ·intro x hx i j hi hj h1 h2
  have dij:=down i j
  have key:f i a<1125899906842624->f b j<1125899906842624->Go.Pw.more f a b m i j<=f i a+m+f b j:=by
   intro p q;unfold Go.Pw.more;rw [if_pos ⟨p,q⟩];omega
  have t:=h.tri x hx
  by_cases c1:f i a<1125899906842624∧f b x<1125899906842624
  ·have e1:Go.Pw.more f a b m i x=min (f i x) (f i a+m+f b x):=by unfold Go.Pw.more;rw [if_pos c1]
   have b1:=fine i a hi ha c1.1
   have b2:=fine b x hb hx c1.2
   by_cases c2:f x a<1125899906842624∧f b j<1125899906842624
   ·have e2:Go.Pw.more f a b m x j=min (f x j) (f x a+m+f b j):=by unfold Go.Pw.more;rw [if_pos c2]
    have b3:=fine x a hx ha c2.1
    have b4:=fine b j hb hj c2.2
    have t0:=t b a hb ha c1.2 c2.1
    have:=hba (by omega)
    have k0:=key c1.1 c2.2
    rw [e1,e2]
    by_cases f1:f i x<1125899906842624
    ·have t1:=t i a hi ha f1 c2.1
     by_cases f2:f x j<1125899906842624
     ·have t2:=t b j hb hj c1.2 f2
      have t3:=t i j hi hj f1 f2
      omega
     ·omega
    ·by_cases f2:f x j<1125899906842624
     ·have t2:=t b j hb hj c1.2 f2
      omega
     ·omega
   ·have e2:Go.Pw.more f a b m x j=f x j:=by unfold Go.Pw.more;rw [if_neg c2]
    rw [e2] at h2
    have t2:=t b j hb hj c1.2 h2
    have b3:=fine x j hx hj h2
    have k0:=key c1.1 (by omega)
    rw [e1,e2]
    by_cases f1:f i x<1125899906842624
    ·have t3:=t i j hi hj f1 h2;omega
    ·omega
  ·have e1:Go.Pw.more f a b m i x=f i x:=by unfold Go.Pw.more;rw [if_neg c1]
   rw [e1] at h1 ⊢
   by_cases c2:f x a<1125899906842624∧f b j<1125899906842624
   ·have e2:Go.Pw.more f a b m x j=min (f x j) (f x a+m+f b j):=by unfold Go.Pw.more;rw [if_pos c2]
    have t1:=t i a hi ha h1 c2.1
    have b1:=fine i x hi hx h1
    have b2:=fine x a hx ha c2.1
    have b4:=fine b j hb hj c2.2
    have k0:=key (by omega) c2.2
    rw [e2]
    by_cases f2:f x j<1125899906842624
    ·have t3:=t i j hi hj h1 f2;omega
    ·omega
   ·have e2:Go.Pw.more f a b m x j=f x j:=by unfold Go.Pw.more;rw [if_neg c2]
    rw [e2] at h2 ⊢
    have t3:=t i j hi hj h1 h2
    omega
 ·intro i j hi hj hf
  have QgO:∀i j,i<n->j<n->f i j<1125899906842624->∃L,Wk (Qno E a b m) i j (f i j) L:=by
   intro i j hi hj hf
   obtain ⟨L,h1,_⟩:=h.snd i j hi hj hf
   exact ⟨L,h1.mono fun _ _ _ e=> .inl e⟩
  have ok':Qqr (Qno E a b m) n:=by
   rintro i j c (hc |⟨rfl,rfl,rfl⟩)
   ·exact h.ok _ _ _ hc
   ·exact ⟨ha,hb,hm1,hm2⟩
  suffices ∃L,Wk (Qno E a b m) i j (Go.Pw.more f a b m i j) L from let ⟨L,hL⟩:=this;⟨L,hL,fun x hx=>hL.src ok' x (List.mem_of_mem_tail hx)⟩
  unfold Go.Pw.more at hf ⊢
  split
  ·rename_i hc
   rw [if_pos hc] at hf
   by_cases hm:f i j<=f i a+m+f b j
   ·have e:min (f i j) (f i a+m+f b j)=f i j:=by omega
    rw [e] at hf ⊢
    exact QgO i j hi hj hf
   ·have e:min (f i j) (f i a+m+f b j)=f i a+m+f b j:=by omega
    rw [e]
    obtain ⟨L1,h1⟩:=QgO i a hi ha hc.1
    obtain ⟨L2,h2⟩:=QgO b j hb hj hc.2
    exact ⟨_,(h1.app (Wk.one (.inr ⟨rfl,rfl,rfl⟩))).app h2⟩
  ·rename_i hc
   rw [if_neg hc] at hf
   exact QgO i j hi hj hf
end
abbrev MM:=Nat->Nat->Int
theorem Qqw {c:MM} {i j:Nat} {v:Int}:Qid c i j v i j=v:=by simp [Qid]
end Go.Pw
/- -/
set_option linter.unusedSectionVars false
namespace Go.Pw
/-! ### the reference's distances -/
def GQ (E:List Gp):Gr:=fun i j c=>∃b ∈ E,b.A=(i:Int)∧b.B=(j:Int)∧b.Most=c
def Rt (n:Nat) (b:Gp):Prop:=0<=b.A∧b.A<n∧0<=b.B∧b.B<n∧ -1099511627776<=b.Most∧b.Most<=1099511627776
theorem GQ.ok {n:Nat} {E:List Gp} (h:∀b ∈ E,Rt n b):Qqr (GQ E) n:=by
 rintro i j c ⟨b,hb,h1,h2,h3⟩
 obtain ⟨a1,a2,a3,a4,a5,a6⟩:=h b hb
 omega
structure Fst (n:Nat) (E:List Gp) (f:MM):Prop where
 le:∀i j,i<n->j<n->f i j<=1125899906842624
 small:∀i j,i<n->j<n->f i j<1125899906842624-> -1099511627776<=f i j∧f i j<=1099511627776
 diag:∀i,i<n->f i i<=0
 edge:∀i j c,GQ E i j c->f i j<=c
 wk:∀i j,i<n->j<n->f i j<1125899906842624->(i=j∧f i j=0)∨GQ E i j (f i j)
theorem Fst.cl {n:Nat} {E:List Gp} {f:MM} (h:Fst n E f) (hE:∀b ∈ E,Rt n b):Cl (GQ E) n 0 f where
 ok:=GQ.ok hE
 kn:=X7 _
 le:=h.le
 bnd i j hi hj hf:=by have:=h.small i j hi hj hf;omega
 diag:=h.diag
 edge:=h.edge
 tri x hx:=by omega
 snd i j hi hj hf:=by
  rcases h.wk i j hi hj hf with ⟨rfl,h0⟩ |h1
  ·rw [h0];exact ⟨[], .nil _,by simp⟩
  ·exact ⟨[i], .one h1,by simp⟩
theorem Fst.add {n:Nat} {E:List Gp} {f:MM} (h:Fst n E f) {b:Gp} (hb:Rt n b) {i j:Nat} (hi:b.A=(i:Int)) (hj:b.B=(j:Int)):Fst n (E++[b]) (Qid f i j (min (f i j) b.Most)):=by
 obtain ⟨a1,a2,a3,a4,a5,a6⟩:=hb
 refine ⟨?_,?_,?_,?_,?_⟩
 ·intro i' j' hi' hj'
  have:=h.le i' j' hi' hj'
  unfold Qid;split
  ·rename_i e;obtain ⟨rfl,rfl⟩:=e;omega
  ·exact this
 ·intro i' j' hi' hj' hf
  have:=h.small i' j' hi' hj'
  unfold Qid at hf ⊢;split
  ·rename_i e;rw [if_pos e] at hf;obtain ⟨rfl,rfl⟩:=e
   by_cases q:f i' j'<1125899906842624
   ·have:=this q;omega
   ·omega
  ·rename_i e;rw [if_neg e] at hf;exact this hf
 ·intro i' hi'
  have:=h.diag i' hi'
  unfold Qid;split
  ·rename_i e;obtain ⟨rfl,e2⟩:=e;rw [<-e2];omega
  ·exact this
 ·rintro i' j' c ⟨b',hb',k1,k2,k3⟩
  rcases Xn.1 hb' with hb' |hb'
  ·have:=h.edge i' j' c ⟨b',hb',k1,k2,k3⟩
   unfold Qid;split
   ·rename_i e;obtain ⟨rfl,rfl⟩:=e;omega
   ·exact this
  ·have:b'=b:=by simpa using hb'
   subst this
   have e1:i'=i:=by omega
   have e2:j'=j:=by omega
   subst e1;subst e2
   rw [Qqw]
   omega
 ·intro i' j' hi' hj' hf
  have old:f i' j'<1125899906842624->(i'=j'∧f i' j'=0)∨GQ (E++[b]) i' j' (f i' j'):=fun q=>(h.wk i' j' hi' hj' q).imp (fun h=>h) fun ⟨b',hb',k⟩=>⟨b',List.mem_append_left _ hb',k⟩
  unfold Qid at hf ⊢;split
  ·rename_i e;rw [if_pos e] at hf;obtain ⟨rfl,rfl⟩:=e
   by_cases q:f i' j'<=b.Most
   ·have e:min (f i' j') b.Most=f i' j':=by omega
    rw [e] at hf ⊢;exact old hf
   ·have e:min (f i' j') b.Most=b.Most:=by omega
    rw [e]
    exact .inr ⟨b,by simp,hi,hj,Z⟩
  ·rename_i e;rw [if_neg e] at hf;exact old hf
def QdP:MM:=fun i j=>if i=j then 0 else 1125899906842624
theorem Fst.nil (n:Nat):Fst n [] QdP:=by
 refine ⟨?_,?_,?_,?_,?_⟩
 ·intro i j _ _;unfold QdP;split <;> omega
 ·intro i j _ _;unfold QdP;split <;> omega
 ·intro i _;unfold QdP;rw [if_pos rfl];omega
 ·rintro i j c ⟨b,hb,_⟩;cases hb
 ·intro i j _ _ hf;unfold QdP at hf ⊢;split
  ·rename_i e;exact .inl ⟨e,rfl⟩
  ·rename_i e;rw [if_neg e] at hf;omega
theorem QqW {n:Nat} {b:Gp} (hb:Rt n b):∃i j:Nat,b.A=(i:Int)∧b.B=(j:Int)∧i<n∧j<n:=by
 obtain ⟨a1,a2,a3,a4,a5,a6⟩:=hb
 exact ⟨b.A.toNat,b.B.toNat,by omega,by omega,by omega,by omega⟩
/-! ### the network -/
theorem Cl.congrE {E E':Gr} {n k:Nat} {f:MM} (h:Cl E n k f) (e:∀i j c,E i j c↔E' i j c):Cl E' n k f:=by
 have:E=E':=by funext i j c;exact propext (e i j c)
 rw [<-this];exact h
theorem Qre {E:List Gp} {b:Gp} {a c:Nat} (ha:b.A=(a:Int)) (hc:b.B=(c:Int)) (i j:Nat) (m:Int):Qno (GQ E) a c b.Most i j m↔GQ (E++[b]) i j m:=by
 constructor
 ·rintro (⟨b',h1,h2⟩ |⟨rfl,rfl,rfl⟩)
  ·exact ⟨b',List.mem_append_left _ h1,h2⟩
  ·exact ⟨b,by simp,ha,hc,Z⟩
 ·rintro ⟨b',h1,h2,h3,h4⟩
  rcases Xn.1 h1 with h1 |h1
  ·exact .inl ⟨b',h1,h2,h3,h4⟩
  ·have:b'=b:=by simpa using h1
   subst this
   exact .inr ⟨by omega,by omega,h4.symm⟩
def Net (n:Nat) (E:List Gp) (d:List (List Int)):Prop:=(∀b ∈ E,Rt n b)∧∃f,Mx n d f∧Cl (GQ E) n n f∧∀i,i<n->f i i=0
theorem QwP {n:Nat} (hn0:0<n) (hn:n<=128):Ok (Qe7 (n:Int)) (fun r=>∃d,r=(⟨d⟩,none)∧Mx n d QdP):=by
 unfold Qe7
 rw [if_neg (by simp;omega)]
 refine Ok.must (decide_eq_true (by omega)) (Ok.bind ?_)
 rw [XD]
 refine Ok.forS (fun i out=>Rc i n out QdP) ⟨Z,fun i hi=>by omega⟩ ?_ (fun d hd=>Ok.ret ⟨d,Z,hd⟩)
 intro i out hi hout
 have hmk:mk 8 (0:Int) (n:Int)=some (List.replicate n 0):=by unfold mk;rw [if_pos (by omega)];simp
 refine Ok.step hmk (Ok.bind ?_)
 rw [List.length_replicate]
 refine Ok.forS (fun j l=>l.length=n∧∀j',j'<n->l[j']?=some (if j'<j then QdP i j' else 0)) ⟨by simp,fun j' hj'=>by simp [hj']⟩ ?_ ?_
 ·rintro j l hj ⟨hl,hc⟩
  refine Ok.bind (Jl (fun h=>?_) fun h=>?_)
  ·refine Ok.step (by rw [Qq,hc j hj]) (Ok.step (QaE (by omega)) (Ok.ret (Ok.ret ⟨by simp [hl],fun j' hj'=>?_⟩)))
   by_cases e:j'=j
   ·subst e
    rw [List.getElem?_set_self (by omega),if_pos (by omega)]
    have:¬(i=j'):=fun e=>by subst e;simp at h
    simp [QdP,this]
   ·rw [List.getElem?_set_ne (Ne.symm e),hc j' hj']
    have:(j'<j)↔(j'<j+1):=by omega
    simp only [this]
  ·refine Ok.ret (Ok.ret ⟨hl,fun j' hj'=>?_⟩)
   rw [hc j' hj']
   by_cases e:j'=j
   ·subst e
    have h9:(j':Int)=i:=by simpa using h
    have:i=j':=by omega
    simp [QdP,this]
   ·have:(j'<j)↔(j'<j+1):=by omega
    simp only [this]
 ·rintro l ⟨hl,hc⟩
  have happ:app 24 out [l]=some (out++[l]):=by unfold app;rw [if_pos];rw [hout.1];simp;omega
  refine Ok.step happ (Ok.ret (hout.push hl (fun j hj=>?_) fun _ _ _ _=>rfl))
  rw [hc j hj,if_pos hj]
theorem Net.new {n:Nat} {d:List (List Int)} (h:Mx n d QdP):Net n [] d :=
 ⟨fun b hb=>(by cases hb),QdP,h,by
  have:=(Fst.nil n).cl (fun b hb=>by cases hb)
  refine ⟨this.ok,Xi _,this.le,this.bnd,this.diag,this.edge,?_,?_⟩
  ·intro x hx i j hi hj h1 h2
   unfold QdP at h1 h2 ⊢
   by_cases e1:i=x
   ·by_cases e2:x=j
    ·subst e1;subst e2;simp
    ·rw [if_neg e2] at h2;omega
   ·rw [if_neg e1] at h1;omega
  ·intro i j hi hj hf
   obtain ⟨L,hL,hx⟩:=this.snd i j hi hj hf
   exact ⟨L,hL,fun x h=>by have:=hx x h;omega⟩,fun i _=>by simp [QdP]⟩
theorem Qgt {d:List (List Int)} {p:Int}:QI ⟨d⟩ p=decide (0<=p∧p<(d.length:Int)):=by
 unfold QI
 simp
theorem QwS {n:Nat} (hn:n<=128) {E:List Gp} {d:List (List Int)} (h:Net n E d) {b:Gp} (hb:Rt n b) (hno:∀i w L,i<n->Wk (GQ (E++[b])) i i w L->¬w<0):Ok (J8 ⟨d⟩ b) (fun r=>∃d',r=(none,d')∧Net n (E++[b]) d'):=by
 obtain ⟨hE,f,hd,hcl,hdi⟩:=h
 unfold J8
 have hz:Ok (if (!QI ⟨d⟩ b.A)=true then some true else if (!QI ⟨d⟩ b.B)=true then some true else if decide (b.Most< -1099511627776)=true then some true else some (decide (1099511627776<b.Most)))
   (fun z=>z=true↔¬Rt n b):=by
  rw [Qgt,Qgt]
  unfold Rt
  have hl:d.length=n:=hd.1
  refine Jl (fun h=>Ok.ret ?_) fun h=>Jl (fun h=>Ok.ret ?_) fun h=>Jl (fun h=>Ok.ret ?_) fun h=>Ok.ret ?_ <;> simp [hl] at * <;> omega
 refine Ok.bind (hz.mono fun z hz=>Jl (fun h=>absurd hb (hz.1 h)) fun h=>?_)
 obtain ⟨a,c,ha,hc,han,hcn⟩:=QqW hb
 have hb':=hb
 obtain ⟨_,_,_,_,m1,m2⟩:=hb'
 have fine:∀i j,i<n->j<n->f i j<1125899906842624-> -140737488355328<=f i j∧f i j<=140737488355328:=fun i j hi hj hf=>hcl.fine hdi hn hi hj hf
 obtain ⟨rowc,c1,c2,c3⟩:=hd.row hcn
 rw [hc,ha]
 refine Ok.step c1 (Ok.step (c3 a han) (Jl (fun h=>?_) fun h=>?_))
 ·simp only [Xl,Xz] at h
  have:=fine c a hcn han h.1
  rw [wrap_i64 (by omega) (by omega)] at h
  obtain ⟨L,hL,_⟩:=hcl.snd c a hcn han h.1
  exact absurd h.2 (hno c (f c a+b.Most) _ hcn ((hL.mono fun i j m ⟨b',h1,h2⟩=>⟨b',List.mem_append_left _ h1,h2⟩).app (Wk.one ⟨b,by simp,ha,hc,Z⟩)))
 ·have hba:f c a<1125899906842624->0<=f c a+b.Most:=by
   intro q
   have:=fine c a hcn han q
   rw [wrap_i64 (by omega) (by omega)] at h
   simp only [Bool.and_eq_false_iff,Xx] at h
   omega
  obtain ⟨hm,hmd⟩:=hcl.more hdi hn han hcn m1 m2 hba
  refine Ok.bind ?_
  rw [hd.1]
  refine Ok.forS (fun i l=>Mx n l (fun i' j'=>if i'<i then more f a c b.Most i' j' else f i' j')) (hd.congr fun i j _ _=>by simp) ?_ ?_
  ·intro i l hi hl
   have rd:∀{l:List (List Int)} {P:Nat->Nat->Prop} [∀i j,Decidable (P i j)],Mx n l (fun i' j'=>if P i' j' then more f a c b.Most i' j' else f i' j')->(∃row,idx l (c:Int)=some row∧row.length=n∧∀j,j<n->idx row (j:Int)=some (f c j)) ∧
     ∃row,idx l (i:Int)=some row∧row.length=n∧idx row (a:Int)=some (f i a)∧∀j,j<n->¬P i j->idx row (j:Int)=some (f i j):=by
    intro l P _ hl
    obtain ⟨r1,a1,a2,a3⟩:=hl.row hcn
    obtain ⟨r2,b1,b2,b3⟩:=hl.row hi
    refine ⟨⟨r1,a1,a2,fun j hj=>?_⟩,r2,b1,b2,?_,fun j hj hp=>?_⟩
    ·rw [a3 j hj];split
     ·rw [QsM hba]
     ·rfl
    ·rw [b3 a han];split
     ·rw [QsN hba]
     ·rfl
    ·rw [b3 j hj,if_neg hp]
   obtain ⟨⟨rc,p1,p2,p3⟩,ri,q1,q2,q3,q4⟩:=rd (P:=fun i' _=>i'<i) hl
   refine Ok.step q1 (Ok.step q3 (Jl (fun h=>Ok.ret (hl.congr ?_)) fun h=>?_))
   ·intro i' j' hi' hj'
    have h:=QjH h
    by_cases e:i'=i
    ·subst e
     rw [if_neg (by omega),if_pos (by omega)]
     unfold more
     rw [if_neg (by omega)]
    ·have:(i'<i)↔(i'<i+1):=by omega
     simp only [this]
   ·have hia:f i a<1125899906842624:=by have:=QiE h;omega
    refine Ok.step p1 (Ok.must (decide_eq_true (by omega)) (Ok.bind ?_))
    rw [p2]
    refine Ok.forS (fun j l=>Mx n l (fun i' j'=>if i'<i∨(i'=i∧j'<j) then more f a c b.Most i' j' else f i' j')) (hl.congr fun i' j' _ _=>by simp) ?_ ?_
    ·intro j l hj hl
     obtain ⟨⟨rc,p1,p2,p3⟩,ri,q1,q2,q3,q4⟩:=rd (P:=fun i' j'=>i'<i∨(i'=i∧j'<j)) hl
     refine Ok.step p1 (Ok.step (p3 j hj) (Ok.bind (Jl (fun h=>?_) fun h=>?_)))
     ·have hcj:=QjH h
      obtain ⟨row',l',h4,h5,h6⟩:=hl.set hi hj q1 (more f a c b.Most i j)
      refine Ok.step q1 (Ok.step (q4 j hj (by omega)) (Ok.step q3 (Ok.step ?_ (Ok.step h5 (Ok.ret (Ok.ret (h6.congr ?_)))))))
      ·rw [<-h4]
       congr 1
       have r1:=fine i a hi han hia
       have r2:=fine c j hcn hj hcj
       rw [wrap_i64 (n:=f i a+b.Most) (by omega) (by omega),wrap_i64 (by omega) (by omega)]
       unfold more
       rw [if_pos ⟨hia,hcj⟩]
      ·intro i' j' hi' hj'
       unfold Qid
       split
       ·rename_i e;obtain ⟨rfl,rfl⟩:=e;rw [if_pos (by omega)]
       ·rename_i e
        have:(i'<i∨(i'=i∧j'<j))↔(i'<i∨(i'=i∧j'<j+1)):=by omega
        simp only [this]
     ·have hcj:=QiE h
      refine Ok.ret (Ok.ret (hl.congr ?_))
      intro i' j' hi' hj'
      by_cases e:i'=i∧j'=j
      ·obtain ⟨rfl,rfl⟩:=e
       rw [if_neg (by omega),if_pos (by omega)]
       unfold more
       rw [if_neg (by omega)]
      ·have:(i'<i∨(i'=i∧j'<j))↔(i'<i∨(i'=i∧j'<j+1)):=by omega
       simp only [this]
    ·intro l hl
     refine Ok.ret (hl.congr ?_)
     intro i' j' hi' hj'
     have:(i'<i∨(i'=i∧j'<n))↔(i'<i+1):=by omega
     simp only [this]
  ·intro l hl
   refine Ok.ret (⟨_,Z,?_,more f a c b.Most,hl.congr fun i j hi _=>by rw [if_pos hi],hm.congrE (Qre ha hc),hmd⟩)
   intro b' hb'
   rcases Xn.1 hb' with h |h
   ·exact hE b' h
   ·have:b'=b:=by simpa using h
    rw [this];exact hb
section
variable {n:Nat} {d:List (List Int)} {f:MM} {E:List Gp}
theorem QiQ (hd:Mx n d f) {a b:Nat} (ha:a<n) (hb:b<n):Kg ⟨d⟩ (a:Int) (b:Int)=some (f a b,none):=by
 unfold Kg
 rw [Qgt,Qgt,if_neg (by simp [hd.1];omega)]
 obtain ⟨row,h1,h2,h3⟩:=hd.row ha
 simp only [h1,h3 b hb,Xa]
theorem Qo2 (hd:Mx n d f) (hn:0<n) {p:Nat} (hp:p<n) (hf:f p 0<1125899906842624∧ -9007199254740992<=f p 0) :
  KE ⟨d⟩ (p:Int)=some (-(f p 0),none):=by
 unfold KE
 have:=QiQ hd hp hn
 rw [Int.natCast_zero] at this
 simp only [this,Xa,J5,Option.isSome_none,Xf,if_false]
 rw [if_neg (by simpa using hf.1),wrap_i64 (by omega) (by omega),Int.zero_sub]
theorem Qrd (hd:Mx n d f) (hn:0<n) {p:Nat} (hp:p<n) (hf:f 0 p<1125899906842624) :
  Ym ⟨d⟩ (p:Int)=some (f 0 p,none):=by
 unfold Ym
 have:=QiQ hd hn hp
 rw [Int.natCast_zero] at this
 simp only [this,Xa,J5,Option.isSome_none,Xf,if_false]
 rw [if_neg (by simpa using hf)]
end
section
variable {n:Nat} {E E':List Gp} {d:List (List Int)} {b:Gp}
theorem GQ.sub (h:∀b ∈ E,b ∈ E'):∀i j c,GQ E i j c->GQ E' i j c:=fun _ _ _ ⟨b,hb,k⟩=>⟨b,h b hb,k⟩
end
section
variable {n:Nat} {E:List Gp} {d:List (List Int)} {f:MM} {t:Nat->Int}
def Sat (E:List Gp) (t:Nat->Int):Prop:=∀i j c,GQ E i j c->t j - t i<=c
theorem Sat.walk (h:Sat E t) {i j:Nat} {w:Int} {L:List Nat} (hw:Wk (GQ E) i j w L):t j - t i<=w:=by
 induction hw with
 |nil=>omega
 |cons e _ ih=>have:=h _ _ _ e;omega
theorem QuW (hn:n<=128) (h:Net n E d) {b:Gp} (hb:Rt n b) (hs:Sat (E++[b]) t):Ok (J8 ⟨d⟩ b) (fun r=>∃d',r=(none,d')∧Net n (E++[b]) d'):=by
 exact QwS hn h hb fun i w L hi hw hlt=>by have:=hs.walk hw;omega
theorem Sat.snoc (h:Sat E t) {b:Gp} {i j:Nat} (hi:b.A=(i:Int)) (hj:b.B=(j:Int)) (hb:t j - t i<=b.Most):Sat (E++[b]) t:=by
 rintro i' j' c ⟨b',hb',e1,e2,e3⟩
 rcases Xn.1 hb' with hb' |hb'
 ·exact h _ _ _ ⟨b',hb',e1,e2,e3⟩
 ·have:b'=b:=by simpa using hb'
  subst this
  have:i'=i:=by omega
  have:j'=j:=by omega
  subst i';subst j'
  omega
theorem Sat.le (h:Sat E t) (hcl:Cl (GQ E) n n f) {i j:Nat} (hi:i<n) (hj:j<n) (hf:f i j<1125899906842624):t j - t i<=f i j:=by
 obtain ⟨L,hL,_⟩:=hcl.snd i j hi hj hf
 exact h.walk hL
end
end Go.Pw
