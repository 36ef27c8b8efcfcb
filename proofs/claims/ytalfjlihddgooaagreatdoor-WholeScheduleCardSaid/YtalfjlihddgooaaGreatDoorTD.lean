/- -/
import Derived.Test.YtalfjlihddgooaaGreatDoorBa
import Derived.Test.YtalfjlihddgooaaGreatDoorTC
set_option linter.unusedVariables false
set_option linter.unusedSimpArgs false
namespace Go.Pw
section
variable {t:Ge} {L S:List Launch}
theorem Qth (t:Ge) (S:List Launch):(Qo8 t S).length<=S.length * 3:=by
 have:=Qdl (fun i:Nat=>[(⟨2 * (i:Int)+1,0,0⟩:Gp),⟨2 * (i:Int)+2,2 * (i:Int)+1, -(jb t (Q3 S i)).Duration⟩,⟨2 * (i:Int)+1,2 * (i:Int)+2,(jb t (Q3 S i)).Duration⟩]) 3 (List.range S.length) (fun _ _=>by simp)
 rw [XK] at this
 exact this
theorem QsI (t:Ge) (S:List Launch):(Qqk t S).length<=S.length * (S.length * 4):=by
 have:=Qdl (fun i=>(List.range' (i+1) (S.length - (i+1))).flatMap fun k=>Qj5 t S i k) (S.length * 4) (List.range S.length) (fun i hi=>by
  have:=Qdl (fun k=>Qj5 t S i k) 4 (List.range' (i+1) (S.length - (i+1))) fun k _=>QsH t S i k
  rw [List.length_range'] at this
  exact X0 this (Nat.mul_le_mul_right 4 (by omega)))
 rw [XK] at this
 exact this
theorem QsF (t:Ge) (S:List Launch):(Qqj t S).length<=S.length * (S.length * 2):=by
 have:=Qdl (fun i=>(List.range S.length).flatMap fun k=>if k=i then [] else Qei t S i (k,false)++Qei t S i (k,true)) (S.length * 2) (List.range S.length) (fun i hi=>by
  have:=Qdl (fun k=>if k=i then [] else Qei t S i (k,false)++Qei t S i (k,true)) 2 (List.range S.length) fun k _=>by
   split
   ·simp
   ·rw [Xt];have:=Qkg t S i (k,false);have:=Qkg t S i (k,true);omega
  rw [XK] at this
  exact this)
 rw [XK] at this
 exact this
theorem QpE (S:List Launch):Qqi S=(List.range S.length).flatMap (QgM S):=rfl
theorem QsD (S:List Launch):(Qqi S).length<=S.length * 1:=by
 rw [QpE]
 have:=Qdl (QgM S) 1 (List.range S.length) (fun i _=>Qny S i)
 rw [XK] at this
 exact this
theorem QwR (hl:S.length<=63):(BD t S).length<=100000:=by
 have h1:=Qth t S
 have h2:=QsI t S
 have h3:=QsF t S
 have h4:=QsD S
 have h5:S.length * (S.length * 4)<=63 * (63 * 4):=Nat.mul_le_mul hl (Nat.mul_le_mul_right 4 hl)
 have h6:S.length * (S.length * 2)<=63 * (63 * 2):=Nat.mul_le_mul hl (Nat.mul_le_mul_right 2 hl)
 unfold BD
 simp only [Xt]
 omega
theorem QqV (hA:Acc t S) (hl:S.length<=63):KI (KY t S)=some (BD t S,none):=by
 have hb:=QwR (t:=t) hl
 unfold BD at hb
 simp only [Xt] at hb
 unfold KI
 rw [QqA hA hl,Xa]
 simp only [J5,Option.isSome_none,Xf,if_false]
 rw [QmF hA hl (p:=KY t S) rfl rfl,Xa,QD (by omega),Xa,QsG hA hl,Xa,QD (by simp only [Xt];omega),Xa,Qpa hl,Xa,QD (by simp only [Xt];omega),Xa]
 rfl
theorem QcS {b:Gp}:b ∈ Qo8 t S↔∃i,i<S.length∧(b=⟨2 * (i:Int)+1,0,0⟩∨b=⟨2 * (i:Int)+2,2 * (i:Int)+1, -(jb t (Q3 S i)).Duration⟩∨b=⟨2 * (i:Int)+1,2 * (i:Int)+2,(jb t (Q3 S i)).Duration⟩):=by
 unfold Qo8
 simp only [List.mem_flatMap,XG,Xr,List.not_mem_nil,or_false]
theorem QhD {b:Gp} {x y:Nat×Bool}:b ∈ Qj6 t S x y↔Qce t S x y=true∧((Kl t S x<Kl t S y∧b=⟨ptH y,ptH x, -1⟩)∨(¬Kl t S x<Kl t S y∧b=⟨ptH x,ptH y, -1⟩)):=by
 unfold Qj6
 cases Qce t S x y with
 |false=>simp
 |true=>by_cases c:Kl t S x<Kl t S y <;> simp [c]
theorem Qkm {b:Gp}:b ∈ Qqk t S↔∃x y:Nat×Bool,x.1<y.1∧y.1<S.length∧b ∈ Qj6 t S x y:=by
 unfold Qqk Qj5
 simp only [List.mem_flatMap,XG,List.mem_range'_1,Xr,List.not_mem_nil,or_false]
 constructor
 ·rintro ⟨i,hi,k,hk,p,hp,hb⟩
  rcases hp with rfl |rfl |rfl |rfl <;> exact ⟨_,_,by simp only;omega,by simp only;omega,hb⟩
 ·rintro ⟨⟨i,e⟩,⟨k,f⟩,h1,h2,hb⟩
  refine ⟨i,by simp only at h1 h2;omega,k,by simp only at h1 h2;omega,((i,e),(k,f)),?_,hb⟩
  cases e <;> cases f <;> simp
theorem QhC {b:Gp} {i:Nat} {x:Nat×Bool}:b ∈ Qei t S i x↔Kp (wrX t S x) (jb t (Q3 S i)).Over=true∧((Kl t S x<=(Q3 S i).At∧b=⟨2 * (i:Int)+1,ptH x,0⟩)∨(¬Kl t S x<=(Q3 S i).At∧QV t (Q3 S i)<=Kl t S x∧b=⟨ptH x,2 * (i:Int)+2,0⟩)):=by
 unfold Qei
 cases Kp (wrX t S x) (jb t (Q3 S i)).Over with
 |false=>simp
 |true=>by_cases c:Kl t S x<=(Q3 S i).At <;> by_cases d:QV t (Q3 S i)<=Kl t S x <;> simp [c,d]
theorem QhB {b:Gp}:b ∈ Qqj t S↔∃i,∃x:Nat×Bool,i<S.length∧x.1<S.length∧x.1≠i∧b ∈ Qei t S i x:=by
 unfold Qqj
 simp only [List.mem_flatMap,XG]
 constructor
 ·rintro ⟨i,hi,k,hk,hb⟩
  by_cases c:k=i
  ·simp [c] at hb
  ·rw [if_neg c] at hb
   rcases Xn.1 hb with hb |hb
   ·exact ⟨i,_,hi,hk,c,hb⟩
   ·exact ⟨i,_,hi,hk,c,hb⟩
 ·rintro ⟨i,⟨k,e⟩,hi,hk,hne,hb⟩
  refine ⟨i,hi,k,hk,?_⟩
  rw [if_neg hne]
  cases e
  ·exact List.mem_append_left _ hb
  ·exact List.mem_append_right _ hb
theorem Qkl {b:Gp}:b ∈ Qqi S↔∃i k,i<k∧k<S.length∧(Q3 S k).Job=(Q3 S i).Job∧(∀m,i<m->m<k->(Q3 S m).Job≠(Q3 S i).Job)∧b=⟨2 * (k:Int)+1,2 * (i:Int)+2, -1⟩:=by
 rw [QpE]
 simp only [List.mem_flatMap,XG]
 constructor
 ·rintro ⟨i,hi,hb⟩
  unfold QgM at hb
  cases h:Qhu S i with
  |none=>rw [h] at hb;cases hb
  |some k =>
   rw [h] at hb
   obtain ⟨a,b',c,d⟩:=QsK h
   exact ⟨i,k,a,b',c,d,by simpa using hb⟩
 ·rintro ⟨i,k,h1,h2,h3,h4,rfl⟩
  refine ⟨i,by omega,?_⟩
  unfold QgM
  rw [Qk6 h1 h2 h3 h4]
  simp
theorem Qda {b:Gp}:b ∈ BD t S↔b ∈ Qo8 t S∨b ∈ Qqk t S∨b ∈ Qqj t S∨b ∈ Qqi S:=by
 unfold BD;simp only [Xn,or_assoc]
def ptN (x:Nat×Bool):Nat:=if x.2 then 2 * x.1+2 else 2 * x.1+1
theorem Qf8 (x:Nat×Bool):ptH x=(ptN x:Int):=by unfold ptH ptN;split <;> omega
theorem QoE {x:Nat×Bool} {n:Nat} (h:x.1<n):ptN x<2 * n+1:=by unfold ptN;split <;> omega
theorem Qyg (hA:Acc t S):∀b ∈ BD t S,Rt (2 * S.length+1) b:=by
 intro b hb
 rcases Qda.1 hb with h |h |h |h
 ·obtain ⟨i,hi,h⟩:=QcS.1 h
  have:=(hA.chk.job _ (QbP (hA.ok _ (QQ hi)))).dur
  rcases h with rfl |rfl |rfl <;> exact ⟨by simp only;omega,by simp only;omega,by simp only;omega,by simp only;omega,by simp only;omega,by simp only;omega⟩
 ·obtain ⟨x,y,h1,h2,h⟩:=Qkm.1 h
  obtain ⟨_,h⟩:=QhD.1 h
  have p1:=QoE (x:=x) (n:=S.length) (by omega)
  have p2:=QoE (x:=y) (n:=S.length) (by omega)
  have q1:=Qf8 x
  have q2:=Qf8 y
  rcases h with ⟨_,rfl⟩ |⟨_,rfl⟩ <;> exact ⟨by simp only;omega,by simp only;omega,by simp only;omega,by simp only;omega,by simp only;omega,by simp only;omega⟩
 ·obtain ⟨i,x,h1,h2,h3,h⟩:=QhB.1 h
  obtain ⟨_,h⟩:=QhC.1 h
  have p1:=QoE h2
  have q1:=Qf8 x
  rcases h with ⟨_,rfl⟩ |⟨_,_,rfl⟩ <;> exact ⟨by simp only;omega,by simp only;omega,by simp only;omega,by simp only;omega,by simp only;omega,by simp only;omega⟩
 ·obtain ⟨i,k,h1,h2,_,_,rfl⟩:=Qkl.1 h
  exact ⟨by simp only;omega,by simp only;omega,by simp only;omega,by simp only;omega,by simp only;omega,by simp only;omega⟩
theorem Sat.of' {E:List Gp} {T:Nat->Int} (h:∀b ∈ E,T b.B.toNat - T b.A.toNat<=b.Most):Sat E T:=by
 rintro i j c ⟨b,hb,h1,h2,rfl⟩
 have:=h b hb
 rw [h1,h2] at this
 simpa using this
theorem Sat.get {E:List Gp} {T:Nat->Int} (h:Sat E T) {b:Gp} (hb:b ∈ E) {i j:Nat} (hi:b.A=(i:Int)) (hj:b.B=(j:Int)):T j - T i<=b.Most:=h i j b.Most ⟨b,hb,hi,hj,rfl⟩
def tmN (t:Ge) (S:List Launch) (U:Nat->Int) (p:Nat):Int:=if p=0 then 0 else if p % 2=1 then U (p / 2) else U (p / 2 - 1)+(jb t (Q3 S (p / 2 - 1))).Duration
theorem Qif {U:Nat->Int} (x:Nat×Bool):tmN t S U (ptN x)=tmU t S U x:=by
 obtain ⟨i,b⟩:=x
 cases b
 ·show tmN t S U (2 * i+1)=U i
  unfold tmN
  rw [if_neg (by omega),if_pos (by omega),show (2 * i+1) / 2=i by omega]
 ·show tmN t S U (2 * i+2)=U i+_
  unfold tmN
  rw [if_neg (by omega),if_neg (by omega),show (2 * i+2) / 2 - 1=i by omega];rfl
theorem Qc4 {U:Nat->Int} (i:Nat):tmN t S U (2 * i+1)=U i:=Qif (i,false)
theorem Qhx {U:Nat->Int} (i:Nat):tmN t S U (2 * i+2)=U i+(jb t (Q3 S i)).Duration:=Qif (i,true)
theorem Sol.sat {U:Nat->Int} (h:Sol t S U) (hA:Acc t S) (hF:GJ t S):Sat (BD t S) (tmN t S U):=by
 refine Sat.of' fun b hb=>?_
 have e1:∀i:Nat,(2 * (i:Int)+1).toNat=2 * i+1:=fun i=>by omega
 have e2:∀i:Nat,(2 * (i:Int)+2).toNat=2 * i+2:=fun i=>by omega
 rcases Qda.1 hb with g |g |g |g
 ·obtain ⟨i,hi,g⟩:=QcS.1 g
  rcases g with rfl |rfl |rfl
  ·simp only [e1,Qc4,Int.toNat_zero]
   have:=h.st i hi
   have e0:tmN t S U 0=0:=rfl
   omega
  ·simp only [e1,e2,Qc4,Qhx];omega
  ·simp only [e1,e2,Qc4,Qhx];omega
 ·obtain ⟨x,y,h1,h2,g⟩:=Qkm.1 g
  obtain ⟨hi,q⟩:=QhD.1 g
  have hx:x.1<S.length:=by omega
  rcases q with ⟨q,rfl⟩ |⟨q,rfl⟩
  ·simp only [Qf8,XD,Qif]
   have:=h.od x y hx h2 (by omega) hi q;omega
  ·simp only [Qf8,XD,Qif]
   have hne:Kl t S x≠Kl t S y:=fun e=>by
    have:=hF.ni _ x y hx h2 e rfl (fun e=>by subst e;omega)
    rw [hi] at this;cases this
   have:=h.od y x h2 hx (by omega) (by rw [QeA];exact hi) (by omega);omega
 ·obtain ⟨i,x,h1,h2,h3,g⟩:=QhB.1 g
  obtain ⟨hm,q⟩:=QhC.1 g
  rcases q with ⟨q,rfl⟩ |⟨_,q,rfl⟩
  ·simp only [Qf8,XD,Qif,e1,Qc4]
   have:=h.o1 i x h1 h2 h3 hm q;omega
  ·simp only [Qf8,XD,Qif,e2,Qhx]
   have:=h.o2 i x h1 h2 h3 hm q;omega
 ·obtain ⟨i,k,h1,h2,h3,h4,rfl⟩:=Qkl.1 g
  simp only [e1,e2,Qc4,Qhx]
  have:=h.rp i k h1 h2 h3 h4;omega
theorem Sat.dur {T:Nat->Int} (h:Sat (BD t S) T) {i:Nat} (hi:i<S.length):T (2 * i+2)=T (2 * i+1)+(jb t (Q3 S i)).Duration:=by
 have h1:=h.get (Qda.2 (.inl (QcS.2 ⟨i,hi, .inr (.inl rfl)⟩))) (i:=2 * i+2) (j:=2 * i+1) (by simp) (by simp)
 have h2:=h.get (Qda.2 (.inl (QcS.2 ⟨i,hi, .inr (.inr rfl)⟩))) (i:=2 * i+1) (j:=2 * i+2) (by simp) (by simp)
 simp only at h1 h2
 omega
theorem Sat.tmU {T:Nat->Int} (h:Sat (BD t S) T) {x:Nat×Bool} (hx:x.1<S.length):Go.Pw.tmU t S (fun i=>T (2 * i+1)) x=T (ptN x):=by
 obtain ⟨i,b⟩:=x
 cases b
 ·rfl
 ·exact (h.dur hx).symm
theorem Sat.sol {T:Nat->Int} (h:Sat (BD t S) T) (h0:T 0=0) (hA:Acc t S):Sol t S fun i=>T (2 * i+1):=by
 refine ⟨fun i hi=>?_,fun x y hx hy hne hi hlt=>?_,fun i x hi hx hne hm hle=>?_,fun i x hi hx hne hm hle=>?_,fun i k hik hk hj hm=>?_⟩
 ·have h1:=h.get (Qda.2 (.inl (QcS.2 ⟨i,hi, .inl rfl⟩))) (i:=2 * i+1) (j:=0) (by simp) (by simp)
  simp only at h1
  omega
 ·rw [h.tmU hx,h.tmU hy]
  have key:(⟨ptH y,ptH x, -1⟩:Gp) ∈ BD t S:=by
   refine Qda.2 (.inr (.inl (Qkm.2 ?_)))
   rcases Nat.lt_or_gt_of_ne hne with c |c
   ·exact ⟨x,y,c,hy,QhD.2 ⟨hi, .inl ⟨hlt,Z⟩⟩⟩
   ·exact ⟨y,x,c,hx,QhD.2 ⟨by rw [QeA];exact hi, .inr ⟨by omega,Z⟩⟩⟩
  have:=h.get key (Qf8 y) (Qf8 x)
  simp only at this
  omega
 ·rw [h.tmU hx]
  have key:(⟨2 * (i:Int)+1,ptH x,0⟩:Gp) ∈ BD t S:=Qda.2 (.inr (.inr (.inl (QhB.2 ⟨i,x,hi,hx,hne,QhC.2 ⟨hm, .inl ⟨hle,rfl⟩⟩⟩))))
  have:=h.get key (i:=2 * i+1) (by simp) (Qf8 x)
  simp only at this
  show T (ptN x)<=T (2 * i+1)
  omega
 ·rw [h.tmU hx]
  have hlt:=Qcl hA.chk (hA.ok _ (QQ hi))
  have key:(⟨ptH x,2 * (i:Int)+2,0⟩:Gp) ∈ BD t S:=Qda.2 (.inr (.inr (.inl (QhB.2 ⟨i,x,hi,hx,hne,QhC.2 ⟨hm, .inr ⟨by omega,hle,rfl⟩⟩⟩))))
  have:=h.get key (j:=2 * i+2) (Qf8 x) (by simp)
  simp only at this
  have:=h.dur hi
  show T (2 * i+1)+_<=T (ptN x)
  omega
 ·have key:(⟨2 * (k:Int)+1,2 * (i:Int)+2, -1⟩:Gp) ∈ BD t S:=Qda.2 (.inr (.inr (.inr (Qkl.2 ⟨i,k,hik,hk,hj,hm,rfl⟩))))
  have:=h.get key (i:=2 * k+1) (j:=2 * i+2) (by simp) (by simp)
  simp only at this
  have:=h.dur (i:=i) (by omega)
  show T (2 * i+1)+_+1<=T (2 * k+1)
  omega
end
end Go.Pw
/- -/
namespace Go.Pw
theorem Sat.sub {E E':List Gp} {T:Nat->Int} (h:Sat E' T) (hs:∀b ∈ E,b ∈ E'):Sat E T:=fun i j c hc=>h i j c (GQ.sub hs i j c hc)
theorem Qqb {n:Nat} (hn:n<=128) {T:Nat->Int} {E0 E1:List Gp} (hr:∀b ∈ E1,Rt n b) (hs:Sat (E0++E1) T) {d0:List (List Int)} (h0:Net n E0 d0) {R:Type} :
  ∃d,Net n (E0++E1) d∧Jf (fun i l=>(idx E1 (i:Int)).bind fun x=>(J8 ⟨l⟩ x).bind <|J5 fun e l1=>if e.isSome then none else some (Ctl.next l1)) E1.length 0 d0=some (Ctl.next d:Ctl _ R):=by
 obtain ⟨c,h1,h2⟩:=QlC (n:=E1.length) (s:=d0) (B:=fun i l=>(idx E1 (i:Int)).bind fun x=>(J8 ⟨l⟩ x).bind <|J5 fun e l1=>if e.isSome then none else some (Ctl.next l1:Ctl _ R)) (fun j l=>Net n (E0++E1.take j) l) (fun _=>False) (by simpa using h0) fun j l hj hl=>by
  have e:E0++E1.take (j+1)=(E0++E1.take j)++[E1[j]]:=by rw [Qbm hj,List.append_assoc]
  obtain ⟨r,g1,d',rfl,g2⟩:=QuW hn hl (hr _ (List.getElem_mem hj)) (b:=E1[j]) (t:=T) (by
   rw [<-e]
   exact hs.sub fun b hb=>by
    rcases Xn.1 hb with hb |hb
    ·exact List.mem_append_left _ hb
    ·exact List.mem_append_right _ (XE hb))
  refine ⟨.next d',?_,by rw [e];exact g2⟩
  rw [Qq,Xb hj,Xa,g1]
  rfl
 cases c with
 |next d=>exact ⟨d,by rw [List.take_length] at h2;exact h2,h1⟩
 |brk d=>exact h2.elim
 |ret r=>exact h2.elim
section
variable {t:Ge} {L S:List Launch}
theorem Qpf (hA:Acc t S) (hl:S.length<=63) {T:Nat->Int} (hs:Sat (BD t S) T):∃d,Net (2 * S.length+1) (BD t S) d∧J6 (KY t S)=some (⟨d⟩,none):=by
 unfold J6
 rw [QqV hA hl,Xa]
 simp only [J5,Option.isSome_none,Xf,if_false]
 rw [show (KY t S).launches=S from rfl,Q7 (n:=2 * (S.length:Int)) (by omega) (by omega),Q7 (by omega) (by omega),show 2 * (S.length:Int)+1=((2 * S.length+1:Nat):Int) by omega]
 obtain ⟨r,h1,d0,rfl,h2⟩:=QwP (n:=2 * S.length+1) (by omega) (by omega)
 rw [h1,Xa]
 obtain ⟨d,h3,h4⟩:=Qqb (n:=2 * S.length+1) (by omega) (Qyg hA) (by simpa using hs) (Net.new h2) (R:=Gu×Option Int)
 refine ⟨d,by simpa using h3,?_⟩
 show ctl _ _ _=_
 unfold J5 at h4
 unfold ctl
 rw [show (Jf (R:=Gu×Option Int) _ _ _ _)=_ from h4]
 rfl
structure Dt (t:Ge) (S:List Launch) (f:MM):Prop where
 fin:∀i,i<S.length->f (2 * i+1) 0<1125899906842624
 sat:Sat (BD t S) (fun p=> -(f p 0))
 zero:f 0 0=0
 rng:∀i,i<S.length-> -140737488355328<=f (2 * i+1) 0
 all:∀p,p<2 * S.length+1->f p 0<1125899906842624
 le:∀T,Sat (BD t S) T->T 0=0->∀p,p<2 * S.length+1-> -(f p 0)<=T p
theorem QsW (hA:Acc t S) (hl:S.length<=63) {f:MM} (hcl:Cl (GQ (BD t S)) (2 * S.length+1) (2 * S.length+1) f) (hdi:∀i,i<2 * S.length+1->f i i=0):Dt t S f:=by
 have g1:∀i,i<S.length->GQ (BD t S) (2 * i+1) 0 0:=fun i hi=>⟨_,Qda.2 (.inl (QcS.2 ⟨i,hi, .inl rfl⟩)),by simp,by simp,rfl⟩
 have g2:∀i,i<S.length->GQ (BD t S) (2 * i+2) (2 * i+1) (-(jb t (Q3 S i)).Duration):=fun i hi=>⟨_,Qda.2 (.inl (QcS.2 ⟨i,hi, .inr (.inl rfl)⟩)),by simp,by simp,rfl⟩
 have h0:f 0 0=0:=hdi 0 (by omega)
 have h1:∀i,i<S.length->f (2 * i+1) 0<1125899906842624:=fun i hi=>(hcl.all (Wk.one (g1 i hi)) (by omega)).2
 have h2:∀i,i<S.length->f (2 * i+2) 0<1125899906842624:=fun i hi=>(hcl.all ((Wk.one (g2 i hi)).app (Wk.one (g1 i hi))) (by omega)).2
 have hall:∀p,p<2 * S.length+1->f p 0<1125899906842624:=fun p hp=>by
  by_cases c:p=0
  ·subst c;rw [h0];omega
  ·by_cases c2:p % 2=1
   ·rw [show p=2 * (p / 2)+1 by omega];exact h1 _ (by omega)
   ·rw [show p=2 * (p / 2 - 1)+2 by omega];exact h2 _ (by omega)
 refine ⟨h1,?_,h0,fun i hi=>(hcl.fine hdi (by omega) (by omega) (by omega) (h1 i hi)).1,hall,fun T hT hT0 p hp=>?_⟩
 ·intro i j c hc
  obtain ⟨b1,b2,_⟩:=hcl.ok i j c hc
  obtain ⟨Lj,hLj,_⟩:=hcl.snd j 0 b2 (by omega) (hall j b2)
  have:=(hcl.all ((Wk.one hc).app hLj) b1).1
  show -(f j 0) - -(f i 0)<=c
  omega
 ·have:=hT.le hcl hp (j:=0) (by omega) (hall p hp)
  rw [hT0] at this
  omega
theorem QoY (hA:Acc t S) (hl:S.length<=63) {d:List (List Int)} {f:MM} (hd:Mx (2 * S.length+1) d f) (hf:Dt t S f):JP (KY t S) ⟨d⟩=some (LU S fun i=> -(f (2 * i+1) 0),none):=by
 unfold JP
 rw [show (KY t S).launches=S from rfl]
 refine Ok.eq (Ok.ctl (fun j out=>out=(LU S fun i=> -(f (2 * i+1) 0)).take j) (fun _=>False) (by simp) ?_ (fun r hr=>hr.elim) fun s hs=>⟨_,Z,?_⟩)
 ·rintro j out hj rfl
  refine Ok.step (by rw [Qq];exact Kr hj) ?_
  rw [Qe1 (by omega),show 2 * (j:Int)+1=((2 * j+1:Nat):Int) by omega,Qo2 hd (by omega) (p:=2 * j+1) (by omega) ⟨hf.fin j hj,by have:=hf.rng j hj;omega⟩,Xa]
  simp only [J5,Option.isSome_none,Xf,if_false]
  refine Ok.step (QD (by simp [QaN];omega)) ⟨_,Z,?_⟩
  have hj':j<(LU S fun i=> -(f (2 * i+1) 0)).length:=by rw [QaN];exact hj
  rw [Qbm hj']
  have e:(LU S fun i=> -(f (2 * i+1) 0))[j]=Q3 (LU S fun i=> -(f (2 * i+1) 0)) j:=by simp [Q3,hj']
  rw [e,Qci hj]
  exact Z
 ·rw [hs, <-QaN S (fun i=> -(f (2 * i+1) 0)),List.take_length]
structure GZ (t:Ge) (S:List Launch) (U:Nat->Int):Prop where
 sol:Sol t S U
 le:∀V,Sol t S V->∀i,i<S.length->U i<=V i
theorem Dt.shifted {f:MM} (h:Dt t S f) (hA:Acc t S) (hF:GJ t S):GZ t S fun i=> -(f (2 * i+1) 0):=by
 refine ⟨h.sat.sol (by show -(f 0 0)=0;rw [h.zero];rfl) hA,fun V hV i hi=>?_⟩
 have:=h.le _ (hV.sat hA hF) rfl (2 * i+1) (by omega)
 rw [Qc4] at this
 exact this
theorem QnU (ht:GX t) (hA:Acc t L) (hF:GJ t L) (hl:L.length<=63):∃f d,Net (2 * (Yi L).length+1) (BD t (Yi L)) d∧Mx (2 * (Yi L).length+1) d f∧Cl (GQ (BD t (Yi L))) (2 * (Yi L).length+1) (2 * (Yi L).length+1) f∧(∀i,i<2 * (Yi L).length+1->f i i=0) ∧
  J6 (KY t (Yi L))=some (⟨d⟩,none)∧JP (KY t (Yi L)) ⟨d⟩=some (LU (Yi L) fun i=> -(f (2 * i+1) 0),none)∧Dt t (Yi L) f∧YG t L=some (LU (Yi L) fun i=> -(f (2 * i+1) 0),none):=by
 have hAS:=hA.perm (YV L).symm
 have hFS:=hF.perm (YV L).symm
 have hlS:(Yi L).length<=63:=by rw [(YV L).length_eq];exact hl
 obtain ⟨d,hN,hnet⟩:=Qpf hAS hlS ((Qk0 hAS hFS (Qp6 (Qgi L))).sat hAS hFS)
 obtain ⟨_,f,hd,hcl,hdi⟩:=id hN
 have hle:=QsW hAS hlS hcl hdi
 have hsh:=QoY hAS hlS hd hle
 refine ⟨f,d,hN,hd,hcl,hdi,hnet,hsh,hle,?_⟩
 unfold YG
 rw [QpI ht hA hF hl,Xa]
 simp only [J5,Qrp,Option.isSome_none,Xf,if_false]
 rw [hnet,Xa]
 simp only [J5,Qrp,Option.isSome_none,Xf,if_false]
 rw [hsh,Xa]
end
/-! ### the reference's sort -/
theorem Qmu {l:List Launch} {i a:Nat} {x:Launch} (hi:i<l.length):Q3 (l.set i x) a=if a=i then x else Q3 l a:=by
 unfold Q3
 rw [List.getElem!_eq_getElem?_getD,List.getElem!_eq_getElem?_getD]
 by_cases c:a=i
 ·subst c;rw [List.getElem?_set_self hi,if_pos rfl];rfl
 ·rw [List.getElem?_set_ne (Ne.symm c),if_neg c]
end Go.Pw
/- -/
namespace Go.Pw
section
variable {t:Ge} {L S:List Launch}
structure Dw (t:Ge) (S:List Launch) (U:Nat->Int):Prop where
 acc:Acc t (LU S U)
 fine:GJ t (LU S U)
 le:∀i,i<S.length->0<=U i∧U i<=(Q3 S i).At
theorem GZ.moved {U:Nat->Int} (h:GZ t S U) (hA:Acc t S) (hF:GJ t S) (hs:SL S):Dw t S U:=by
 have hle:=fun i hi=>h.le _ (Qk0 hA hF hs) i hi
 have hr:=h.sol.resch hA hs fun i hi=>by have:=hle i hi;have:=(hA.ok _ (QQ hi)).a1;omega
 exact ⟨hr.acc hA,hr.fine hA hF,fun i hi=>⟨h.sol.st i hi,hle i hi⟩⟩
theorem Dw.span {U:Nat->Int} (h:Dw t S U):mkS t (LU S U)<=mkS t S:=by
 refine Qii Qc2.1 fun l hl=>?_
 obtain ⟨i,hi,rfl⟩:=List.mem_iff_getElem.1 hl
 have hi':i<S.length:=by rwa [QaN] at hi
 have e:(LU S U)[i]=Q3 (LU S U) i:=by simp [Q3,hi]
 have h1:=(Qc2 (t:=t) (L:=S)).2 _ (QQ hi')
 have h2:=(h.le i hi').2
 rw [e,Qci hi']
 unfold QV at *
 have:jb t ⟨U i,(Q3 S i).Job⟩=jb t (Q3 S i):=QoH rfl
 rw [this]
 show U i+_<=_
 omega
theorem Qtt {U U2:Nat->Int} {S2:List Launch} (h:GZ t S U) (hA:Acc t S) (hF:GJ t S) (hs:SL S) (hp:(LU S U).Perm S2) (hs2:SL S2) (h2:GZ t S2 U2):LU S2 U2=S2:=by
 have hm:=h.moved hA hF hs
 have hA2:=hm.acc.perm hp
 have hF2:=hm.fine.perm hp
 have hle2:=fun i hi=>h2.le _ (Qk0 hA2 hF2 hs2) i hi
 obtain ⟨f,g,k1,k2⟩:=QpK hp
 rw [QaN] at k1
 have ef:∀i,i<S.length->Q3 S2 (f i)=⟨U i,(Q3 S i).Job⟩:=fun i hi=>by rw [Qko (k1 i hi).2.2,Qci hi]
 have ej:∀i,i<S.length->jb t (Q3 S2 (f i))=jb t (Q3 S i):=fun i hi=>by rw [ef i hi];exact QoH rfl
 have inj:∀i k,i<S.length->k<S.length->i≠k->f i≠f k:=fun i k hi hk hne e=>hne (by rw [<-(k1 i hi).2.1, <-(k1 k hk).2.1,e])
 have et:∀x:Nat×Bool,x.1<S.length->Kl t S2 (f x.1,x.2)=tmU t S U x:=fun x hx=>by
  unfold Kl tmU QV jH
  simp only
  rw [ej _ hx,ef _ hx]
 have eu:∀x:Nat×Bool,x.1<S.length->tmU t S2 U2 (f x.1,x.2)=tmU t S (fun i=>U2 (f i)) x:=fun x hx=>by
  unfold tmU jH
  simp only
  rw [ej _ hx]
 have hV:Sol t S fun i=>U2 (f i):=by
  refine ⟨fun i hi=>h2.sol.st _ (k1 i hi).1,fun x y hx hy hne hi hlt=>?_,fun i x hi hx hne hme hle=>?_,fun i x hi hx hne hme hle=>?_,fun i k hik hk hj hmi=>?_⟩
  ·have a1:=h.sol.od x y hx hy hne hi hlt
   have a2:=h2.sol.od (f x.1,x.2) (f y.1,y.2) (k1 _ hx).1 (k1 _ hy).1 (inj _ _ hx hy hne) (by unfold Qce jH at hi ⊢;simp only;rw [ej _ hx,ej _ hy];exact hi) (by rw [et x hx,et y hy];omega)
   rw [eu x hx,eu y hy] at a2
   exact a2
  ·have a1:=h.sol.o1 i x hi hx hne hme hle
   have a2:=h2.sol.o1 (f i) (f x.1,x.2) (k1 _ hi).1 (k1 _ hx).1 (inj _ _ hx hi hne) (by unfold wrX jH at hme ⊢;simp only;rw [ej _ hx,ej _ hi];exact hme) (by rw [et x hx,ef i hi];exact a1)
   rw [eu x hx] at a2
   exact a2
  ·have a1:=h.sol.o2 i x hi hx hne hme hle
   have a2:=h2.sol.o2 (f i) (f x.1,x.2) (k1 _ hi).1 (k1 _ hx).1 (inj _ _ hx hi hne) (by unfold wrX jH at hme ⊢;simp only;rw [ej _ hx,ej _ hi];exact hme) (by rw [et x hx];unfold QV;rw [ej i hi,ef i hi];exact a1)
   rw [eu x hx,ej i hi] at a2
   exact a2
  ·have hi:i<S.length:=by omega
   have a1:=h.sol.rp i k hik hk hj hmi
   have hd:=QeT hA hi
   have hlt:f i<f k:=by
    rcases Nat.lt_trichotomy (f i) (f k) with c |c |c
    ·exact c
    ·exact absurd c (inj i k hi hk (by omega))
    ·have:=hs2 _ _ c (k1 i hi).1
     rw [ef i hi,ef k hk] at this
     simp only at this
     omega
   have a2:=h2.sol.chain hA2 _ (f i) (f k) (Xi _) hlt (k1 k hk).1 (by rw [ef i hi,ef k hk];exact hj)
   rw [ej i hi] at a2
   exact a2
 have key:∀j,j<S2.length->U2 j=(Q3 S2 j).At:=fun j hj=>by
  obtain ⟨b1,b2⟩:=k2 j hj
  rw [QaN] at b1
  have h3:U (g j)<=U2 (f (g j)):=h.le _ hV (g j) b1
  rw [b2] at h3
  have h4:=ef (g j) b1
  rw [b2] at h4
  have h5:U2 j<=(Q3 S2 j).At:=hle2 j hj
  rw [h4] at h5 ⊢
  have h6:U2 j<=U (g j):=h5
  show U2 j=U (g j)
  omega
 apply List.ext_getElem (QaN _ _)
 intro j h3 h4
 have e1:(LU S2 U2)[j]=Q3 (LU S2 U2) j:=by simp [Q3,h3]
 have e2:S2[j]=Q3 S2 j:=by simp [Q3,h4]
 rw [e1,e2,Qci h4,key j h4]
--A{
end
end Go.Pw
/- -/
namespace Go.Pw
theorem QkA {S R:Type} {B B':Nat->S->Option (Ctl S R)}:∀(n i:Nat) (s:S),(∀j s,i<=j->j<i+n->B j s=B' j s)->Jf B n i s=Jf B' n i s
 |0,i,s,_=>rfl
 |n+1,i,s,h=>by
  simp only [Jf]
  rw [h i s (Xi _) (by omega)]
  congr 1
  funext c
  exact QkA n (i+1) c fun j s h1 h2=>h j s (by omega) (by omega)
def UB (n:Nat) (m:Int):List Gp:=(List.range n).map fun i:Nat=>⟨0,2 * (i:Int)+2,m⟩
theorem QwM (n:Nat) (m:Int):(UB n m).length=n:=by simp [UB]
theorem QwN {n:Nat} {m:Int} {i:Nat} (h:i<n):idx (UB n m) (i:Int)=some ⟨0,2 * (i:Int)+2,m⟩:=by rw [Qq];simp [UB,h]
theorem QoF {n:Nat} {m:Int} {b:Gp}:b ∈ UB n m↔∃i,i<n∧b=⟨0,2 * (i:Int)+2,m⟩:=by
 unfold UB
 simp only [X5,XG]
 exact ⟨fun ⟨i,h1,h2⟩=>⟨i,h1,h2.symm⟩,fun ⟨i,h1,h2⟩=>⟨i,h1,h2.symm⟩⟩
section
variable {t:Ge} {L S:List Launch}
theorem QxY {m:Int} (hm:0<=m∧m<=1048700) (n:Nat):∀b ∈ UB n m,Rt (2 * n+1) b:=by
 intro b hb
 obtain ⟨i,hi,rfl⟩:=QoF.1 hb
 exact ⟨by simp only;omega,by simp only;omega,by simp only;omega,by simp only;omega,by simp only;omega,by simp only;omega⟩
structure Dq (t:Ge) (S:List Launch) (U:Nat->Int) (m:Int) (f:MM):Prop where
 cl:Cl (GQ (BD t S++UB S.length m)) (2 * S.length+1) (2 * S.length+1) f
 di:∀i,i<2 * S.length+1->f i i=0
 fin:∀i,i<S.length->f 0 (2 * i+1)<1125899906842624
 ge:∀i,i<S.length->U i<=f 0 (2 * i+1)
 le:∀i,i<S.length->f 0 (2 * i+1)+(jb t (Q3 S i)).Duration<=m
theorem QtW (hA:Acc t S) {U:Nat->Int} {m:Int} {f:MM} (hs:Sat (BD t S++UB S.length m) (tmN t S U)) (hcl:Cl (GQ (BD t S++UB S.length m)) (2 * S.length+1) (2 * S.length+1) f) (hdi:∀i,i<2 * S.length+1->f i i=0):Dq t S U m f:=by
 have g1:∀i,i<S.length->GQ (BD t S++UB S.length m) 0 (2 * i+2) m:=fun i hi=>⟨_,List.mem_append_right _ (QoF.2 ⟨i,hi,rfl⟩),by simp,by simp,rfl⟩
 have g2:∀i,i<S.length->GQ (BD t S++UB S.length m) (2 * i+2) (2 * i+1) (-(jb t (Q3 S i)).Duration):=fun i hi=>⟨_,List.mem_append_left _ (Qda.2 (.inl (QcS.2 ⟨i,hi, .inr (.inl rfl)⟩))),by simp,by simp,rfl⟩
 have hw:=fun i hi=>hcl.all ((Wk.one (g1 i hi)).app (Wk.one (g2 i hi))) (by omega)
 refine ⟨hcl,hdi,fun i hi=>(hw i hi).2,fun i hi=>?_,fun i hi=>by have:=(hw i hi).1;omega⟩
 have:=hs.le hcl (i:=0) (j:=2 * i+1) (by omega) (by omega) (hw i hi).2
 rw [Qc4] at this
 have e0:tmN t S U 0=0:=rfl
 omega
theorem Qwu (hA:Acc t S) {U:Nat->Int} (hs:Sat (BD t S) (tmN t S U)) {m:Int} (hm:∀i,i<S.length->U i+(jb t (Q3 S i)).Duration<=m):Sat (BD t S++UB S.length m) (tmN t S U):=by
 intro i j c ⟨b,hb,h1,h2,h3⟩
 rcases Xn.1 hb with h |h
 ·exact hs i j c ⟨b,h,h1,h2,h3⟩
 ·obtain ⟨k,hk,rfl⟩:=QoF.1 h
  simp only at h1 h2 h3
  have e1:i=0:=by omega
  have e2:j=2 * k+2:=by omega
  subst e1 e2 h3
  rw [Qhx]
  have e0:tmN t S U 0=0:=rfl
  have:=hm k hk
  omega
theorem QwQ {U:Nat->Int} {i:Nat} (h:i<S.length):QV t (Q3 (LU S U) i)=U i+(jb t (Q3 S i)).Duration:=by
 unfold QV;rw [Qci h];rfl
theorem QxE {U:Nat->Int} {i:Nat} (h:i<S.length):U i+(jb t (Q3 S i)).Duration<=mkS t (LU S U):=by
 rw [<-QwQ h]
 exact Qc2.2 _ (QQ (by rw [QaN];exact h))
theorem Qlg {U:Nat->Int} (hA:Acc t (LU S U)):(forS (fun i103=>fun (makespan101:Int)=>(idx (LU S U) (i103:Int)).bind fun x103=>(idx t.Jobs x103.Job).bind fun x104=>some (max makespan101 (IntKind.i64.wrap (x103.At+x104.Duration)))) (LU S U).length 0 0)=some (mkS t (LU S U)):=by
 refine Ok.eq (QdY (fun l m=>m=l.foldl (fun m l=>max m (QV t l)) 0) Z ?_ fun s hs=>hs)
 rintro j l x m hx _ rfl
 have hok:=hA.ok x (List.mem_of_getElem? hx)
 have hd:=Qcl hA.chk hok
 have:=hok.a0;have:=hok.a1
 unfold QV at hd
 refine Ok.step (by rw [Qq];exact hx) (Ok.step (Qb4 hok) ⟨_,Z,?_⟩)
 rw [List.foldl_append,Q7 (by omega) (by omega)]
 rfl
theorem Qw4 {U:Nat->Int} (hA:Acc t (LU S U)):0<=mkS t (LU S U)∧mkS t (LU S U)<=1048700:=by
 refine ⟨Qc2.1,Qii (by omega) fun l hl=>?_⟩
 have:=Qcl hA.chk (hA.ok l hl)
 have:=(hA.ok l hl).a1
 omega
theorem QuR (hA:Acc t S) (hl:S.length<=63) {U:Nat->Int} {m:Int} (hm:0<=m∧m<=1048700) (hs:Sat (BD t S++UB S.length m) (tmN t S U)) {d0:List (List Int)} (h0:Net (2 * S.length+1) (BD t S) d0) {R:Type} (p:Nat->Int) (hp:∀i,i<S.length->p i=2 * (i:Int)+2) :
  ∃d f,Mx (2 * S.length+1) d f∧Net (2 * S.length+1) (BD t S++UB S.length m) d∧Dq t S U m f∧Jf (fun i l=>(J8 ⟨l⟩ ⟨0,p i,m⟩).bind <|J5 fun e l1=>if e.isSome then none else some (Ctl.next l1)) S.length 0 d0=some (Ctl.next d:Ctl _ R):=by
 obtain ⟨d,h1,h2⟩:=Qqb (n:=2 * S.length+1) (by omega) (QxY hm S.length) hs h0 (R:=R)
 obtain ⟨_,f,hd,hcl,hdi⟩:=id h1
 refine ⟨d,f,hd,h1,QtW hA hs hcl hdi,?_⟩
 rw [QwM] at h2
 rw [<-h2]
 refine QkA _ _ _ fun j s _ hj=>?_
 rw [QwN (by omega),Xa,hp j (by omega)]
theorem Qty (ht:GX t) (hA:Acc t L) (hF:GJ t L) (hl:L.length<=63):∃(U:Nat->Int) (f:MM),GZ t (Yi L) U∧Dw t (Yi L) U∧Sat (BD t (Yi L)++UB (Yi L).length (mkS t (LU (Yi L) U))) (tmN t (Yi L) U)∧Dq t (Yi L) U (mkS t (LU (Yi L) U)) f ∧
  YG t L=some (LU (Yi L) U,none)∧Qat t L=some ((List.range (Yi L).length).map fun i=>f 0 (2 * i+1) - U i,none):=by
 have hp:=(YV L).symm
 have hAS:=hA.perm hp
 have hFS:=hF.perm hp
 have hSL:=Qp6 (Qgi L)
 have hlen:(Yi L).length=L.length:=(YV L).length_eq
 obtain ⟨f0,d0,hN,hd0,hcl0,hdi0,hnet,hshp,hLe,hSh⟩:=QnU ht hA hF hl
 have hsh:=hLe.shifted hAS hFS
 have hmv:=hsh.moved hAS hFS hSL
 have hsat:=hsh.sol.sat hAS hFS
 generalize hU:(fun i=> -(f0 (2 * i+1) 0))=U at hshp hSh hsh hmv hsat
 have hr:=QpI ht hA hF hl
 rw [<-hlen] at hl
 generalize Yi L=S at *
 have hm:=Qw4 hmv.acc
 have hsUB:=Qwu hAS hsat (m:=mkS t (LU S U)) fun i hi=>QxE hi
 obtain ⟨d,f,hd,hN2,hSO,hadd⟩:=QuR hAS hl hm hsUB hN (R:=List Int×Option Int) (fun i=>Q0 (i:Int)) (fun i hi=>Da (by omega))
 refine ⟨U,f,hsh,hmv,hsUB,hSO,hSh,?_⟩
 unfold Qat
 rw [hr,Xa]
 simp only [J5,Qrp,Option.isSome_none,Xf,if_false]
 rw [hnet,Xa]
 simp only [J5,Qrp,Option.isSome_none,Xf,if_false]
 rw [hshp,Xa]
 simp only [J5,Qrp,Option.isSome_none,Xf,if_false]
 rw [Qlg hmv.acc,Xa]
 unfold J5 at hadd
 rw [QaN]
 unfold ctl
 rw [show (Jf (R:=List Int×Option Int) _ S.length 0 d0)=_ from hadd,Xa]
 refine Ok.eq ?_
 show Ok (ctl (Jf (R:=List Int×Option Int) _ S.length 0 []) _ _) _
 refine Ok.ctl (fun j out=>out=(List.range j).map fun i=>f 0 (2 * i+1) - U i) (fun _=>False) Z ?_ (fun r hr=>hr.elim) fun out ho=>⟨_,Z,by rw [ho]⟩
 rintro j out hj rfl
 have h1:=hSO.ge j hj
 have h2:=hSO.le j hj
 have h3:=hmv.le j hj
 have h4:=(hAS.chk.job _ (QbP (hAS.ok _ (QQ hj)))).dur
 have h5:=(hAS.ok _ (QQ hj)).a1
 refine Ok.step (by rw [Qq];exact Kr (by rw [QaN];exact hj)) ?_
 rw [Qe1 (by omega),show 2 * (j:Int)+1=((2 * j+1:Nat):Int) by omega,Qrd hd (by omega) (by omega) (hSO.fin j hj),Xa]
 show Ok (if (none:Option Int).isSome=true then _ else _) _
 rw [if_neg (by simp)]
 refine Ok.step (QD (by simp;omega)) ⟨_,Z,?_⟩
 show _=(List.range (j+1)).map _
 rw [QdE,Qci hj]
 show _++[IntKind.i64.wrap (f 0 (2 * j+1) - U j)]=_
 rw [Q7 (by omega) (by omega)]
end
end Go.Pw
