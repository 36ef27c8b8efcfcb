/- -/
import Derived.Test.YtalfjlihddgooaaGreatDoorBa
import Derived.Test.YtalfjlihddgooaaGreatDoorLB
import Derived.Test.YtalfjlihddgooaaGreatDoorLC
import Derived.Test.YtalfjlihddgooaaGreatDoorLE
import Derived.Test.YtalfjlihddgooaaGreatDoorWlP
set_option linter.unusedSimpArgs false
set_option linter.unusedVariables false
namespace Go.Pw
/-! ### loops -/
theorem QnI {S:Type} {B:Nat->S->Option S} {n:Nat} (Inv:Nat->S->Prop) (h:∀j s,j<n->Inv j s->∃s',B j s=some s'∧Inv (j+1) s') :
  ∀(k i:Nat) (s:S),i+k=n->Inv i s->∃s',forS B k i s=some s'∧Inv n s'
 |0,i,s,hn,hi=>⟨s,rfl,by rw [<-hn];exact hi⟩
 |k+1,i,s,hn,hi=>by
  obtain ⟨s',h1,h2⟩:=h i s (by omega) hi
  obtain ⟨t,h3,h4⟩:=QnI Inv h k (i+1) s' (by omega) h2
  exact ⟨t,by simp only [forS,h1,Xa,h3],h4⟩
theorem QqO {S:Type} {B:Nat->S->Option S} {n:Nat} {s:S} (Inv:Nat->S->Prop) (h0:Inv 0 s) (h:∀j s,j<n->Inv j s->∃s',B j s=some s'∧Inv (j+1) s') :
  ∃s',forS B n 0 s=some s'∧Inv n s':=QnI Inv h n 0 s (by omega) h0
def Qrz {S R:Type} (Inv:S->Prop) (Rp:R->Prop):Ctl S R->Prop
 | .next s=>Inv s
 | .brk _=>False
 | .ret r=>Rp r
theorem QnJ {S R:Type} {B:Nat->S->Option (Ctl S R)} {n:Nat} (Inv:Nat->S->Prop) (Rp:R->Prop) (h:∀j s,j<n->Inv j s->∃c,B j s=some c∧Qrz (Inv (j+1)) Rp c) :
  ∀(k i:Nat) (s:S),i+k=n->Inv i s->∃c,Jf B k i s=some c∧Qrz (Inv n) Rp c
 |0,i,s,hn,hi=>⟨.next s,rfl,by rw [<-hn];exact hi⟩
 | k+1,i,s,hn,hi=>by
  obtain ⟨c,h1,h2⟩:=h i s (by omega) hi
  cases c with
  |next s' =>
   obtain ⟨t,h3,h4⟩:=QnJ Inv Rp h k (i+1) s' (by omega) h2
   exact ⟨t,by simp only [Jf,h1,h3],h4⟩
  |brk s'=>exact h2.elim
  |ret r=>exact ⟨.ret r,by simp only [Jf,h1],h2⟩
theorem QlC {S R:Type} {B:Nat->S->Option (Ctl S R)} {n:Nat} {s:S} (Inv:Nat->S->Prop) (Rp:R->Prop) (h0:Inv 0 s) (h:∀j s,j<n->Inv j s->∃c,B j s=some c∧Qrz (Inv (j+1)) Rp c) :
  ∃c,Jf B n 0 s=some c∧Qrz (Inv n) Rp c:=QnJ Inv Rp h n 0 s (by omega) h0
/-! ### lists and matrices -/
theorem Qq {α:Type} {xs:List α} {i:Nat}:idx xs (i:Int)=xs[i]?:=by simp [idx]
theorem QaE {α:Type} {xs:List α} {i:Nat} {y:α} (h:i<xs.length):QbN xs (i:Int) y=some (xs.set i y):=by simp [QbN,h]
/-! ### a small logic for what may fail -/
def Ok {α:Type} (x:Option α) (P:α->Prop):Prop:=∃r,x=some r∧P r
section
variable {α β S R:Type} {P P':α->Prop} {x y:Option α}
theorem Ok.ret {a:α} (h:P a):Ok (some a) P:=⟨a,rfl,h⟩
theorem Ok.bind {Q:β->Prop} {f:α->Option β} (h:Ok x fun a=>Ok (f a) Q):Ok (x.bind f) Q:=by
 obtain ⟨a,e,r,e2,h2⟩:=h
 exact ⟨r,by rw [e];exact e2,h2⟩
theorem Ok.step {Q:β->Prop} {f:α->Option β} {a:α} (e:x=some a) (h:Ok (f a) Q):Ok (x.bind f) Q:=Ok.bind ⟨a,e,h⟩
theorem Ok.mono (h:Ok x P) (k:∀a,P a->P' a):Ok x P':=let ⟨a,e,h⟩:=h;⟨a,e,k a h⟩
theorem Jl {b:Bool} (h1:b=true->Ok x P) (h2:b=false->Ok y P):Ok (if b=true then x else y) P:=by
 cases b with
 |true=>rw [if_pos rfl];exact h1 rfl
 |false=>rw [if_neg (by simp)];exact h2 rfl
theorem Ok.must {Q:β->Prop} {b:Bool} {f:Unit->Option β} (hb:b=true) (h:Ok (f ()) Q):Ok ((Go.Pw.must b).bind f) Q:=Ok.step (by simp [Go.Pw.must,hb]) h
theorem Ok.forS {B:Nat->S->Option S} {n:Nat} {s:S} {Q:S->Prop} (Inv:Nat->S->Prop) (h0:Inv 0 s) (h:∀j s,j<n->Inv j s->Ok (B j s) (Inv (j+1))) (k:∀s,Inv n s->Q s):Ok (forS B n 0 s) Q :=
 let ⟨s',h1,h2⟩:=QqO Inv h0 h
 ⟨s',h1,k s' h2⟩
theorem Ok.ctl {B:Nat->S->Option (Ctl S R)} {n:Nat} {s:S} {Q:β->Prop} {kr:R->Option β} {ks:S->Option β} (Inv:Nat->S->Prop) (Rp:R->Prop) (h0:Inv 0 s)
  (h:∀j s,j<n->Inv j s->Ok (B j s) (Qrz (Inv (j+1)) Rp)) (hr:∀r,Rp r->Ok (kr r) Q) (hn:∀s,Inv n s->Ok (ks s) Q):Ok (ctl (Jf B n 0 s) kr ks) Q:=by
 obtain ⟨c,h1,h2⟩:=QlC Inv Rp h0 h
 unfold Go.Pw.ctl
 rw [h1]
 cases c with
 |next s=>exact hn s h2
 |brk s=>exact h2.elim
 |ret r=>exact hr r h2
end
theorem QjH {p:Prop} [Decidable p] (h:decide p=true):p:=of_decide_eq_true h
theorem QiE {p:Prop} [Decidable p] (h:decide p=false):¬p:=of_decide_eq_false h
theorem QgH {R:Type} {B:Nat->Unit->Option (Ctl Unit R)} {r:R} {p:Nat->Bool}:∀(k i:Nat),(∀j,i<=j->j<i+k->B j ()=some (if p j then .next () else .ret r))->Jf B k i ()=some (if (List.range' i k).all p then .next () else .ret r)
 |0,i,_=>by simp [Jf]
 |k+1,i,h=>by
  have h0:=h i (Xi _) (by omega)
  simp only [Jf,h0,List.range'_succ,List.all_cons]
  cases hp:p i with
  |true=>simp only [if_true,Bool.true_and];exact QgH k (i+1) fun j h1 h2=>h j (by omega) (by omega)
  |false=>simp
theorem Qtb {R:Type} {B:Nat->Unit->Option (Ctl Unit R)} {r:R} {p:Nat->Bool} {n:Nat} (h:∀j,j<n->B j ()=some (if p j then .next () else .ret r)):Jf B n 0 ()=some (if (List.range n).all p then .next () else .ret r):=by
 rw [QgH n 0 (fun j _ hj=>h j (by omega)),List.range_eq_range']
theorem QuD {R β:Type} {B:Nat->Unit->Option (Ctl Unit R)} {r:R} {p:Nat->Bool} {n:Nat} {kr:R->Option β} {k:Unit->Option β} (h:∀j,j<n->B j ()=some (if p j then .next () else .ret r)):ctl (Jf B n 0 ()) kr k=if (List.range n).all p then k () else kr r:=by
 rw [Qtb h]
 unfold ctl
 split <;> rfl
theorem Qqu {S R:Type} {B:S->Option (Ctl S R)} (Inv Bp:S->Prop) (Rp:R->Prop) (μ:S->Nat) (h:∀s,Inv s->∃c,B s=some c∧(∀s',c= .next s'->Inv s'∧μ s'<μ s)∧(∀s',c= .brk s'->Bp s')∧(∀r,c= .ret r->Rp r)) :
  ∀(m:Nat) (s:S),μ s<=m->Inv s->∃c,Yw B s=some c∧(∀s',c≠ .next s')∧(∀s',c= .brk s'->Bp s')∧(∀r,c= .ret r->Rp r):=by
 intro m
 induction m with
 |zero =>
  intro s hm hi
  obtain ⟨c,h1,h2,h3,h4⟩:=h s hi
  have hn:∀s',c≠ .next s':=fun s' e=>by have:=(h2 s' e).2;omega
  exact ⟨c,QfK h1 hn,hn,h3,h4⟩
 | succ m ih =>
  intro s hm hi
  obtain ⟨c,h1,h2,h3,h4⟩:=h s hi
  by_cases hn:∃s',c= .next s'
  ·obtain ⟨s',rfl⟩:=hn
   obtain ⟨hi',hlt⟩:=h2 s' rfl
   rw [Qoc h1]
   exact ih s' (by omega) hi'
  ·have hn':∀s',c≠ .next s':=fun s' e=>hn ⟨s',e⟩
   exact ⟨c,QfK h1 hn',hn',h3,h4⟩
theorem Qk1 {S R β:Type} {B:S->Option (Ctl S R)} {s:S} {Q:β->Prop} {kr:R->Option β} {k:S->Option β} (Inv Bp:S->Prop) (Rp:R->Prop) (μ:S->Nat) (h0:Inv s)
  (h:∀s,Inv s->∃c,B s=some c∧(∀s',c= .next s'->Inv s'∧μ s'<μ s)∧(∀s',c= .brk s'->Bp s')∧(∀r,c= .ret r->Rp r))
  (hr:∀r,Rp r->Ok (kr r) Q) (hb:∀s,Bp s->Ok (k s) Q):Ok (Go.Pw.ctl (Yw B s) kr k) Q:=by
 obtain ⟨c,h1,h2,h3,h4⟩:=Qqu Inv Bp Rp μ h (μ s) s (Xi _) h0
 unfold Go.Pw.ctl
 rw [h1]
 cases c with
 |next s'=>exact absurd rfl (h2 s')
 |brk s'=>exact hb s' (h3 s' rfl)
 |ret r=>exact hr r (h4 r rfl)
theorem Ok.eq {α:Type} {x:Option α} {a:α} (h:Ok x fun r=>r=a):x=some a:=let ⟨r,h1,h2⟩:=h;by rw [h1,h2]
theorem Ok.of {α:Type} {x:Option α} {a:α} {P:α->Prop} (h:x=some a) (k:P a):Ok x P:=⟨a,h,k⟩
theorem QD {α:Type} {b:Nat} {xs ys:List α} (h:(xs.length+ys.length) * b<=140737488355328):app b xs ys=some (xs++ys):=by unfold app;rw [if_pos h]
theorem Qvq {α:Type} {b:Nat} {z:α} {n:Nat} (h:b * n<=281474976710656) (hn:n<=9223372036854775807):mk b z (n:Int)=some (List.replicate n z):=by
 unfold mk;rw [if_pos ⟨by omega,by simpa using h,by omega⟩];simp
theorem Q7 {n:Int} (h0: -9223372036854775808<=n) (h1:n<=9223372036854775807):IntKind.i64.wrap n=n:=wrap_i64 h0 h1
end Go.Pw
/- -/
namespace Go.Pw
theorem Qe3 {α R β:Type} {xs:List α} {B:Nat->Unit->Option (Ctl Unit R)} {p:α->Bool} {r:R} {kr:R->Option β} {k:Unit->Option β} (h:∀j x,xs[j]?=some x->B j ()=some (if p x then .next () else .ret r)) :
  ctl (Jf B xs.length 0 ()) kr k=if xs.all p then k () else kr r:=by
 rw [QuD (p:=fun j=>(xs[j]?.map p).getD true) (r:=r)]
 ·have e:(List.range xs.length).all (fun j=>(xs[j]?.map p).getD true)=xs.all p:=by
   rw [Bool.eq_iff_iff,List.all_eq_true,List.all_eq_true]
   constructor
   ·intro h x hx
    obtain ⟨j,hj,rfl⟩:=List.mem_iff_getElem.1 hx
    have:=h j (by simpa using hj)
    simpa [Xb hj] using this
   ·intro h j hj
    have hj':j<xs.length:=by simpa using hj
    simpa [Xb hj'] using h _ (List.getElem_mem hj')
  rw [e]
 ·intro j hj
  rw [h j xs[j] (Xb hj)]
  simp [Xb hj]
theorem QlE {α:Type} {xs:List α} {B:Nat->Unit->Option (Ctl Unit Int)} {p:α->Bool} (h:∀j x,xs[j]?=some x->B j ()=some (if p x then .ret (j:Int) else .next ())) :
  ∀(k i:Nat),i+k=xs.length->(∃j:Nat,Jf B k i ()=some (.ret (j:Int))∧(xs.drop i).any p=true)∨(Jf B k i ()=some (.next ())∧(xs.drop i).any p=false)
 |0,i,e=> .inr ⟨rfl,by rw [List.drop_eq_nil_of_le (by omega)];rfl⟩
 |k+1,i,e=>by
  have hi:i<xs.length:=by omega
  have h0:=h i xs[i] (Xb hi)
  rw [List.drop_eq_getElem_cons hi,List.any_cons]
  simp only [Jf,h0]
  cases hp:p xs[i] with
  |true=>exact .inl ⟨i,by simp,by simp⟩
  |false=>simpa using QlE h k (i+1) (by omega)
theorem QqP {α:Type} {xs:List α} {B:Nat->Unit->Option (Ctl Unit Int)} {p:α->Bool} (h:∀j x,xs[j]?=some x->B j ()=some (if p x then .ret (j:Int) else .next ())) :
  Ok (ctl (Jf B xs.length 0 ()) (fun r=>some r) (fun _=>some (-1))) fun y=>decide (0<=y)=xs.any p:=by
 rcases QlE h xs.length 0 (by omega) with ⟨j,h1,h2⟩ |⟨h1,h2⟩
 ·refine ⟨(j:Int),?_,?_⟩
  ·unfold ctl;rw [h1];rfl
  ·rw [List.drop_zero] at h2;rw [h2];simp
 ·refine ⟨-1,?_,?_⟩
  ·unfold ctl;rw [h1];rfl
  ·rw [List.drop_zero] at h2;rw [h2];rfl
theorem QbF {α:Type} {xs:List α} {B:Nat->Unit->Option (Ctl Unit Int)} {p:α->Bool} (h:∀j x,xs[j]?=some x->B j ()=some (if p x then .ret (j:Int) else .next ())) :
  ((ctl (Jf B xs.length 0 ()) (fun r=>some r) (fun _=>some (-1))).bind fun y:Int=>some (decide (0<=y)))=some (xs.any p):=by
 obtain ⟨y,h1,h2⟩:=QqP h
 rw [h1,Xa,h2]
theorem QdY {α S:Type} {xs:List α} {B:Nat->S->Option S} {s:S} {Q:S->Prop} (Inv:List α->S->Prop) (h0:Inv [] s) (h:∀(j:Nat) (l:List α) (x:α) (s:S),xs[j]?=some x->l=xs.take j->Inv l s->Ok (B j s) (Inv (l++[x]))) (k:∀s,Inv xs s->Q s):Ok (Go.Pw.forS B xs.length 0 s) Q:=by
 refine Ok.forS (fun j s=>Inv (xs.take j) s) (by simpa using h0) (fun j s hj hs=>?_) fun s hs=>k s (by simpa using hs)
 refine (h j _ xs[j] s (Xb hj) rfl hs).mono fun s' h'=>?_
 rw [List.take_add_one,Xb hj]
 exact h'
/-! ### sorting -/
abbrev QkW (l:List Int):List Int:=l.mergeSort fun x y=>decide (x<=y)
theorem Qiq (l:List Int):(QkW l).Perm l:=List.mergeSort_perm l _
theorem Qmn (l:List Int):(QkW l).Pairwise (·<=·):=by
 have:(QkW l).Pairwise (fun x y=>decide (x<=y)=true):=by
  apply List.pairwise_mergeSort
  ·intro a b c h1 h2;simp only [Xz] at *;omega
  ·intro a b;simp only [X4,Xz];omega
 exact this.imp fun h=>by simpa using h
theorem Qq1 {l k:List Int} (h:k.Perm l) (hk:k.Pairwise (·<=·)):QkW l=k :=
 List.Perm.eq_of_pairwise (fun a b _ _ h1 h2=>by omega) (Qmn l) hk ((Qiq l).trans h.symm)
theorem QoX {l k:List Int} (h:l.Perm k):QkW l=QkW k:=Qq1 ((Qiq k).trans h.symm) (Qmn k)
theorem QlD:∀(ord l:List Int),(l.length+ord.length) * 8<=140737488355328->QgC (fun x ticks=>(app 8 ticks [x]).bind fun l=>some l) ord l=some (l++ord)
 |[],l,_=>by simp [QgC]
 |x::ord,l,h=>by
  simp only [Xw] at h
  rw [QgC,QD (by simp;omega)]
  simp only [Xa]
  rw [QlD ord (l++[x]) (by simp;omega)]
  simp
end Go.Pw
/- -/
namespace Go.Pw
instance:Inhabited Gj:=⟨⟨0,0⟩⟩
instance:Inhabited Job:=⟨⟨⟨#[]⟩,0,[],[],[],[],[]⟩⟩
instance:Inhabited Launch:=⟨⟨0,0⟩⟩
/-! ### lists of facts -/
def Kp (a b:List Gj):Bool:=a.any fun x=>b.any fun y=>decide (x.Var=y.Var)
theorem Qun (b:List Gj) (x:Gj):QS b x=some (b.any fun y=>decide (x.Var=y.Var)):=by
 unfold QS Jz
 refine QbF (p:=fun y:Gj=>decide (x.Var=y.Var)) fun j y hy=>?_
 rw [Qq,hy]
 simp only [Xa,KQ]
 split <;> rfl
theorem Qum (a b:List Gj):Yy a b=some (Kp a b):=by
 have h:Jd a b=some (Kp a b):=by
  unfold Jd JE
  refine QbF (p:=fun x:Gj=>b.any fun y=>decide (x.Var=y.Var)) fun j x hx=>?_
  rw [Qq,hx]
  simp only [Xa,Qa3,Qun]
  split <;> rfl
 unfold Yy
 rw [h];rfl
def Qan (f:List Gj) (s:List Int):Bool:=f.all fun x=>decide (idx s x.Var=some x.Val)
theorem QnD {α:Type} {s:List α} {i:Int} (h:i<0∨(s.length:Int)<=i):idx s i=none:=by
 unfold idx
 split
 ·rw [X3];omega
 ·rfl
theorem GI {α:Type} {s:List α} {i:Int} (h0:0<=i) (h1:i<s.length):∃x,idx s i=some x∧s[i.toNat]?=some x:=by
 unfold idx
 rw [if_pos h0]
 exact ⟨s[i.toNat]'(by omega),by simp,by simp⟩
theorem Qd7 (f:List Gj) (s:List Int):Kt f s=some (Qan f s):=by
 unfold Kt Qan
 rw [Qe3 (p:=fun x:Gj=>decide (idx s x.Var=some x.Val)) (r:=false)]
 ·cases f.all _ <;> rfl
 ·intro j x hx
  rw [Qq,hx,Xa]
  by_cases h0:x.Var<0
  ·have hn:idx s x.Var=none:=QnD (.inl h0)
   simp [h0,hn]
  ·by_cases h1:(s.length:Int)<=x.Var
   ·have hn:idx s x.Var=none:=QnD (.inr h1)
    simp [h0,h1,hn]
   ·obtain ⟨y,hy,_⟩:=GI (s:=s) (i:=x.Var) (by omega) (by omega)
    simp only [h0,h1,hy,decide_false,Xf,if_false,Xa,XI]
    by_cases e:y=x.Val <;> simp [e]
/-! ### happenings -/
def wrH (j:Job) (e:Bool):List Gj:=if e then j.AtEnd else j.AtStart
def rdH (j:Job) (e:Bool):List Gj:=if e then j.End else j.Start
def QiR (a b:Job) (e f:Bool):Bool:=Kp (wrH a e) (wrH b f) ||Kp (wrH a e) (rdH b f) ||Kp (rdH a e) (wrH b f)
theorem Qio {t:Ge} {h:Gh} {j:Job} (hj:idx t.Jobs h.job=some j):KB t h=some (wrH j h.end_):=by
 unfold KB wrH
 cases h.end_ <;> simp [hj]
theorem Qkf {t:Ge} {h:Gh} {j:Job} (hj:idx t.Jobs h.job=some j):Ya t h=some (rdH j h.end_):=by
 unfold Ya rdH
 cases h.end_ <;> simp [hj]
theorem QhU {t:Ge} {g h:Gh} {i j:Job} (hi:idx t.Jobs g.job=some i) (hj:idx t.Jobs h.job=some j):K1 t g h=some (QiR i j g.end_ h.end_):=by
 unfold K1 QiR
 simp only [Qio hi,Qio hj,Qkf hi,Qkf hj,Qum,Xa]
 cases Kp (wrH i g.end_) (wrH j h.end_) <;> cases Kp (wrH i g.end_) (rdH j h.end_) <;> cases Kp (rdH i g.end_) (wrH j h.end_) <;> rfl
theorem QdA (a b:List Gj):Kp a b=Kp b a:=by
 rw [Bool.eq_iff_iff]
 simp only [Kp,List.any_eq_true,Xz]
 exact ⟨fun ⟨x,hx,y,hy,h⟩=>⟨y,hy,x,hx,h.symm⟩,fun ⟨x,hx,y,hy,h⟩=>⟨y,hy,x,hx,h.symm⟩⟩
theorem Qgv {a b:List Gj}:Kp a b=true↔∃x ∈ a,∃y ∈ b,x.Var=y.Var:=by
 simp only [Kp,List.any_eq_true,Xz]
theorem QqI (a b:Job) (e f:Bool):QiR a b e f=QiR b a f e:=by
 unfold QiR
 rw [QdA (wrH a e) (wrH b f),QdA (wrH a e) (rdH b f),QdA (rdH a e) (wrH b f)]
 cases Kp (wrH b f) (wrH a e) <;> cases Kp (rdH b f) (wrH a e) <;> cases Kp (wrH b f) (rdH a e) <;> rfl
/-! ### Check, accept -/
structure GH (n:Nat) (l:List Gj):Prop where
 asc:l.Pairwise fun a b=>a.Var<b.Var
 rng:∀f ∈ l,0<=f.Var∧f.Var<n
structure D6 (n:Nat) (j:Job):Prop where
 dur:1<=j.Duration∧j.Duration<=62
 start:GH n j.Start
 over:GH n j.Over
 end_:GH n j.End
 atStart:GH n j.AtStart
 atEnd:GH n j.AtEnd
structure Chk (t:Ge):Prop where
 jobs:t.Jobs.length<=24
 vars:t.Vars.length<=64
 ini:t.Init.length=t.Vars.length
 goal:GH t.Vars.length t.Goal
 job:∀j ∈ t.Jobs,D6 t.Vars.length j
 nam:∀j ∈ t.Jobs,j.Name.size<=256
structure GX (t:Ge):Prop where
 jobs:t.Jobs.length<=1000
 name:∀j ∈ t.Jobs,(j.Name.size:Int)<=9223372036854775807
theorem QhO (vars:List Int) (l:List Gj):Ok (Ku vars l) fun b=>b=true->GH vars.length l:=by
 unfold Ku
 refine Ok.ctl (fun j last=> -1<=last∧(∀f ∈ l.take j,f.Var<=last∧0<=f.Var∧f.Var<vars.length)∧(l.take j).Pairwise fun a b=>a.Var<b.Var) (fun r=>r=false) ⟨by omega,by simp,by simp⟩ ?_ (fun r hr=>⟨r,rfl,fun h=>by rw [hr] at h;cases h⟩) fun s hs=>⟨true,rfl,fun _=>?_⟩
 ·intro j last hj ⟨h1,h2,h3⟩
  refine Ok.step (a:=l[j]) (by rw [Qq,Xb hj]) ?_
  by_cases c1:l[j].Var<=last
  ·simp only [c1,decide_true,if_true,Xa];exact ⟨_,rfl,rfl⟩
  by_cases c2:(vars.length:Int)<=l[j].Var
  ·simp only [c1,c2,decide_true,decide_false,Xf,if_true,if_false,Xa];exact ⟨_,rfl,rfl⟩
  by_cases c3:l[j].Val<0
  ·simp only [c1,c2,c3,decide_true,decide_false,Xf,if_true,if_false,Xa];exact ⟨_,rfl,rfl⟩
  obtain ⟨y,hy,_⟩:=GI (s:=vars) (i:=l[j].Var) (by omega) (by omega)
  simp only [c1,c2,c3,hy,decide_true,decide_false,Xf,if_true,if_false,Xa]
  refine Jl (fun _=>⟨_,Z,Z⟩) fun _=>⟨_,Z,?_,?_,?_⟩
  ·omega
  ·intro f hf
   rw [List.take_add_one,Xb hj] at hf
   rcases Xn.1 hf with hf |hf
   ·have:=h2 f hf;omega
   ·have:f=l[j]:=by simpa using hf
    subst this;omega
  ·rw [List.take_add_one,Xb hj]
   refine List.pairwise_append.2 ⟨h3,by simp,fun a ha b hb=>?_⟩
   have:b=l[j]:=by simpa using hb
   subst this
   have:=h2 a ha;omega
 ·obtain ⟨h1,h2,h3⟩:=hs
  rw [List.take_length] at h2 h3
  exact ⟨h3,fun f hf=>⟨(h2 f hf).2.1,(h2 f hf).2.2⟩⟩
theorem Qrb (vars s:List Int):Ok (Kc vars s) fun b=>b=true->s.length=vars.length:=by
 unfold Kc
 by_cases h:(s.length:Int)=(vars.length:Int)
 ·simp only [h,decide_true,Bool.not_true,Xf,if_false]
  refine Ok.ctl (fun _ _=>True) (fun r=>r=false) trivial ?_ (fun r hr=>⟨r,rfl,fun h=>by rw [hr] at h;cases h⟩) fun s _=>⟨true,rfl,fun _=>by omega⟩
  intro j _ hj _
  refine Ok.step (a:=s[j]) (by rw [Qq,Xb hj]) ?_
  by_cases c1:s[j]<0
  ·simp only [c1,decide_true,if_true,Xa];exact ⟨_,rfl,rfl⟩
  simp only [c1,decide_false,Xf,if_false]
  rw [Qq,Xb (by omega)]
  simp only [Xa]
  exact Jl (fun _=>⟨_,Z,Z⟩) fun _=>⟨_,Z,trivial⟩
 ·simp only [h,decide_false,Bool.not_false,if_true]
  exact ⟨false,Z,fun h=>by cases h⟩
def Qgl (t:Ge):List (List Gj):=t.Goal::t.Jobs.flatMap fun j=>[j.Start,j.Over,j.End,j.AtStart,j.AtEnd]
theorem Qv4:∀js:List Job,(js.flatMap fun j=>[j.Start,j.Over,j.End,j.AtStart,j.AtEnd]).length=js.length * 5
 |[]=>rfl
 |j::js=>by rw [List.flatMap_cons,Xt,Qv4 js];simp;omega
theorem QsT {t:Ge} (h:t.Jobs.length<=1000):Qar t=some (Qgl t):=by
 unfold Qar
 have:Ok (forS (fun i667=>fun (out737:(List (List Gj)))=>(idx t.Jobs (i667:Int)).bind fun x844 =>
   (app 24 out737 [x844.Start,x844.Over,x844.End,x844.AtStart,x844.AtEnd]).bind fun l878=>some l878) (t.Jobs.length) 0 [t.Goal]) (fun r=>r=Qgl t):=by
  refine QdY (fun js out=>out=t.Goal::js.flatMap fun j=>[j.Start,j.Over,j.End,j.AtStart,j.AtEnd]) Z ?_ fun s hs=>hs
  rintro j l x s hx rfl rfl
  refine Ok.step (by rw [Qq];exact hx) (Ok.step (QD ?_) ⟨_,Z,?_⟩)
  ·rw [Xw,Qv4]
   have:(t.Jobs.take j).length<=1000:=by rw [XF];omega
   simp only [Xw,XC]
   omega
  ·rw [List.flatMap_append];simp
 obtain ⟨r,h1,rfl⟩:=this
 rw [h1];rfl
theorem QmI (l:List (List Gj)):Ok (Ja l) fun _=>True:=by
 unfold Ja JB
 rw [QbF (p:=fun x=>Y4 x)]
 ·exact ⟨_,Z,trivial⟩
 ·intro j x hx
  rw [Qq,hx]
  simp only [Xa]
  split <;> rfl
theorem QmH (l:List (List Gj)) (t:Ge):Ok (QJ l t) fun b=>b=false->∀x ∈ l,GH t.Vars.length x:=by
 unfold QJ JA
 have hF:∀x:List Gj,Y3 x t=some (!((Ku t.Vars x).getD false)):=fun x=>by
  obtain ⟨b,h,_⟩:=QhO t.Vars x
  unfold Y3
  rw [h];rfl
 rw [QbF (p:=fun x=>!((Ku t.Vars x).getD false))]
 ·refine ⟨_,Z,fun h x hx=>?_⟩
  have h1:=List.any_eq_false.1 h x hx
  obtain ⟨b,h2,h3⟩:=QhO t.Vars x
  rw [h2] at h1
  exact h3 (by simpa using h1)
 ·intro j x hx
  rw [Qq,hx]
  simp only [Xa,hF]
  split <;> rfl
theorem QsL {s:ByteArray} (h:(s.size:Int)<=9223372036854775807):Ok (Yb s) fun b=>b=true->s.size<=256:=by
 unfold Yb
 refine Ok.must (by simpa using h) ?_
 refine Ok.ctl (fun _ _=>True) (fun r=>r=false) trivial ?_ (fun r hr=>⟨r,rfl,fun e=>by rw [hr] at e;cases e⟩) fun _ _=>⟨_,rfl,fun e=>by have:=of_decide_eq_true e;omega⟩
 intro j _ hj _
 have hb:j<(QcJ s).length:=by simp [QcJ];omega
 rw [Qq,Xb hb]
 simp only [Xa]
 by_cases c:(QcJ s)[j]<32
 ·simp only [c,decide_true,if_true,Xa];exact ⟨_,rfl,rfl⟩
 ·simp only [c,decide_false,Xf,if_false,Xa]
  exact Jl (fun _=>⟨_,Z,Z⟩) fun _=>⟨_,Z,trivial⟩
end Go.Pw
/- -/
namespace Go.Pw
theorem Qbm {α:Type} {l:List α} {j:Nat} (hj:j<l.length):l.take (j+1)=l.take j++[l[j]]:=by
 rw [List.take_add_one,Xb hj];rfl
theorem Qt0 {t:Ge} (ht:GX t):Ok (JN t) fun e=>e=none->Chk t:=by
 unfold JN
 refine Ok.step (QsT ht.jobs) (Ok.bind ?_)
 have key:∀z,(z=false->t.Vars.length<=64∧t.Jobs.length<=24)->Ok (if z=true then some (some 5) else ctl (Jf (R:=(Option Int)) (fun i100=>fun (_:Unit)=>(idx t.Vars (i100:Int)).bind fun x100 =>
   if ((decide (x100<1)) ||decide (64<x100)) then (some (Ctl.ret (some 1))) else (some (Ctl.next ()))) (t.Vars.length) 0 ()) (fun r=>some r) (fun (_:Unit)=>ctl (Jf (R:=((Option Int))) (fun i101=>fun (_:Unit)=>(idx t.Jobs (i101:Int)).bind fun x101 =>
   if ((decide (x101.Duration<1)) ||decide (62<x101.Duration)) then (some (Ctl.ret (some 1))) else (some (Ctl.next ()))) (t.Jobs.length) 0 ()) (fun r=>some r) (fun (_:Unit)=>((Kc t.Vars t.Init).bind <|fun (y102:Bool) =>
   if !y102 then (some true) else ((QJ (Qgl t) t).bind <|fun (y103:Bool)=>some y103)).bind (fun (z101:Bool)=>if z101 then (some (some 2))
   else (ctl (Jf (R:=((Option Int))) (fun i102=>fun (_:Unit)=>(idx t.Jobs (i102:Int)).bind fun x102 =>
   (Yb x102.Name).bind <|fun (y104:Bool)=>if !y104 then (some (Ctl.ret (some 8))) else (some (Ctl.next ()))) (t.Jobs.length) 0 ()) (fun r=>some r) (fun (_:Unit)=>some none)))))) (fun e=>e=none->Chk t):=by
  intro z hz
  refine Jl (fun _=>⟨_,Z,fun h=>by cases h⟩) fun hz0=>?_
  obtain ⟨hv,hj⟩:=hz hz0
  refine Ok.ctl (fun _ _=>True) (fun r=>r≠none) trivial ?_ (fun r hr=>⟨r,Z,fun h=>absurd h hr⟩) fun _ _=>?_
  ·intro j _ hj _
   refine Ok.step (by rw [Qq,Xb hj]) ?_
   exact Jl (fun _=>⟨_,rfl,fun h=>by cases h⟩) fun _=>⟨_,rfl,trivial⟩
  refine Ok.ctl (fun j _=>∀x ∈ t.Jobs.take j,1<=x.Duration∧x.Duration<=62) (fun r=>r≠none) (by simp) ?_ (fun r hr=>⟨r,Z,fun h=>absurd h hr⟩) fun _ hd=>?_
  ·intro j _ hj hi
   refine Ok.step (by rw [Qq,Xb hj]) ?_
   refine Jl (fun _=>⟨_,rfl,fun h=>by cases h⟩) fun hc=>⟨_,rfl,fun x hx=>?_⟩
   rw [Qbm hj] at hx
   rcases Xn.1 hx with hx |hx
   ·exact hi x hx
   ·have:x=t.Jobs[j]:=by simpa using hx
    subst this
    simp only [Bool.or_eq_false_iff,Xx] at hc
    omega
  rw [List.take_length] at hd
  refine Ok.bind (Ok.bind ((Qrb t.Vars t.Init).mono fun b hb=>?_))
  have hnam:Ok (ctl (Jf (R:=((Option Int))) (fun i102=>fun (_:Unit)=>(idx t.Jobs (i102:Int)).bind fun x102 =>
   (Yb x102.Name).bind <|fun (y104:Bool)=>if !y104 then (some (Ctl.ret (some 8))) else (some (Ctl.next ()))) (t.Jobs.length) 0 ()) (fun r=>some r) (fun (_:Unit)=>some none)) (fun e=>e=none->∀x ∈ t.Jobs,x.Name.size<=256):=by
   refine Ok.ctl (fun j _=>∀x ∈ t.Jobs.take j,x.Name.size<=256) (fun r=>r≠none) (by simp) ?_ (fun r hr=>⟨r,Z,fun h=>absurd h hr⟩) fun _ h=>⟨_,Z,fun _=>by rwa [List.take_length] at h⟩
   intro j _ hj hi
   refine Ok.step (by rw [Qq,Xb hj]) ?_
   refine Ok.bind ((QsL (ht.name _ (List.getElem_mem hj))).mono fun y hy=>?_)
   refine Jl (fun _=>⟨_,rfl,fun h=>by cases h⟩) fun hc=>⟨_,rfl,fun x hx=>?_⟩
   rw [Qbm hj] at hx
   rcases Xn.1 hx with hx |hx
   ·exact hi x hx
   ·have:x=t.Jobs[j]:=by simpa using hx
    subst this
    exact hy (by simpa using hc)
  cases b with
  |false=>exact ⟨true,rfl,_,rfl,fun h=>by cases h⟩
  |true =>
   simp only [Bool.not_true,Xf,if_false]
   refine Ok.bind ((QmH (Qgl t) t).mono fun c hc=>?_)
   refine ⟨c,Z,?_⟩
   refine Jl (fun _=>⟨_,Z,fun h=>by cases h⟩) fun hc0=>hnam.mono fun e hnm he=>?_
   have hl:=hc hc0
   refine ⟨hj,hv,hb Z,hl _ (by simp [Qgl]),fun j hjm=>?_,hnm he⟩
   have hm:∀x ∈ [j.Start,j.Over,j.End,j.AtStart,j.AtEnd],GH t.Vars.length x:=fun x hx=>hl x (List.mem_cons_of_mem _ (List.mem_flatMap.2 ⟨j,hjm,hx⟩))
   exact ⟨hd j hjm,hm _ (by simp),hm _ (by simp),hm _ (by simp),hm _ (by simp),hm _ (by simp)⟩
 by_cases c1:64<(t.Vars.length:Int)
 ·simp only [c1,decide_true,if_true]
  exact ⟨true,Z,key true (by simp)⟩
 by_cases c2:24<(t.Jobs.length:Int)
 ·simp only [c1,c2,decide_true,decide_false,Xf,if_false,if_true]
  exact ⟨true,Z,key true (by simp)⟩
 simp only [c1,c2,decide_false,Xf,if_false]
 refine Ok.bind ((QmI (Qgl t)).mono fun z _=>⟨z,Z,key z fun _=>by omega⟩)
/-! ### accept -/
structure LOK (t:Ge) (l:Launch):Prop where
 j0:0<=l.Job
 j1:l.Job<t.Jobs.length
 a0:0<=l.At
 a1:l.At<=1048576
structure Acc (t:Ge) (L:List Launch):Prop where
 check:JN t=some none
 chk:Chk t
 len:L.length<=4096
 ok:∀l ∈ L,LOK t l
theorem QqZ {t:Ge} (ht:GX t) (L:List Launch):Ok (KC t L) fun e=>e=none->Acc t L:=by
 unfold KC
 obtain ⟨e,he,hc⟩:=Qt0 ht
 refine Ok.step he ?_
 cases e with
 |some z=>exact ⟨some z,rfl,fun h=>by cases h⟩
 | none =>
  simp only [Option.isSome_none,Xf,if_false]
  refine Jl (fun _=>⟨_,Z,fun h=>by cases h⟩) fun hl=>?_
  refine Ok.ctl (fun j _=>∀l ∈ L.take j,LOK t l) (fun r=>r≠none) (by simp) ?_ (fun r hr=>⟨r,Z,fun h=>absurd h hr⟩) fun _ hd=>⟨none,Z,fun _=>⟨he,hc Z,by have:=QiE hl;omega,by rwa [List.take_length] at hd⟩⟩
  intro j _ hj hi
  refine Ok.step (by rw [Qq,Xb hj]) ?_
  refine Jl (fun _=>⟨_,rfl,fun h=>by cases h⟩) fun hc=>⟨_,rfl,fun x hx=>?_⟩
  rw [Qbm hj] at hx
  rcases Xn.1 hx with hx |hx
  ·exact hi x hx
  ·have:x=L[j]:=by simpa using hx
   subst this
   simp only [Bool.or_eq_false_iff,Xx] at hc
   exact ⟨by omega,by omega,by omega,by omega⟩
theorem Qo1 {t:Ge} {L:List Launch} (hc:JN t=some none) (hl:L.length<=4096) (ho:∀l ∈ L,LOK t l):KC t L=some none:=by
 unfold KC
 rw [hc]
 simp only [Xa,Option.isSome_none,Xf,if_false]
 rw [if_neg (by simp;omega)]
 rw [Qe3 (p:=fun _=>true) (r:=some 1)]
 ·simp
 ·intro j x hx
  rw [Qq,hx,Xa]
  have:=ho x (List.mem_of_getElem? hx)
  obtain ⟨a,b,c,d⟩:=this
  rw [if_neg]
  ·rfl
  ·simp;omega
/-! ### jobs and times -/
def jb (t:Ge) (l:Launch):Job:=t.Jobs[l.Job.toNat]!
def QV (t:Ge) (l:Launch):Int:=l.At+(jb t l).Duration
theorem Qb4 {t:Ge} {l:Launch} (h:LOK t l):idx t.Jobs l.Job=some (jb t l):=by
 obtain ⟨x,h1,h2⟩:=GI (s:=t.Jobs) h.j0 h.j1
 rw [h1,jb,List.getElem!_eq_getElem?_getD,h2];rfl
theorem QbP {t:Ge} {l:Launch} (h:LOK t l):jb t l ∈ t.Jobs:=by
 have:=Qb4 h
 unfold idx at this
 split at this
 ·exact List.mem_of_getElem? this
 ·cases this
theorem QjU {t:Ge} {l:Launch} (hc:Chk t) (h:LOK t l):Kq t l=some (QV t l):=by
 unfold Kq
 rw [Qb4 h,Xa,Q7]
 ·rfl
 ·have:=(hc.job _ (QbP h)).dur;have:=h.a0;omega
 ·have:=(hc.job _ (QbP h)).dur;have:=h.a1;omega
theorem Qcl {t:Ge} {l:Launch} (hc:Chk t) (h:LOK t l):l.At<QV t l∧QV t l<=l.At+62:=by
 have:=(hc.job _ (QbP h)).dur
 unfold QV;omega
/-! ### the happenings of a tick -/
def Qaz (t:Ge) (L:List Launch) (q:Int):List Gh:=L.flatMap fun l=>(if l.At=q then [⟨l.Job,false⟩] else [])++(if QV t l=q then [⟨l.Job,true⟩] else [])
theorem QiK (t:Ge) (L:List Launch) (l:Launch) (q:Int):Qaz t (L++[l]) q=Qaz t L q++((if l.At=q then [⟨l.Job,false⟩] else [])++(if QV t l=q then [⟨l.Job,true⟩] else [])):=by
 unfold Qaz;rw [List.flatMap_append];simp
theorem Qfc (t:Ge) (q:Int):∀L:List Launch,(Qaz t L q).length<=2 * L.length
 |[]=>by simp [Qaz]
 |l::L=>by
  have ih:=Qfc t q L
  unfold Qaz at ih ⊢
  rw [List.flatMap_cons,Xt,Xw,Xt]
  have h1:(if l.At=q then [(⟨l.Job,false⟩:Gh)] else []).length<=1:=by split <;> simp
  have h2:(if QV t l=q then [(⟨l.Job,true⟩:Gh)] else []).length<=1:=by split <;> simp
  omega
structure D1 (t:Ge) (L:List Launch) (M:List (Int×List Gh)):Prop where
 nd:(M.map Prod.fst).Nodup
 get:∀q,(Qcf M q).getD []=Qaz t L q
 key:∀q,q ∈ M.map Prod.fst↔∃l ∈ L,l.At=q∨QV t l=q
 len:M.length<=2 * L.length
theorem D1.hget {t:Ge} {L:List Launch} {M:List (Int×List Gh)} (h:D1 t L M) {q:Int} (hq:QfA q):YZ M q=some (Qaz t L q):=by
 unfold YZ;rw [if_pos hq,h.get]
theorem Qnz {M:List (Int×List Gh)} {q:Int} {x:Gh} {R:Int->List Gh} {Ks:Int->Prop} {n:Nat} (hq:QfA q) (hn:n<=100000) (hR:(R q).length<=100000)
  (h1:(M.map Prod.fst).Nodup) (h2:∀p,(Qcf M p).getD []=R p) (h3:∀p,p ∈ M.map Prod.fst↔Ks p) (h4:M.length<=n) {β:Type} {P:β->Prop} {f:List (Int×List Gh)->Option β}
  (k:∀M',(M'.map Prod.fst).Nodup->(∀p,(Qcf M' p).getD []=R p++(if q=p then [x] else []))->(∀p,p ∈ M'.map Prod.fst↔Ks p∨q=p)->M'.length<=n+1->Ok (f M') P) :
  Ok ((YZ M q).bind fun r=>(app 16 r [x]).bind fun l=>(QdW M q l).bind f) P:=by
 have hg:YZ M q=some (R q):=by unfold YZ;rw [if_pos hq,h2]
 refine Ok.step hg (Ok.step (QD (by simp;omega)) (Ok.step (a:=Qcx M q (R q++[x])) ?_ (k _ (Qhe h1 _ _) (fun p=>?_) (fun p=>?_) ?_)))
 ·unfold QdW;rw [if_pos ⟨hq,by simp [maxLen];omega⟩]
 ·rw [QfJ]
  by_cases e:q=p
  ·subst e;simp
  ·rw [if_neg e,if_neg e,h2];simp
 ·rw [<-Qe5,QfJ]
  by_cases e:q=p
  ·subst e;simp
  ·rw [if_neg e,Qe5,h3];simp [e]
 ·rw [QiN];split <;> omega
theorem Qlh {t:Ge} {L:List Launch} (hA:Acc t L):∃M,KT t L=some (M,QkW (M.map Prod.fst))∧D1 t L M:=by
 have hI:∀l ∈ L,QfA l.At∧QfA (QV t l):=fun l hl=>by
  have h1:=hA.ok l hl
  have h2:=Qcl hA.chk h1
  have:=h1.a0;have:=h1.a1
  constructor <;> constructor <;> omega
 have hloop:Ok (forS (fun i100=>fun (l100:(List (Int×(List Gh))))=>(idx L (i100:Int)).bind fun x100 =>
   (YZ l100 x100.At).bind fun r100=>(app 16 r100 [(⟨x100.Job,false⟩:Gh)]).bind fun l101=>(QdW l100 x100.At l101).bind fun m100 =>
   (Kq t x100).bind <|fun (y100:Int)=>(YZ m100 y100).bind fun r101=>(app 16 r101 [(⟨x100.Job,true⟩:Gh)]).bind fun l102 =>
   (QdW m100 y100 l102).bind fun m101=>some m101) (L.length) 0 ([]:(List (Int×(List Gh))))) (D1 t L):=by
  refine QdY (D1 t) ⟨by simp,fun q=>rfl,fun q=>by simp,by simp⟩ ?_ fun s hs=>hs
  intro j l x M hx hl hM
  have hxm:=List.mem_of_getElem? hx
  have hll:l.length<=4096:=by rw [hl,XF];have:=hA.len;omega
  refine Ok.step (by rw [Qq];exact hx) ?_
  refine Qnz (hI x hxm).1 (n:=2 * l.length) (by omega) ?_ hM.nd hM.get hM.key hM.len ?_
  ·have:=Qfc t x.At l;omega
  intro M1 a1 a2 a3 a4
  refine Ok.step (QjU hA.chk (hA.ok x hxm)) ?_
  refine Qnz (hI x hxm).2 (n:=2 * l.length+1) (by omega) ?_ a1 a2 a3 a4 ?_
  ·have:=Qfc t (QV t x) l
   rw [Xt]
   split <;> simp <;> omega
  intro M2 b1 b2 b3 b4
  refine ⟨M2,Z,b1,fun q=>?_,fun q=>?_,by simp;omega⟩
  ·rw [b2,QiK,List.append_assoc]
  ·rw [b3]
   simp only [Xn,X8]
   constructor
   ·rintro ((⟨l',h1,h2⟩ |h) |h)
    ·exact ⟨l', .inl h1,h2⟩
    ·exact ⟨x, .inr Z, .inl h⟩
    ·exact ⟨x, .inr Z, .inr h⟩
   ·rintro ⟨l',h1 |rfl,h2⟩
    ·exact .inl (.inl ⟨l',h1,h2⟩)
    ·rcases h2 with h2 |h2
     ·exact .inl (.inr h2)
     ·exact .inr h2
 obtain ⟨M,h1,hM⟩:=hloop
 refine ⟨M,?_,hM⟩
 unfold KT
 rw [h1,Xa]
 refine Qq8 fun ord ho=>?_
 have hlen:ord.length<=8192:=by
  have:=ho.length_eq
  rw [X6] at this
  have:=hM.len;have:=hA.len;omega
 rw [QlD ord [] (by simp;omega)]
 simp only [List.nil_append,Xa,QeY]
 rw [if_pos (by omega)]
 simp only [Xa]
 rw [show (ord.mergeSort fun x y=>decide (x<=y))=QkW (M.map Prod.fst) from QoX ho]
end Go.Pw
/- -/
namespace Go.Pw
/-! ### happenings by launch -/
def Q3 (L:List Launch) (i:Nat):Launch:=L[i]!
theorem Kr {L:List Launch} {i:Nat} (h:i<L.length):L[i]?=some (Q3 L i):=by simp [Q3,h]
theorem QQ {L:List Launch} {i:Nat} (h:i<L.length):Q3 L i ∈ L:=List.mem_of_getElem? (Kr h)
def Kl (t:Ge) (L:List Launch) (x:Nat×Bool):Int:=if x.2 then QV t (Q3 L x.1) else (Q3 L x.1).At
def jH (t:Ge) (L:List Launch) (x:Nat×Bool):Job:=jb t (Q3 L x.1)
def wrX (t:Ge) (L:List Launch) (x:Nat×Bool):List Gj:=wrH (jH t L x) x.2
def rdX (t:Ge) (L:List Launch) (x:Nat×Bool):List Gj:=rdH (jH t L x) x.2
def Qce (t:Ge) (L:List Launch) (x y:Nat×Bool):Bool:=QiR (jH t L x) (jH t L y) x.2 y.2
def QmR (L:List Launch) (x:Nat×Bool):Gh:=⟨(Q3 L x.1).Job,x.2⟩
def Qf7 (n:Nat):List (Nat×Bool):=(List.range n).flatMap fun i=>[(i,false),(i,true)]
theorem Qg0 (n:Nat):Qf7 (n+1)=Qf7 n++[(n,false),(n,true)]:=by
 unfold Qf7;rw [List.range_succ,List.flatMap_append];simp
theorem QfF {n:Nat} {x:Nat×Bool}:x ∈ Qf7 n↔x.1<n:=by
 unfold Qf7
 rw [List.mem_flatMap]
 obtain ⟨i,b⟩:=x
 constructor
 ·rintro ⟨j,hj,hx⟩
  simp only [XG] at hj
  simp at hx
  rcases hx with ⟨rfl,_⟩ |⟨rfl,_⟩ <;> exact hj
 ·intro h
  exact ⟨i,XG.2 h,by cases b <;> simp⟩
theorem Qhf:∀n:Nat,(Qf7 n).Nodup
 |0=>by simp [Qf7]
 |n+1=>by
  rw [Qg0]
  refine XA.2 ⟨Qhf n,by simp,fun x hx y hy=>?_⟩
  rw [QfF] at hx
  rintro rfl
  simp at hy
  rcases hy with rfl |rfl <;> simp at hx
def ixA (t:Ge) (L:List Launch) (a:Int):List (Nat×Bool):=(Qf7 L.length).filter fun x=>decide (Kl t L x=a)
theorem QdV {t:Ge} {L:List Launch} {a:Int} {x:Nat×Bool}:x ∈ ixA t L a↔x.1<L.length∧Kl t L x=a:=by
 unfold ixA;rw [List.mem_filter,QfF];simp
theorem QqF (t:Ge) (L:List Launch) (a:Int):(ixA t L a).Nodup:=(Qhf _).filter _
theorem Qix (t:Ge) (L:List Launch) (a:Int):Qaz t L a=(ixA t L a).map (QmR L):=by
 have h:∀n,n<=L.length->Qaz t (L.take n) a=((Qf7 n).filter fun x=>decide (Kl t L x=a)).map (QmR L):=by
  intro n
  induction n with
  |zero=>intro _;simp [Qaz,Qf7]
  |succ n ih =>
   intro hn
   rw [Qbm (by omega),QiK,ih (by omega),Qg0,List.filter_append,List.map_append]
   congr 1
   have e:L[n]=Q3 L n:=by simp [Q3,show n<L.length by omega]
   rw [e]
   by_cases c1:(Q3 L n).At=a <;> by_cases c2:QV t (Q3 L n)=a <;> simp [Kl,QmR,c1,c2]
 have:=h L.length (Xi _)
 rw [List.take_length] at this
 exact this
/-! ### what a tick asks -/
def QmY (t:Ge) (L:List Launch) (a:Int):Prop:=∀i k,i<L.length->k<L.length->i≠k->(Q3 L i).At=a->(Q3 L i).Job=(Q3 L k).Job->¬((Q3 L k).At<=a∧a<=QV t (Q3 L k))
def QdQ (t:Ge) (L:List Launch) (a:Int):Prop:=∀x y:Nat×Bool,x.1<L.length->y.1<L.length->Kl t L x=a->Kl t L y=a->x≠y->Qce t L x y=false
def Qp7 (t:Ge) (L:List Launch) (a:Int) (s:List Int):Prop:=∀x:Nat×Bool,x.1<L.length->Kl t L x=a->Qan (rdX t L x) s=true
def QoS (t:Ge) (L:List Launch) (a:Int) (s:List Int):Prop:=∀i,i<L.length->(Q3 L i).At<=a->a<QV t (Q3 L i)->Qan (jb t (Q3 L i)).Over s=true
def Do (t:Ge) (L:List Launch) (a:Int) (s s':List Int):Prop:=s'.length=s.length∧∀v:Nat,v<s.length ->
 (∃x:Nat×Bool,x.1<L.length∧Kl t L x=a∧∃f ∈ wrX t L x,f.Var=(v:Int)∧s'[v]?=some f.Val)∨((∀x:Nat×Bool,x.1<L.length->Kl t L x=a->∀f ∈ wrX t L x,f.Var≠(v:Int))∧s'[v]?=s[v]?)
theorem Qom {t:Ge} {L:List Launch} (hA:Acc t L) (a:Int):Ok (Y1 t L a) fun b=>b=false↔QmY t L a:=by
 unfold Y1
 refine Ok.ctl (fun j _=>∀i k,i<j->i<L.length->k<L.length->i≠k->(Q3 L i).At=a->(Q3 L i).Job=(Q3 L k).Job->¬((Q3 L k).At<=a∧a<=QV t (Q3 L k))) (fun r=>r=true∧¬QmY t L a) (fun i k h=>by omega) ?_ (fun r hr=>⟨r,Z,by rw [hr.1];exact ⟨fun h=>absurd h (by simp),fun h=>absurd h hr.2⟩⟩) fun _ hi=>⟨false,Z,⟨fun _ i k h1=>hi i k h1 h1,fun _=>rfl⟩⟩
 intro j _ hj hi
 refine Ok.step (by rw [Qq];exact Kr hj) ?_
 have next:(Q3 L j).At≠a->∀i k,i<j+1->i<L.length->k<L.length->i≠k->(Q3 L i).At=a->(Q3 L i).Job=(Q3 L k).Job->¬((Q3 L k).At<=a∧a<=QV t (Q3 L k)):=fun hne i k h1 h2=>by
  by_cases e:i=j
  ·subst e;exact fun _ _ h=>absurd h hne
  ·exact hi i k (by omega) h2
 refine Jl (fun h=>⟨_,Z,next (by simpa using h)⟩) fun h=>?_
 have hat:(Q3 L j).At=a:=by simpa using h
 refine Ok.ctl (fun m _=>∀k,k<m->j≠k->(Q3 L j).Job=(Q3 L k).Job->¬((Q3 L k).At<=a∧a<=QV t (Q3 L k))) (fun r=>r=true∧¬QmY t L a) (fun k h=>by omega) ?_ (fun r hr=>⟨_,Z,hr⟩) fun _ hk=>⟨_,Z,fun i k h1 h2 h3=>?_⟩
 ·intro m _ hm hk
  refine Ok.step (by rw [Qq];exact Kr hm) ?_
  have nx:(j≠m->(Q3 L j).Job=(Q3 L m).Job->¬((Q3 L m).At<=a∧a<=QV t (Q3 L m)))->∀k,k<m+1->j≠k->(Q3 L j).Job=(Q3 L k).Job->¬((Q3 L k).At<=a∧a<=QV t (Q3 L k)):=fun h k h1=>by
   by_cases e:k=m
   ·subst e;exact h
   ·exact hk k (by omega)
  by_cases c1:((j:Int)=(m:Int))
  ·simp only [c1,decide_true,Bool.not_true,Xf,if_false,Xa]
   exact ⟨_,Z,nx fun h=>absurd (by omega) h⟩
  by_cases c2:(Q3 L j).Job=(Q3 L m).Job
  ·have e2:decide ((Q3 L j).Job=(Q3 L m).Job)=true:=by simp [c2]
   by_cases c3:(Q3 L m).At<=a
   ·simp only [c1,e2,c3,decide_true,decide_false,Bool.not_false,if_true,QjU hA.chk (hA.ok _ (QQ hm)),Xa]
    refine Jl (fun h=>⟨_,Z,Z,fun hno=>hno j m hj hm (by omega) hat c2 ⟨c3,QjH h⟩⟩) fun h=>⟨_,Z,nx fun _ _ hh=>(QiE h) hh.2⟩
   ·simp only [c1,e2,c3,decide_true,decide_false,Bool.not_false,if_true,Xf,if_false,Xa]
    exact ⟨_,Z,nx fun _ _ hh=>c3 hh.1⟩
  ·simp only [c1,c2,decide_true,decide_false,Bool.not_false,if_true,Xf,if_false,Xa]
   exact ⟨_,Z,nx fun _ h=>absurd h c2⟩
 ·by_cases e:i=j
  ·subst e;exact fun h4 _=>hk k h3 h4
  ·exact hi i k (by omega) h2 h3
/-! ### the state after -/
def wrJ (t:Ge) (h:Gh):List Gj:=wrH (t.Jobs[h.job.toNat]!) h.end_
def Dj (t:Ge) (list:List Gh) (s:List Int) (D:Nat->Prop) (s':List Int):Prop:=s'.length=s.length∧∀v:Nat,v<s.length ->
 (∃p h f,list[p]?=some h∧D p∧f ∈ wrJ t h∧f.Var=(v:Int)∧s'[v]?=some f.Val)∨((∀p h,list[p]?=some h->D p->∀f ∈ wrJ t h,f.Var≠(v:Int))∧s'[v]?=s[v]?)
theorem Dj.congr {t:Ge} {list:List Gh} {s s':List Int} {D D':Nat->Prop} (h:Dj t list s D s') (e:∀p,p<list.length->(D p↔D' p)):Dj t list s D' s':=by
 have hlt:∀{p h},list[p]?=some h->p<list.length:=fun hp=>(Xj.1 hp).1
 refine ⟨h.1,fun v hv=>?_⟩
 rcases h.2 v hv with ⟨p,x,f,h1,h2,h3⟩ |⟨h1,h2⟩
 ·exact .inl ⟨p,x,f,h1,(e p (hlt h1)).1 h2,h3⟩
 ·exact .inr ⟨fun p x h3 h4=>h1 p x h3 ((e p (hlt h3)).2 h4),h2⟩
theorem QkC {s:List Int} {fs:List Gj} (hf:∀f ∈ fs,0<=f.Var∧f.Var<s.length) :
  Ok (forS (fun i103=>fun (l103:(List Int))=>(idx fs (i103:Int)).bind fun x102=>(idx l103 x102.Var).bind fun x103=>(QbN l103 x102.Var x102.Val).bind fun l104=>some l104) (fs.length) 0 s)
   (fun s'=>s'.length=s.length∧∀v:Nat,v<s.length->(∃f ∈ fs,f.Var=(v:Int)∧s'[v]?=some f.Val)∨((∀f ∈ fs,f.Var≠(v:Int))∧s'[v]?=s[v]?)):=by
 refine QdY (fun l s'=>s'.length=s.length∧∀v:Nat,v<s.length->(∃f ∈ l,f.Var=(v:Int)∧s'[v]?=some f.Val)∨((∀f ∈ l,f.Var≠(v:Int))∧s'[v]?=s[v]?)) ⟨Z,fun v hv=> .inr ⟨by simp,Z⟩⟩ ?_ fun s' h=>h
 intro j l x s' hx hl ⟨h1,h2⟩
 obtain ⟨b1,b2⟩:=hf x (List.mem_of_getElem? hx)
 obtain ⟨n,hn⟩:∃n:Nat,x.Var=(n:Int):=⟨x.Var.toNat,by omega⟩
 refine Ok.step (by rw [Qq];exact hx) (Ok.step (a:=s'[n]'(by omega)) (by rw [hn,Qq,Xb (by omega)]) (Ok.step (a:=s'.set n x.Val) (by rw [hn];exact QaE (by omega)) ⟨_,Z,by simp [h1],fun v hv=>?_⟩))
 by_cases e:n=v
 ·subst e
  exact .inl ⟨x,by simp,hn,by rw [List.getElem?_set_self (by omega)]⟩
 ·rw [List.getElem?_set_ne e]
  rcases h2 v hv with ⟨f,g1,g2,g3⟩ |⟨g1,g2⟩
  ·exact .inl ⟨f,by simp [g1],g2,g3⟩
  ·refine .inr ⟨fun f hf=>?_,g2⟩
   rcases Xn.1 hf with hf |hf
   ·exact g1 f hf
   ·have:f=x:=by simpa using hf
    subst this;omega
theorem Dj.facts {t:Ge} {list:List Gh} {s s0 s':List Int} {D:Nat->Prop} (h:Dj t list s D s0) {q:Nat} {x:Gh} (hx:list[q]?=some x)
  (h':s'.length=s0.length∧∀v:Nat,v<s0.length->(∃f ∈ wrJ t x,f.Var=(v:Int)∧s'[v]?=some f.Val)∨((∀f ∈ wrJ t x,f.Var≠(v:Int))∧s'[v]?=s0[v]?)):Dj t list s (fun p=>D p∨p=q) s':=by
 refine ⟨h'.1.trans h.1,fun v hv=>?_⟩
 rcases h'.2 v (by rw [h.1];exact hv) with ⟨f,g1,g2,g3⟩ |⟨g1,g2⟩
 ·exact .inl ⟨q,x,f,hx, .inr Z,g1,g2,g3⟩
 ·rcases h.2 v hv with ⟨p,y,f,k1,k2,k3,k4,k5⟩ |⟨k1,k2⟩
  ·exact .inl ⟨p,y,f,k1, .inl k2,k3,k4,g2.trans k5⟩
  ·refine .inr ⟨fun p y h1 h2=>?_,g2.trans k2⟩
   rcases h2 with h2 |rfl
   ·exact k1 p y h1 h2
   ·rw [hx] at h1;cases h1;exact g1
theorem Qtu {t:Ge} (hc:Chk t) {s:List Int} (hs:s.length=t.Vars.length) {list:List Gh} (hl:∀h ∈ list,0<=h.job∧h.job<t.Jobs.length) :
  Ok (Qas t s list) (Dj t list s fun _=>True):=by
 have hj:∀h ∈ list,idx t.Jobs h.job=some (t.Jobs[h.job.toNat]!)∧(t.Jobs[h.job.toNat]!) ∈ t.Jobs:=fun h hh=>by
  obtain ⟨a,b⟩:=hl h hh
  obtain ⟨x,h1,h2⟩:=GI (s:=t.Jobs) a b
  have e:t.Jobs[h.job.toNat]! =x:=by rw [List.getElem!_eq_getElem?_getD,h2];rfl
  rw [e];exact ⟨h1,List.mem_of_getElem? h2⟩
 have hw:∀h ∈ list,∀f ∈ wrJ t h,0<=f.Var∧f.Var<s.length:=fun h hh f hf=>by
  have hk:=hc.job _ (hj h hh).2
  rw [hs]
  unfold wrJ wrH at hf
  split at hf
  ·exact hk.atEnd.rng f hf
  ·exact hk.atStart.rng f hf
 unfold Qas QW
 refine Ok.bind (Ok.step (QD (by simp;have:=hc.vars;omega)) ⟨_,Z,?_⟩)
 rw [List.nil_append]
 refine Ok.bind (Ok.forS (fun i s'=>Dj t list s (fun p=>∃h,list[p]?=some h∧(h.end_=true∧1<=i∨h.end_=false∧2<=i)) s') ⟨Z,fun v hv=> .inr ⟨fun p h hp ⟨h',e',k⟩=>k.elim (fun k=>absurd k.2 (by omega)) (fun k=>absurd k.2 (by omega)),Z⟩⟩ ?_ fun s' h=>⟨s',Z,h.congr fun p hp=>⟨fun _=>trivial,fun _=>⟨list[p],Xb hp,?_⟩⟩⟩)
 ·intro i s1 hi h1
  have hi2:i<2:=hi
  refine Ok.step (a:=decide (i=0)) (by rw [Qq];rcases (by omega:i=0∨i=1) with rfl |rfl <;> rfl) ?_
  refine Ok.bind (Ok.forS (fun j s'=>Dj t list s (fun p=>∃h,list[p]?=some h∧((h.end_=true∧1<=i∨h.end_=false∧2<=i)∨h.end_=decide (i=0)∧h.job<(j:Int))) s') (h1.congr fun p hp=>?_) ?_ fun s' h=>⟨s',Z,h.congr fun p hp=>?_⟩)
  ·constructor
   ·rintro ⟨h,a,b⟩;exact ⟨h,a, .inl b⟩
   ·rintro ⟨h,a,b |⟨_,b⟩⟩
    ·exact ⟨h,a,b⟩
    ·have:=(hl h (List.mem_of_getElem? a)).1;omega
  ·intro j s2 hj2 h2
   refine Ok.bind (Ok.forS (fun q s'=>Dj t list s (fun p=>(∃h,list[p]?=some h∧((h.end_=true∧1<=i∨h.end_=false∧2<=i)∨h.end_=decide (i=0)∧h.job<(j:Int)))∨(p<q∧∃h,list[p]?=some h∧h.end_=decide (i=0)∧h.job=(j:Int))) s') (h2.congr fun p hp=>?_) ?_ fun s' h=>⟨s',Z,h.congr fun p hp=>?_⟩)
   ·exact ⟨.inl,fun h=>h.elim id fun k=>absurd k.1 (by omega)⟩
   ·intro q s3 hq h3
    have hx:=Xb hq
    refine Ok.step (by rw [Qq];exact hx) ?_
    have hm:list[q] ∈ list:=List.getElem_mem hq
    by_cases c:list[q].end_=decide (i=0)∧list[q].job=(j:Int)
    ·obtain ⟨c1,c2⟩:=c
     rw [if_neg (by rw [c1,c2];simp)]
     refine Ok.step (Qio (hj _ hm).1) (Ok.bind ((QkC (s:=s3) (fun f hf=>by rw [h3.1];exact hw _ hm f hf)).mono fun s4 h4=>⟨s4,Z,(h3.facts hx h4).congr fun p hp=>?_⟩))
     constructor
     ·rintro ((h |⟨a,b⟩) |rfl)
      ·exact .inl h
      ·exact .inr ⟨by omega,b⟩
      ·exact .inr ⟨by omega,_,hx,c1,c2⟩
     ·rintro (h |⟨a,b⟩)
      ·exact .inl (.inl h)
      ·by_cases e:p=q
       ·exact .inr e
       ·exact .inl (.inr ⟨by omega,b⟩)
    ·rw [if_pos (by by_cases c2:list[q].job=(j:Int) <;> by_cases c1:list[q].end_=decide (i=0) <;> simp_all)]
     refine ⟨s3,Z,h3.congr fun p hp=>?_⟩
     constructor
     ·rintro (h |⟨a,b⟩)
      ·exact .inl h
      ·exact .inr ⟨by omega,b⟩
     ·rintro (h |⟨a,b⟩)
      ·exact .inl h
      ·by_cases e:p=q
       ·subst e
        obtain ⟨h,k1,k2⟩:=b
        rw [hx] at k1;cases k1
        exact absurd k2 c
       ·exact .inr ⟨by omega,b⟩
   ·constructor
    ·rintro (⟨h,a,b |⟨b,c⟩⟩ |⟨_,h,a,b,c⟩)
     ·exact ⟨h,a, .inl b⟩
     ·exact ⟨h,a, .inr ⟨b,by omega⟩⟩
     ·exact ⟨h,a, .inr ⟨b,by omega⟩⟩
    ·rintro ⟨h,a,b |⟨b,c⟩⟩
     ·exact .inl ⟨h,a, .inl b⟩
     ·by_cases e:h.job<(j:Int)
      ·exact .inl ⟨h,a, .inr ⟨b,e⟩⟩
      ·exact .inr ⟨hp,h,a,b,by omega⟩
  ·constructor
   ·rintro ⟨h,a,b |⟨b,c⟩⟩
    ·exact ⟨h,a,b.elim (fun b=> .inl ⟨b.1,by omega⟩) fun b=> .inr ⟨b.1,by omega⟩⟩
    ·refine ⟨h,a,?_⟩
     rcases (by omega:i=0∨i=1) with rfl |rfl
     ·exact .inl ⟨by simpa using b,by omega⟩
     ·exact .inr ⟨by simpa using b,by omega⟩
   ·rintro ⟨h,a,b⟩
    have hjb:=hl h (List.mem_of_getElem? a)
    refine ⟨h,a,?_⟩
    rcases b with ⟨b,c⟩ |⟨b,c⟩
    ·by_cases e:1<=i
     ·exact .inl (.inl ⟨b,e⟩)
     ·have:i=0:=by omega
      subst this
      exact .inr ⟨by simpa using b,by omega⟩
    ·by_cases e:2<=i
     ·exact .inl (.inr ⟨b,e⟩)
     ·have:i=1:=by omega
      subst this
      exact .inr ⟨by simpa using b,by omega⟩
 ·cases list[p].end_ <;> simp
end Go.Pw
