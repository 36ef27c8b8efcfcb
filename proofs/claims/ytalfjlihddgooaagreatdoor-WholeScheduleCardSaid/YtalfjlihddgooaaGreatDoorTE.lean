/- -/
import Derived.Test.YtalfjlihddgooaaGreatDoorBa
import Derived.Test.YtalfjlihddgooaaGreatDoorTB
set_option linter.unusedVariables false
set_option linter.unusedSimpArgs false
namespace Go.Pw
/-! ### changes -/
def Qg4 (s:List Int) (A:List (Nat×Int)):List Int:=A.foldl (fun s e=>s.set e.1 e.2) s
theorem Qqx (s:List Int) (A:List (Nat×Int)) (e:Nat×Int):Qg4 s (A++[e])=(Qg4 s A).set e.1 e.2:=by simp [Qg4]
theorem Qkb:∀(A:List (Nat×Int)) (s:List Int),(Qg4 s A).length=s.length
 |[],s=>rfl
 |e::A,s=>by
  show (Qg4 (s.set e.1 e.2) A).length=_
  rw [Qkb A,List.length_set]
theorem Qka {i:Nat}:∀{A:List (Nat×Int)} {s:List Int},(∀e ∈ A,e.1≠i)->(Qg4 s A)[i]?=s[i]?
 |[],s,_=>rfl
 |e::A,s,h=>by
  show (Qg4 (s.set e.1 e.2) A)[i]?=_
  rw [Qka fun x hx=>h x (List.mem_cons_of_mem _ hx),List.getElem?_set_ne (h e (by simp))]
theorem Qnq {i:Nat} {c:Int}:∀{A:List (Nat×Int)} {s:List Int},i<s.length->(∃e ∈ A,e.1=i)->(∀e ∈ A,e.1=i->e.2=c)->(Qg4 s A)[i]?=some c
 |[],s,_,⟨e,he,_⟩,_=>by cases he
 | e::A,s,hi,h1,h2=>by
  show (Qg4 (s.set e.1 e.2) A)[i]?=_
  by_cases hA:∃x ∈ A,x.1=i
  ·exact Qnq (by rwa [List.length_set]) hA fun x hx=>h2 x (List.mem_cons_of_mem _ hx)
  ·rw [Qka fun x hx e1=>hA ⟨x,hx,e1⟩]
   obtain ⟨x,hx,e1⟩:=h1
   rcases Xr.1 hx with rfl |hx
   ·rw [<-h2 x (by simp) e1, <-e1,List.getElem?_set_self (by rw [e1];exact hi)]
   ·exact absurd ⟨x,hx,e1⟩ hA
theorem QpN:∀{n:Nat} {L:List Nat},L.Nodup->(∀x ∈ L,x<n)->L.length<=n
 |0,L,_,h=>by
  cases L with
  |nil=>simp
  |cons a L=>have:=h a (by simp);omega
 | n +1,L,hn,h=>by
  have h1:(L.filter fun x=>decide (x≠n)).length<=n:=QpN (hn.sublist List.filter_sublist) (by
   intro x hx
   simp only [List.mem_filter,Xz] at hx
   have:=h x hx.1
   omega)
  have h2:L.length<=(L.filter fun x=>decide (x≠n)).length+1:=by
   clear h h1
   induction L with
   |nil=>simp
   | cons a L ih =>
    obtain ⟨ha,hL⟩:=List.nodup_cons.1 hn
    by_cases e:a=n
    ·subst e
     have:(L.filter fun x=>decide (x≠a))=L:=by
      apply List.filter_eq_self.2
      intro x hx
      simp only [Xz]
      rintro rfl;exact ha hx
     have e2:((a::L).filter fun x=>decide (x≠a))=L.filter fun x=>decide (x≠a):=by rw [List.filter_cons];simp
     rw [e2,this];simp
    ·have:=ih hL
     simp only [List.filter_cons,ne_eq,e,not_false_eq_true,decide_true,if_true,Xw] at *
     omega
  omega
theorem Qlu {n:Nat} {l:List Gj} (h:GH n l) (hn:n<=64):l.length<=64:=by
 have h1:=QpN (n:=n) (L:=l.map fun f=>f.Var.toNat) (by
  rw [List.Nodup,List.pairwise_map]
  refine List.Pairwise.imp_of_mem (fun {x y} hx hy hxy e=>?_) h.asc
  have:=h.rng x hx;have:=h.rng y hy;omega) (by
  intro v hv
  obtain ⟨f,hf,rfl⟩:=X5.1 hv
  have:=h.rng f hf;omega)
 rw [X6] at h1
 omega
/-! ### proper states -/
def GV (vars s:List Int):Prop:=s.length=vars.length∧∀(v:Nat) (x n:Int),s[v]?=some x->vars[v]?=some n->0<=x∧x<n
theorem Qhg (vars s:List Int):Ok (Kc vars s) fun b=>b=true↔GV vars s:=by
 unfold Kc
 by_cases hl:s.length=vars.length
 ·rw [if_neg (by simp [hl])]
  refine Ok.ctl (fun j _=>∀(v:Nat) (x n:Int),v<j->s[v]?=some x->vars[v]?=some n->0<=x∧x<n) (fun r=>r=false∧¬GV vars s) (fun _ _ _ h=>absurd h (by omega)) ?_ (fun r ⟨hr,hn⟩=>⟨r,Z,by rw [hr];simp [hn]⟩) fun _ hs=>⟨true,Z,by simp only [true_iff];exact ⟨hl,fun v x n h1 h2=>hs v x n (by have:=(Xj.1 h1).1;exact this) h1 h2⟩⟩
  intro j _ hj hi
  have hj2:j<vars.length:=by omega
  have g1:s[j]?=some s[j]:=Xb hj
  have g2:vars[j]?=some vars[j]:=Xb hj2
  refine Ok.step (by rw [Qq];exact g1) ?_
  by_cases c0:s[j]<0
  ·rw [if_pos (by simpa using c0)]
   refine Ok.step Z ?_
   rw [if_pos rfl]
   exact ⟨_,Z,Z,fun h=>by have:=(h.2 j _ _ g1 g2).1;omega⟩
  ·rw [if_neg (by simpa using c0)]
   refine Ok.bind ?_
   refine Ok.step (by rw [Qq];exact g2) ⟨_,Z,?_⟩
   show Ok (if decide (vars[j]<=s[j])=true then _ else _) _
   by_cases c1:vars[j]<=s[j]
   ·rw [if_pos (by simpa using c1)]
    exact ⟨_,Z,Z,fun h=>by have:=(h.2 j _ _ g1 g2).2;omega⟩
   ·rw [if_neg (by simpa using c1)]
    refine ⟨_,Z,fun v x n hv h1 h2=>?_⟩
    by_cases e:v=j
    ·subst e
     rw [g1] at h1;rw [g2] at h2
     cases h1;cases h2;omega
    ·exact hi v x n (by omega) h1 h2
 ·rw [if_pos (by simp;omega)]
  exact ⟨false,Z,by simp only [Xf,false_iff];exact fun h=>hl h.1⟩
theorem QnW {vars s:List Int} (h:GV vars s):Kc vars s=some true:=by
 obtain ⟨b,h1,h2⟩:=Qhg vars s
 rw [h1,h2.2 h]
theorem GV.upd {vars s:List Int} (h:GV vars s) {A:List (Nat×Int)} (hA:∀e ∈ A,∃n,vars[e.1]?=some n∧0<=e.2∧e.2<n):GV vars (Qg4 s A):=by
 induction A generalizing s with
 |nil=>exact h
 | cons e A ih =>
  refine ih (s:=s.set e.1 e.2) ⟨by rw [List.length_set];exact h.1,fun v x n h1 h2=>?_⟩ fun x hx=>hA x (List.mem_cons_of_mem _ hx)
  obtain ⟨m,k1,k2,k3⟩:=hA e (by simp)
  rw [List.getElem?_set] at h1
  split at h1
  ·rename_i e1
   split at h1
   ·cases h1
    subst e1
    rw [k1] at h2;cases h2
    exact ⟨k2,k3⟩
   ·cases h1
  ·exact h.2 v x n h1 h2
/-! ### Check -/
theorem QgG {R:Type} {B:Nat->Unit->Option (Ctl Unit R)}:∀(n i:Nat),Jf B n i ()=some (.next ())->∀j,i<=j->j<i+n->B j ()=some (.next ())
 |0,i,_,j,h1,h2=>by omega
 | n+1,i,h,j,h1,h2=>by
  simp only [Jf] at h
  split at h
  ·rename_i s' e
   by_cases c:j=i
   ·subst c;exact e
   ·exact QgG n (i+1) h j (by omega) (by omega)
  ·rename_i hne
   exact absurd h (hne ())
theorem Qgw {R:Type} {B:Nat->Unit->Option (Ctl Unit R)} {c:Ctl Unit R} (hc:c≠ .next ()):∀(n i:Nat),Jf B n i ()=some c->∃j,B j ()=some c
 |0,i,h=>by cases h;exact absurd rfl hc
 |n+1,i,h=>by
  simp only [Jf] at h
  split at h
  ·exact Qgw hc n (i+1) h
  ·exact ⟨i,h⟩
theorem QfI {β R:Type} {B:Nat->Unit->Option (Ctl Unit R)} {n:Nat} {kr:R->Option β} {k:Unit->Option β} {z:β} (hr:∀j r,B j ()=some (.ret r)->kr r≠some z) (hb:∀j,B j ()≠some (.brk ())) (h:ctl (Jf B n 0 ()) kr k=some z):(∀j,j<n->B j ()=some (.next ()))∧k ()=some z:=by
 obtain ⟨c,h1,h2,h3,_⟩:=Qkw h
 cases c with
 |next s=>exact ⟨fun j hj=>QgG n 0 h1 j (X7 _) (by omega),h3 () rfl⟩
 |brk s =>
  obtain ⟨j,hj⟩:=Qgw (by simp) n 0 h1
  exact absurd hj (hb j)
 |ret r =>
  obtain ⟨j,hj⟩:=Qgw (by simp) n 0 h1
  exact absurd (h2 r Z) (hr j r hj)
theorem Qrf {vars:List Int} {f:Gj} (h:Ku vars [f]=some true):0<=f.Var∧∃n,vars[f.Var.toNat]?=some n∧0<=f.Val∧f.Val<n:=by
 unfold Ku at h
 simp only [Xw,XC,Nat.zero_add,ctl,Jf,Qq,List.getElem?_cons_zero,Xa] at h
 by_cases c1:f.Var<= -1
 ·simp [c1] at h
 by_cases c2:(vars.length:Int)<=f.Var
 ·simp [c1,c2] at h
 by_cases c3:f.Val<0
 ·simp [c1,c2,c3] at h
 obtain ⟨n,h1,h2⟩:=GI (s:=vars) (i:=f.Var) (by omega) (by omega)
 by_cases c4:n<=f.Val
 ·simp [c1,c2,c3,h1,c4] at h
 exact ⟨by omega,n,h2,by omega,by omega⟩
theorem QfL {u:GD} (h:Jb u=some none):GV u.Vars u.Init∧∀o ∈ u.Ops,∀e ∈ o.Effs,0<=e.Var∧∃n,u.Vars[e.Var.toNat]?=some n∧0<=e.Val∧e.Val<n:=by
 unfold Jb at h
 obtain ⟨b,_,h⟩:=Zg h
 rcases Qao h with ⟨_,h⟩ |⟨_,h⟩
 ·cases h
 obtain ⟨_,h⟩:=QfI (fun j r hj hz=>by
  obtain ⟨x,_,hj⟩:=Zg hj
  rcases Qao hj with ⟨_,hj⟩ |⟨_,hj⟩ <;> cases hj
  cases hz) (fun j hj=>by
  obtain ⟨x,_,hj⟩:=Zg hj
  rcases Qao hj with ⟨_,hj⟩ |⟨_,hj⟩ <;> cases hj) h
 obtain ⟨_,h⟩:=QfI (fun j r hj hz=>by
  obtain ⟨x,_,hj⟩:=Zg hj
  rcases Qao hj with ⟨_,hj⟩ |⟨_,hj⟩ <;> cases hj
  cases hz) (fun j hj=>by
  obtain ⟨x,_,hj⟩:=Zg hj
  rcases Qao hj with ⟨_,hj⟩ |⟨_,hj⟩ <;> cases hj) h
 obtain ⟨b2,hb2,h⟩:=Zg h
 rcases Qao h with ⟨_,h⟩ |⟨hb,h⟩
 ·cases h
 have hP:GV u.Vars u.Init:=by
  obtain ⟨b3,k1,k2⟩:=Qhg u.Vars u.Init
  rw [hb2] at k1;cases k1
  exact k2.1 (by simpa using hb)
 refine ⟨hP,?_⟩
 obtain ⟨cs,_,h⟩:=Zg h
 obtain ⟨_,h⟩:=QfI (fun j r hj hz=>by
  obtain ⟨x,_,hj⟩:=Zg hj
  obtain ⟨y,_,hj⟩:=Zg hj
  rcases Qao hj with ⟨_,hj⟩ |⟨_,hj⟩ <;> cases hj
  cases hz) (fun j hj=>by
  obtain ⟨x,_,hj⟩:=Zg hj
  obtain ⟨y,_,hj⟩:=Zg hj
  rcases Qao hj with ⟨_,hj⟩ |⟨_,hj⟩ <;> cases hj) h
 have inner:∀(x:Op) (c:Ctl Unit (Option Int)),ctl (Jf (R:=(Option Int)) (fun i104=>fun (_:Unit)=>(idx x.Effs (i104:Int)).bind fun x104 =>
   (Ku u.Vars [(⟨x104.Var,x104.Val⟩:Gj)]).bind <|fun (y104:Bool) =>
   if !y104 then (some (Ctl.ret (some 2))) else (some (Ctl.next ()))) (x.Effs.length) 0 ()) (fun r=>some (Ctl.ret r)) (fun (_:Unit)=>some (Ctl.next ()))=some c->c= .ret (some 2)∨(c= .next ()∧∀e ∈ x.Effs,0<=e.Var∧∃n,u.Vars[e.Var.toNat]?=some n∧0<=e.Val∧e.Val<n):=by
  intro x c hc
  by_cases hn:c= .next ()
  ·subst hn
   obtain ⟨hall,_⟩:=QfI (fun j r hj hz=>by cases hz) (fun j hj=>by
    obtain ⟨y,_,hj⟩:=Zg hj
    obtain ⟨y,_,hj⟩:=Zg hj
    rcases Qao hj with ⟨_,hj⟩ |⟨_,hj⟩ <;> cases hj) hc
   refine .inr ⟨Z,fun e he=>?_⟩
   obtain ⟨j,hj,rfl⟩:=List.mem_iff_getElem.1 he
   have:=hall j hj
   rw [Qq,Xb hj,Xa] at this
   obtain ⟨y,k1,k2⟩:=Zg this
   rcases Qao k2 with ⟨_,k2⟩ |⟨hy,k2⟩
   ·cases k2
   ·have:y=true:=by simpa using hy
    subst this
    exact Qrf k1
  ·obtain ⟨d,h1,h2,h3,h4⟩:=Qkw hc
   cases d with
   |next s=>exact absurd (Zu (h3 _ rfl)).symm hn
   |brk s=>exact absurd (Zu (h4 _ rfl)).symm hn
   |ret r =>
    obtain ⟨j,hj⟩:=Qgw (by simp) _ 0 h1
    obtain ⟨y,_,hj⟩:=Zg hj
    obtain ⟨y,_,hj⟩:=Zg hj
    rcases Qao hj with ⟨_,hj⟩ |⟨_,hj⟩ <;> cases hj
    exact .inl (Zu (h2 _ Z)).symm
 obtain ⟨hall,_⟩:=QfI (fun j r hj hz=>by
  obtain ⟨x,_,hj⟩:=Zg hj
  rcases inner x _ hj with hc |⟨hc,_⟩ <;> cases hc
  cases hz) (fun j hj=>by
  obtain ⟨x,_,hj⟩:=Zg hj
  rcases inner x _ hj with hc |⟨hc,_⟩ <;> cases hc) h
 intro o ho e he
 obtain ⟨j,hj,rfl⟩:=List.mem_iff_getElem.1 ho
 have:=hall j hj
 rw [Qq,Xb hj,Xa] at this
 rcases inner _ _ this with hc |⟨_,hc⟩
 ·cases hc
 ·exact hc e he
/-! ### apply -/
def toE (e:Gn):Nat×Int:=(e.Var.toNat,e.Val)
theorem Qe4 {s:List Int} (h:s.length<=100000):QW s=some s:=by
 unfold QW
 rw [QD (by simp;omega)];rfl
theorem Qtq {u:GD} {s:List Int} {op:Int} {o:Op} (h0:0<=op) (ho:idx u.Ops op=some o) (hp:GV u.Vars s) (hpre:∀f ∈ o.Pre,idx s f.Var=some f.Val) (hw:∀e ∈ o.Effs,e.When=[]∧0<=e.Var∧e.Var<s.length) (hs:s.length<=1000) :
  Qbp u s op=some (Qg4 s (o.Effs.map toE),none):=by
 have hlt:op<u.Ops.length:=by
  obtain ⟨_,h,_⟩:=Qj ho
  omega
 unfold Qbp
 rw [if_neg (by simp;omega),QnW hp,Xa,if_neg (by simp),ho,Xa,Qd7,Xa]
 have hh:Qan o.Pre s=true:=by
  unfold Qan
  rw [List.all_eq_true]
  exact fun f hf=>by simpa using hpre f hf
 rw [hh,if_neg (by simp),Qe4 (by omega),Xa]
 have h:Ok (forS (fun i100=>fun (l100:(List Int))=>(idx o.Effs (i100:Int)).bind fun x101 =>
   (Kt x101.When s).bind <|fun (y103:Bool) =>
   (if y103 then ((idx l100 x101.Var).bind fun x102 =>
   (QbN l100 x101.Var x101.Val).bind fun l101 =>
   some l101)
   else (some l100)).bind (fun (l102:(List Int))=>some l102)) (o.Effs.length) 0 s) (fun r=>r=Qg4 s (o.Effs.map toE)):=by
  refine QdY (fun l st=>st=Qg4 s (l.map toE)) Z ?_ fun _ h=>h
  rintro j l e st he _ rfl
  have hem:=List.mem_of_getElem? he
  obtain ⟨w1,w2,w3⟩:=hw e hem
  have hl:=Qkb (l.map toE) s
  obtain ⟨x,hx,_⟩:=GI (s:=Qg4 s (l.map toE)) (i:=e.Var) w2 (by omega)
  refine Ok.step (by rw [Qq];exact he) (Ok.step (Qd7 _ _) ?_)
  rw [w1]
  simp only [Qan,List.all_nil,if_true]
  refine Ok.step (a:=Qg4 s ((l++[e]).map toE)) ?_ ⟨_,Z,Z⟩
  rw [hx,Xa]
  unfold QbN
  rw [if_pos ⟨w2,by omega⟩,List.map_append,Xv,XM,Qqx]
  rfl
 obtain ⟨r,h1,rfl⟩:=h
 rw [h1];rfl
/-! ### running a plan -/
noncomputable def QdO (u:GD) (p:List Int×Int) (op:Int):Option (List Int×Int):=(Qbp u p.1 op).bind <|J5 fun y e=>if e.isSome then none else (idx u.Ops op).bind fun o=>some (y,IntKind.i64.wrap (p.2+o.Cost))
noncomputable def Qdi (u:GD):List Int×Int->List Int->Option (List Int×Int)
 |p,[]=>some p
 |p,op::r=>(QdO u p op).bind fun q=>Qdi u q r
theorem Qh7 {u:GD}:∀{a b:List Int} {p:List Int×Int},Qdi u p (a++b)=(Qdi u p a).bind fun q=>Qdi u q b
 |[],b,p=>rfl
 |op::a,b,p=>by
  simp only [List.cons_append,Qdi]
  cases QdO u p op with
  |none=>rfl
  |some q=>exact Qh7
theorem Qe9 {u:GD} {a:List Int} {p q r:List Int×Int} {op:Int} (h:Qdi u p a=some q) (k:QdO u q op=some r):Qdi u p (a++[op])=some r:=by
 rw [Qh7,h,Xa]
 simp [Qdi,k]
theorem Qra {u:GD} {pl s:List Int} {c:Int} (hc:Jb u=some none) (hi:u.Init.length<=1000) (hl:pl.length<=65536) (hr:Qdi u (u.Init,0) pl=some (s,c)) (hg:∀f ∈ u.Goal,idx s f.Var=some f.Val):YD u pl=some (c,none):=by
 have hP:=(QfL hc).1
 have hrun:Qd8 u u.Init pl=some (s,c,none):=by
  unfold Qd8
  rw [hc,Xa,if_neg (by simp),QnW hP,Xa,if_neg (by simp),if_neg (by simp;omega),Qe4 (by omega),Xa]
  refine Ok.eq ?_
  refine Ok.ctl (fun i q=>Qdi u (u.Init,0) (pl.take i)=some q) (fun _=>False) Z ?_ (fun r hr=>hr.elim) fun q hq=>?_
  ·rintro i ⟨y,k⟩ hi hq
   have hx:pl[i]?=some pl[i]:=Xb hi
   have h2:∃q',Qdi u (u.Init,0) (pl.take (i+1))=some q':=by
    have h3:pl=pl.take (i+1)++pl.drop (i+1):=(List.take_append_drop _ _).symm
    rw [h3,Qh7] at hr
    obtain ⟨q',h4,_⟩:=Zg hr
    exact ⟨q',h4⟩
   obtain ⟨q',h3⟩:=h2
   have h4:=h3
   rw [List.take_add_one,hx,Qh7,hq,Xa] at h4
   have h5:QdO u (y,k) pl[i]=some q':=by
    cases hst:QdO u (y,k) pl[i] with
    |none=>simp [Qdi,hst] at h4
    |some z=>simpa [Qdi,hst] using h4
   unfold QdO at h5
   obtain ⟨⟨y2,e2⟩,h6,h7⟩:=Zg h5
   simp only [J5] at h7
   refine Ok.step (by rw [Qq];exact hx) (Ok.step h6 ?_)
   simp only [J5]
   rcases Qao h7 with ⟨_,h7⟩ |⟨h8,h7⟩
   ·cases h7
   rw [if_neg h8]
   obtain ⟨o,h9,h10⟩:=Zg h7
   refine Ok.step h9 ⟨_,Z,?_⟩
   show Qdi u (u.Init,0) (pl.take (i+1))=_
   rw [h3, <-h10]
  ·have hq2:Qdi u (u.Init,0) (pl.take pl.length)=some q:=hq
   rw [List.take_length,hr] at hq2
   cases hq2
   exact ⟨_,Z,Z⟩
 unfold YD
 rw [hrun,Xa]
 simp only [un3,Option.isSome_none,Xf,if_false]
 rw [Qd7,Xa]
 have hh:Qan u.Goal s=true:=by
  unfold Qan
  rw [List.all_eq_true]
  exact fun f hf=>by simpa using hg f hf
 rw [hh];rfl
end Go.Pw
/- -/
namespace Go.Pw
/-! ### lists of facts -/
def tB (l:List Gj) (v:Int):Bool:=l.any fun f=>decide (f.Var=v)
theorem QlY {l:List Gj} {v:Int}:tB l v=true↔∃f ∈ l,f.Var=v:=by simp [tB]
theorem QeW (l:List Gj) (v:Int):Js l v=some (tB l v):=by
 have h:QR l v=some (tB l v):=by
  unfold QR Jy
  refine QbF (p:=fun f:Gj=>decide (f.Var=v)) fun j x hx=>?_
  rw [Qq,hx]
  simp only [Xa,Yo]
  split <;> rfl
 unfold Js
 rw [h];rfl
theorem Quv (js:List Job) (v:Int):QP js v=some (js.any fun j=>tB j.AtStart v ||tB j.AtEnd v):=by
 unfold QP JT
 refine QbF (p:=fun j:Job=>tB j.AtStart v ||tB j.AtEnd v) fun j x hx=>?_
 rw [Qq,hx]
 simp only [Xa,Qbt,QeW]
 cases tB x.AtStart v <;> cases tB x.AtEnd v <;> rfl
theorem Quu (js:List Job) (v:Int):Jk js v=some (js.any fun j=>tB j.Start v ||tB j.End v):=by
 unfold Jk JS
 refine QbF (p:=fun j:Job=>tB j.Start v ||tB j.End v) fun j x hx=>?_
 rw [Qq,hx]
 simp only [Xa,Qbs,QeW]
 cases tB x.Start v <;> cases tB x.End v <;> rfl
/-! ### the layout -/
def Yu (z:List Int) (v:Nat):Int:=(z[v]?).getD (-1)
theorem Qj3 {z:List Int} {v:Nat} (h:v<z.length):idx z (v:Int)=some (Yu z v):=by rw [Qq];simp [Yu,h]
theorem Qsn {z:List Int} {a:Int} {v:Nat} (h:v<z.length):Yu (z++[a]) v=Yu z v:=by unfold Yu;rw [Xs h]
theorem Qso (z:List Int) (a:Int):Yu (z++[a]) z.length=a:=by simp [Yu]
def Wd (t:Ge) (v:Nat):Prop:=(t.Jobs.any fun j=>tB j.AtStart (v:Int) ||tB j.AtEnd (v:Int))=true
def Rd (t:Ge) (v:Nat):Prop:=(t.Jobs.any fun j=>tB j.Start (v:Int) ||tB j.End (v:Int))=true
structure Marks (t:Ge) (k M N:Nat) (w r:List Int):Prop where
 wl:w.length=k
 rl:r.length=k
 ge:M<=N
 le:N<=M+2 * k
 wn:∀v,v<k->Yu w v= -1∨((M:Int)<=Yu w v∧Yu w v<N)
 rn:∀v,v<k->Yu r v= -1∨((M:Int)<=Yu r v∧Yu r v<N)
 ww:∀v,v<k->Wd t v->0<=Yu w v
 wc:∀v,v<k->0<=Yu w v->Wd t v
 rr:∀v,v<k->Wd t v->Rd t v->0<=Yu r v
 iw:∀v u,v<k->u<k->0<=Yu w v->Yu w v=Yu w u->v=u
 ir:∀v u,v<k->u<k->0<=Yu r v->Yu r v=Yu r u->v=u
 wr:∀v u,v<k->u<k->0<=Yu w v->Yu w v≠Yu r u
theorem Marks.nil (t:Ge) (M:Nat):Marks t 0 M M [] []:=⟨rfl,rfl,Xi _,by omega,fun v h=>absurd h (by omega),fun v h=>absurd h (by omega),fun v h=>absurd h (by omega),fun v h=>absurd h (by omega),fun v h=>absurd h (by omega),fun v u h=>absurd h (by omega),fun v u h=>absurd h (by omega),fun v u h=>absurd h (by omega)⟩
theorem Marks.snoc {t:Ge} {k M N N':Nat} {w r:List Int} {a b:Int} (h:Marks t k M N w r) (hN:N<=N') (hN':N'<=N+2) (ha:a= -1∨(a=N∧N<N')) (hb:b= -1∨(a=N∧b=(N:Int)+1∧N+1<N')) (hw:Wd t k↔0<=a) (hr:Wd t k->Rd t k->0<=b):Marks t (k+1) M N' (w++[a]) (r++[b]):=by
 have ew:∀v,v<k->Yu (w++[a]) v=Yu w v:=fun v hv=>Qsn (by rw [h.wl];exact hv)
 have er:∀v,v<k->Yu (r++[b]) v=Yu r v:=fun v hv=>Qsn (by rw [h.rl];exact hv)
 have ek:Yu (w++[a]) k=a:=by rw [<-h.wl];exact Qso w a
 have fk:Yu (r++[b]) k=b:=by rw [<-h.rl];exact Qso r b
 have hge:=h.ge
 have hle:=h.le
 have sp:∀v,v<k+1->v<k∨v=k:=fun v hv=>by omega
 refine ⟨by simp [h.wl],by simp [h.rl],by omega,by omega,fun v hv=>?_,fun v hv=>?_,fun v hv h1=>?_,fun v hv h1=>?_,fun v hv h1 h2=>?_,fun v u hv hu h1 h2=>?_,fun v u hv hu h1 h2=>?_,fun v u hv hu h1 h2=>?_⟩
 ·rcases sp v hv with c |rfl
  ·rw [ew v c];have:=h.wn v c;omega
  ·rw [ek];omega
 ·rcases sp v hv with c |rfl
  ·rw [er v c];have:=h.rn v c;omega
  ·rw [fk];omega
 ·rcases sp v hv with c |rfl
  ·rw [ew v c];exact h.ww v c h1
  ·rw [ek];exact hw.1 h1
 ·rcases sp v hv with c |rfl
  ·rw [ew v c] at h1;exact h.wc v c h1
  ·rw [ek] at h1;exact hw.2 h1
 ·rcases sp v hv with c |rfl
  ·rw [er v c];exact h.rr v c h1 h2
  ·rw [fk];exact hr h1 h2
 ·rcases sp v hv with c |rfl <;> rcases sp u hu with d |rfl
  ·rw [ew v c] at h1;rw [ew v c,ew u d] at h2;exact h.iw v u c d h1 h2
  ·rw [ew v c] at h1;rw [ew v c,ek] at h2;have:=h.wn v c;omega
  ·rw [ek] at h1;rw [ek,ew u d] at h2;have:=h.wn u d;omega
  ·rfl
 ·rcases sp v hv with c |rfl <;> rcases sp u hu with d |rfl
  ·rw [er v c] at h1;rw [er v c,er u d] at h2;exact h.ir v u c d h1 h2
  ·rw [er v c] at h1;rw [er v c,fk] at h2;have:=h.rn v c;omega
  ·rw [fk] at h1;rw [fk,er u d] at h2;have:=h.rn u d;omega
  ·rfl
 ·rcases sp v hv with c |rfl <;> rcases sp u hu with d |rfl
  ·rw [ew v c] at h1;rw [ew v c,er u d] at h2;exact h.wr v u c d h1 h2
  ·rw [ew v c] at h1;rw [ew v c,fk] at h2;have:=h.wn v c;omega
  ·rw [ek] at h1;rw [ek,er u d] at h2;have:=h.rn u d;omega
  ·rw [ek] at h1;rw [ek,fk] at h2;omega
structure Lay (t:Ge) (x:Gl) (N:Nat):Prop where
 jobs:x.jobs=(t.Vars.length:Int)
 ph:x.phase=(N:Int)
 vl:x.vars.length=N+1
 m:Marks t t.Vars.length (t.Vars.length+2 * t.Jobs.length) N x.write x.read
theorem Qw9 {t:Ge} (hc:Chk t):∃x N,QaM t=some x∧Lay t x N:=by
 have hj:=hc.jobs
 have hv:=hc.vars
 have h:Ok (QaM t) fun x=>∃N,Lay t x N:=by
  unfold QaM
  refine Ok.step (Qe4 (by omega)) ?_
  refine Ok.bind (Ok.forS (fun i (l:List Int)=>l.length=t.Vars.length+2 * i) Z ?_ fun l hl=>?_)
  ·intro i l hi hl
   refine Ok.step (by rw [Qq,Xb hi]) (Ok.step (QD (by simp;omega)) ⟨_,Z,by simp;omega⟩)
  refine Ok.bind (Ok.forS (fun i (s:List Int×List Int×List Int)=>Marks t i (t.Vars.length+2 * t.Jobs.length) s.2.2.length s.1 s.2.1) ?_ ?_ ?_)
  ·show Marks t 0 _ l.length [] []
   rw [hl];exact Marks.nil t _
  ·rintro i ⟨w,r,l⟩ hi hs
   have hs:Marks t i (t.Vars.length+2 * t.Jobs.length) l.length w r:=hs
   have h1:=hs.wl;have h2:=hs.rl;have h3:=hs.le
   show Ok ((QP t.Jobs (i:Int)).bind _) _
   refine Ok.step (Quv _ _) ?_
   cases hw:t.Jobs.any fun j=>tB j.AtStart (i:Int) ||tB j.AtEnd (i:Int) with
   |false =>
    refine Ok.step Z ?_
    show Ok ((app 8 w [-1]).bind _) _
    refine Ok.step (QD (by simp;omega)) (Ok.step (QD (by simp;omega)) ⟨_,Z,?_⟩)
    show Marks t (i+1) (t.Vars.length+2 * t.Jobs.length) l.length (w++[-1]) (r++[-1])
    exact hs.snoc (Xi _) (by omega) (.inl Z) (.inl Z) ⟨fun h=>(by rw [Wd,hw] at h;cases h),fun h=>by omega⟩ fun h=>by rw [Wd,hw] at h;cases h
   | true =>
    rw [if_pos rfl]
    refine Ok.bind (Ok.step (QD (by simp;omega)) (Ok.step (Quu _ _) ?_))
    cases hr:t.Jobs.any fun j=>tB j.Start (i:Int) ||tB j.End (i:Int) with
    |false =>
     refine Ok.step Z ⟨_,Z,?_⟩
     show Ok ((app 8 w [(l.length:Int)]).bind _) _
     refine Ok.step (QD (by simp;omega)) (Ok.step (QD (by simp;omega)) ⟨_,Z,?_⟩)
     show Marks t (i+1) (t.Vars.length+2 * t.Jobs.length) (l++[2]).length (w++[(l.length:Int)]) (r++[-1])
     exact hs.snoc (by simp) (by simp) (.inr ⟨Z,by simp⟩) (.inl Z) ⟨fun _=>by omega,fun _=>hw⟩ fun _ h=>by rw [Rd,hr] at h;cases h
    |true =>
     rw [if_pos rfl]
     refine Ok.bind (Ok.step (QD (by simp;omega)) ⟨_,Z,⟨_,Z,?_⟩⟩)
     show Ok ((app 8 w [(l.length:Int)]).bind _) _
     refine Ok.step (QD (by simp;omega)) (Ok.step (QD (by simp;omega)) ⟨_,Z,?_⟩)
     show Marks t (i+1) (t.Vars.length+2 * t.Jobs.length) (l++[2]++[2]).length (w++[(l.length:Int)]) (r++[((l++[2]).length:Int)])
     exact hs.snoc (by simp) (by simp) (.inr ⟨Z,by simp⟩) (.inr ⟨Z,by simp,by simp⟩) ⟨fun _=>by omega,fun _=>hw⟩ fun _ _=>by omega
  ·rintro ⟨w,r,l⟩ hs
   have hs:Marks t t.Vars.length (t.Vars.length+2 * t.Jobs.length) l.length w r:=hs
   have h3:=hs.le
   show Ok ((app 8 l [_]).bind _) _
   exact Ok.step (QD (by simp;omega)) ⟨_,Z,l.length,Z,Z,by simp,hs⟩
 obtain ⟨x,h1,N,h2⟩:=h
 exact ⟨x,N,h1,h2⟩
section
variable {t:Ge} {x:Gl} {N:Nat}
theorem Lay.N_le (h:Lay t x N) (hc:Chk t):N<=3 * t.Vars.length+2 * t.Jobs.length:=by have:=h.m.le;omega
theorem QpD (h:Lay t x N) (hc:Chk t) {j:Nat} (hj:j<t.Jobs.length):Qf x (j:Int)=((t.Vars.length+2 * j:Nat):Int):=by
 have:=hc.jobs;have:=hc.vars
 unfold Qf
 rw [h.jobs,Q7 (n:=2 * (j:Int)) (by omega) (by omega),Q7 (by omega) (by omega)]
 omega
theorem Qsg (h:Lay t x N) (hc:Chk t) {j:Nat} (hj:j<t.Jobs.length):Qz x (j:Int)=((t.Vars.length+2 * j+1:Nat):Int):=by
 have:=hc.jobs;have:=hc.vars
 unfold Qz
 rw [h.jobs,Q7 (n:=2 * (j:Int)) (by omega) (by omega),Q7 (n:=(t.Vars.length:Int)+2 * (j:Int)) (by omega) (by omega),Q7 (by omega) (by omega)]
 omega
/-! ### operators -/
structure GR (o:Op) (c:Int) (P:Gj->Prop) (E:Int->Int->Prop):Prop where
 cost:o.Cost=c
 pre:∀f ∈ o.Pre,P f
 eff:∀e ∈ o.Effs,e.When=[]∧E e.Var e.Val
 all:∀a b,E a b->∃e ∈ o.Effs,e.Var=a∧e.Val=b
 nm:o.Name.size<=9223372036854775807
 el:o.Effs.length<=1000
def MkP (x:Gl) (n:Nat) (rd wr:List Gj) (f:Gj):Prop:=f.Val=0∧∃v,v<n∧((tB wr (v:Int)=true∧(f.Var=Yu x.write v∨(0<=Yu x.read v∧f.Var=Yu x.read v)))∨(tB wr (v:Int)=false∧tB rd (v:Int)=true∧0<=Yu x.write v∧f.Var=Yu x.write v))
def MkE (x:Gl) (n:Nat) (rd wr:List Gj) (a:Int):Prop:=∃v,v<n∧((tB wr (v:Int)=true∧a=Yu x.write v)∨(tB wr (v:Int)=false∧tB rd (v:Int)=true∧0<=Yu x.write v∧a=Yu x.read v))
theorem MkP.up {n m:Nat} {rd wr:List Gj} {f:Gj} (h:MkP x n rd wr f) (hn:n<=m):MkP x m rd wr f:=let ⟨h1,v,h2,h3⟩:=h;⟨h1,v,by omega,h3⟩
structure MkR (x:Gl) (n:Nat) (rd wr:List Gj) (p:List Gj) (q:List Gn):Prop where
 pl:p.length<=2 * n
 ql:q.length<=n
 pre:∀f ∈ p,MkP x n rd wr f
 eff:∀e ∈ q,e.When=[]∧e.Val=1∧MkE x n rd wr e.Var
 all:∀a,MkE x n rd wr a->∃e ∈ q,e.Var=a
theorem MkR.snoc {n:Nat} {rd wr p ps:List Gj} {q qs:List Gn} (h:MkR x n rd wr p q) (h1:ps.length<=2) (h2:qs.length<=1) (h3:∀f ∈ ps,MkP x (n+1) rd wr f) (h4:∀e ∈ qs,e.When=[]∧e.Val=1∧MkE x (n+1) rd wr e.Var)
  (h5:∀a,(tB wr (n:Int)=true∧a=Yu x.write n)∨(tB wr (n:Int)=false∧tB rd (n:Int)=true∧0<=Yu x.write n∧a=Yu x.read n)->∃e ∈ qs,e.Var=a):MkR x (n+1) rd wr (p++ps) (q++qs):=by
 have:=h.pl;have:=h.ql
 refine ⟨by simp;omega,by simp;omega,fun f hf=>?_,fun e he=>?_,fun a ⟨v,hv,k⟩=>?_⟩
 ·rcases Xn.1 hf with c |c
  ·exact (h.pre f c).up (by omega)
  ·exact h3 f c
 ·rcases Xn.1 he with c |c
  ·obtain ⟨a,b,v,k1,k2⟩:=h.eff e c
   exact ⟨a,b,v,by omega,k2⟩
  ·exact h4 e c
 ·by_cases c:v=n
  ·subst c
   obtain ⟨e,he,ha⟩:=h5 a k
   exact ⟨e,List.mem_append_right _ he,ha⟩
  ·obtain ⟨e,he,ha⟩:=h.all a ⟨v,by omega,k⟩
   exact ⟨e,List.mem_append_left _ he,ha⟩
theorem QsQ (h:Lay t x N) (hc:Chk t) (rd wr:List Gj):Ok (KJ x rd wr) fun r=>MkR x t.Vars.length rd wr r.1 r.2:=by
 have hv:=hc.vars
 have hw:=h.m.wl
 have hr:=h.m.rl
 unfold KJ
 refine Ok.bind (Ok.forS (fun i (s:List Gj×List Gn)=>MkR x i rd wr s.1 s.2) ⟨by simp,by simp,by simp,by simp,fun a ⟨v,hv,_⟩=>absurd hv (by omega)⟩ ?_ ?_)
 ·rintro i ⟨p,q⟩ hi hs
  have hs:MkR x i rd wr p q:=hs
  have hp:=hs.pl;have hq:=hs.ql
  show Ok ((Js wr (i:Int)).bind _) _
  refine Ok.step (QeW _ _) ?_
  have gw:=Qj3 (z:=x.write) (v:=i) hi
  have gr:=Qj3 (z:=x.read) (v:=i) (by omega)
  cases c1:tB wr (i:Int) with
  | true =>
   rw [if_pos rfl]
   refine Ok.bind (Ok.step gw (Ok.step (QD (by simp;omega)) (Ok.step gr ?_)))
   have m1:MkP x (i+1) rd wr ⟨Yu x.write i,0⟩:=⟨rfl,i,by omega, .inl ⟨c1, .inl rfl⟩⟩
   have m2:∀e ∈ [(⟨[],Yu x.write i,1⟩:Gn)],e.When=[]∧e.Val=1∧MkE x (i+1) rd wr e.Var:=fun e he=>by
    have:e=⟨[],Yu x.write i,1⟩:=by simpa using he
    subst this
    exact ⟨Z,Z,i,by omega, .inl ⟨c1,Z⟩⟩
   have m3:∀a,(tB wr (i:Int)=true∧a=Yu x.write i)∨(tB wr (i:Int)=false∧tB rd (i:Int)=true∧0<=Yu x.write i∧a=Yu x.read i)->∃e ∈ [(⟨[],Yu x.write i,1⟩:Gn)],e.Var=a:=fun a ha=>by
    rcases ha with ⟨_,rfl⟩ |⟨c,_⟩
    ·exact ⟨⟨[],Yu x.write i,1⟩,by simp,Z⟩
    ·rw [c1] at c;cases c
   by_cases c2:0<=Yu x.read i
   ·rw [if_pos (by simpa using c2)]
    refine Ok.bind (Ok.step (QD (by simp;omega)) ⟨_,Z,Ok.step (QD (by simp;omega)) ⟨_,Z,⟨_,Z,?_⟩⟩⟩)
    show MkR x (i+1) rd wr _ _
    rw [List.append_assoc]
    refine hs.snoc (by simp) (by simp) (fun f hf=>?_) m2 m3
    have:f=⟨Yu x.write i,0⟩∨f=⟨Yu x.read i,0⟩:=by simpa using hf
    rcases this with rfl |rfl
    ·exact m1
    ·exact ⟨Z,i,by omega, .inl ⟨c1, .inr ⟨c2,Z⟩⟩⟩
   ·rw [if_neg (by simpa using c2)]
    refine Ok.step Z (Ok.step (QD (by simp;omega)) ⟨_,Z,⟨_,Z,?_⟩⟩)
    refine hs.snoc (by simp) (by simp) (fun f hf=>?_) m2 m3
    have:f=⟨Yu x.write i,0⟩:=by simpa using hf
    subst this;exact m1
  | false =>
   rw [if_neg (by simp)]
   refine Ok.bind (Ok.bind (Ok.step (QeW _ _) ?_))
   have stay:(tB rd (i:Int)=true->¬0<=Yu x.write i)->MkR x (i+1) rd wr p q:=fun hno=>by
    have:=hs.snoc (ps:=[]) (qs:=[]) (by simp) (by simp) (by simp) (by simp) fun a ha=>by
     rcases ha with ⟨c,_⟩ |⟨_,c,d,_⟩
     ·rw [c1] at c;cases c
     ·exact absurd d (hno c)
    simpa using this
   cases c2:tB rd (i:Int) with
   |false =>
    exact ⟨false,Z,Ok.step Z ⟨_,Z,⟨_,Z,stay fun h=>by rw [c2] at h;cases h⟩⟩⟩
   | true =>
    rw [if_pos rfl]
    refine Ok.step gw ⟨_,Z,?_⟩
    show Ok (Option.bind (if decide (0<=Yu x.write i)=true then _ else _) _) _
    by_cases c3:0<=Yu x.write i
    ·rw [if_pos (by simpa using c3)]
     refine Ok.bind (Ok.step gw (Ok.step (QD (by simp;omega)) (Ok.step gr (Ok.step (QD (by simp;omega)) ⟨_,Z,⟨_,Z,⟨_,Z,?_⟩⟩⟩))))
     refine hs.snoc (by simp) (by simp) (fun f hf=>?_) (fun e he=>?_) fun a ha=>?_
     ·have:f=⟨Yu x.write i,0⟩:=by simpa using hf
      subst this
      exact ⟨Z,i,by omega, .inr ⟨c1,c2,c3,Z⟩⟩
     ·have:e=⟨[],Yu x.read i,1⟩:=by simpa using he
      subst this
      exact ⟨Z,Z,i,by omega, .inr ⟨c1,c2,c3,Z⟩⟩
     ·rcases ha with ⟨c,_⟩ |⟨_,_,_,rfl⟩
      ·rw [c1] at c;cases c
      ·exact ⟨⟨[],Yu x.read i,1⟩,by simp,Z⟩
    ·rw [if_neg (by simpa using c3)]
     exact Ok.step Z ⟨_,Z,⟨_,Z,stay fun _=>c3⟩⟩
 ·rintro ⟨p,q⟩ hs
  refine ⟨(p,q),Z,?_⟩
  have hs:MkR x x.write.length rd wr p q:=hs
  rw [hw] at hs
  exact hs
end
end Go.Pw
/- -/
namespace Go.Pw
theorem QuH {a b c:List Gj} (h:a.length+b.length+c.length<=10000):K3 [a,b,c]=some (a++b++c):=by
 unfold K3
 have w1:IntKind.i64.wrap (0+(a.length:Int))=(a.length:Int):=by rw [Q7 (by omega) (by omega)];omega
 have w2:IntKind.i64.wrap ((a.length:Int)+(b.length:Int))=((a.length+b.length:Nat):Int):=by rw [Q7 (by omega) (by omega)];omega
 have w3:IntKind.i64.wrap (((a.length+b.length:Nat):Int)+(c.length:Int))=((a.length+b.length+c.length:Nat):Int):=by rw [Q7 (by omega) (by omega)];omega
 have n1:¬((a.length:Int)<0):=by omega
 have n2:¬(((a.length+b.length:Nat):Int)<0):=by omega
 have n3:¬(((a.length+b.length+c.length:Nat):Int)<0):=by omega
 have g:QgB 16 ((a.length+b.length+c.length:Nat):Int)=some ():=by unfold QgB;rw [if_pos ⟨by omega,by simp;omega⟩]
 have a1:app 16 ([]:List Gj) a=some a:=by rw [QD (by simp;omega)];rfl
 have a2:app 16 a b=some (a++b):=QD (by omega)
 have a3:app 16 (a++b) c=some (a++b++c):=QD (by simp;omega)
 simp only [Xw,XC,Nat.zero_add,Nat.reduceAdd,forS,Qq,List.getElem?_cons_zero,List.getElem?_cons_succ,Xa,w1,n1,decide_false,Xf,if_false,w2,n2,w3,n3,g,a1,a2,a3]
theorem QuI {a b c:List Gn} (h:a.length+b.length+c.length<=10000):Ki [a,b,c]=some (a++b++c):=by
 unfold Ki
 have w1:IntKind.i64.wrap (0+(a.length:Int))=(a.length:Int):=by rw [Q7 (by omega) (by omega)];omega
 have w2:IntKind.i64.wrap ((a.length:Int)+(b.length:Int))=((a.length+b.length:Nat):Int):=by rw [Q7 (by omega) (by omega)];omega
 have w3:IntKind.i64.wrap (((a.length+b.length:Nat):Int)+(c.length:Int))=((a.length+b.length+c.length:Nat):Int):=by rw [Q7 (by omega) (by omega)];omega
 have n1:¬((a.length:Int)<0):=by omega
 have n2:¬(((a.length+b.length:Nat):Int)<0):=by omega
 have n3:¬(((a.length+b.length+c.length:Nat):Int)<0):=by omega
 have g:QgB 40 ((a.length+b.length+c.length:Nat):Int)=some ():=by unfold QgB;rw [if_pos ⟨by omega,by simp;omega⟩]
 have a1:app 40 ([]:List Gn) a=some a:=by rw [QD (by simp;omega)];rfl
 have a2:app 40 a b=some (a++b):=QD (by omega)
 have a3:app 40 (a++b) c=some (a++b++c):=QD (by simp;omega)
 simp only [Xw,XC,Nat.zero_add,Nat.reduceAdd,forS,Qq,List.getElem?_cons_zero,List.getElem?_cons_succ,Xa,w1,n1,decide_false,Xf,if_false,w2,n2,w3,n3,g,a1,a2,a3]
section
variable {t:Ge} {x:Gl} {N:Nat}
theorem Qyr:Sort.SWO (fun x y:Gj=>decide (Qc1 x.Var y.Var<0)):=⟨fun x=>by simp [Qbg],fun x y z h1 h2=>by simp only [Xz,Qbg] at *;omega,fun x y z h1 h2=>by simp only [Xx,Qbg] at *;omega⟩
theorem QhV (h:Lay t x N) (hc:Chk t) {nm:ByteArray} (hnm:nm.size<=9223372036854775807) {rd wr more:List Gj} {effs:List Gn} (h1:rd.length<=64) (h2:wr.length<=64) (h3:more.length<=10) (h4:effs.length<=10) (hw:∀e ∈ effs,e.When=[]) :
  Ok (QY x nm rd wr more effs) fun o=>GR o 0 (fun f=>f ∈ rd∨f ∈ more∨f=⟨(N:Int),0⟩∨MkP x t.Vars.length rd wr f)
   (fun a b=>(∃f ∈ wr,f.Var=a∧f.Val=b)∨(∃e ∈ effs,e.Var=a∧e.Val=b)∨(b=1∧MkE x t.Vars.length rd wr a)):=by
 have hv:=hc.vars
 unfold QY
 refine Ok.step (QuH (by simp;omega)) ?_
 refine Ok.bind (QdY (fun l z=>z=l.map fun f=>(⟨[],f.Var,f.Val⟩:Gn)) Z ?_ fun z hz=>?_)
 ·rintro j l f z hf hl rfl
  have hll:l.length<=wr.length:=by rw [hl,XF];omega
  refine Ok.step (by rw [Qq];exact hf) (Ok.step (QD (by simp;omega)) ⟨_,Z,by simp⟩)
 refine Ok.bind ((QsQ h hc rd wr).mono ?_)
 rintro ⟨p,q⟩ hm
 have hm:MkR x t.Vars.length rd wr p q:=hm
 have:=hm.pl;have:=hm.ql
 subst hz
 show Ok ((app 16 _ p).bind _) _
 refine Ok.step (QD (by simp;omega)) (Ok.step (QuI (by simp;omega)) ?_)
 refine Ok.step (a:=QkX (fun x y=>decide (Qc1 x.Var y.Var<0)) ((rd++more++[(⟨x.phase,0⟩:Gj)])++p)) ?_ ⟨_,Z,Z,fun f hf=>?_,fun e he=>?_,fun a b hab=>?_,hnm,by show (List.length _)<=1000;simp;omega⟩
 ·unfold QeZ
  rw [if_pos (by simp;omega)]
 ·have hf:f ∈ (rd++more++[⟨x.phase,0⟩])++p:=(Qit Qyr _).mem_iff.1 hf
  rw [h.ph] at hf
  simp only [Xn,X8] at hf
  rcases hf with ((c |c) |c) |c
  ·exact .inl c
  ·exact .inr (.inl c)
  ·exact .inr (.inr (.inl c))
  ·exact .inr (.inr (.inr (hm.pre f c)))
 ·have he:e ∈ (wr.map fun f=>(⟨[],f.Var,f.Val⟩:Gn))++effs++q:=he
  simp only [Xn,X5] at he
  rcases he with (⟨f,hf,rfl⟩ |c) |c
  ·exact ⟨Z, .inl ⟨f,hf,Z,Z⟩⟩
  ·exact ⟨hw e c, .inr (.inl ⟨e,c,Z,Z⟩)⟩
  ·obtain ⟨k1,k2,k3⟩:=hm.eff e c
   exact ⟨k1, .inr (.inr ⟨k2,k3⟩)⟩
 ·show ∃e ∈ (wr.map fun f=>(⟨[],f.Var,f.Val⟩:Gn))++effs++q,_
  simp only [Xn,X5]
  rcases hab with ⟨f,hf,k1,k2⟩ |⟨e,he,k1,k2⟩ |⟨rfl,k⟩
  ·exact ⟨_, .inl (.inl ⟨f,hf,Z⟩),k1,k2⟩
  ·exact ⟨e, .inl (.inr he),k1,k2⟩
  ·obtain ⟨e,he,k1⟩:=hm.all a k
   exact ⟨e, .inr he,k1,(hm.eff e he).2.1⟩
theorem QpW {q:ByteArray} {l h:Int} (h0:0<=l) (h1:l<=h) (h2:h<=q.size):Ok (Qqo q l h) fun c=>c.size<=q.size:=by
 unfold Qqo
 rw [if_pos ⟨h0,h1,h2⟩]
 exact ⟨_,Z,by show (q.extract _ _).size<=q.size;rw [ByteArray.size_extract];omega⟩
theorem Qu1 {k:Nat} (h:k<=62):Ok (Qbi (k:Int)) fun c=>c.size<=1000:=by
 have:Ok (QaH (k:Int)) fun c=>c.size<=1000:=by
  unfold QaH
  by_cases c:(k:Int)<10
  ·rw [if_pos (by simpa using c),Q7 (by omega) (by omega)]
   refine Ok.bind ((QpW (by omega) (by omega) (by show _<=((36:Nat):Int);omega)).mono fun c hc=>⟨c,Z,?_⟩)
   exact X0 hc (by show (36:Nat)<=1000;omega)
  ·rw [if_neg (by simpa using c),Q7 (n:=(k:Int) * 2) (by omega) (by omega),Q7 (by omega) (by omega)]
   refine Ok.bind ((QpW (by omega) (by omega) (by show _<=((200:Nat):Int);omega)).mono fun c hc=>⟨c,Z,?_⟩)
   exact X0 hc (by show (200:Nat)<=1000;omega)
 obtain ⟨c,h1,h2⟩:=this
 refine ⟨c,?_,h2⟩
 unfold Qbi Qa4 Qak
 rw [if_pos (by rfl),if_pos (by simp;omega),h1];rfl
theorem QjX {a b:ByteArray} (h:a.size+b.size<=9223372036854775807):cat a b=some (a++b):=by unfold cat;rw [if_pos h]
theorem QtS (h:Lay t x N) (hc:Chk t) {j:Job} (hj:D6 t.Vars.length j) (hn:j.Name.size<=256) {i k:Nat} (hi:i<t.Jobs.length) (hk:k<=62):Ok (Ko x j (i:Int) (k:Int)) fun o =>
  GR o 0 (fun f=>(0<k∧f ∈ j.Over)∨f=⟨((t.Vars.length+2 * i:Nat):Int),(k:Int)⟩∨f=⟨(N:Int),(i:Int)+1⟩)
   (fun a b=>(a=((t.Vars.length+2 * i:Nat):Int)∧((1<k∧b=(k:Int) - 1)∨(k=1∧b=j.Duration+1)))∨(a=(N:Int)∧b=(i:Int)+2)):=by
 have hjb:=hc.jobs
 have hd:=hj.dur
 have hov:=Qlu hj.over hc.vars
 unfold Ko
 refine Ok.step (QjX (by show 5+_<=_;omega)) (Ok.step (QjX (by rw [ByteArray.size_append];show 5+_+1<=_;omega)) (Ok.bind ((Qu1 hk).mono fun y hy=>Ok.step (QjX (by rw [ByteArray.size_append,ByteArray.size_append];show 5+_+1+_<=_;omega)) ?_)))
 have h1:Ok (if decide (0<(k:Int))=true then ((Ju j.Over).bind fun (y101:(List Gj))=>some y101) else (some [])) fun z=>z.length<=64∧∀f ∈ z,0<k∧f ∈ j.Over:=by
  refine Jl (fun c=>?_) fun _=>⟨[],Z,by simp,by simp⟩
  have c:0<k:=by have:=of_decide_eq_true c;omega
  unfold Ju
  exact Ok.bind (Ok.step (QD (by simp;omega)) ⟨_,Z,_,Z,by simpa using hov,fun f hf=>⟨c,by simpa using hf⟩⟩)
 refine Ok.bind (h1.mono fun z ⟨hz,hz2⟩=>Ok.step (QD (by simp;omega)) ?_)
 rw [QpD h hc hi,h.ph,Q7 (n:=(k:Int) - 1) (by omega) (by omega),Q7 (n:=j.Duration+1) (by omega) (by omega),Q7 (n:=(i:Int)+1) (by omega) (by omega),Q7 (n:=(i:Int)+2) (by omega) (by omega)]
 have h2:Ok (if decide (1<(k:Int))=true then ((app 40 ([]:List Gn) ([(⟨[],((t.Vars.length+2 * i:Nat):Int),(k:Int) - 1⟩:Gn)])).bind fun l101=>some l101)
   else ((if decide ((k:Int)=1)=true then ((app 40 ([]:List Gn) ([(⟨[],((t.Vars.length+2 * i:Nat):Int),j.Duration+1⟩:Gn)])).bind fun l102=>some l102) else (some [])).bind (fun (z101:(List Gn))=>some z101)))
   fun z=>z.length<=1∧(∀e ∈ z,e.When=[]∧e.Var=((t.Vars.length+2 * i:Nat):Int)∧((1<k∧e.Val=(k:Int) - 1)∨(k=1∧e.Val=j.Duration+1)))∧(∀b,((1<k∧b=(k:Int) - 1)∨(k=1∧b=j.Duration+1))->∃e ∈ z,e.Var=((t.Vars.length+2 * i:Nat):Int)∧e.Val=b):=by
  refine Jl (fun c=>?_) fun c=>Ok.bind (Jl (fun c2=>?_) fun c2=>?_)
  ·have c:1<k:=by have:=of_decide_eq_true c;omega
   refine Ok.step (QD (by simp)) ⟨_,Z,by simp,fun e he=>?_,fun b hb=>⟨⟨[],((t.Vars.length+2 * i:Nat):Int),(k:Int) - 1⟩,by simp,Z,?_⟩⟩
   ·have:e=⟨[],((t.Vars.length+2 * i:Nat):Int),(k:Int) - 1⟩:=by simpa using he
    subst this
    exact ⟨Z,Z, .inl ⟨c,Z⟩⟩
   ·show (k:Int) - 1=b
    omega
  ·have c2:k=1:=by have:=of_decide_eq_true c2;omega
   refine Ok.step (QD (by simp)) ⟨_,Z,_,Z,by simp,fun e he=>?_,fun b hb=>⟨⟨[],((t.Vars.length+2 * i:Nat):Int),j.Duration+1⟩,by simp,Z,?_⟩⟩
   ·have:e=⟨[],((t.Vars.length+2 * i:Nat):Int),j.Duration+1⟩:=by simpa using he
    subst this
    exact ⟨Z,Z, .inr ⟨c2,Z⟩⟩
   ·show j.Duration+1=b
    omega
  ·have c:=of_decide_eq_false c
   have c2:=of_decide_eq_false c2
   exact ⟨[],Z,_,Z,by simp,by simp,fun b hb=>by omega⟩
 refine Ok.bind (h2.mono fun z2 ⟨e1,e2,e3⟩=>Ok.step (QD (by simp;omega)) ⟨_,Z,Z,fun f hf=>?_,fun e he=>?_,fun a b hab=>?_,by show (_:ByteArray).size<=_;rw [ByteArray.size_append,ByteArray.size_append,ByteArray.size_append];show 5+_+1+_<=_;omega,by show (List.length _)<=1000;simp;omega⟩)
 ·have hf:f ∈ z++[⟨((t.Vars.length+2 * i:Nat):Int),(k:Int)⟩,⟨(N:Int),(i:Int)+1⟩]:=hf
  simp only [Xn,Xr,List.not_mem_nil,or_false] at hf
  rcases hf with c |c |c
  ·exact .inl (hz2 f c)
  ·exact .inr (.inl c)
  ·exact .inr (.inr c)
 ·have he:e ∈ z2++[⟨[],(N:Int),(i:Int)+2⟩]:=he
  simp only [Xn,Xr,List.not_mem_nil,or_false] at he
  rcases he with c |rfl
  ·obtain ⟨k1,k2,k3⟩:=e2 e c
   exact ⟨k1, .inl ⟨k2,k3⟩⟩
  ·exact ⟨Z, .inr ⟨Z,Z⟩⟩
 ·show ∃e ∈ z2++[⟨[],(N:Int),(i:Int)+2⟩],_
  rcases hab with ⟨rfl,k⟩ |⟨rfl,rfl⟩
  ·obtain ⟨e,k1,k2,k3⟩:=e3 b k
   exact ⟨e,List.mem_append_left _ k1,k2,k3⟩
  ·exact ⟨⟨[],(N:Int),(i:Int)+2⟩,List.mem_append_right _ (by simp),Z,Z⟩
def Qr0 (t:Ge) (x:Gl) (N:Nat) (a:Int):Prop:=(∃j,j<t.Jobs.length∧a=((t.Vars.length+2 * j+1:Nat):Int))∨(∃v,v<t.Vars.length∧((0<=Yu x.write v∧a=Yu x.write v)∨(0<=Yu x.read v∧a=Yu x.read v)))∨a=(N:Int)
structure AdR (t:Ge) (x:Gl) (n m:Nat) (q:List Gn):Prop where
 ql:q.length<=n+2 * m
 eff:∀e ∈ q,e.When=[]∧e.Val=0∧((∃j,j<n∧e.Var=((t.Vars.length+2 * j+1:Nat):Int))∨(∃v,v<m∧((0<=Yu x.write v∧e.Var=Yu x.write v)∨(0<=Yu x.read v∧e.Var=Yu x.read v))))
 a1:∀j,j<n->∃e ∈ q,e.Var=((t.Vars.length+2 * j+1:Nat):Int)
 a2:∀v,v<m->0<=Yu x.write v->∃e ∈ q,e.Var=Yu x.write v
 a3:∀v,v<m->0<=Yu x.read v->∃e ∈ q,e.Var=Yu x.read v
theorem Qpw {α:Type} {p:α->Prop} {a b:List α} (h:∃e ∈ a,p e):∃e ∈ a++b,p e:=let ⟨e,h1,h2⟩:=h;⟨e,List.mem_append_left _ h1,h2⟩
theorem QrD {α:Type} {p:α->Prop} {a b:List α} (h:∃e ∈ b,p e):∃e ∈ a++b,p e:=let ⟨e,h1,h2⟩:=h;⟨e,List.mem_append_right _ h1,h2⟩
theorem AdR.more {n m:Nat} {q qs:List Gn} (h:AdR t x n m q) (hl:qs.length<=2) (he:∀e ∈ qs,e.When=[]∧e.Val=0∧((0<=Yu x.write m∧e.Var=Yu x.write m)∨(0<=Yu x.read m∧e.Var=Yu x.read m))) (h2:0<=Yu x.write m->∃e ∈ qs,e.Var=Yu x.write m) (h3:0<=Yu x.read m->∃e ∈ qs,e.Var=Yu x.read m):AdR t x n (m+1) (q++qs):=by
 have:=h.ql
 refine ⟨by simp;omega,fun e hm=>?_,fun j hj=>Qpw (h.a1 j hj),fun v hv hw=>?_,fun v hv hw=>?_⟩
 ·rcases Xn.1 hm with c |c
  ·obtain ⟨k1,k2,k3⟩:=h.eff e c
   refine ⟨k1,k2,?_⟩
   rcases k3 with k3 |⟨v,hv,k3⟩
   ·exact .inl k3
   ·exact .inr ⟨v,by omega,k3⟩
  ·obtain ⟨k1,k2,k3⟩:=he e c
   exact ⟨k1,k2, .inr ⟨m,by omega,k3⟩⟩
 ·by_cases c:v=m
  ·subst c;exact QrD (h2 hw)
  ·exact Qpw (h.a2 v (by omega) hw)
 ·by_cases c:v=m
  ·subst c;exact QrD (h3 hw)
  ·exact Qpw (h.a3 v (by omega) hw)
theorem Qpq (h:Lay t x N) (hc:Chk t):Ok (JO x (t.Jobs.length:Int)) fun o=>GR o 1 (fun f=>f=⟨(N:Int),(t.Jobs.length:Int)+1⟩) (fun a b=>b=0∧Qr0 t x N a):=by
 have hv:=hc.vars
 have hj:=hc.jobs
 have hw:=h.m.wl
 have hr:=h.m.rl
 unfold JO
 refine Ok.must (by simp;omega) ?_
 rw [XD]
 refine Ok.bind (Ok.forS (fun i q=>AdR t x i 0 q) ⟨by simp,by simp,fun j hj=>absurd hj (by omega),fun v hv=>absurd hv (by omega),fun v hv=>absurd hv (by omega)⟩ ?_ fun q hq=>?_)
 ·intro i q hi hq
  have:=hq.ql
  refine Ok.step (QD (by simp;omega)) ⟨_,Z,?_⟩
  rw [Qsg h hc hi]
  refine ⟨by simp;omega,fun e he=>?_,fun j hj=>?_,fun v hv=>absurd hv (by omega),fun v hv=>absurd hv (by omega)⟩
  ·rcases Xn.1 he with c |c
   ·obtain ⟨k1,k2,k3⟩:=hq.eff e c
    refine ⟨k1,k2,?_⟩
    rcases k3 with ⟨j,hj,k3⟩ |⟨v,hv,_⟩
    ·exact .inl ⟨j,by omega,k3⟩
    ·omega
   ·have:e=⟨[],((t.Vars.length+2 * i+1:Nat):Int),0⟩:=by simpa using c
    subst this
    exact ⟨Z,Z, .inl ⟨i,by omega,Z⟩⟩
  ·by_cases c:j=i
   ·subst c;exact QrD ⟨⟨[],((t.Vars.length+2 * j+1:Nat):Int),0⟩,by simp,rfl⟩
   ·exact Qpw (hq.a1 j (by omega))
 refine Ok.bind (Ok.forS (fun i q=>AdR t x t.Jobs.length i q) hq ?_ fun q hq=>?_)
 ·intro i q hi hq
  have:=hq.ql
  refine Ok.step (Qj3 hi) ?_
  have gr:=Qj3 (z:=x.read) (v:=i) (by omega)
  by_cases c1:0<=Yu x.write i
  ·rw [if_pos (by simpa using c1)]
   refine Ok.bind (Ok.step (QD (by simp;omega)) ⟨_,Z,Ok.step gr ?_⟩)
   by_cases c2:0<=Yu x.read i
   ·rw [if_pos (by simpa using c2)]
    refine Ok.bind (Ok.step (QD (by simp;omega)) ⟨_,Z,⟨_,Z,?_⟩⟩)
    rw [List.append_assoc]
    refine hq.more (by simp) (fun e he=>?_) (fun _=>⟨⟨[],Yu x.write i,0⟩,by simp,Z⟩) fun _=>⟨⟨[],Yu x.read i,0⟩,by simp,Z⟩
    have:e=⟨[],Yu x.write i,0⟩∨e=⟨[],Yu x.read i,0⟩:=by simpa using he
    rcases this with rfl |rfl
    ·exact ⟨Z,Z, .inl ⟨c1,Z⟩⟩
    ·exact ⟨Z,Z, .inr ⟨c2,Z⟩⟩
   ·rw [if_neg (by simpa using c2)]
    refine Ok.step Z ⟨_,Z,?_⟩
    refine hq.more (by simp) (fun e he=>?_) (fun _=>⟨⟨[],Yu x.write i,0⟩,by simp,Z⟩) fun c=>absurd c c2
    have:e=⟨[],Yu x.write i,0⟩:=by simpa using he
    subst this
    exact ⟨Z,Z, .inl ⟨c1,Z⟩⟩
  ·rw [if_neg (by simpa using c1)]
   refine Ok.step Z (Ok.step gr ?_)
   by_cases c2:0<=Yu x.read i
   ·rw [if_pos (by simpa using c2)]
    refine Ok.bind (Ok.step (QD (by simp;omega)) ⟨_,Z,⟨_,Z,?_⟩⟩)
    refine hq.more (by simp) (fun e he=>?_) (fun c=>absurd c c1) fun _=>⟨⟨[],Yu x.read i,0⟩,by simp,Z⟩
    have:e=⟨[],Yu x.read i,0⟩:=by simpa using he
    subst this
    exact ⟨Z,Z, .inr ⟨c2,Z⟩⟩
   ·rw [if_neg (by simpa using c2)]
    refine Ok.step Z ⟨_,Z,?_⟩
    have:=hq.more (qs:=[]) (by simp) (by simp) (fun c=>absurd c c1) fun c=>absurd c c2
    simpa using this
 ·have:=hq.ql
  rw [hw] at hq
  refine Ok.step (QD (by simp;omega)) ⟨_,Z,Z,fun f hf=>?_,fun e he=>?_,fun a b ⟨hb,ha⟩=>?_,by show (7:Nat)<=_;omega,by show (List.length _)<=1000;simp;omega⟩
  ·have:f=⟨x.phase,IntKind.i64.wrap ((t.Jobs.length:Int)+1)⟩:=by simpa using hf
   rw [this,h.ph,Q7 (by omega) (by omega)]
  ·have he:e ∈ q++[⟨[],x.phase,0⟩]:=he
   rcases Xn.1 he with c |c
   ·obtain ⟨k1,k2,k3⟩:=hq.eff e c
    refine ⟨k1,k2,?_⟩
    rcases k3 with k3 |k3
    ·exact .inl k3
    ·exact .inr (.inl k3)
   ·have:e=⟨[],x.phase,0⟩:=by simpa using c
    subst this
    exact ⟨Z,Z, .inr (.inr h.ph)⟩
  ·show ∃e ∈ q++[⟨[],x.phase,0⟩],_
   have key:∀a,(∃e ∈ q,e.Var=a)->∃e ∈ q++[⟨[],x.phase,0⟩],e.Var=a∧e.Val=b:=fun a ⟨e,he,h1⟩=>⟨e,List.mem_append_left _ he,h1,by rw [(hq.eff e he).2.1,hb]⟩
   rcases ha with ⟨j,hj,rfl⟩ |⟨v,hv,⟨k1,rfl⟩ |⟨k1,rfl⟩⟩ |rfl
   ·exact key _ (hq.a1 j hj)
   ·exact key _ (hq.a2 v hv k1)
   ·exact key _ (hq.a3 v hv k1)
   ·exact ⟨⟨[],x.phase,0⟩,List.mem_append_right _ (by simp),h.ph,hb.symm⟩
end
end Go.Pw
