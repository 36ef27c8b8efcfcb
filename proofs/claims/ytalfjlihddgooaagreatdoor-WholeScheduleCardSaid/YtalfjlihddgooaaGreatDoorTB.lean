/- -/
import Derived.Test.YtalfjlihddgooaaGreatDoorBa
import Derived.Test.YtalfjlihddgooaaGreatDoorTA
set_option linter.unusedVariables false
set_option linter.unusedSimpArgs false
namespace Go.Pw
theorem QoI {t:Ge} {L:List Launch} (hA:Acc t L) {x:Nat×Bool} (hx:x.1<L.length):idx t.Jobs (QmR L x).job=some (jH t L x):=Qb4 (hA.ok _ (QQ hx))
theorem Qpy {t:Ge} {L:List Launch} (hA:Acc t L) {x:Nat×Bool} (hx:x.1<L.length):D6 t.Vars.length (jH t L x):=hA.chk.job _ (QbP (hA.ok _ (QQ hx)))
theorem QlV {t:Ge} {L:List Launch} (hA:Acc t L) {x:Nat×Bool} (hx:x.1<L.length):GH t.Vars.length (wrX t L x):=by
 unfold wrX wrH;split
 ·exact (Qpy hA hx).atEnd
 ·exact (Qpy hA hx).atStart
theorem QjO {t:Ge} {L:List Launch} (hA:Acc t L) {x:Nat×Bool} (hx:x.1<L.length):GH t.Vars.length (rdX t L x):=by
 unfold rdX rdH;split
 ·exact (Qpy hA hx).end_
 ·exact (Qpy hA hx).start
theorem QeA (t:Ge) (L:List Launch) (x y:Nat×Bool):Qce t L x y=Qce t L y x:=QqI _ _ _ _
theorem Qmc {t:Ge} {L:List Launch} {a:Int} {p:Nat} {x:Nat×Bool} (h:(ixA t L a)[p]?=some x):(Qaz t L a)[p]?=some (QmR L x):=by
 rw [Qix,X2,h];rfl
theorem QnE {t:Ge} {L:List Launch} {a:Int} {p:Nat} {h:Gh} (hp:(Qaz t L a)[p]?=some h):∃x,(ixA t L a)[p]?=some x∧h=QmR L x∧x.1<L.length∧Kl t L x=a:=by
 rw [Qix,X2,Xp] at hp
 obtain ⟨x,h1,h2⟩:=hp
 exact ⟨x,h1,h2.symm,QdV.1 (List.mem_of_getElem? h1)⟩
theorem Qt1 {t:Ge} {L:List Launch} {a:Int} {s s':List Int} (h:Dj t (Qaz t L a) s (fun _=>True) s'):Do t L a s s':=by
 refine ⟨h.1,fun v hv=>?_⟩
 rcases h.2 v hv with ⟨p,y,f,h1,_,h3,h4,h5⟩ |⟨h1,h2⟩
 ·obtain ⟨x,g1,rfl,g2,g3⟩:=QnE h1
  exact .inl ⟨x,g2,g3,f,h3,h4,h5⟩
 ·refine .inr ⟨fun x hx ha f hf=>?_,h2⟩
  obtain ⟨p,hp,e⟩:=List.mem_iff_getElem.1 (QdV.2 ⟨hx,ha⟩)
  have hg:(ixA t L a)[p]?=some x:=by rw [Xb hp,e]
  exact h1 p _ (Qmc hg) trivial f hf
def Qtx (t:Ge) (L:List Launch) (a:Int) (s:List Int) (r:List Int×Option Int):Prop :=
 (r.2=none∧QmY t L a∧QdQ t L a∧Qp7 t L a s∧Do t L a s r.1∧QoS t L a r.1)∨(r.2≠none∧(¬QmY t L a∨¬QdQ t L a∨¬Qp7 t L a s∨∃s',QdQ t L a∧Do t L a s s'∧¬QoS t L a s'))
theorem QtV {t:Ge} {L:List Launch} (hA:Acc t L) {s:List Int} (hs:s.length=t.Vars.length) (a:Int):Ok (QaG t L a s (Qaz t L a)) (Qtx t L a s):=by
 unfold QaG
 have hlen:(Qaz t L a).length<=8192:=by have:=Qfc t a L;have:=hA.len;omega
 have hil:(ixA t L a).length=(Qaz t L a).length:=by rw [Qix,X6]
 obtain ⟨b,hb,hov⟩:=Qom hA a
 refine Ok.step hb (Jl (fun h=>⟨_,Z, .inr ⟨by simp, .inl fun hn=>by rw [hov.2 hn] at h;cases h⟩⟩) fun h=>?_)
 have hno:=hov.1 h
 refine Ok.ctl (fun i _=>∀(p q:Nat) (x y:Nat×Bool),p<i->q<p->(ixA t L a)[p]?=some x->(ixA t L a)[q]?=some y->Qce t L x y=false) (fun r=>r.2≠none∧¬QdQ t L a) (fun p q x y h=>by omega) ?_ (fun r hr=>⟨r,Z, .inr ⟨hr.1, .inr (.inl hr.2)⟩⟩) fun _ hni=>?_
 ·intro i _ hi hin
  refine Ok.must (by simp;omega) ?_
  rw [XD]
  have hi':i<(ixA t L a).length:=by omega
  have gx:=Xb hi'
  refine Ok.ctl (fun k _=>∀(q:Nat) (y:Nat×Bool),q<k->(ixA t L a)[q]?=some y->Qce t L (ixA t L a)[i] y=false) (fun r=>r.2≠none∧¬QdQ t L a) (fun q y h=>by omega) ?_ (fun r hr=>⟨_,Z,hr⟩) fun _ hk=>⟨_,Z,fun p q x y h1 h2 h3 h4=>?_⟩
  ·intro k _ hk hkn
   have hk':k<(ixA t L a).length:=by omega
   have gy:=Xb hk'
   have mx:=QdV.1 (List.getElem_mem hi')
   have my:=QdV.1 (List.getElem_mem hk')
   refine Ok.step (by rw [Qq];exact Qmc gx) (Ok.step (by rw [Qq];exact Qmc gy) (Ok.step (QhU (QoI hA mx.1) (QoI hA my.1)) ?_))
   refine Jl (fun h=>⟨_,Z,by simp,fun hn=>?_⟩) fun h=>⟨_,Z,fun q y h1 h2=>?_⟩
   ·have h2:=hn _ _ mx.1 my.1 mx.2 my.2 fun e=>(List.pairwise_iff_getElem.1 (QqF t L a)) k i hk' hi' hk e.symm
    have h3:Qce t L (ixA t L a)[i] (ixA t L a)[k]=true:=h
    rw [h2] at h3;cases h3
   ·by_cases e:q=k
    ·subst e;rw [gy] at h2;cases h2;exact h
    ·exact hkn q y (by omega) h2
  ·by_cases e:p=i
   ·subst e;rw [gx] at h3;cases h3;exact hk q y h2 h4
   ·exact hin p q x y (by omega) h2 h3 h4
 have hnI:QdQ t L a:=by
  intro x y hx hy tx ty hne
  obtain ⟨p,hp,ep⟩:=List.mem_iff_getElem.1 (QdV.2 ⟨hx,tx⟩)
  obtain ⟨q,hq,eq⟩:=List.mem_iff_getElem.1 (QdV.2 ⟨hy,ty⟩)
  have gp:(ixA t L a)[p]?=some x:=by rw [Xb hp,ep]
  have gq:(ixA t L a)[q]?=some y:=by rw [Xb hq,eq]
  rcases Nat.lt_trichotomy p q with h |h |h
  ·rw [QeA];exact hni q p y x (by omega) h gq gp
  ·subst h;exact absurd (ep.symm.trans eq) hne
  ·exact hni p q x y (by omega) h gp gq
 refine Ok.ctl (fun i _=>∀(p:Nat) (x:Nat×Bool),p<i->(ixA t L a)[p]?=some x->Qan (rdX t L x) s=true) (fun r=>r.2≠none∧¬Qp7 t L a s) (fun p x h=>by omega) ?_ (fun r hr=>⟨r,Z, .inr ⟨hr.1, .inr (.inr (.inl hr.2))⟩⟩) fun _ hpr=>?_
 ·intro i _ hi hin
  have hi':i<(ixA t L a).length:=by omega
  have gx:=Xb hi'
  have mx:=QdV.1 (List.getElem_mem hi')
  refine Ok.step (by rw [Qq];exact Qmc gx) (Ok.step (Qkf (QoI hA mx.1)) (Ok.step (Qd7 _ _) ?_))
  refine Jl (fun h=>⟨_,Z,by simp,fun hn=>?_⟩) fun h=>⟨_,Z,fun p x h1 h2=>?_⟩
  ·have h2:=hn _ mx.1 mx.2
   have h3:Qan (rdH (jH t L (ixA t L a)[i]) (QmR L (ixA t L a)[i]).end_) s=true:=h2
   rw [h3] at h;cases h
  ·by_cases e:p=i
   ·subst e;rw [gx] at h2;cases h2
    have h3:Qan (rdH (jH t L (ixA t L a)[p]) (QmR L (ixA t L a)[p]).end_) s=true:=by simpa using h
    exact h3
   ·exact hin p x (by omega) h2
 have hpre:Qp7 t L a s:=by
  intro x hx tx
  obtain ⟨p,hp,ep⟩:=List.mem_iff_getElem.1 (QdV.2 ⟨hx,tx⟩)
  exact hpr p x (by omega) (by rw [Xb hp,ep])
 refine Ok.bind ((Qtu hA.chk hs (list:=Qaz t L a) fun h hh=>?_).mono fun s' hs'=>?_)
 ·obtain ⟨p,hp,e⟩:=List.mem_iff_getElem.1 hh
  obtain ⟨x,_,rfl,hx,_⟩:=QnE (by rw [Xb hp,e]:(Qaz t L a)[p]?=some h)
  have:=hA.ok _ (QQ hx)
  exact ⟨this.j0,this.j1⟩
 have haf:=Qt1 hs'
 refine Ok.ctl (fun j _=>∀i,i<j->i<L.length->(Q3 L i).At<=a->a<QV t (Q3 L i)->Qan (jb t (Q3 L i)).Over s'=true) (fun r=>r.2≠none∧¬QoS t L a s') (fun i h=>by omega) ?_ (fun r hr=>⟨r,Z, .inr ⟨hr.1, .inr (.inr (.inr ⟨s',hnI,haf,hr.2⟩))⟩⟩) fun _ hov=>⟨_,Z, .inl ⟨Z,hno,hnI,hpre,haf,fun i hi=>hov i hi hi⟩⟩
 intro j _ hj hin
 refine Ok.step (by rw [Qq];exact Kr hj) ?_
 have hok:=hA.ok _ (QQ hj)
 have nx:((Q3 L j).At<=a->a<QV t (Q3 L j)->Qan (jb t (Q3 L j)).Over s'=true)->∀i,i<j+1->i<L.length->(Q3 L i).At<=a->a<QV t (Q3 L i)->Qan (jb t (Q3 L i)).Over s'=true:=fun h i h1 h2=>by
  by_cases e:i=j
  ·subst e;exact h
  ·exact hin i (by omega) h2
 by_cases c1:(Q3 L j).At<=a
 ·by_cases c2:a<QV t (Q3 L j)
  ·simp only [c1,c2,decide_true,if_true,QjU hA.chk hok,Qb4 hok,Qd7,Xa]
   refine Jl (fun h=>⟨_,Z,by simp,fun hn=>?_⟩) fun h=>⟨_,Z,nx fun _ _=>by simpa using h⟩
   rw [hn j hj c1 c2] at h;cases h
  ·simp only [c1,c2,decide_true,decide_false,Xf,if_true,if_false,QjU hA.chk hok,Xa]
   exact ⟨_,Z,nx fun _ h=>absurd h c2⟩
 ·simp only [c1,decide_false,Xf,if_false,Xa]
  exact ⟨_,Z,nx fun h=>absurd h c1⟩
/-! ### the value of a variable behind a tick -/
def Wv (t:Ge) (L:List Launch) (x:Nat×Bool) (v:Nat) (c:Int):Prop:=∃f ∈ wrX t L x,f.Var=(v:Int)∧f.Val=c
def GO (t:Ge) (L:List Launch) (v:Nat) (τ c:Int):Prop :=
 (∃x:Nat×Bool,x.1<L.length∧Kl t L x<=τ∧Wv t L x v c∧∀y:Nat×Bool,y.1<L.length->Kl t L y<=τ->(∃d,Wv t L y v d)->Kl t L y<=Kl t L x) ∨
 ((∀y:Nat×Bool,y.1<L.length->(∃d,Wv t L y v d)->τ<Kl t L y)∧t.Init[v]?=some c)
def SOK (t:Ge) (L:List Launch) (τ:Int) (s:List Int):Prop:=s.length=t.Vars.length∧∀v,v<t.Vars.length->∃c,s[v]?=some c∧GO t L v τ c
theorem GO.idle {t:Ge} {L:List Launch} {v:Nat} {τ τ' c:Int} (h:GO t L v τ c) (hle:τ<=τ') (hno:∀y:Nat×Bool,y.1<L.length->(∃d,Wv t L y v d)->Kl t L y<=τ'->Kl t L y<=τ):GO t L v τ' c:=by
 rcases h with ⟨x,h1,h2,h3,h4⟩ |⟨h1,h2⟩
 ·exact .inl ⟨x,h1,by omega,h3,fun y g1 g2 g3=>h4 y g1 (hno y g1 g3 g2) g3⟩
 ·refine .inr ⟨fun y g1 g2=>?_,h2⟩
  have:=h1 y g1 g2
  by_cases e:Kl t L y<=τ'
  ·have:=hno y g1 g2 e;omega
  ·omega
theorem SOK.step {t:Ge} {L:List Launch} {a:Int} {s s':List Int} (h:SOK t L (a - 1) s) (h':Do t L a s s'):SOK t L a s':=by
 refine ⟨h'.1.trans h.1,fun v hv=>?_⟩
 obtain ⟨c,h1,h2⟩:=h.2 v hv
 rcases h'.2 v (by rw [h.1];exact hv) with ⟨x,g1,g2,f,g3,g4,g5⟩ |⟨g1,g2⟩
 ·exact ⟨f.Val,g5, .inl ⟨x,g1,by omega,⟨f,g3,g4,Z⟩,fun y _ k _=>by omega⟩⟩
 ·refine ⟨c,g2.trans h1,h2.idle (by omega) fun y k1 k2 k3=>?_⟩
  obtain ⟨d,f,f1,f2,f3⟩:=k2
  have:Kl t L y≠a:=fun e=>g1 y k1 e f f1 f2
  omega
theorem SOK.idle {t:Ge} {L:List Launch} {τ τ':Int} {s:List Int} (h:SOK t L τ s) (hle:τ<=τ') (hno:∀y:Nat×Bool,y.1<L.length->Kl t L y<=τ'->Kl t L y<=τ):SOK t L τ' s :=
 ⟨h.1,fun v hv=>let ⟨c,h1,h2⟩:=h.2 v hv;⟨c,h1,h2.idle hle fun y g1 _ g3=>hno y g1 g3⟩⟩
theorem Qtp {n:Nat} {l:List Gj} (h:GH n l) {f g:Gj} (hf:f ∈ l) (hg:g ∈ l) (e:f.Var=g.Var):f=g:=by
 obtain ⟨i,hi,rfl⟩:=List.mem_iff_getElem.1 hf
 obtain ⟨j,hj,rfl⟩:=List.mem_iff_getElem.1 hg
 have hp:=List.pairwise_iff_getElem.1 h.asc
 rcases Nat.lt_trichotomy i j with k |k |k
 ·have:=hp i j hi hj k;omega
 ·subst k;rfl
 ·have:=hp j i hj hi k;omega
theorem Wv.uniq {t:Ge} {L:List Launch} (hA:Acc t L) {x:Nat×Bool} (hx:x.1<L.length) {v:Nat} {c d:Int} (h:Wv t L x v c) (h':Wv t L x v d):c=d:=by
 obtain ⟨f,f1,f2,rfl⟩:=h
 obtain ⟨g,g1,g2,rfl⟩:=h'
 rw [Qtp (QlV hA hx) f1 g1 (f2.trans g2.symm)]
theorem QjK {t:Ge} {L:List Launch} {x y:Nat×Bool} {v:Nat} {c d:Int} (h:Wv t L x v c) (h':Wv t L y v d):Qce t L x y=true:=by
 obtain ⟨f,f1,f2,rfl⟩:=h
 obtain ⟨g,g1,g2,rfl⟩:=h'
 unfold Qce QiR
 rw [show Kp (wrH (jH t L x) x.2) (wrH (jH t L y) y.2)=true from Qgv.2 ⟨f,f1,g,g1,f2.trans g2.symm⟩]
 rfl
theorem QjL {t:Ge} {L:List Launch} {x y:Nat×Bool} {v:Nat} {c:Int} {f:Gj} (h:Wv t L x v c) (hf:f ∈ rdX t L y) (e:f.Var=(v:Int)):Qce t L x y=true:=by
 obtain ⟨g,g1,g2,rfl⟩:=h
 unfold Qce QiR
 rw [show Kp (wrH (jH t L x) x.2) (rdH (jH t L y) y.2)=true from Qgv.2 ⟨g,g1,f,hf,g2.trans e.symm⟩]
 simp
theorem GO.uniq {t:Ge} {L:List Launch} (hA:Acc t L) {v:Nat} {τ c d:Int} (hN:∀a,a<=τ->QdQ t L a) (h:GO t L v τ c) (h':GO t L v τ d):c=d:=by
 rcases h with ⟨x,h1,h2,h3,h4⟩ |⟨h1,h2⟩
 ·rcases h' with ⟨y,g1,g2,g3,g4⟩ |⟨g1,g2⟩
  ·have e1:=h4 y g1 g2 ⟨_,g3⟩
   have e2:=g4 x h1 h2 ⟨_,h3⟩
   by_cases e:x=y
   ·subst e;exact h3.uniq hA h1 g3
   ·have:=hN _ h2 x y h1 g1 rfl (by omega) e
    rw [QjK h3 g3] at this;cases this
  ·have:=g1 x h1 ⟨_,h3⟩;omega
 ·rcases h' with ⟨y,g1,g2,g3,g4⟩ |⟨g1,g2⟩
  ·have:=h1 y g1 ⟨_,g3⟩;omega
  ·rw [h2] at g2;cases g2;rfl
theorem Qca {t:Ge} {L:List Launch} (hA:Acc t L) {τ:Int} {s:List Int} {l:List Gj} (hN:∀a,a<=τ->QdQ t L a) (hs:SOK t L τ s) (hl:GH t.Vars.length l):Qan l s=true↔∀f ∈ l,GO t L f.Var.toNat τ f.Val:=by
 unfold Qan
 rw [List.all_eq_true]
 refine ⟨fun h f hf=>?_,fun h f hf=>?_⟩
 ·obtain ⟨a,b⟩:=hl.rng f hf
  obtain ⟨c,h1,h2⟩:=hs.2 f.Var.toNat (by omega)
  have h3:=h f hf
  simp only [Xz] at h3
  unfold idx at h3
  rw [if_pos a,h1] at h3
  cases h3
  exact h2
 ·obtain ⟨a,b⟩:=hl.rng f hf
  obtain ⟨c,h1,h2⟩:=hs.2 f.Var.toNat (by omega)
  simp only [Xz]
  unfold idx
  rw [if_pos a,h1,h2.uniq hA hN (h f hf)]
end Go.Pw
/- -/
namespace Go.Pw
def mkS (t:Ge) (L:List Launch):Int:=L.foldl (fun m l=>max m (QV t l)) 0
theorem QkB (t:Ge):∀(L:List Launch) (m:Int),m<=L.foldl (fun m l=>max m (QV t l)) m∧∀l ∈ L,QV t l<=L.foldl (fun m l=>max m (QV t l)) m
 |[],m=>⟨Int.le_refl _,by simp⟩
 |x::L,m=>by
  obtain ⟨h1,h2⟩:=QkB t L (max m (QV t x))
  simp only [List.foldl_cons]
  refine ⟨by omega,fun l hl=>?_⟩
  rcases Xr.1 hl with rfl |hl
  ·omega
  ·exact h2 l hl
theorem Dd (t:Ge) (b:Int):∀(L:List Launch) (m:Int),m<=b->(∀l ∈ L,QV t l<=b)->L.foldl (fun m l=>max m (QV t l)) m<=b
 |[],m,h,_=>h
 |x::L,m,h,h'=>by
  simp only [List.foldl_cons]
  exact Dd t b L _ (by have:=h' x (by simp);omega) fun l hl=>h' l (List.mem_cons_of_mem _ hl)
theorem Qc2 {t:Ge} {L:List Launch}:0<=mkS t L∧∀l ∈ L,QV t l<=mkS t L:=QkB t L 0
theorem Qii {t:Ge} {L:List Launch} {b:Int} (h0:0<=b) (h:∀l ∈ L,QV t l<=b):mkS t L<=b:=Dd t b L 0 h0 h
theorem Qop {t:Ge} {L:List Launch} (hA:Acc t L):Y2 t L=some (mkS t L):=by
 unfold Y2
 have h:Ok (forS (fun i100=>fun (out100:Int)=>(idx L (i100:Int)).bind fun x100=>(Kq t x100).bind <|fun (y100:Int)=>some (max out100 y100)) (L.length) 0 0) (fun r=>r=mkS t L):=by
  refine QdY (fun l m=>m=l.foldl (fun m l=>max m (QV t l)) 0) Z ?_ fun s hs=>hs
  rintro j l x m hx _ rfl
  refine Ok.step (by rw [Qq];exact hx) (Ok.step (QjU hA.chk (hA.ok x (List.mem_of_getElem? hx))) ⟨_,Z,?_⟩)
  rw [List.foldl_append];rfl
 obtain ⟨r,h1,rfl⟩:=h
 rw [h1];rfl
structure GJ (t:Ge) (L:List Launch):Prop where
 ov:∀a,QmY t L a
 ni:∀a,QdQ t L a
 pre:∀x:Nat×Bool,x.1<L.length->∀f ∈ rdX t L x,GO t L f.Var.toNat (Kl t L x - 1) f.Val
 over:∀i,i<L.length->∀τ,(Q3 L i).At<=τ->τ<QV t (Q3 L i)->∀f ∈ (jb t (Q3 L i)).Over,GO t L f.Var.toNat τ f.Val
 goal:∀f ∈ t.Goal,GO t L f.Var.toNat (mkS t L) f.Val
theorem QjB {t:Ge} {L:List Launch} (hA:Acc t L) {x:Nat×Bool} (hx:x.1<L.length):0<=Kl t L x∧Kl t L x<=mkS t L:=by
 have h1:=hA.ok _ (QQ hx)
 have h2:=Qcl hA.chk h1
 have h3:=(Qc2 (t:=t) (L:=L)).2 _ (QQ hx)
 have:=h1.a0
 unfold Kl
 split <;> omega
structure DA (t:Ge) (L:List Launch) (T:List Int):Prop where
 asc:T.Pairwise (·<·)
 mem:∀a,a ∈ T↔∃x:Nat×Bool,x.1<L.length∧Kl t L x=a
theorem Qs4 {t:Ge} {L:List Launch} {M:List (Int×List Gh)} (h:D1 t L M):DA t L (QkW (M.map Prod.fst)):=by
 have hp:=Qiq (M.map Prod.fst)
 refine ⟨?_,fun a=>?_⟩
 ·have h1:=Qmn (M.map Prod.fst)
  have h2:=hp.nodup_iff.2 h.nd
  refine (h1.and h2).imp fun ⟨a,b⟩=>?_
  omega
 ·rw [hp.mem_iff,h.key]
  constructor
  ·rintro ⟨l,hl,e⟩
   obtain ⟨i,hi,rfl⟩:=List.mem_iff_getElem.1 hl
   have el:Q3 L i=L[i]:=by simp [Q3,hi]
   rcases e with e |e
   ·exact ⟨(i,false),hi,by simp [Kl,el,e]⟩
   ·exact ⟨(i,true),hi,by simp [Kl,el,e]⟩
  ·rintro ⟨⟨i,b⟩,hi,e⟩
   refine ⟨Q3 L i,QQ hi,?_⟩
   cases b with
   |true=>exact .inr e
   |false=>exact .inl e
structure Seen (t:Ge) (L:List Launch) (a:Int):Prop where
 ov:QmY t L a
 ni:QdQ t L a
 pre:∀x:Nat×Bool,x.1<L.length->Kl t L x=a->∀f ∈ rdX t L x,GO t L f.Var.toNat (a - 1) f.Val
 over:∀i,i<L.length->(Q3 L i).At<=a->a<QV t (Q3 L i)->∀f ∈ (jb t (Q3 L i)).Over,GO t L f.Var.toNat a f.Val
theorem GJ.seen {t:Ge} {L:List Launch} (h:GJ t L) (a:Int):Seen t L a :=
 ⟨h.ov a,h.ni a,fun x hx e f hf=>by subst e;exact h.pre x hx f hf,fun i hi h1 h2 f hf=>h.over i hi a h1 h2 f hf⟩
theorem QuV {t:Ge} {L:List Launch} {T:List Int} (hT:DA t L T) (h:∀a ∈ T,Seen t L a) (hg:∀f ∈ t.Goal,GO t L f.Var.toNat (mkS t L) f.Val):GJ t L:=by
 refine ⟨fun a i k hi hk hne he hj=>?_,fun a x y hx hy tx ty=>?_,fun x hx f hf=>?_,fun i hi τ h1 h2 f hf=>?_,hg⟩
 ·exact (h a ((hT.mem a).2 ⟨(i,false),hi,he⟩)).ov i k hi hk hne he hj
 ·exact (h a ((hT.mem a).2 ⟨x,hx,tx⟩)).ni x y hx hy tx ty
 ·exact (h _ ((hT.mem _).2 ⟨x,hx,Z⟩)).pre x hx Z f hf
 ·have hne:(Q3 L i).At ∈ T.filter fun a=>decide (a<=τ):=List.mem_filter.2 ⟨(hT.mem _).2 ⟨(i,false),hi,rfl⟩,by simpa using h1⟩
  obtain ⟨a,ha,hmax⟩:∃a,a ∈ T∧a<=τ∧∀b ∈ T,b<=τ->b<=a:=by
   generalize hF:T.filter (fun a=>decide (a<=τ))=F at hne
   have hasc:F.Pairwise (·<·):=by rw [<-hF];exact hT.asc.filter _
   have hFn:F≠[]:=List.ne_nil_of_mem hne
   refine ⟨F.getLast hFn,?_,?_,fun b hb hbτ=>?_⟩
   ·have:F.getLast hFn ∈ F:=List.getLast_mem hFn
    have hm:F.getLast hFn ∈ T.filter fun a=>decide (a<=τ):=by rw [hF];exact this
    exact (List.mem_filter.1 hm).1
   ·have:F.getLast hFn ∈ F:=List.getLast_mem hFn
    have hm:F.getLast hFn ∈ T.filter fun a=>decide (a<=τ):=by rw [hF];exact this
    simpa using (List.mem_filter.1 hm).2
   ·have hb':b ∈ F:=by rw [<-hF];exact List.mem_filter.2 ⟨hb,by simpa using hbτ⟩
    obtain ⟨p,hp,rfl⟩:=List.mem_iff_getElem.1 hb'
    rw [List.getLast_eq_getElem]
    by_cases e:p=F.length - 1
    ·subst e;exact Int.le_refl _
    ·have:=List.pairwise_iff_getElem.1 hasc p (F.length - 1) hp (by omega) (by omega)
     omega
  have hge:=hmax.2 _ ((hT.mem _).2 ⟨(i,false),hi,rfl⟩) h1
  refine ((h a ha).over i hi hge (by omega) f hf).idle hmax.1 fun y hy _ hyτ=>?_
  exact hmax.2 _ ((hT.mem _).2 ⟨y,hy,Z⟩) hyτ
theorem QfP {t:Ge} (ht:GX t) (L:List Launch):Ok (Ji t L) fun r=>(r.2=none↔Acc t L∧GJ t L)∧(r.2=none->r.1=mkS t L):=by
 unfold Ji
 obtain ⟨e,he,hc⟩:=QqZ ht L
 refine Ok.step he ?_
 cases e with
 |some z =>
  simp only [Option.isSome_some,if_true]
  refine ⟨_,Z,⟨fun h=>by simp at h,fun h=>?_⟩,fun h=>by simp at h⟩
  rw [Qo1 h.1.check h.1.len h.1.ok] at he
  cases he
 | none =>
  have hA:=hc rfl
  obtain ⟨M,hM,hm⟩:=Qlh hA
  simp only [Option.isSome_none,Xf,if_false]
  refine Ok.step hM ?_
  have hT:=Qs4 hm
  generalize QkW (M.map Prod.fst)=T at hT ⊢
  show Ok (ctl (Jf _ T.length 0 _) _ _) _
  have hpw:=List.pairwise_iff_getElem.1 hT.asc
  have hI:∀a ∈ T,0<=a∧a<=1048638:=fun a ha=>by
   obtain ⟨x,hx,rfl⟩:=(hT.mem a).1 ha
   have h1:=hA.ok _ (QQ hx)
   have h2:=Qcl hA.chk h1
   have:=h1.a0;have:=h1.a1
   unfold Kl
   split <;> omega
  refine Ok.ctl (fun i s=>(∀τ,(∀j (hj:j<T.length),j<i->T[j]<=τ)->(∀j (hj:j<T.length),i<=j->τ<T[j])->SOK t L τ s)∧(∀j (hj:j<T.length),j<i->Seen t L T[j])) (fun r=>r.2≠none∧¬GJ t L) ⟨?_,fun j _ h=>by omega⟩ ?_ (fun r hr=>⟨r,Z,⟨fun h=>absurd h hr.1,fun h=>absurd h.2 hr.2⟩,fun h=>absurd h hr.1⟩) ?_
  ·intro τ _ h2
   refine ⟨hA.chk.ini,fun v hv=>⟨t.Init[v]'(by rw [hA.chk.ini];exact hv),by simp [hA.chk.ini,hv], .inr ⟨fun y hy _=>?_,by simp [hA.chk.ini,hv]⟩⟩⟩
   obtain ⟨j,hj,e⟩:=List.mem_iff_getElem.1 ((hT.mem _).2 ⟨y,hy,rfl⟩)
   rw [<-e]
   exact h2 j hj (by omega)
  ·intro i s hi ⟨h1,h2⟩
   have hs:SOK t L (T[i] - 1) s:=h1 _ (fun j hj hji=>by have:=hpw j i hj hi hji;omega) fun j hj hij=>by
    by_cases e:i=j
    ·subst e;omega
    ·have:=hpw i j hi hj (by omega);omega
   have hN:∀a,a<=T[i] - 1->QdQ t L a:=fun a ha x y hx hy tx ty=>by
    obtain ⟨j,hj,e⟩:=List.mem_iff_getElem.1 ((hT.mem a).2 ⟨x,hx,tx⟩)
    have hji:j<i:=by
     rcases Nat.lt_trichotomy j i with k |k |k
     ·exact k
     ·subst k;omega
     ·have:=hpw i j hi hj k;omega
    rw [<-e] at tx ty
    exact (h2 j hj hji).ni x y hx hy tx ty
   have hN':QdQ t L T[i]->∀a,a<=T[i]->QdQ t L a:=fun h a ha=>by
    by_cases e:a=T[i]
    ·subst e;exact h
    ·exact hN a (by omega)
   refine Ok.step (by rw [Qq];exact Xb hi) (Ok.step (hm.hget ?_) (Ok.bind ((QtV hA hs.1 T[i]).mono ?_)))
   ·have:=hI _ (List.getElem_mem hi)
    constructor <;> omega
   rintro ⟨s',e'⟩ (⟨g0,g1,g2,g3,g4,g5⟩ |⟨g0,g1⟩)
   ·have g0:e'=none:=g0
    subst g0
    have hs':SOK t L T[i] s':=hs.step g4
    refine ⟨_,Z,fun τ k1 k2=>?_,fun j hj hji=>?_⟩
    ·refine hs'.idle (k1 i hi (by omega)) fun y hy hyτ=>?_
     obtain ⟨j,hj,e⟩:=List.mem_iff_getElem.1 ((hT.mem _).2 ⟨y,hy,rfl⟩)
     rw [<-e] at hyτ ⊢
     by_cases c:j<=i
     ·by_cases c2:j=i
      ·subst c2;exact Int.le_refl _
      ·have:=hpw j i hj hi (by omega);omega
     ·have:=k2 j hj (by omega);omega
    ·by_cases c:j=i
     ·subst c
      refine ⟨g1,g2,fun x hx tx f hf=>?_,fun i' hi' a1 a2 f hf=>?_⟩
      ·exact (Qca hA hN hs (QjO hA hx)).1 (g3 x hx tx) f hf
      ·exact (Qca hA (hN' g2) hs' (hA.chk.job _ (QbP (hA.ok _ (QQ hi')))).over).1 (g5 i' hi' a1 a2) f hf
     ·exact h2 j hj (by omega)
   ·have g0:e'≠none:=g0
    obtain ⟨z,rfl⟩:=Option.ne_none_iff_exists'.1 g0
    refine ⟨_,Z,by simp,fun hF=>?_⟩
    have hsn:=hF.seen T[i]
    rcases g1 with g |g |g |⟨s',k1,k2,k3⟩
    ·exact g hsn.ov
    ·exact g hsn.ni
    ·exact g fun x hx tx=>(Qca hA hN hs (QjO hA hx)).2 fun f hf=>hsn.pre x hx tx f hf
    ·exact k3 fun i' hi' a1 a2=>(Qca hA (hN' k1) (hs.step k2) (hA.chk.job _ (QbP (hA.ok _ (QQ hi')))).over).2 fun f hf=>hsn.over i' hi' a1 a2 f hf
  ·intro s ⟨h1,h2⟩
   have hs:SOK t L (mkS t L) s:=h1 _ (fun j hj _=>by
    obtain ⟨x,hx,e⟩:=(hT.mem _).1 (List.getElem_mem hj)
    rw [<-e];exact (QjB hA hx).2) fun j hj h=>by omega
   have hN:∀a,a<=mkS t L->QdQ t L a:=fun a _ x y hx hy tx ty=>by
    obtain ⟨j,hj,e⟩:=List.mem_iff_getElem.1 ((hT.mem a).2 ⟨x,hx,tx⟩)
    rw [<-e] at tx ty
    exact (h2 j hj hj).ni x y hx hy tx ty
   have hg:=Qca hA hN hs hA.chk.goal
   refine Ok.step (Qd7 _ _) (Jl (fun h=>⟨_,Z,⟨fun h=>by simp at h,fun hF=>?_⟩,fun h=>by simp at h⟩) fun h=>Ok.step (Qop hA) ⟨_,Z,⟨fun _=>⟨hA,?_⟩,fun _=>rfl⟩,fun _=>rfl⟩)
   ·rw [hg.2 hF.2.goal] at h;cases h
   ·refine QuV hT (fun a ha=>?_) (hg.1 (by simpa using h))
    obtain ⟨j,hj,rfl⟩:=List.mem_iff_getElem.1 ha
    exact h2 j hj hj
theorem QcK {t:Ge} (ht:GX t) {L:List Launch} (hA:Acc t L) (hF:GJ t L):Ji t L=some (mkS t L,none):=by
 obtain ⟨⟨m,e⟩,h1,h2,h3⟩:=QfP ht L
 have e1:e=none:=h2.2 ⟨hA,hF⟩
 subst e1
 have e2:m=mkS t L:=h3 rfl
 rw [h1,e2]
end Go.Pw
/- -/
namespace Go.Pw
structure GF (t:Ge) (L L':List Launch):Prop where
 len:L'.length=L.length
 job:∀i,i<L.length->(Q3 L' i).Job=(Q3 L i).Job
 ok:∀l ∈ L',LOK t l
 ord:∀x y:Nat×Bool,x.1<L.length->y.1<L.length->x.1≠y.1->Qce t L x y=true->Kl t L x<Kl t L y->Kl t L' x<Kl t L' y
 ov1:∀i (x:Nat×Bool),i<L.length->x.1<L.length->x.1≠i->Kp (wrX t L x) (jb t (Q3 L i)).Over=true->Kl t L x<=(Q3 L i).At->Kl t L' x<=(Q3 L' i).At
 ov2:∀i (x:Nat×Bool),i<L.length->x.1<L.length->x.1≠i->Kp (wrX t L x) (jb t (Q3 L i)).Over=true->QV t (Q3 L i)<=Kl t L x->QV t (Q3 L' i)<=Kl t L' x
 rep:∀i k,i<L.length->k<L.length->i≠k->(Q3 L i).Job=(Q3 L k).Job->(Q3 L i).At<(Q3 L k).At->QV t (Q3 L' i)<(Q3 L' k).At
section
variable {t:Ge} {L L':List Launch}
theorem GF.acc (h:GF t L L') (hA:Acc t L):Acc t L':=⟨hA.check,hA.chk,by rw [h.len];exact hA.len,h.ok⟩
theorem GF.jb (h:GF t L L') {i:Nat} (hi:i<L.length):Go.Pw.jb t (Q3 L' i)=Go.Pw.jb t (Q3 L i):=by unfold Go.Pw.jb;rw [h.job i hi]
theorem GF.wr (h:GF t L L') {x:Nat×Bool} (hx:x.1<L.length):wrX t L' x=wrX t L x:=by unfold wrX jH;rw [h.jb hx]
theorem GF.rd (h:GF t L L') {x:Nat×Bool} (hx:x.1<L.length):rdX t L' x=rdX t L x:=by unfold rdX jH;rw [h.jb hx]
theorem GF.int (h:GF t L L') {x y:Nat×Bool} (hx:x.1<L.length) (hy:y.1<L.length):Qce t L' x y=Qce t L x y:=by unfold Qce jH;rw [h.jb hx,h.jb hy]
theorem GF.wv (h:GF t L L') {x:Nat×Bool} (hx:x.1<L.length) {v:Nat} {c:Int}:Wv t L' x v c↔Wv t L x v c:=by unfold Wv;rw [h.wr hx]
theorem QeT (hA:Acc t L) {i:Nat} (hi:i<L.length):1<=(jb t (Q3 L i)).Duration:=(hA.chk.job _ (QbP (hA.ok _ (QQ hi)))).dur.1
theorem GF.lt (h:GF t L L') (hA:Acc t L) {x y:Nat×Bool} (hx:x.1<L.length) (hy:y.1<L.length) (hi:Qce t L x y=true) (hlt:Kl t L x<Kl t L y):Kl t L' x<Kl t L' y:=by
 by_cases e:x.1=y.1
 ·obtain ⟨i,b⟩:=x
  obtain ⟨k,c⟩:=y
  simp only at e
  subst e
  have h1:1<=(Go.Pw.jb t (Q3 L i)).Duration:=QeT hA hx
  have h2:1<=(Go.Pw.jb t (Q3 L' i)).Duration:=QeT (h.acc hA) (i:=i) (by rw [h.len];exact hx)
  cases b <;> cases c <;> simp only [Kl,QV,Xf,if_false,if_true] at hlt ⊢ <;> omega
 ·exact h.ord x y hx hy e hi hlt
theorem GF.tri (h:GF t L L') (hA:Acc t L) (hF:GJ t L) {x y:Nat×Bool} (hx:x.1<L.length) (hy:y.1<L.length) (hne:x≠y) (hi:Qce t L x y=true) :
  (Kl t L x<Kl t L y∧Kl t L' x<Kl t L' y)∨(Kl t L y<Kl t L x∧Kl t L' y<Kl t L' x):=by
 have hd:Kl t L x≠Kl t L y:=fun e=>by
  have:=hF.ni _ x y hx hy e rfl hne
  rw [hi] at this;cases this
 by_cases c:Kl t L x<Kl t L y
 ·exact .inl ⟨c,h.lt hA hx hy hi c⟩
 ·have c':Kl t L y<Kl t L x:=by omega
  exact .inr ⟨c',h.lt hA hy hx (by rw [QeA];exact hi) c'⟩
theorem QkD {α:Type} (f:α->Int):∀l:List α,l≠[]->∃x ∈ l,∀y ∈ l,f y<=f x
 |[],h=>absurd rfl h
 |[a],_=>⟨a,by simp,fun y hy=>by simp at hy;subst hy;exact Int.le_refl _⟩
 | a::b::l,_=>by
  obtain ⟨x,hx,hm⟩:=QkD f (b::l) (by simp)
  by_cases c:f x<=f a
  ·refine ⟨a,by simp,fun y hy=>?_⟩
   rcases Xr.1 hy with rfl |hy
   ·exact Int.le_refl _
   ·exact Int.le_trans (hm y hy) c
  ·refine ⟨x,List.mem_cons_of_mem _ hx,fun y hy=>?_⟩
   rcases Xr.1 hy with rfl |hy
   ·omega
   ·exact hm y hy
theorem Qn0 (hA:Acc t L) {x:Nat×Bool} (hx:x.1<L.length):(Kl t L x=(Q3 L x.1).At∧x.2=false)∨(Kl t L x=QV t (Q3 L x.1)∧x.2=true):=by
 obtain ⟨i,b⟩:=x
 cases b
 ·exact .inl ⟨Z,Z⟩
 ·exact .inr ⟨Z,Z⟩
theorem GF.before (h:GF t L L') (hA:Acc t L) {i:Nat} (hi:i<L.length) {x:Nat×Bool} (hx:x.1<L.length) (hm:Kp (wrX t L x) (Go.Pw.jb t (Q3 L i)).Over=true) (hle:Kl t L x<=(Q3 L i).At):Kl t L' x<=(Q3 L' i).At:=by
 by_cases e:x.1=i
 ·subst e
  have h1:=QeT hA hx
  rcases Qn0 hA hx with ⟨h2,h3⟩ |⟨h2,h3⟩
  ·unfold Kl;rw [h3];simp
  ·rw [h2] at hle;unfold QV at hle;omega
 ·exact h.ov1 i x hi hx e hm hle
theorem GF.behind (h:GF t L L') (hA:Acc t L) {i:Nat} (hi:i<L.length) {x:Nat×Bool} (hx:x.1<L.length) (hm:Kp (wrX t L x) (Go.Pw.jb t (Q3 L i)).Over=true) (hle:QV t (Q3 L i)<=Kl t L x):QV t (Q3 L' i)<=Kl t L' x:=by
 by_cases e:x.1=i
 ·subst e
  have h1:=QeT hA hx
  rcases Qn0 hA hx with ⟨h2,h3⟩ |⟨h2,h3⟩
  ·rw [h2] at hle;unfold QV at hle;omega
  ·unfold Kl;rw [h3];simp
 ·exact h.ov2 i x hi hx e hm hle
theorem Qmm {x:Nat×Bool} {v:Nat} {c:Int} {fs:List Gj} {f:Gj} (h:Wv t L x v c) (hf:f ∈ fs) (e:f.Var=(v:Int)):Kp (wrX t L x) fs=true:=by
 obtain ⟨g,g1,g2,_⟩:=h
 exact Qgv.2 ⟨g,g1,f,hf,g2.trans e.symm⟩
theorem GF.last (h:GF t L L') (hA:Acc t L) (hF:GJ t L) {v:Nat} {c:Int} (hv:GO t L v (mkS t L) c):GO t L' v (mkS t L') c:=by
 have hA':=h.acc hA
 rcases hv with ⟨w,h1,h2,h3,h4⟩ |⟨h1,h2⟩
 ·have hw':w.1<L'.length:=by rw [h.len];exact h1
  refine .inl ⟨w,hw',(QjB hA' hw').2,(h.wv h1).2 h3,fun y hy _ ⟨d,hd⟩=>?_⟩
  have hy':y.1<L.length:=by rw [<-h.len];exact hy
  have hd':=(h.wv hy').1 hd
  by_cases e:y=w
  ·subst e;exact Int.le_refl _
  ·have:=h4 y hy' (QjB hA hy').2 ⟨d,hd'⟩
   rcases h.tri hA hF hy' h1 e (QjK hd' h3) with k |k <;> omega
 ·refine .inr ⟨fun y hy ⟨d,hd⟩=>?_,h2⟩
  have hy':y.1<L.length:=by rw [<-h.len];exact hy
  have:=h1 y hy' ⟨d,(h.wv hy').1 hd⟩
  have:=(QjB hA hy').2
  omega
theorem GF.fine (h:GF t L L') (hA:Acc t L) (hF:GJ t L):GJ t L':=by
 have hA':=h.acc hA
 have hl:∀{x:Nat×Bool},x.1<L'.length->x.1<L.length:=fun hx=>by rw [<-h.len];exact hx
 have hr:∀{x:Nat×Bool},x.1<L.length->x.1<L'.length:=fun hx=>by rw [h.len];exact hx
 have cast:∀{n:List Gj} {f:Gj},GH t.Vars.length n->f ∈ n->f.Var=(f.Var.toNat:Int):=fun hn hf=>by have:=(hn.rng _ hf).1;omega
 refine ⟨fun a i k hi hk hne ha hj hov=>?_,fun a x y hx hy tx ty hne=>?_,fun x hx f hf=>?_,fun i hi τ h1 h2 f hf=>?_,fun f hf=>h.last hA hF (hF.goal f hf)⟩
 ·rw [h.len] at hi hk
  rw [h.job i hi,h.job k hk] at hj
  have e1:=Qcl hA'.chk (hA'.ok _ (QQ (L:=L') (by rw [h.len];exact hi)))
  have e2:=Qcl hA.chk (hA.ok _ (QQ hk))
  rcases Int.lt_trichotomy (Q3 L i).At (Q3 L k).At with c |c |c
  ·have:=h.rep i k hi hk hne hj c;omega
  ·exact hF.ov _ i k hi hk hne Z hj ⟨by omega,by omega⟩
  ·have:=h.rep k i hk hi (Ne.symm hne) hj.symm c;omega
 ·rw [h.int (hl hx) (hl hy)]
  cases hc:Qce t L x y with
  |false=>rfl
  |true=>rcases h.tri hA hF (hl hx) (hl hy) hne hc with k |k <;> omega
 ·have hx':=hl hx
  rw [h.rd hx'] at hf
  have ev:=cast (QjO hA hx') hf
  rcases hF.pre x hx' f hf with ⟨w,h1,h2,h3,h4⟩ |⟨h1,h2⟩
  ·have hwx:w≠x:=fun e=>by subst e;omega
   have hw:=QjL h3 hf ev
   have hlt:=h.lt hA h1 hx' hw (by omega)
   refine .inl ⟨w,hr h1,by omega,(h.wv h1).2 h3,fun y hy ty ⟨d,hd⟩=>?_⟩
   have hy':=hl hy
   have hd':=(h.wv hy').1 hd
   have hyx:y≠x:=fun e=>by subst e;omega
   have:Kl t L y<Kl t L x:=by rcases h.tri hA hF hy' hx' hyx (QjL hd' hf ev) with k |k <;> omega
   have hle:=h4 y hy' (by omega) ⟨d,hd'⟩
   by_cases e:y=w
   ·subst e;exact Int.le_refl _
   ·rcases h.tri hA hF hy' h1 e (QjK hd' h3) with k |k <;> omega
  ·refine .inr ⟨fun y hy ⟨d,hd⟩=>?_,h2⟩
   have hy':=hl hy
   have hd':=(h.wv hy').1 hd
   have:=h1 y hy' ⟨d,hd'⟩
   by_cases e:y=x
   ·subst e;omega
   ·rcases h.tri hA hF hy' hx' e (QjL hd' hf ev) with k |k <;> omega
 ·have hi':i<L.length:=by rw [<-h.len];exact hi
  rw [h.jb hi'] at hf
  have hok:=hA.chk.job _ (QbP (hA.ok _ (QQ hi')))
  have ev:=cast hok.over hf
  have hd0:=QeT hA hi'
  by_cases hex:∃y:Nat×Bool,y.1<L.length∧Kl t L' y<=τ∧∃d,Wv t L y f.Var.toNat d
  ·classical
   let F:=(Qf7 L.length).filter fun y=>decide (Kl t L' y<=τ∧∃d,Wv t L y f.Var.toNat d)
   have memF:∀y,y ∈ F↔y.1<L.length∧Kl t L' y<=τ∧∃d,Wv t L y f.Var.toNat d:=fun y=>by
    simp only [F,List.mem_filter,QfF,Xz]
   obtain ⟨y0,hy0⟩:=hex
   obtain ⟨w,hw,hmax⟩:=QkD (Kl t L') F (List.ne_nil_of_mem ((memF y0).2 hy0))
   obtain ⟨w1,w2,d,w3⟩:=(memF w).1 hw
   have hmw:=Qmm w3 hf ev
   have hwe:Kl t L w<QV t (Q3 L i):=by
    by_cases c:Kl t L w<QV t (Q3 L i)
    ·exact c
    ·have:=h.behind hA hi' w1 hmw (by omega);omega
   have key:Wv t L w f.Var.toNat f.Val:=by
    rcases hF.over i hi' (max (Kl t L w) (Q3 L i).At) (by omega) (by unfold QV at hwe ⊢;omega) f hf with ⟨x,k1,k2,k3,k4⟩ |⟨k1,_⟩
    ·have hwx:=k4 w w1 (by omega) ⟨d,w3⟩
     by_cases e:w=x
     ·subst e;exact k3
     ·exfalso
      rcases h.tri hA hF w1 k1 e (QjK w3 k3) with ⟨q1,q2⟩ |⟨q1,q2⟩
      ·have hxa:Kl t L x<=(Q3 L i).At:=by omega
       have:=h.before hA hi' k1 (Qmm k3 hf ev) hxa
       have:=hmax x ((memF x).2 ⟨k1,by omega,_,k3⟩)
       omega
      ·omega
    ·have:=k1 w w1 ⟨d,w3⟩;omega
   exact .inl ⟨w,hr w1,w2,(h.wv w1).2 key,fun y hy ty ⟨d',hd'⟩=>hmax y ((memF y).2 ⟨hl hy,ty,d',(h.wv (hl hy)).1 hd'⟩)⟩
  ·refine .inr ⟨fun y hy ⟨d,hd⟩=>?_,?_⟩
   ·by_cases c:Kl t L' y<=τ
    ·exact absurd ⟨y,hl hy,c,d,(h.wv (hl hy)).1 hd⟩ hex
    ·omega
   ·rcases hF.over i hi' (Q3 L i).At (Int.le_refl _) (by unfold QV;omega) f hf with ⟨x,k1,k2,k3,k4⟩ |⟨_,k2⟩
    ·have:=h.before hA hi' k1 (Qmm k3 hf ev) k2
     exact absurd ⟨x,k1,by omega,_,k3⟩ hex
    ·exact k2
end
end Go.Pw
/- -/
namespace Go.Pw
theorem QpK {α:Type} {l1 l2:List α} (h:l1.Perm l2):∃f g:Nat->Nat,(∀i,i<l1.length->f i<l2.length∧g (f i)=i∧l2[f i]?=l1[i]?)∧(∀i,i<l2.length->g i<l1.length∧f (g i)=i):=by
 induction h with
 |nil=>exact ⟨id,id,fun i hi=>by simp at hi,fun i hi=>by simp at hi⟩
 | cons x h ih =>
  obtain ⟨f,g,h1,h2⟩:=ih
  refine ⟨fun i=>match i with |0=>0 |i+1=>f i+1,fun i=>match i with |0=>0 |i+1=>g i+1,fun i hi=>?_,fun i hi=>?_⟩
  ·cases i with
   |zero=>exact ⟨by simp,rfl,rfl⟩
   |succ i =>
    obtain ⟨a,b,c⟩:=h1 i (by simpa using hi)
    exact ⟨by simpa using a,by simp [b],by simpa using c⟩
  ·cases i with
   |zero=>exact ⟨by simp,rfl⟩
   |succ i =>
    obtain ⟨a,b⟩:=h2 i (by simpa using hi)
    exact ⟨by simpa using a,by simp [b]⟩
 | swap x y l =>
  refine ⟨fun i=>match i with |0=>1 |1=>0 |i+2=>i+2,fun i=>match i with |0=>1 |1=>0 |i+2=>i+2,fun i hi=>?_,fun i hi=>?_⟩
  ·rcases i with _ |_ |i
   ·exact ⟨by simp,Z,Z⟩
   ·exact ⟨by simp,Z,Z⟩
   ·exact ⟨by simpa using hi,Z,Z⟩
  ·rcases i with _ |_ |i
   ·exact ⟨by simp,Z⟩
   ·exact ⟨by simp,Z⟩
   ·exact ⟨by simpa using hi,Z⟩
 | trans _ _ ih1 ih2 =>
  obtain ⟨f,g,h1,h2⟩:=ih1
  obtain ⟨f',g',k1,k2⟩:=ih2
  refine ⟨fun i=>f' (f i),fun i=>g (g' i),fun i hi=>?_,fun i hi=>?_⟩
  ·obtain ⟨a,b,c⟩:=h1 i hi
   obtain ⟨a',b',c'⟩:=k1 (f i) a
   exact ⟨a',by show g (g' (f' (f i)))=i;rw [b',b],c'.trans c⟩
  ·obtain ⟨a',b'⟩:=k2 i hi
   obtain ⟨a,b⟩:=h2 (g' i) a'
   exact ⟨a,by show f' (f (g (g' i)))=i;rw [b,b']⟩
section
variable {t:Ge} {L S:List Launch}
theorem Acc.perm (h:Acc t L) (hp:L.Perm S):Acc t S:=⟨h.check,h.chk,by rw [<-hp.length_eq];exact h.len,fun l hl=>h.ok l (hp.mem_iff.2 hl)⟩
theorem Qkk (hp:L.Perm S):mkS t L=mkS t S:=by
 have h1:mkS t L<=mkS t S:=Qii Qc2.1 fun l hl=>Qc2.2 l (hp.mem_iff.1 hl)
 have h2:mkS t S<=mkS t L:=Qii Qc2.1 fun l hl=>Qc2.2 l (hp.mem_iff.2 hl)
 omega
theorem Qko {f:Nat->Nat} {i:Nat} (e:S[f i]?=L[i]?):Q3 S (f i)=Q3 L i:=by
 unfold Q3;rw [List.getElem!_eq_getElem?_getD,List.getElem!_eq_getElem?_getD,e]
theorem GO.perm {f g:Nat->Nat} (h1:∀i,i<L.length->f i<S.length∧g (f i)=i∧S[f i]?=L[i]?) (h2:∀i,i<S.length->g i<L.length∧f (g i)=i) {v:Nat} {τ c:Int} (h:GO t L v τ c):GO t S v τ c:=by
 have e1:∀i,i<L.length->Q3 S (f i)=Q3 L i:=fun i hi=>Qko (h1 i hi).2.2
 have e2:∀i,i<S.length->Q3 L (g i)=Q3 S i:=fun i hi=>by
  have:=e1 (g i) (h2 i hi).1
  rw [(h2 i hi).2] at this
  exact this.symm
 have t2:∀y:Nat×Bool,y.1<S.length->Kl t L (g y.1,y.2)=Kl t S y:=fun y hy=>by unfold Kl;rw [e2 _ hy]
 have w2:∀y:Nat×Bool,y.1<S.length->∀d,Wv t S y v d->Wv t L (g y.1,y.2) v d:=fun y hy d hd=>by
  unfold Wv wrX jH at hd ⊢;rw [e2 _ hy];exact hd
 rcases h with ⟨x,g1,g2,g3,g4⟩ |⟨g1,g2⟩
 ·have tx:Kl t S (f x.1,x.2)=Kl t L x:=by unfold Kl;rw [e1 _ g1]
  refine .inl ⟨(f x.1,x.2),(h1 _ g1).1,by rw [tx];exact g2,?_,fun y hy ty ⟨d,hd⟩=>?_⟩
  ·unfold Wv wrX jH at g3 ⊢;rw [e1 _ g1];exact g3
  ·rw [tx, <-t2 y hy]
   exact g4 _ (h2 _ hy).1 (by rw [t2 y hy];exact ty) ⟨d,w2 y hy d hd⟩
 ·refine .inr ⟨fun y hy ⟨d,hd⟩=>?_,g2⟩
  rw [<-t2 y hy]
  exact g1 _ (h2 _ hy).1 ⟨d,w2 y hy d hd⟩
theorem GJ.perm (h:GJ t L) (hp:L.Perm S):GJ t S:=by
 obtain ⟨f,g,h1,h2⟩:=QpK hp
 have e1:∀i,i<L.length->Q3 S (f i)=Q3 L i:=fun i hi=>Qko (h1 i hi).2.2
 have e2:∀i,i<S.length->Q3 L (g i)=Q3 S i:=fun i hi=>by
  have:=e1 (g i) (h2 i hi).1
  rw [(h2 i hi).2] at this
  exact this.symm
 have inj:∀i k,i<S.length->k<S.length->i≠k->g i≠g k:=fun i k hi hk hne e=>hne (by rw [<-(h2 i hi).2, <-(h2 k hk).2,e])
 have t2:∀y:Nat×Bool,y.1<S.length->Kl t L (g y.1,y.2)=Kl t S y:=fun y hy=>by unfold Kl;rw [e2 _ hy]
 refine ⟨fun a i k hi hk hne ha hj=>?_,fun a x y hx hy tx ty hne=>?_,fun x hx f hf=>?_,fun i hi τ a1 a2 f hf=>?_,fun f hf=>?_⟩
 ·have:=h.ov a (g i) (g k) (h2 i hi).1 (h2 k hk).1 (inj i k hi hk hne)
  rw [e2 _ hi,e2 _ hk] at this
  exact this ha hj
 ·have:=h.ni a (g x.1,x.2) (g y.1,y.2) (h2 _ hx).1 (h2 _ hy).1 (by rw [t2 x hx];exact tx) (by rw [t2 y hy];exact ty) fun e=>by
   simp only [Prod.mk.injEq] at e
   obtain ⟨a,b⟩:=x
   obtain ⟨c,d⟩:=y
   simp only at e hx hy
   by_cases c':a=c
   ·exact hne (by rw [c',e.2])
   ·exact inj a c hx hy c' e.1
  unfold Qce jH at this ⊢
  simp only at this
  rw [e2 _ hx,e2 _ hy] at this
  exact this
 ·have hx':=(h2 _ hx).1
  have:=h.pre (g x.1,x.2) hx' f (by unfold rdX jH at hf ⊢;rw [e2 _ hx];exact hf)
  rw [t2 x hx] at this
  exact this.perm h1 h2
 ·have:=h.over (g i) (h2 i hi).1 τ (by rw [e2 _ hi];exact a1) (by rw [e2 _ hi];exact a2) f (by rw [e2 _ hi];exact hf)
  exact this.perm h1 h2
 ·rw [<-Qkk hp]
  exact (h.goal f hf).perm h1 h2
/-! ### times -/
def LU (S:List Launch) (U:Nat->Int):List Launch:=S.mapIdx fun i l=>⟨U i,l.Job⟩
theorem QaN (S:List Launch) (U:Nat->Int):(LU S U).length=S.length:=by simp [LU]
theorem Qci {U:Nat->Int} {i:Nat} (h:i<S.length):Q3 (LU S U) i=⟨U i,(Q3 S i).Job⟩:=by
 have e:(LU S U)[i]?=some ⟨U i,(Q3 S i).Job⟩:=by
  unfold LU
  rw [List.getElem?_mapIdx,Kr h];rfl
 unfold Q3
 rw [List.getElem!_eq_getElem?_getD,e];rfl
def tmU (t:Ge) (S:List Launch) (U:Nat->Int) (x:Nat×Bool):Int:=if x.2 then U x.1+(jH t S x).Duration else U x.1
theorem Qp9 {U:Nat->Int} {x:Nat×Bool} (h:x.1<S.length):Kl t (LU S U) x=tmU t S U x:=by
 unfold Kl tmU QV jH jb;rw [Qci h]
structure Sol (t:Ge) (S:List Launch) (U:Nat->Int):Prop where
 st:∀i,i<S.length->0<=U i
 od:∀x y:Nat×Bool,x.1<S.length->y.1<S.length->x.1≠y.1->Qce t S x y=true->Kl t S x<Kl t S y->tmU t S U x+1<=tmU t S U y
 o1:∀i (x:Nat×Bool),i<S.length->x.1<S.length->x.1≠i->Kp (wrX t S x) (jb t (Q3 S i)).Over=true->Kl t S x<=(Q3 S i).At->tmU t S U x<=U i
 o2:∀i (x:Nat×Bool),i<S.length->x.1<S.length->x.1≠i->Kp (wrX t S x) (jb t (Q3 S i)).Over=true->QV t (Q3 S i)<=Kl t S x->U i+(jb t (Q3 S i)).Duration<=tmU t S U x
 rp:∀i k,i<k->k<S.length->(Q3 S k).Job=(Q3 S i).Job->(∀m,i<m->m<k->(Q3 S m).Job≠(Q3 S i).Job)->U i+(jb t (Q3 S i)).Duration+1<=U k
def SL (S:List Launch):Prop:=∀i k,i<k->k<S.length->(Q3 S i).At<(Q3 S k).At∨(Q3 S i).At=(Q3 S k).At∧(Q3 S i).Job<=(Q3 S k).Job
theorem QoH {l l':Launch} (h:l.Job=l'.Job):jb t l=jb t l':=by unfold jb;rw [h]
theorem Sol.chain {U:Nat->Int} (h:Sol t S U) (hA:Acc t S):∀n i k,k - i<=n->i<k->k<S.length->(Q3 S k).Job=(Q3 S i).Job->U i+(jb t (Q3 S i)).Duration+1<=U k
 |0,i,k,hn,hik,hk,hj=>by omega
 | n+1,i,k,hn,hik,hk,hj=>by
  by_cases c:∃m,i<m∧m<k∧(Q3 S m).Job=(Q3 S i).Job
  ·obtain ⟨m,m1,m2,m3⟩:=c
   have h1:=h.chain hA n i m (by omega) m1 (by omega) m3
   have h2:=h.chain hA n m k (by omega) m2 hk (hj.trans m3.symm)
   have h3:=QeT hA (i:=m) (by omega)
   omega
  ·exact h.rp i k hik hk hj fun m m1 m2 m3=>c ⟨m,m1,m2,m3⟩
theorem Sol.resch {U:Nat->Int} (h:Sol t S U) (hA:Acc t S) (hs:SL S) (hU:∀i,i<S.length->U i<=1048576):GF t S (LU S U):=by
 refine ⟨QaN _ _,fun i hi=>by rw [Qci hi],fun l hl=>?_,fun x y hx hy hne hi hlt=>?_,fun i x hi hx hne hm hle=>?_,fun i x hi hx hne hm hle=>?_,fun i k hi hk hne hj hlt=>?_⟩
 ·obtain ⟨i,hi,rfl⟩:=List.mem_iff_getElem.1 hl
  rw [QaN] at hi
  have e:(LU S U)[i]'(by rw [QaN];exact hi)=Q3 (LU S U) i:=by simp [Q3,QaN,hi]
  rw [e,Qci hi]
  have:=hA.ok _ (QQ hi)
  exact ⟨this.j0,this.j1,h.st i hi,hU i hi⟩
 ·rw [Qp9 hx,Qp9 hy]
  have:=h.od x y hx hy hne hi hlt;omega
 ·rw [Qp9 hx,Qci hi]
  exact h.o1 i x hi hx hne hm hle
 ·rw [Qp9 hx,Qci hi]
  exact h.o2 i x hi hx hne hm hle
 ·rw [Qci hi,Qci hk]
  have hik:i<k:=by
   rcases Nat.lt_trichotomy i k with c |c |c
   ·exact c
   ·exact absurd c hne
   ·have:=hs k i c hi;omega
  have:=h.chain hA _ i k (Xi _) hik hk hj.symm
  show U i+(jb t (Q3 S i)).Duration<U k
  omega
theorem Qk0 (hA:Acc t S) (hF:GJ t S) (hs:SL S):Sol t S (fun i=>(Q3 S i).At):=by
 have e:∀x:Nat×Bool,tmU t S (fun i=>(Q3 S i).At) x=Kl t S x:=fun x=>rfl
 refine ⟨fun i hi=>(hA.ok _ (QQ hi)).a0,fun x y hx hy hne hi hlt=>?_,fun i x hi hx hne hm hle=>?_,fun i x hi hx hne hm hle=>?_,fun i k hik hk hj hm=>?_⟩
 ·rw [e,e];omega
 ·rw [e];exact hle
 ·rw [e];exact hle
 ·have h1:=hs i k hik hk
  have h2:=hF.ov _ k i hk (by omega) (by omega) rfl hj
  have h3:(Q3 S k).At > QV t (Q3 S i):=by
   by_cases c:(Q3 S k).At<=QV t (Q3 S i)
   ·exact absurd ⟨by omega,c⟩ h2
   ·omega
  show (Q3 S i).At+(jb t (Q3 S i)).Duration+1<=(Q3 S k).At
  unfold QV at h3
  omega
end
end Go.Pw
