/- -/
import Derived.Test.YtalfjlihddgooaaGreatDoorBa
import Derived.Test.YtalfjlihddgooaaGreatDoorLB
import Derived.Orders
import Derived.ChangeKeysEq
import Derived.ArgAppend
set_option linter.unusedSimpArgs false
set_option linter.unusedVariables false
namespace Go.Pw
inductive GK where
 |done
 |q (i:Nat) (r:GK)
 |e (i:Nat) (ag:List Nat) (r:GK)
 |alt (p q:GK)
def QdS (o:Oper):Bool:=match o.op with
 | .move _ | .assign _ | .pick _ _ _ | .build _ _ | .load _ _ | .nilCheck _ | .binOp _ _ _ _ _ | .unOp _ _ _ | .convert _ _ _ | .makeInterface _ _ | .slice _ _ _ _ _ | .fieldAddr _ _ _ | .field _ _ _
 | .indexAddr _ _ _ | .index _ _ _ | .typeAssert _ _ _ _ | .extract _ _ | .lookup _ _ _ _=>true
 | .call c=>match c.callee with | .builtin .len | .builtin .cap | .builtin .min | .builtin .max=>true |_=>false
 |_=>false
def Qr9 (o:Oper):Bool:=match o.op with | .select _ _=>false |_=>true
def Qne:Next->Prop | .value _=>True |_=>False
theorem QlW {s:Sem Value} {P:Program} {w w':World} {n:Next} (h:(do pure (.value (<-s)):Sem Next).run P w= .ok n w'):Qne n:=by
 rw [Xe] at h
 cases hs:s.run P w with
 |ok a w1=>rw [hs] at h;simp only [Xd,Xg,Result.ok.injEq] at h;rw [<-h.1];trivial
 |halt x w1=>rw [hs] at h;simp [Result.andThen] at h
def Qm6 (P:Program) (s:Sem Next):Prop:=∀w n w',s.run P w= .ok n w'->Qne n
theorem QhS {P:Program} {v:Value}:Qm6 P (pure (.value v)):=by
 intro w n w' h;simp only [Xg,Result.ok.injEq] at h;rw [<-h.1];trivial
theorem QgZ {α:Type} {P:Program} {s:Sem α} {k:α->Sem Next} (hk:∀a,Qm6 P (k a)):Qm6 P (s >>= k):=by
 intro w n w' h
 rw [Xe] at h
 cases hs:s.run P w with
 |ok a w1=>rw [hs] at h;exact hk a w1 n w' h
 |halt x w1=>rw [hs] at h;simp [Result.andThen] at h
theorem Ql3 {P:Program} {ρ:Operand->Value} {o:Oper} {w w':World} {n:Next} (hq:QdS o=true) (h:(execOp ρ o).run P w= .ok n w'):Qne n:=by
 obtain ⟨dst,op,type,pos,after,guard⟩:=o
 cases op <;> simp only [QdS] at hq <;> first |(cases hq;done) |skip
 case move x=>simp only [execOp,Xg,Result.ok.injEq] at h;rw [<-h.1];trivial
 case assign x=>simp only [execOp,Xg,Result.ok.injEq] at h;rw [<-h.1];trivial
 case pick c a b =>
  simp only [execOp,Xe] at h
  cases hs:(asBool (ρ c)).run P w with
  |ok a w1=>rw [hs] at h;simp only [Xd,Xg,Result.ok.injEq] at h;rw [<-h.1];trivial
  |halt x w1=>rw [hs] at h;simp [Result.andThen] at h
 case nilCheck x =>
  simp only [execOp] at h
  split at h
  ·simp [runtimePanic,Sem.run] at h
   try (split at h <;> simp_all)
  ·simp [runtimePanic,Sem.run] at h
   try (split at h <;> simp_all)
  ·simp [runtimePanic,Sem.run] at h
   try (split at h <;> simp_all)
  ·split at h
   ·simp [runtimePanic,Sem.run] at h
    try (split at h <;> simp_all)
   ·exact QgZ (fun _=>QgZ (fun _=>by split <;> first |exact QgZ fun _=>QhS |exact QhS)) _ _ _ h
   ·simp only [Xg,Result.ok.injEq] at h;rw [<-h.1];trivial
  ·simp only [Xg,Result.ok.injEq] at h;rw [<-h.1];trivial
 case call c =>
  obtain ⟨callee,args,argTypes⟩:=c
  cases callee with
  |value f=>cases hq
  |invoke r m=>cases hq
  |builtin b =>
   cases b <;> first |(cases hq;done) |exact QlW (by simpa only [execOp,resolve,invoke,builtin,Xe,Xg,Xd] using h)
 all_goals exact QlW h
theorem Qpc {P:Program} {ρ:Operand->Value} {o:Oper} {w:World} {K:Value->World->Prop} (hq:QdS o=true) (h:Exec P ρ o w K):∃v w',(execOp ρ o).run P w= .ok (.value v) w'∧K v w':=by
 unfold Exec at h
 cases hr:(execOp ρ o).run P w with
 |halt x w1=>rw [hr] at h;exact h.elim
 |ok n w1 =>
  have hv:=Ql3 hq hr
  cases n <;> first |exact hv.elim |skip
  rw [hr] at h
  exact ⟨_,_,Z,h⟩
theorem Qhd {P:Program} {ρ ρ':Operand->Value} {o:Oper} {w:World} {K:Value->World->Prop} (he:execOp ρ o=execOp ρ' o) (h:Exec P ρ o w K):Exec P ρ' o w K:=by
 unfold Exec at *;rw [<-he];exact h
def deps (o:Oper):List Nat:=(o.after.toList.filter (Region.binds .any)).map (·.on)
theorem Qn4 {o:Oper} {j:Nat}:j ∈ deps o↔∃e ∈ o.after,Region.binds .any e=true∧e.on=j:=by
 simp only [deps,X5,List.mem_filter,Array.mem_toList_iff]
 constructor
 ·rintro ⟨e,⟨h1,h2⟩,h3⟩;exact ⟨e,h1,h2,h3⟩
 ·rintro ⟨e,h1,h2,h3⟩;exact ⟨e,⟨h1,h2⟩,h3⟩
def Jm (P:Program) (ops:List Oper) (f:Fr) (w:World) (j:Nat):Prop :=
 ∀o,ops[j]?=some o->if Region.wanted o (Jg ops.toArray f) then Exec P (ev f) o w (fun v w'=>w'=w∧v=f (Qde ops j)) else f (Qde ops j)=undef
def DL (P:Program) (ops:List Oper) (K:Fr->World->Prop):GK->Fr->World->Prop
 | .done,f,w=>K f w
 | .q i r,f,w=>∃o,ops[i]?=some o∧(if Region.wanted o (Jg ops.toArray f) then Exec P (ev f) o w (fun v w'=>w'=w∧DL P ops K r (JU f o.dst v) w) else DL P ops K r (JU f o.dst undef) w)
 | .e i ag r,f,w=>∃o,ops[i]?=some o∧(if Region.wanted o (Jg ops.toArray f) then Exec P (ev f) o w (fun v w'=>(∀j ∈ ag,Jm P ops (JU f o.dst v) w' j)∧DL P ops K r (JU f o.dst v) w') else DL P ops K r (JU f o.dst undef) w)
 | .alt p q,f,w=>DL P ops K p f w∧DL P ops K q f w
def Qsr (ops:List Oper):List (List Nat):=ops.foldl (fun T o=>T++[((deps o)++(deps o).flatMap fun j=>T.getD j []).eraseDups]) []
def QgE (T:List (List Nat)) (i:Nat):List Nat:=T.getD i []
def QpX (ops:List Oper) (T:List (List Nat)):Bool:=(List.range T.length).all fun i=>match ops[i]? with
 |none=>false
 |some o=>(QgE T i).all fun j=>(deps o).contains j ||(deps o).any fun k=>(QgE T k).contains j
def Qcz (ops:List Oper) (k u:Nat):Bool:=match (ops[k]?).bind (·.dst) with |some d=>Nat.beq d u |none=>false
def reads (o:Oper) (u:Nat):Bool:=o.op.operands.toList.any fun x=>match x with | .tmp t=>Nat.beq t u |_=>false
def isQ (n0:Nat) (ops:List Oper) (i:Nat):Bool:=match ops[i]? with
 |none=>false
 |some o=>QdS o && (match o.dst with
  |none=>false
  |some d=>(List.range n0).all fun k=>match ops[k]? with |some o'=>!(reads o' d) ||(deps o').contains i |none=>true)
def Qr3 (n0:Nat) (ops:List Oper) (i:Nat) (o:Oper) (u:Nat):Bool:=((List.range n0).all fun k=>!Qcz ops k u ||(!isQ n0 ops k && (match ops[k]? with |some ok=>(deps ok).contains i |none=>false))) ||(deps o).any fun k=>Nat.blt k n0 && Qcz ops k u
def QdU (n0:Nat) (ops:List Oper) (i:Nat) (o:Oper):Bool :=
 (o.op.operands.toList.all fun x=>match x with | .tmp u=>Qr3 n0 ops i o u |_=>true) && (match o.guard with |some (j,_)=>(deps o).contains j && Nat.blt j n0 |none=>true) && Qr9 o
def Qhy (n0:Nat) (ops:List Oper) (T:List (List Nat)) (nx qd ed:List Nat):Bool :=
 (List.range n0).all fun i=>qd.contains i ||ed.contains i ||nx.contains i ||(QgE T i).any fun j=>!isQ n0 ops j && !qd.contains j && !ed.contains j
def YU:GK->List Nat
 | .e i _ _=>[i]
 | .alt p q=>YU p++YU q
 |_=>[]
def YI (n0:Nat) (ops:List Oper) (T:List (List Nat)):GK->Option (List Nat)->List Nat->List Nat->Bool
 | .done,nx,qd,ed=>nx.isNone && (List.range n0).all fun i=>qd.contains i ||ed.contains i
 | .q i r,nx,qd,ed=>nx.isNone && Nat.blt i n0 && (match ops[i]? with
  |some o=>isQ n0 ops i && QdS o && !qd.contains i && ((deps o).all fun j=>qd.contains j ||ed.contains j) && QdU n0 ops i o
  |none=>false) && YI n0 ops T r none (i::qd) ed
 | .e i ag r,nx,qd,ed=>Nat.blt i n0 && (match ops[i]? with
  |some o=>!isQ n0 ops i && !ed.contains i && ((deps o).all fun j=>qd.contains j ||ed.contains j) && QdU n0 ops i o
  |none=>false) && Qhy n0 ops T (nx.getD [i]) qd ed && (qd.all fun j=>ag.contains j ||(QgE T i).contains j ||ed.any fun k=>(QgE T k).contains j) && YI n0 ops T r none qd (i::ed)
 | .alt p q,nx,qd,ed=>YI n0 ops T p (some (nx.getD (YU p++YU q))) qd ed && YI n0 ops T q (some (nx.getD (YU p++YU q))) qd ed
def Qwg (n0:Nat) (ops:List Oper) (p:GK):Bool:=let T:=Qsr ops;QpX ops T && Nat.beq T.length ops.length && YI n0 ops T p none [] []
def Agr (n0:Nat) (ops:List Oper) (S:Nat->Prop) (g g':Fr):Prop:=(∀n,(∀k,k<n0->Qcz ops k n=false)->g n=g' n)∧∀i d,i<n0->S i->Qcz ops i d=true->g d=g' d
theorem QtU {n0:Nat} {ops:List Oper} {i:Nat} {o:Oper} {u:Nat} {S:Nat->Prop} {g g':Fr} (h:Qr3 n0 ops i o u=true) (hS:∀j ∈ deps o,S j) (hA:∀k ok,k<n0->isQ n0 ops k=false->ops[k]?=some ok->i ∈ deps ok->S k) (ha:Agr n0 ops S g g'):g u=g' u:=by
 simp only [Qr3,X4,List.all_eq_true,XG,Bool.not_eq_true',List.any_eq_true,Xl] at h
 rcases h with h |⟨k,hk,hk0,hd⟩
 ·by_cases hn:∀k,k<n0->Qcz ops k u=false
  ·exact ha.1 u hn
  ·obtain ⟨k,hk,hd⟩:∃k,k<n0∧Qcz ops k u=true:=by
    refine Classical.byContradiction fun hc=>hn fun k hk=>?_
    cases hd:Qcz ops k u with
    |false=>rfl
    |true=>exact absurd ⟨k,hk,hd⟩ hc
   rcases h k hk with h |⟨h1,h2⟩
   ·rw [hd] at h;cases h
   ·cases hok:ops[k]? with
    |none=>rw [hok] at h2;cases h2
    |some ok =>
     rw [hok] at h2
     exact ha.2 k u hk (hA k ok hk h1 hok (by simpa using h2)) hd
 ·exact ha.2 k u (by simpa [Nat.blt_eq] using hk0) (hS k hk) hd
theorem Qh9 {n0:Nat} {ops:List Oper} {i:Nat} {o:Oper} {S:Nat->Prop} {g g':Fr} (h:QdU n0 ops i o=true) (hS:∀j ∈ deps o,S j) (hA:∀k ok,k<n0->isQ n0 ops k=false->ops[k]?=some ok->i ∈ deps ok->S k) (ha:Agr n0 ops S g g'):execOp (ev g) o=execOp (ev g') o:=by
 simp only [QdU,Xl,List.all_eq_true] at h
 refine execOp_congr o ?_ ?_
 ·intro cs b he;have:=h.2;simp [Qr9,he] at this
 ·intro x hx
  have:=h.1.1 x (by simpa using hx)
  cases x with
  |tmp u=>exact QtU this hS hA ha
  |_=>rfl
theorem Qd9 {n0:Nat} {ops:List Oper} {i:Nat} {o:Oper} {S:Nat->Prop} {g g':Fr} (h:QdU n0 ops i o=true) (hS:∀j ∈ deps o,S j) (ha:Agr n0 ops S g g')  :
  Region.wanted o (Jg ops.toArray g)=Region.wanted o (Jg ops.toArray g'):=by
 simp only [QdU,Xl] at h
 unfold Region.wanted
 cases hg:o.guard with
 |none=>rfl
 | some gw =>
  obtain ⟨j,want⟩:=gw
  have h2:=h.1.2
  simp only [hg,Xl] at h2
  have hj:j ∈ deps o:=by simpa using h2.1
  have hj0:j<n0:=by simpa [Nat.blt_eq] using h2.2
  have:Jg ops.toArray g j=Jg ops.toArray g' j:=by
   unfold Jg
   cases hd:(ops.toArray[j]?).bind (·.dst) with
   |none=>rfl
   | some d =>
    have e1:Qcz ops j d=true:=by
     unfold Qcz
     have:(ops[j]?).bind (·.dst)=some d:=by simpa using hd
     rw [this];simp
    have he:=ha.2 j d hj0 (hS j hj) e1
    simp only [he]
  simp only [this]
def QtF:GK->Prop | .q _ _=>False |_=>True
structure Canon (P:Program) (n0:Nat) (ops:List Oper) (T:List (List Nat)) (K:Fr->World->Prop) (p:GK) (gk:Fr) (w:World) (qd ed:List Nat) (dn:Nat->Bool):Prop where
 ok:YI n0 ops T p none qd ed=true
 dl:DL P ops K p gk w
 nq:∀i ∈ qd,i<n0∧isQ n0 ops i=true∧∃o,ops[i]?=some o∧QdS o=true∧QdU n0 ops i o=true∧∀j ∈ deps o,j ∈ qd∨j ∈ ed
 ne:∀i ∈ ed,i<n0∧isQ n0 ops i=false
 ag:∀i ∈ qd,dn i=false->Jm P ops gk w i
def QtR (n0:Nat) (ops:List Oper):Prop:=(∀i,i<n0->∃o,ops[i]?=some o)∧∀(i j:Nat) (oi oj:Oper) (d:Nat),i<n0->j<n0->ops[i]?=some oi->ops[j]?=some oj->oi.dst=some d->oj.dst=some d->i=j
theorem Qkt {ops:List Oper} {i d:Nat} {o:Oper} (ho:ops[i]?=some o) (hd:o.dst=some d):Qde ops i=d:=by simp [Qde,ho,hd]
theorem QhI {ops:List Oper} {i d:Nat} {o:Oper} (ho:ops[i]?=some o) (hd:o.dst=some d):Qcz ops i d=true:=by simp [Qcz,ho,hd]
theorem Qgy {ops:List Oper} {i d:Nat} (h:Qcz ops i d=true):∃o,ops[i]?=some o∧o.dst=some d:=by
 unfold Qcz at h
 cases ho:ops[i]? with
 |none=>simp [ho] at h
 |some o =>
  cases hd:o.dst with
  |none=>simp [ho,hd] at h
  |some d'=>simp [ho,hd] at h;exact ⟨o,rfl,by rw [hd,h]⟩
theorem Qjx {n0:Nat} {ops:List Oper} {i:Nat} {o:Oper} (h:isQ n0 ops i=true) (ho:ops[i]?=some o):∃d,o.dst=some d:=by
 simp only [isQ,ho,Xl] at h
 cases hd:o.dst with
 |none=>simp [hd] at h
 |some d=>exact ⟨d,rfl⟩
theorem Qm4 {n0:Nat} {ops:List Oper} {S:Nat->Prop} {g:Fr} {i:Nat} {o:Oper} {v:Value} (hI:QtR n0 ops) (hi:i<n0) (ho:ops[i]?=some o) (hS:¬S i):Agr n0 ops S g (JU g o.dst v):=by
 cases hd:o.dst with
 |none=>exact ⟨fun _ _=>rfl,fun _ _ _ _ _=>rfl⟩
 | some d =>
  refine ⟨fun n hn=>?_,fun j dj hj hSj hdj'=>?_⟩
  ·have:n≠d:=by rintro rfl;have:=hn i hi;rw [QhI ho hd] at this;cases this
   simp only [JU,Qek _ _ this]
  ·obtain ⟨oj,hoj,hdj⟩:=Qgy hdj'
   have:dj≠d:=by rintro rfl;exact hS ((hI.2 i j o oj dj hi hj ho hoj hd hdj) ▸ hSj)
   simp only [JU,Qek _ _ this]
theorem Qts {n0:Nat} {ops:List Oper} {S S':Nat->Prop} {g g':Fr} {i:Nat} {o:Oper} {v:Value} (hI:QtR n0 ops) (hi:i<n0) (ho:ops[i]?=some o) (h:Agr n0 ops S g g') (hS:∀j,S' j->j≠i->S j):Agr n0 ops S' (JU g o.dst v) (JU g' o.dst v):=by
 cases hd:o.dst with
 | none =>
  refine ⟨h.1,fun j dj hj hSj hdj=>?_⟩
  by_cases e:j=i
  ·subst e
   obtain ⟨oj,hoj,hdj'⟩:=Qgy hdj
   rw [ho] at hoj;cases hoj;rw [hd] at hdj';cases hdj'
  ·exact h.2 j dj hj (hS j hSj e) hdj
 | some d =>
  refine ⟨fun n hn=>?_,fun j dj hj hSj hdj=>?_⟩
  ·have:n≠d:=by rintro rfl;have:=hn i hi;rw [QhI ho hd] at this;cases this
   simp only [JU,Qek _ _ this]
   exact h.1 n hn
  ·by_cases e:dj=d
   ·subst e;simp only [JU,QfE]
   ·simp only [JU,Qek _ _ e]
    refine h.2 j dj hj (hS j hSj ?_) hdj
    rintro rfl
    obtain ⟨oj,hoj,hdj'⟩:=Qgy hdj
    rw [ho] at hoj;cases hoj;rw [hd] at hdj';cases hdj';exact e rfl
theorem QlL {P:Program} {n0:Nat} {ops:List Oper} {S:Nat->Prop} {g g':Fr} {w:World} {j:Nat} {o:Oper} (hj:j<n0) (ho:ops[j]?=some o) (hk:QdU n0 ops j o=true) (hS:∀k ∈ deps o,S k) (hA:∀k ok,k<n0->isQ n0 ops k=false->ops[k]?=some ok->j ∈ deps ok->S k) (hSj:S j) (hd:∃d,o.dst=some d) (ha:Agr n0 ops S g g') (h:Jm P ops g w j):Jm P ops g' w j:=by
 intro o' ho'
 rw [ho] at ho'
 cases ho'
 have h1:=h o ho
 obtain ⟨d,hd⟩:=hd
 have hval:g (Qde ops j)=g' (Qde ops j):=by rw [Qkt ho hd];exact ha.2 j d hj hSj (QhI ho hd)
 rw [Qd9 hk hS ha,hval] at h1
 split
 ·rename_i hw
  rw [if_pos hw] at h1
  exact Qhd (Qh9 hk hS hA ha) h1
 ·rename_i hw
  rw [if_neg hw] at h1
  exact h1
theorem Agr.trans {n0:Nat} {ops:List Oper} {S S':Nat->Prop} {g g' g'':Fr} (h:Agr n0 ops S g g') (k:Agr n0 ops S' g' g'') (hs:∀i,S i->S' i):Agr n0 ops S g g'' :=
 ⟨fun n hn=>(h.1 n hn).trans (k.1 n hn),fun i d hi hS hd=>(h.2 i d hi hS hd).trans (k.2 i d hi (hs i hS) hd)⟩
theorem Qer {P:Program} {n0:Nat} {ops:List Oper} {T:List (List Nat)} {K:Fr->World->Prop} (hI:QtR n0 ops) {w:World} {ed:List Nat} {dn:Nat->Bool}:∀(p:GK) (gk:Fr) (qd:List Nat),Canon P n0 ops T K p gk w qd ed dn ->
  ∃p' gk' qd',Canon P n0 ops T K p' gk' w qd' ed dn∧QtF p'∧(∀i ∈ qd,i ∈ qd')∧Agr n0 ops (fun i=>(i ∈ qd∨i ∈ ed)∨isQ n0 ops i=false) gk gk'
 | .done,gk,qd,h=>⟨.done,gk,qd,h,trivial,fun _ h=>h,fun _ _=>rfl,fun _ _ _ _ _=>rfl⟩
 | .alt p q,gk,qd,h=>⟨.alt p q,gk,qd,h,trivial,fun _ h=>h,fun _ _=>rfl,fun _ _ _ _ _=>rfl⟩
 | .e i ag r,gk,qd,h=>⟨.e i ag r,gk,qd,h,trivial,fun _ h=>h,fun _ _=>rfl,fun _ _ _ _ _=>rfl⟩
 | .q i r,gk,qd,h=>by
  obtain ⟨o,ho,hdl⟩:=h.dl
  have hok:=h.ok
  simp only [YI,Xl,ho] at hok
  obtain ⟨⟨⟨_,hi⟩,⟨⟨⟨hiq,hq⟩,hnq⟩,hdep⟩,hopn⟩,hrest⟩:=hok
  have hi':i<n0:=by simpa [Nat.blt_eq] using hi
  have hnq':i ∉ qd:=by simpa using hnq
  have hne:i ∉ ed:=fun hm=>by have:=(h.ne i hm).2;rw [hiq] at this;cases this
  have hnS:¬((i ∈ qd∨i ∈ ed)∨isQ n0 ops i=false):=by
   rintro ((h |h) |h)
   ·exact hnq' h
   ·exact hne h
   ·rw [hiq] at h;cases h
  have hdeps:∀j ∈ deps o,j ∈ qd∨j ∈ ed:=by
   intro j hj
   have:=List.all_eq_true.1 hdep j hj
   simpa using this
  obtain ⟨d,hd⟩:=Qjx hiq ho
  have key:∀v,(∀g',g'=JU gk o.dst v->Jm P ops g' w i)->DL P ops K r (JU gk o.dst v) w->∃p' gk' qd',Canon P n0 ops T K p' gk' w qd' ed dn∧QtF p'∧(∀i ∈ qd,i ∈ qd')∧Agr n0 ops (fun i=>(i ∈ qd∨i ∈ ed)∨isQ n0 ops i=false) gk gk':=by
   intro v hag hdl
   have hA:Agr n0 ops (fun i=>(i ∈ qd∨i ∈ ed)∨isQ n0 ops i=false) gk (JU gk o.dst v):=Qm4 hI hi' ho hnS
   have hc1:Canon P n0 ops T K r (JU gk o.dst v) w (i::qd) ed dn:=by
    refine ⟨hrest,hdl,?_,h.ne,?_⟩
    ·intro j hj
     rcases Xr.1 hj with e |hj
     ·rw [e];exact ⟨hi',hiq,o,ho,hq,hopn,fun k hk=>(hdeps k hk).imp (List.mem_cons_of_mem _) (fun h=>h)⟩
     ·obtain ⟨hj0,hjq,oj,hoj,hqj,hopj,hdj⟩:=h.nq j hj
      exact ⟨hj0,hjq,oj,hoj,hqj,hopj,fun k hk=>(hdj k hk).imp (List.mem_cons_of_mem _) (fun h=>h)⟩
    ·intro j hj hdn
     rcases Xr.1 hj with e |hj
     ·rw [e];exact hag _ rfl
     ·obtain ⟨hj0,hjq,oj,hoj,hqj,hopj,hdj⟩:=h.nq j hj
      exact QlL (S:=fun i=>(i ∈ qd∨i ∈ ed)∨isQ n0 ops i=false) hj0 hoj hopj (fun k hk=> .inl (hdj k hk)) (fun _ _ _ hk _ _=> .inr hk) (.inl (.inl hj)) (Qjx hjq hoj) hA (h.ag j hj hdn)
   obtain ⟨p',gk',qd',hc,h1,h2,h3⟩:=Qer hI r (JU gk o.dst v) (i::qd) hc1
   exact ⟨p',gk',qd',hc,h1,fun j hj=>h2 j (List.mem_cons_of_mem _ hj),hA.trans h3 (fun j hj=>hj.imp (fun h=>h.imp (List.mem_cons_of_mem _) (fun h=>h)) (fun h=>h))⟩
  have hA:∀v,Agr n0 ops (fun i=>(i ∈ qd∨i ∈ ed)∨isQ n0 ops i=false) gk (JU gk o.dst v):=fun v=>Qm4 hI hi' ho hnS
  have hval:∀v,JU gk o.dst v (Qde ops i)=v:=fun v=>by rw [Qkt ho hd,hd];simp only [JU,QfE]
  have hd2:∀j ∈ deps o,(j ∈ qd∨j ∈ ed)∨isQ n0 ops j=false:=fun j hj=> .inl (hdeps j hj)
  split at hdl
  ·rename_i hw
   obtain ⟨v,w',hrun,rfl,hr⟩:=Qpc hq hdl
   refine key v ?_ hr
   rintro g' rfl o' ho'
   rw [ho] at ho';cases ho'
   rw [<-Qd9 hopn hd2 (hA v),if_pos hw]
   refine .of_run (v:=v) ?_ ⟨Z,(hval v).symm⟩
   rw [<-Qh9 hopn hd2 (fun _ _ _ hk _ _=> .inr hk) (hA v)]
   exact hrun
  ·rename_i hw
   refine key undef ?_ hdl
   rintro g' rfl o' ho'
   rw [ho] at ho';cases ho'
   rw [<-Qd9 hopn hd2 (hA undef),if_neg hw]
   exact hval undef
theorem Qsq {ops:List Oper} {T:List (List Nat)} (hT:QpX ops T=true) {dn:Nat->Bool} (hdc:∀i o,dn i=true->ops[i]?=some o->∀j ∈ deps o,dn j=true) (hb:∀(i:Nat) (o:Oper),ops[i]?=some o->∀j ∈ deps o,j<i) :
  ∀(i:Nat) (o:Oper),ops[i]?=some o->(∀j ∈ deps o,dn j=true)->∀j ∈ QgE T i,dn j=true:=by
 intro i
 induction i using Nat.strongRecOn with
 | _ i ih =>
  intro o ho hd j hj
  have hlt:i<T.length:=by
   rcases Nat.lt_or_ge i T.length with h |h
   ·exact h
   ·unfold QgE at hj;rw [List.getD_eq_getElem?_getD,X3 h] at hj;simp at hj
  have:=List.all_eq_true.1 hT i (by simpa using hlt)
  simp only [ho,List.all_eq_true,X4,List.any_eq_true] at this
  rcases this j hj with h |⟨k,hk,h⟩
  ·exact hd j (by simpa using h)
  ·have hdk:=hd k hk
   have hki:=hb i o ho k hk
   have hk':∃ok,ops[k]?=some ok:=by
    have hil:=(Xj.1 ho).1
    exact ⟨ops[k]'(by omega),by simp [show k<ops.length by omega]⟩
   obtain ⟨ok,hok⟩:=hk'
   exact ih k hki ok hok (hdc k ok hdk hok) j (by simpa using h)
section
variable {P:Program} {n0:Nat} {ops:List Oper} {T:List (List Nat)} {K:Fr->World->Prop} {gk:Fr} {w:World} {qd ed:List Nat}
theorem QhL:∀(p:GK) (l:List Nat),YI n0 ops T p (some l) qd ed=true->DL P ops K p gk w ->
  Qhy n0 ops T l qd ed=true∧YU p≠[]∧∀i ∈ YU p,∃ag r,YI n0 ops T (.e i ag r) (some l) qd ed=true∧DL P ops K (.e i ag r) gk w
 | .done,l,h,_=>by simp [YI] at h
 | .q i r,l,h,_=>by simp [YI] at h
 | .e i ag r,l,h,hd=>by
  refine ⟨?_,by simp [YU],?_⟩
  ·simp only [YI,Xl,Option.getD_some] at h
   exact h.1.1.2
  ·intro j hj
   simp only [YU,X8] at hj
   subst hj
   exact ⟨ag,r,h,hd⟩
 | .alt p q,l,h,hd=>by
  simp only [YI,Xl,Option.getD_some] at h
  obtain ⟨a1,a2,a3⟩:=QhL p l h.1 hd.1
  obtain ⟨b1,b2,b3⟩:=QhL q l h.2 hd.2
  refine ⟨a1,by simp [YU,a2],?_⟩
  intro j hj
  simp only [YU,Xn] at hj
  rcases hj with hj |hj
  ·exact a3 j hj
  ·exact b3 j hj
theorem Ql6 (p:GK) (hn:QtF p) (h:YI n0 ops T p none qd ed=true) (hd:DL P ops K p gk w) :
  p= .done∨(Qhy n0 ops T (YU p) qd ed=true∧YU p≠[]∧∀i ∈ YU p,∃ag r,YI n0 ops T (.e i ag r) (some (YU p)) qd ed=true∧DL P ops K (.e i ag r) gk w):=by
 cases p with
 |done=>exact .inl rfl
 |q=>exact hn.elim
 |e i ag r =>
  refine .inr ?_
  exact QhL (.e i ag r) [i] (by simpa only [YI,Option.getD_some,Option.getD_none] using h) hd
 |alt p q =>
  refine .inr ?_
  exact QhL (.alt p q) (YU p++YU q) (by simpa only [YI,Option.getD_some,Option.getD_none] using h) hd
end
theorem Qsf {α:Type} {f:α->Option Nat}:∀{l:List α} {i j:Nat} {a b:α} {d:Nat},(l.filterMap f).Nodup->l[i]?=some a->l[j]?=some b->f a=some d->f b=some d->i=j
 |[],_,_,_,_,_,_,h,_,_,_=>by simp at h
 |x::l,0,0,_,_,_,_,_,_,_,_=>rfl
 |x::l,0,j+1,a,b,d,hn,ha,hb,hfa,hfb=>by
  simp only [List.getElem?_cons_zero,XI] at ha
  subst ha
  rw [List.filterMap_cons_some hfa] at hn
  exact absurd (List.mem_filterMap.2 ⟨b,List.mem_of_getElem? (by simpa using hb),hfb⟩) (List.nodup_cons.1 hn).1
 |x::l,i+1,0,a,b,d,hn,ha,hb,hfa,hfb=>by
  simp only [List.getElem?_cons_zero,XI] at hb
  subst hb
  rw [List.filterMap_cons_some hfb] at hn
  exact absurd (List.mem_filterMap.2 ⟨a,List.mem_of_getElem? (by simpa using ha),hfa⟩) (List.nodup_cons.1 hn).1
 | x::l,i+1,j+1,a,b,d,hn,ha,hb,hfa,hfb=>by
  have hn':(l.filterMap f).Nodup:=by
   cases hx:f x with
   |none=>rwa [List.filterMap_cons_none hx] at hn
   |some y=>rw [List.filterMap_cons_some hx] at hn;exact (List.nodup_cons.1 hn).2
  have he:i=j:=Qsf hn' (by simpa using ha) (by simpa using hb) hfa hfb
  rw [he]
section
variable {P:Program} {N:Nat} {Q:QbB} {f:Fr} {w:World}
theorem Qy4 {id n0:Nat} {ops:List Oper} (p:GK) (hm:P.follows .mixedOrders=true) (hok:QcI N n0 ops=true) (hp:Qwg n0 ops p=true)
  (h:DL P ops (fun g w'=>WL P N ops.toArray Q (ops.drop n0) g w') p f w.drew):W P N (.region id ops.toArray true) Q f w:=by
 have hok0:=hok
 simp only [QcI,Xl,Xz,List.all_eq_true,X4] at hok
 obtain ⟨⟨⟨⟨⟨hn0,hwait⟩,hdst⟩,_⟩,hnodup⟩,hback⟩:=hok
 have hn0':n0<=ops.length:=by simpa [Nat.ble_eq] using hn0
 have hI:QtR n0 ops:=by
  refine ⟨fun i hi=>⟨ops[i]'(by omega),by simp [show i<ops.length by omega]⟩,fun i j oi oj d hi hj hoi hoj hdi hdj=>?_⟩
  exact Qsf (f:=fun o:Oper=>o.dst) hnodup (by rw [Xo,if_pos hi];exact hoi) (by rw [Xo,if_pos hj];exact hoj) hdi hdj
 have hb:∀(i:Nat) (o:Oper),ops[i]?=some o->∀j ∈ deps o,j<i:=by
  intro i o ho j hj
  obtain ⟨e,he,hbi,rfl⟩:=Qn4.1 hj
  have hi:i<ops.length:=(Xj.1 ho).1
  have:=hback i (by simpa using hi)
  simp only [ho] at this
  have:=Array.all_eq_true'.1 this e he
  simpa [Nat.blt_eq,hbi] using this
 simp only [Qwg,Xl] at hp
 obtain ⟨⟨hT,_⟩,hpl⟩:=hp
 generalize Qsr ops=T at hT hpl
 let K:Fr->World->Prop:=fun g w'=>WL P N ops.toArray Q (ops.drop n0) g w'
 let I:(Nat->Bool)->Fr->World->Prop:=fun dn g w=>∃p gk qd ed,Canon P n0 ops T K p gk w qd ed dn∧QtF p∧(∀i,dn i=true->i<n0∧(i ∈ qd∨i ∈ ed))∧(∀i ∈ ed,dn i=true)∧Agr n0 ops (fun i=>dn i=true∨isQ n0 ops i=false) g gk ∧
  (∀i o,dn i=true->ops[i]?=some o->∀j ∈ deps o,dn j=true)
 refine Qm5 hm hok0 I ?_ ?_ ?_
 ·obtain ⟨p',gk',qd',hc,h1,_,h3⟩:=Qer (P:=P) (K:=K) (T:=T) hI (w:=w.drew) (ed:=[]) (dn:=fun _=>false) p f [] ⟨hpl,h,by simp,by simp,by simp⟩
  exact ⟨p',gk',qd',[],hc,h1,by simp,by simp,⟨h3.1,fun i d hi hS hd=>h3.2 i d hi (hS.elim (fun h=>by cases h) .inr) hd⟩,by simp⟩
 ·rintro i o dn g w hi ho hdn hdeps _ ⟨p,gk,qd,ed,hc,hnq,hd1,hd2,hagr,hdc⟩
  have hdepdn:∀j ∈ deps o,dn j=true:=by
   intro j hj
   obtain ⟨e,he,hbi,rfl⟩:=Qn4.1 hj
   exact hdeps e he hbi
  have hdepS:∀j ∈ deps o,dn j=true∨isQ n0 ops j=false:=fun j hj=> .inl (hdepdn j hj)
  have hanc:=Qsq hT hdc hb i o ho hdepdn
  have hnoted:i ∉ ed:=fun hm=>by have:=hd2 i hm;rw [hdn] at this;cases this
  have heff:∀j,isQ n0 ops j=false->dn j=true->j ∈ ed:=by
   intro j hj hjd
   rcases (hd1 j hjd).2 with hm |hm
   ·have h5:=(hc.nq j hm).2.1
    rw [hj] at h5;cases h5
   ·exact hm
  have hdc':∀k ok,(if k=i then true else dn k)=true->ops[k]?=some ok->∀j ∈ deps ok,(if j=i then true else dn j)=true:=by
   intro k ok hk hok j hj
   by_cases e:k=i
   ·subst e
    rw [ho] at hok;cases hok
    have:=hdepdn j hj
    split <;> first |rfl |exact this
   ·rw [if_neg e] at hk
    have:=hdc k ok hk hok j hj
    split <;> first |rfl |exact this
  have hnode:=Ql6 p hnq hc.ok hc.dl
  have hstage:∀l,Qhy n0 ops T l qd ed=true->i ∈ qd∨i ∈ l:=by
   intro l hst
   simp only [Qhy,List.all_eq_true,XG,X4,List.any_eq_true,Xl] at hst
   rcases hst i hi with ((h |h) |h) |⟨j,hj,⟨he,_⟩,hn⟩
   ·exact .inl (by simpa using h)
   ·exact (hnoted (by simpa using h)).elim
   ·exact .inr (by simpa using h)
   ·have:=heff j (by simpa using he) (hanc j hj)
    simp [this] at hn
  have hdoneq:YI n0 ops T .done none qd ed=true->i ∈ qd:=by
   intro hok
   simp only [YI,Xl,List.all_eq_true,XG,X4] at hok
   rcases hok.2 i hi with h |h
   ·simpa using h
   ·exact (hnoted (by simpa using h)).elim
  cases hq:isQ n0 ops i with
  | true =>
   have hiq:i ∈ qd:=by
    rcases hnode with e |⟨hst,_,hsp⟩
    ·subst e;exact hdoneq hc.ok
    ·rcases hstage _ hst with h |h
     ·exact h
     ·obtain ⟨ag,r,hok,_⟩:=hsp i h
      simp [YI,ho,hq] at hok
   obtain ⟨_,_,o',ho',_,hopn,_⟩:=hc.nq i hiq
   rw [ho] at ho';cases ho'
   have hag:=hc.ag i hiq hdn o ho
   obtain ⟨d,hd⟩:=Qjx hq ho
   rw [<-Qd9 hopn hdepS hagr] at hag
   have key:∀v,v=gk (Qde ops i)->I (fun j=>if j=i then true else dn j) (JU g o.dst v) w:=by
    rintro v rfl
    refine ⟨p,gk,qd,ed,⟨hc.ok,hc.dl,hc.nq,hc.ne,fun j hj hdj=>hc.ag j hj ?_⟩,hnq,?_,?_,⟨?_,?_⟩,hdc'⟩
    ·by_cases e:j=i
     ·simp only [if_pos e] at hdj;cases hdj
     ·simp only [if_neg e] at hdj;exact hdj
    ·intro j hj
     by_cases e:j=i
     ·rw [e];exact ⟨hi, .inl hiq⟩
     ·simp only [if_neg e] at hj;exact hd1 j hj
    ·intro j hj
     by_cases e:j=i
     ·simp only [if_pos e]
     ·simp only [if_neg e];exact hd2 j hj
    ·intro n hn
     have hne:n≠d:=by rintro rfl;have:=hn i hi;rw [QhI ho hd] at this;cases this
     rw [hd];simp only [JU,Qek _ _ hne]
     exact hagr.1 n hn
    ·intro j dj hj hjd hdj
     by_cases e:dj=d
     ·subst e
      rw [hd,Qkt ho hd];simp only [JU,QfE]
     ·have hji:j≠i:=by
       rintro rfl
       obtain ⟨oj,hoj,hdj'⟩:=Qgy hdj
       rw [ho] at hoj;cases hoj;rw [hd] at hdj';cases hdj';exact e rfl
      have hjd':dn j=true∨isQ n0 ops j=false:=by simp only [if_neg hji] at hjd;exact hjd
      rw [hd];simp only [JU,Qek _ _ e]
      exact hagr.2 j dj hj hjd' hdj
   split
   ·rename_i hw
    rw [if_pos hw] at hag
    refine (Qhd (Qh9 hopn hdepS (fun _ _ _ hk _ _=> .inr hk) hagr).symm hag).mono ?_
    rintro v w' ⟨rfl,hv⟩
    exact key v hv
   ·rename_i hw
    rw [if_neg hw] at hag
    exact key undef hag.symm
  | false =>
   have hniq:i ∉ qd:=fun hm=>by have:=(hc.nq i hm).2.1;rw [hq] at this;cases this
   obtain ⟨l,ag,r,hok,hdl⟩:∃l ag r,YI n0 ops T (.e i ag r) (some l) qd ed=true∧DL P ops K (.e i ag r) gk w:=by
    rcases hnode with e |⟨hst,_,hsp⟩
    ·subst e;exact (hniq (hdoneq hc.ok)).elim
    ·rcases hstage _ hst with h |h
     ·exact (hniq h).elim
     ·obtain ⟨ag,r,h1,h2⟩:=hsp i h;exact ⟨_,ag,r,h1,h2⟩
   simp only [YI,Xl] at hok
   obtain ⟨⟨⟨⟨_,hb'⟩,_⟩,hagq⟩,hrest⟩:=hok
   obtain ⟨o',ho',hdl⟩:=hdl
   rw [ho] at ho';cases ho'
   simp only [ho,Xl] at hb'
   obtain ⟨⟨⟨_,_⟩,hdep⟩,hopn⟩:=hb'
   rw [<-Qd9 hopn hdepS hagr] at hdl
   have key:∀v w',(∀j ∈ qd,(if j=i then true else dn j)=false->Jm P ops (JU gk o.dst v) w' j)->DL P ops K r (JU gk o.dst v) w'->I (fun j=>if j=i then true else dn j) (JU g o.dst v) w':=by
    intro v w' hag hdl
    have hc1:Canon P n0 ops T K r (JU gk o.dst v) w' qd (i::ed) (fun j=>if j=i then true else dn j):=by
     refine ⟨hrest,hdl,?_,?_,hag⟩
     ·intro j hj
      obtain ⟨hj0,hjq,oj,hoj,hqj,hopj,hdj⟩:=hc.nq j hj
      exact ⟨hj0,hjq,oj,hoj,hqj,hopj,fun k hk=>(hdj k hk).imp (fun h=>h) (List.mem_cons_of_mem _)⟩
     ·intro j hj
      rcases Xr.1 hj with e |hj
      ·rw [e];exact ⟨hi,hq⟩
      ·exact hc.ne j hj
    obtain ⟨p',gk',qd',hc',h1,h2,h3⟩:=Qer hI r (JU gk o.dst v) qd hc1
    refine ⟨p',gk',qd',i::ed,hc',h1,?_,?_,?_,hdc'⟩
    ·intro j hj
     by_cases e:j=i
     ·rw [e];exact ⟨hi, .inr (by simp)⟩
     ·simp only [if_neg e] at hj
      exact ⟨(hd1 j hj).1,(hd1 j hj).2.imp (h2 j) (List.mem_cons_of_mem _)⟩
    ·intro j hj
     by_cases e:j=i
     ·simp only [if_pos e]
     ·simp only [if_neg e]
      exact hd2 j ((Xr.1 hj).resolve_left e)
    ·refine Agr.trans (S:=fun j=>(if j=i then true else dn j)=true∨isQ n0 ops j=false) (S':=fun j=>(j ∈ qd∨j ∈ i::ed)∨isQ n0 ops j=false) (g':=JU gk o.dst v) (Qts hI hi ho hagr fun j hj hne=>by simp only [if_neg hne] at hj;exact hj) h3 ?_
     ·intro j hj
      by_cases e:j=i
      ·rw [e];exact .inl (.inr (by simp))
      ·simp only [if_neg e] at hj
       exact hj.imp (fun h=>(hd1 j h).2.imp (fun h=>h) (List.mem_cons_of_mem _)) (fun h=>h)
   split
   ·rename_i hw
    rw [if_pos hw] at hdl
    refine (Qhd (Qh9 hopn hdepS (fun _ _ _ hk _ _=> .inr hk) hagr).symm hdl).mono ?_
    rintro v w' ⟨hagv,hdlv⟩
    refine key v w' ?_ hdlv
    intro j hj hjd
    have hjd':dn j=false:=by
     split at hjd
     ·cases hjd
     ·exact hjd
    have:=List.all_eq_true.1 hagq j hj
    simp only [X4,List.any_eq_true] at this
    rcases this with (h |h) |⟨k,hk,h⟩
    ·exact hagv j (by simpa using h)
    ·have:=hanc j (by simpa using h);rw [hjd'] at this;cases this
    ·obtain ⟨hk0,_⟩:=hc.ne k hk
     obtain ⟨ok,hok⟩:=hI.1 k hk0
     have:=Qsq hT hdc hb k ok hok (hdc k ok (hd2 k hk) hok) j (by simpa using h)
     rw [hjd'] at this;cases this
   ·rename_i hw
    rw [if_neg hw] at hdl
    refine key undef w ?_ hdl
    intro j hj hjd
    have hjd':dn j=false:=by
     split at hjd
     ·cases hjd
     ·exact hjd
    obtain ⟨hj0,hjq,oj,hoj,hqj,hopj,hdj⟩:=hc.nq j hj
    have hne:∀k,k ∈ qd∨k ∈ ed->k≠i:=by
     rintro k (h |h) rfl
     ·exact hniq h
     ·exact hnoted h
    refine QlL (S:=fun k=>((k ∈ qd∨k ∈ ed)∨isQ n0 ops k=false)∧k≠i) hj0 hoj hopj (fun k hk=>⟨.inl (hdj k hk),hne k (hdj k hk)⟩) ?_ ⟨.inl (.inl hj),hne j (.inl hj)⟩ (Qjx hjq hoj) (Qm4 hI hi ho (fun hm=>hm.2 Z)) (hc.ag j hj hjd')
    intro k ok _ hkq hok hjk
    refine ⟨.inr hkq,?_⟩
    rintro rfl
    rw [ho] at hok;cases hok
    have:=hdepdn j hjk
    rw [hjd'] at this;cases this
 ·rintro dn g w hall ⟨p,gk,qd,ed,hc,hnq,hd1,hd2,hagr,hdc⟩
  have hg:g=gk:=by
   funext n
   by_cases hn:∀k,k<n0->Qcz ops k n=false
   ·exact hagr.1 n hn
   ·obtain ⟨k,hk,hd'⟩:∃k,k<n0∧Qcz ops k n=true:=by
     refine Classical.byContradiction fun hc=>hn fun k hk=>?_
     cases hd:Qcz ops k n with
     |false=>rfl
     |true=>exact absurd ⟨k,hk,hd⟩ hc
    exact hagr.2 k n hk (.inl (hall k hk)) hd'
  subst hg
  rcases Ql6 p hnq hc.ok hc.dl with e |⟨_,hne,hsp⟩
  ·subst e;exact hc.dl
  ·obtain ⟨i',hi'⟩:=List.exists_mem_of_ne_nil _ hne
   obtain ⟨ag,r,hok,_⟩:=hsp i' hi'
   simp only [YI,Xl] at hok
   obtain ⟨⟨⟨⟨hi',hb'⟩,_⟩,_⟩,_⟩:=hok
   have hi'':i'<n0:=by simpa [Nat.blt_eq] using hi'
   have hdn:=hall i' hi''
   obtain ⟨o',ho'⟩:=hI.1 i' hi''
   simp only [ho',Xl,Bool.not_eq_true'] at hb'
   rcases (hd1 i' hdn).2 with hm |hm
   ·have:=(hc.nq i' hm).2.1
    rw [hb'.1.1.1] at this;cases this
   ·have:=hb'.1.1.2
    simp [hm] at this
end
/-! ### as the printed walks show it -/
section
variable {P:Program} {ops:List Oper} {K:Fr->World->Prop} {f:Fr} {w:World} {i:Nat} {o:Oper} {r:GK}
theorem QyE (ho:ops[i]?=some o) (hg:o.guard=none) (h:Exec P (ev f) o w fun v w'=>w'=w∧DL P ops K r (JU f o.dst v) w):DL P ops K (.q i r) f w :=
 ⟨o,ho,by rw [if_pos (by simp [Region.wanted,hg])];exact h⟩
theorem Qyc {j:Nat} {b:Bool} (ho:ops[i]?=some o) (hg:o.guard=some (j,b)) (hy:Jg ops.toArray f j=some b) (h:Exec P (ev f) o w fun v w'=>w'=w∧DL P ops K r (JU f o.dst v) w):DL P ops K (.q i r) f w :=
 ⟨o,ho,by rw [if_pos (by simp [Region.wanted,hg,hy])];exact h⟩
theorem Qya {j:Nat} {b c:Bool} (ho:ops[i]?=some o) (hg:o.guard=some (j,b)) (hy:Jg ops.toArray f j=some c) (hbc:(c == b)=false) (h:DL P ops K r (JU f o.dst undef) w):DL P ops K (.q i r) f w :=
 ⟨o,ho,by rw [if_neg (by cases b <;> cases c <;> simp [Region.wanted,hg,hy] at *)];exact h⟩
theorem Qyb {j:Nat} {b:Bool} (ho:ops[i]?=some o) (hg:o.guard=some (j,b)) (hy:Jg ops.toArray f j=none) (h:DL P ops K r (JU f o.dst undef) w):DL P ops K (.q i r) f w :=
 ⟨o,ho,by rw [if_neg (by simp [Region.wanted,hg,hy])];exact h⟩
variable {ag:List Nat}
theorem Qx5 (ho:ops[i]?=some o) (hg:o.guard=none) (h:Exec P (ev f) o w fun v w'=>(∀j ∈ ag,Jm P ops (JU f o.dst v) w' j)∧DL P ops K r (JU f o.dst v) w'):DL P ops K (.e i ag r) f w :=
 ⟨o,ho,by rw [if_pos (by simp [Region.wanted,hg])];exact h⟩
theorem Qyf {j:Nat} {b:Bool} (ho:ops[i]?=some o) (hg:o.guard=some (j,b)) (hy:Jg ops.toArray f j=some b) (h:Exec P (ev f) o w fun v w'=>(∀j ∈ ag,Jm P ops (JU f o.dst v) w' j)∧DL P ops K r (JU f o.dst v) w'):DL P ops K (.e i ag r) f w :=
 ⟨o,ho,by rw [if_pos (by simp [Region.wanted,hg,hy])];exact h⟩
theorem Qyd {j:Nat} {b c:Bool} (ho:ops[i]?=some o) (hg:o.guard=some (j,b)) (hy:Jg ops.toArray f j=some c) (hbc:(c == b)=false) (h:DL P ops K r (JU f o.dst undef) w):DL P ops K (.e i ag r) f w :=
 ⟨o,ho,by rw [if_neg (by cases b <;> cases c <;> simp [Region.wanted,hg,hy] at *)];exact h⟩
theorem Qye {j:Nat} {b:Bool} (ho:ops[i]?=some o) (hg:o.guard=some (j,b)) (hy:Jg ops.toArray f j=none) (h:DL P ops K r (JU f o.dst undef) w):DL P ops K (.e i ag r) f w :=
 ⟨o,ho,by rw [if_neg (by simp [Region.wanted,hg,hy])];exact h⟩
theorem K7 {p:Nat->Prop}:∀j ∈ ([]:List Nat),p j:=by simp
theorem Qm {p:Nat->Prop} {j:Nat} {l:List Nat} (h:p j) (hl:∀k ∈ l,p k):∀k ∈ j::l,p k:=by
 intro k hk;rcases Xr.1 hk with rfl |hk
 ·exact h
 ·exact hl k hk
theorem Q8 (ho:ops[i]?=some o) (hg:o.guard=none) (h:Exec P (ev f) o w fun v w'=>w'=w∧v=f (Qde ops i)):Jm P ops f w i:=by
 intro o' ho';rw [ho] at ho';cases ho';rw [if_pos (by simp [Region.wanted,hg])];exact h
theorem Qy1 {j:Nat} {b:Bool} (ho:ops[i]?=some o) (hg:o.guard=some (j,b)) (hy:Jg ops.toArray f j=some b) (h:Exec P (ev f) o w fun v w'=>w'=w∧v=f (Qde ops i)):Jm P ops f w i:=by
 intro o' ho';rw [ho] at ho';cases ho';rw [if_pos (by simp [Region.wanted,hg,hy])];exact h
theorem Qyz {j:Nat} {b c:Bool} (ho:ops[i]?=some o) (hg:o.guard=some (j,b)) (hy:Jg ops.toArray f j=some c) (hbc:(c == b)=false) (h:f (Qde ops i)=undef):Jm P ops f w i:=by
 intro o' ho';rw [ho] at ho';cases ho';rw [if_neg (by cases b <;> cases c <;> simp [Region.wanted,hg,hy] at *)];exact h
theorem Qy0 {j:Nat} {b:Bool} (ho:ops[i]?=some o) (hg:o.guard=some (j,b)) (hy:Jg ops.toArray f j=none) (h:f (Qde ops i)=undef):Jm P ops f w i:=by
 intro o' ho';rw [ho] at ho';cases ho';rw [if_neg (by simp [Region.wanted,hg,hy])];exact h
end
section
variable {P:Program} {ρ:Operand->Value} {o:Oper} {w w0:World} {s:Gc} {H:List Res} {K:Value->World->Prop} {T:TypeId}
theorem Qb5 {ops:List Oper} {K:Fr->World->Prop} {f:Fr} {p q:GK} (h:DL P ops K p f w) (k:DL P ops K q f w):DL P ops K (.alt p q) f w:=⟨h,k⟩
theorem Qqf {ops:List Oper} {K:Fr->World->Prop} {f:Fr} (h:K f w):DL P ops K .done f w:=h
theorem Qy {α:Type} {E:Enc α} {xs:List α} {y:α} {x i:Operand} {v:Value} {k:IntKind} {n:Int} {e by_:Nat} (hT:JM P T=some (e,E.sz,by_)) (ho:o.op= .indexAddr T x i) (hx:ρ x=v) (hi:ρ i= .int k n)
  (h:Ga E s v xs) (hy:idx xs n=some y) (hk:∀b off,At s b off E y->(∀w':World,(Instr.indexAt T v (.int k n)).run P w'= .ok (.pointer (some ⟨b,off,none⟩)) w')->K (.pointer (some ⟨b,off,none⟩)) w):Exec P ρ o w K:=by
 obtain ⟨h0,h1,_⟩:=Qj hy
 obtain ⟨b,off,c,rfl,hat⟩:=h.at hy
 exact Qi hT ho hx hi h0 h1 (hk _ _ hat fun w'=>QfN hT h0 h1)
theorem Yk {x i:Operand} {v u:Value} {k:IntKind} {n:Int} (ho:o.op= .indexAddr T x i) (hx:ρ x=v) (hi:ρ i= .int k n) (h:∀w':World,(Instr.indexAt T v (.int k n)).run P w'= .ok u w') (hk:K u w):Exec P ρ o w K:=by
 refine .of_run (v:=u) ?_ hk
 unfold execOp
 simp only [ho,hx,hi,Xe,h,Xd,Xg]
end
end Go.Pw
/- -/
namespace Go.Pw
def qs:Nat->Nat->GK->GK
 |_,0,r=>r
 |i,n+1,r=> .q i (qs (i+1) n r)
end Go.Pw
/- -/
namespace Go.Pw
def RR.own0 (L0:List Res):RR:=⟨true,fun _ _ L=>L=L0,fun _ h=>h,fun h=>by cases h⟩
section
variable {P:Program} {N:Nat} {Q:QbB} {f:Fr} {w w0:World} {s:Gc} {H Hs:List Res}
end
end Go.Pw
/- -/
namespace Go.Pw
section
variable {P:Program} {ρ:Operand->Value} {o:Oper} {w w0:World} {K:Value->World->Prop} {T:TypeId} {s:Gc} {H:List Res}
theorem Ga.cut {α:Type} {E:Enc α} {a:Option Addr} {n cap:Nat} {xs:List α} (h:Ga E s (.slice a n cap) xs) {l r:Nat} (hl:l<=r) (hr:r<=xs.length) :
  Ga E s (.slice (if cap=l then a else a.map (·.add (l * E.sz))) (r - l) (cap - l)) ((xs.take r).drop l):=by
 rcases h with ⟨hv,rfl⟩ |⟨a',cap',hv,rfl⟩ |⟨b,off,cap',c,Te,fz,cells,hv,h1,h2,h3,h4,h5⟩
 ·cases hv
  have:l=0:=by simp at hr;omega
  subst this
  have:r=0:=by simpa using hr
  subst this
  exact .inl ⟨by simp,by simp⟩
 ·cases hv
  have:r=0:=by simpa using hr
  subst this
  have:l=0:=by omega
  subst this
  refine .inr (.inl ?_)
  by_cases hc:cap=0
  ·exact ⟨a',_,by rw [if_pos hc,Nat.sub_self],by simp⟩
  ·exact ⟨a'.add (0 * E.sz),_,by rw [if_neg hc];rfl,by simp⟩
 ·cases hv
  have hlen:((xs.take r).drop l).length=r - l:=by simp;omega
  by_cases hrl:r=l
  ·subst hrl
   have e:(xs.take r).drop r=[]:=List.eq_nil_of_length_eq_zero (by rw [hlen];omega)
   rw [e,Nat.sub_self]
   refine .inr (.inl ?_)
   by_cases hc:cap=r
   ·exact ⟨_,_,by rw [if_pos hc],Z⟩
   ·exact ⟨_,_,by rw [if_neg hc];rfl,Z⟩
  ·have hcap:¬cap=l:=by omega
   rw [if_neg hcap]
   refine .inr (.inr ⟨b,off+l * E.sz,cap - l,c,Te,fz,((cells.take (r * E.sz)).drop (l * E.sz)),?_,by omega,by omega,h3,?_,?_⟩)
   ·rw [hlen];simp [Addr.add_lit]
   ·have hcl:=h5.len
    have hle:r * E.sz<=cells.length:=by rw [hcl];exact Nat.mul_le_mul_right _ hr
    have hle2:l * E.sz<=r * E.sz:=Nat.mul_le_mul_right _ hl
    have:((cells.take (r * E.sz)).drop (l * E.sz)).length=r * E.sz - l * E.sz:=by simp;omega
    rw [this]
    conv=>rhs;rw [<-h4]
    rw [List.take_take,Nat.min_eq_left hle,List.drop_take,List.drop_drop]
   ·exact (h5.take r).drop l
theorem Qap {k:IntKind} {i:Int} {y:Nat} {c:BoundsCode} (h0:0<=i) (h1:i<=(y:Int)):(Instr.sliceBound (.int k i) y c).run P w= .ok i.toNat w:=by
 unfold Instr.sliceBound
 simp only [asIntOf,Xe,Xg,Xd]
 rw [if_pos ⟨h0,h1⟩]
 rfl
theorem Qjd {α:Type} {E:Enc α} {xs ys:List α} {x lo:Operand} {v:Value} {k:IntKind} {l:Int} {e by_:Nat} (hT:JM P T=some (e,E.sz,by_)) (ho:o.op= .slice T x (some lo) none none) (hx:ρ x=v) (hh:ρ lo= .int k l)
  (h:Ga E s v xs) (hy:Go.Pw.cut xs l xs.length=some ys) (hk:∀u,Ga E s u ys->K u w):Exec P ρ o w K:=by
 obtain ⟨h0,h1,_,rfl⟩:=QnP hy
 obtain ⟨i,hu,hi',hs,_⟩:=J7 hT
 obtain ⟨a,c,rfl⟩:=h.shape
 have hc:=h.cut (l:=l.toNat) (r:=xs.length) (by omega) (Xi _)
 refine .of_run (v:= .slice (if c=l.toNat then a else a.map (·.add (l.toNat * E.sz))) (xs.length - l.toNat) (c - l.toNat)) ?_ (hk _ (by simpa using hc))
 unfold execOp
 simp only [ho,hx,hh,Option.map_none,Option.map_some,Instr.sliceAt,Instr.slice,Instr.sliceBounds,Xe,Xk hu,Xd,Xg,Qap (P:=P) (w:=w) (k:=k) h0 h1]
 simp [sizeOf,typeInfo,hi',hs]
theorem Qje {α:Type} {E:Enc α} {xs ys:List α} {x lo hi:Operand} {v:Value} {k k':IntKind} {l r:Int} {e by_:Nat} (hT:JM P T=some (e,E.sz,by_)) (ho:o.op= .slice T x (some lo) (some hi) none) (hx:ρ x=v) (hl:ρ lo= .int k l) (hh:ρ hi= .int k' r)
  (h:Ga E s v xs) (hy:Go.Pw.cut xs l r=some ys) (hk:∀u,Ga E s u ys->K u w):Exec P ρ o w K:=by
 obtain ⟨h0,h1,h2,rfl⟩:=QnP hy
 obtain ⟨i,hu,hi',hs,_⟩:=J7 hT
 obtain ⟨a,c,rfl⟩:=h.shape
 have hcap:xs.length<=c:=by
  rcases h with ⟨hv,rfl⟩ |⟨a',cap',hv,rfl⟩ |⟨b,off,cap',c',Te,fz,cells,hv,h1,_⟩
  ·simp
  ·simp
  ·cases hv;exact h1
 have hc:=h.cut (l:=l.toNat) (r:=r.toNat) (by omega) (by omega)
 refine .of_run (v:= .slice (if c=l.toNat then a else a.map (·.add (l.toNat * E.sz))) (r.toNat - l.toNat) (c - l.toNat)) ?_ (hk _ hc)
 unfold execOp
 simp only [ho,hx,hl,hh,Option.map_none,Option.map_some,Instr.sliceAt,Instr.slice,Instr.sliceBounds,Xe,Xk hu,Xd,Xg,Qap (P:=P) (w:=w) (k:=k') (i:=r) (y:=c) (by omega) (by omega),Qap (P:=P) (w:=w) (k:=k) (i:=l) (y:=r.toNat) h0 (by omega)]
 simp [sizeOf,typeInfo,hi',hs]
end
end Go.Pw
/- -/
namespace Go.Pw
def eqs:List Int->List Int->Bool
 |x::xs,y::ys=>decide (x=y) && eqs xs ys
 |_,_=>true
def Qpz (P:Program):Nat->List Field->Bool
 |_,[]=>true
 |i,f::fs=>(f.name != "_") && Nat.beq f.offset i && P.plainKey f.type && (match P.underlying f.type with |some (.int .i64)=>true |_=>false) && Qpz P (i+1) fs
def Qiv (P:Program) (T:TypeId) (n:Nat):Bool :=
 (match P.underlying T with |some (.struct fs)=>Qpz P 0 fs.toList && Nat.beq fs.toList.length n |_=>false) && !P.stoodInHeld T && !P.eqGuardType P.depth T
def iv (a:Int):Value:= .int .i64 a
section
variable {P:Program} {ρ:Operand->Value} {o:Oper} {w:World} {K:Value->World->Prop} {T T':TypeId} {x y:Operand}
theorem QhP (d:Nat):∀(fs:List Field) (i:Nat) (xs ys:List Int) (X Y:Array Value),Qpz P i fs=true->fs.length=xs.length->fs.length=ys.length->(∀j a,xs[j]?=some a->X[i+j]?=some (iv a))->(∀j a,ys[j]?=some a->Y[i+j]?=some (iv a)) ->
  (Op.eqFields (d+1) X Y fs).run P w= .ok (eqs xs ys) w
 |[],_,[],[],_,_,_,_,_,_,_=>by simp [Op.eqFields,eqs]
 |f::fs,i,[],_,_,_,_,h,_,_,_=>by simp at h
 |f::fs,i,_::_,[],_,_,_,_,h,_,_=>by simp at h
 |[],_,_::_,_,_,_,_,h,_,_,_=>by simp at h
 |[],_,[],_::_,_,_,_,_,h,_,_=>by simp at h
 | f::fs,i,a::xs,b::ys,X,Y,h,hx,hy,hX,hY=>by
  simp only [Qpz,Xl] at h
  obtain ⟨⟨⟨⟨h1,h2⟩,h3⟩,h4⟩,h5⟩:=h
  have hn:f.name≠ "_" :=by simpa using h1
  have ho:f.offset=i:=Xh h2
  have hu:P.underlying f.type=some (.int .i64):=by
   split at h4
   ·assumption
   ·cases h4
  have e1:=run_part_plain (w:=w) h3 (hX 0 a rfl)
  have e2:=run_part_plain (w:=w) h3 (hY 0 b rfl)
  rw [Nat.add_zero] at e1 e2
  have ih:=QhP d fs (i+1) xs ys X Y h5 (by simpa using hx) (by simpa using hy) (fun j a h=>by rw [Nat.add_assoc,Nat.add_comm 1 j];exact hX (j+1) a (by simpa using h)) (fun j a h=>by rw [Nat.add_assoc,Nat.add_comm 1 j];exact hY (j+1) a (by simpa using h))
  simp only [Op.eqFields,if_pos hn,ho,Xe,e1,e2,Xd,iv,run_equalIn_int _ _ _ _ _ _ _ hu]
  by_cases e:a=b
  ·subst e
   simp [eqs,ih]
  ·simp [eqs,e]
theorem QpT {l:List Int} {j:Nat} {a:Int} (h:l[j]?=some a):(l.map iv).toArray[0+j]?=some (iv a):=by simp [h]
theorem Qlm {xs ys:List Int} {n:Nat} {u v:Value} (hT:Qiv P T n=true) (hu:u= .agg (xs.map iv).toArray) (hv:v= .agg (ys.map iv).toArray) (hnx:xs.length=n) (hny:ys.length=n) (ho:o.op= .binOp .eql T x y T') (hx:ρ x=u) (hy:ρ y=v)
  (hk:K (.bool (eqs xs ys)) w):Exec P ρ o w K:=by
 subst hu;subst hv
 simp only [Qiv,Xl,Bool.not_eq_true'] at hT
 obtain ⟨⟨h1,h2⟩,h3⟩:=hT
 split at h1
 ·rename_i fs hfs
  simp only [Xl] at h1
  have hlen:fs.toList.length=n:=Xh h1.2
  have hf:P.fieldsOf T=fs:=by simp [Program.fieldsOf,hfs]
  have:=QhP (P:=P) (w:=w) 9998 fs.toList 0 xs ys _ _ h1.1 (by omega) (by omega) (fun j a h=>QpT h) (fun j a h=>QpT h)
  refine Qaa (op:= .eql) ho hx hy (run_eqGuard_agg _ _ _ _ _ _ _ h3) ?_ hk
  rw [run_eql_struct,run_equalIn_agg w 9999 T _ _ (by rw [hf];exact hfs) h2,hf,this]
  rfl
 ·cases h1
end
/-! ### results that lie in cells -/
def RR1 (P:Program) (f:Fr) (w:World):ResultVar->Value->Prop
 | .tmp t,v=>v=f t
 | .cell p ty,v=>∃b off,f p= .pointer (some ⟨b,off,none⟩)∧(loadVar ty ⟨b,off,none⟩).run P w= .ok v w
theorem Qdn {P:Program} {w0 w:World} {s:Gc} {H:List Res} {b:Nat} {Tb ty:TypeId} {cs:List Value} (hS:St w0 s (.box b Tb cs::H) w) (hT:Qam P ty=some (true,cs.length)):(loadVar ty ⟨b,0,none⟩).run P w= .ok (.agg cs.toArray) w:=by
 refine Yz hT ?_
 intro j v hj
 rw [Addr.add_lit]
 simp [World.cell?,hS.box_heap,hj]
section
variable {P:Program} {fn:Func} {f:Fr} {w:World}
def QjN (tmps:Array Value):ResultVar->Sem Value
 | .tmp t=>pure (tmps.getD t undef)
 | .cell a t=>do loadVar t (<-asAddr (tmps.getD a undef))
theorem QgY {N:Nat} {a:Act} (ha:Fits N a f) {r:ResultVar} {v:Value} (h:RR1 P f w r v):(QjN a.tmps r).run P w= .ok v w:=by
 cases r with
 |tmp t=>simp only [RR1] at h;simp only [QjN,Xg,ha.get,h]
 |cell p ty =>
  obtain ⟨b,off,h1,h2⟩:=h
  simp only [QjN,ha.get,h1,asAddr,Xe,Xg,Xd,h2]
theorem QgX (tmps:Array Value):results fn tmps=(do
  let vs <-fn.results.mapM (QjN tmps)
  pure (if h:vs.size=1 then vs[0] else .tuple vs)):=by
 unfold results QjN
 rfl
theorem Qls {r1:ResultVar} {v1:Value} (h:fn.results=#[r1]) (h1:RR1 P f w r1 v1):Qdj P fn f w v1:=by
 intro a ha
 rw [QgX,h]
 simp [Xe,QgY ha h1]
theorem Qr6 {r1 r2:ResultVar} {v1 v2:Value} (h:fn.results=#[r1,r2]) (h1:RR1 P f w r1 v1) (h2:RR1 P f w r2 v2):Qdj P fn f w (.tuple #[v1,v2]):=by
 intro a ha
 rw [QgX,h]
 simp [Xe,QgY ha h1,QgY ha h2]
theorem Qlt (h:fn.results=#[]):Qdj P fn f w (.tuple #[]):=by
 intro a ha
 rw [QgX,h]
 simp [Xe]
end
end Go.Pw
/- -/
namespace Go.Pw
section
variable {P:Program} {ρ:Operand->Value} {o:Oper} {w w0:World} {s:Gc} {H:List Res} {K:Value->World->Prop} {T:TypeId}
/-! ### rows -/
/-! ### queues -/
section
variable {α:Type} {E:Enc α} {Te:TypeId} {v:Value} {xs:List α}
end
end
theorem QkI {P:Program} {ρ:Operand->Value} {o:Oper} {w:World} {K:Value->World->Prop} {c:Operand} {f:FuncId} {fn:Func} {args:List Operand} {ts:Array TypeId} {vs:List Value} (ho:o.op= .call { callee:= .value c,args:=args.toArray,argTypes:=ts }) (hc:ρ c= .func (.func f) #[] #[])
  (hf:P.funcs[f]?=some fn) (hb:fn.body.isNone=false) (hn:(fn.name == "runtime.NumGoroutine")=false) (hargs:List.map ρ args=vs)
  (h:Calls P f vs.toArray w fun e w'=>∃v,e= .returned v∧K v w'):Exec P ρ o w K :=
 QkH ho hc hf hb hn hargs (by simpa using h)
end Go.Pw
