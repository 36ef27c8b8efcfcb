/- -/
import Derived.Test.YtalfjlihddgooaaGreatDoorBa
import Derived.Test.YtalfjlihddgooaaGreatDoorEvE
set_option linter.unusedSimpArgs false
set_option linter.unusedVariables false
namespace Go.Pw
open Classical
section
variable {P:Program}
theorem Qjn {x:Nat}:∀{a b:List Nat},x ∈ uni a b->x ∈ a∨x ∈ b
  |a,[],h=> .inl h
  | a,y::b,h=>by
    unfold uni at h
    cases hm:YH y a with
    |true=>rw [hm] at h;exact (Qjn h).imp id (List.mem_cons_of_mem _)
    | false =>
      rw [hm] at h
      rcases Qjn h with h |h
      · rcases Xr.1 h with rfl |h
        · exact .inr List.mem_cons_self
        · exact .inl h
      · exact .inr (List.mem_cons_of_mem _ h)
theorem QnK {T:List (List Nat)} {x:Nat}:∀{l:List Nat} {s:List Nat},x ∈ l.foldl (fun s j=>uni (uni s [j]) (T.getD j [])) s->x ∈ s∨∃j ∈ l,x=j∨x ∈ T.getD j []
  |[],s,h=> .inl h
  | j ::l,s,h=>by
    rcases QnK (l:=l) h with h |⟨k,hk,h⟩
    · rcases Qjn h with h |h
      · rcases Qjn h with h |h
        · exact .inl h
        · simp at h;exact .inr ⟨j,List.mem_cons_self, .inl h⟩
      · exact .inr ⟨j,List.mem_cons_self, .inr h⟩
    · exact .inr ⟨k,List.mem_cons_of_mem _ hk,h⟩
theorem QnS {ops:List Oper}:∀{r:List Oper} {T:List (List Nat)},ops.drop T.length=r->(∀i x,x ∈ T.getD i []->Anc ops x i)->∀i x,x ∈ (Qlb r T).getD i []->Anc ops x i
  |[],T,_,hT=>hT
  | o ::r,T,hd,hT=>by
    have ho:ops[T.length]?=some o:=by
      have:=congrArg List.head? hd
      simpa [List.head?_drop] using this
    have hd':ops.drop (T.length+1)=r:=by
      have:=congrArg List.tail hd
      simpa [List.tail_drop] using this
    refine QnS (r:=r) (by rw [Xt];exact hd') ?_
    intro i x hx
    rw [List.getD_eq_getElem?_getD] at hx
    rcases Nat.lt_trichotomy i T.length with h |h |h
    · rw [Xs h, <-List.getD_eq_getElem?_getD] at hx
      exact hT i x hx
    · subst h
      rw [Xy (Xi _),Nat.sub_self] at hx
      have hx:x ∈ (Qe0 o).foldl (fun s j=>uni (uni s [j]) (T.getD j [])) []:=hx
      rcases QnK hx with hx |⟨j,hj,hx⟩
      · cases hx
      · have hj':j ∈ Kf ops T.length:=by unfold Kf;rw [ho];exact hj
        rcases hx with rfl |hx
        · exact .dep hj'
        · exact .tr hj' (hT j x hx)
    · rw [X3 (by simp;omega)] at hx
      cases hx
theorem Qh5 {ops:List Oper} {i x:Nat} (h:YH x ((Qlb ops []).getD i [])=true):Anc ops x i :=
  QnS (r:=ops) (T:=[]) rfl (fun i x hx=>by simp at hx) i x (QfG h)
theorem Qk3 {ops:List Oper} {cl:List Nat} {T:List (List Nat)}:∀{l:List DS} {done ch:List Nat},QeR ops cl T l done ch=true ->
    (∀i,i<ops.length->YH i ((l.map (·.i)).reverse++done)=true) ∧
    ∀ (p:Nat) s,l[p]?=some s->YH s.i (((l.take p).map (·.i)).reverse++done)=false∧(∀d ∈ Kf ops s.i,YH d (((l.take p).map (·.i)).reverse++done)=true) ∧
      (s.k=0->cl.getD s.i 9=0) ∧
      (s.k=1->((((l.take p).filter fun t=>Nat.beq t.k 3).map (·.i)).reverse++ch |>.filter fun e=>!YH e (T.getD s.i [])).length<=s.span) ∧
      (s.k=3->∀d ∈ ((l.take p).map (·.i)).reverse++done,YH d (T.getD s.i [])=true)
  | [],done,ch,h=>by
    refine ⟨fun i hi=>?_,fun p s hp=>by simp at hp⟩
    unfold QeR at h
    exact List.all_eq_true.1 h i (by simpa using hi)
  | s ::r,done,ch,h=>by
    unfold QeR at h
    simp only [Xl,Bool.not_eq_true'] at h
    obtain ⟨⟨⟨⟨h1,h2⟩,h3⟩,h4⟩,h5⟩:=h
    obtain ⟨i1,i2⟩:=Qk3 h5
    refine ⟨fun i hi=>by simpa using i1 i hi,?_⟩
    intro p t hp
    cases p with
    | zero =>
      simp at hp
      subst hp
      refine ⟨h1,?_,?_,?_,?_⟩
      · intro d hd
        unfold Kf at hd
        split at h3
        · rename_i o ho
          rw [ho] at hd
          exact List.all_eq_true.1 h3 d hd
        · cases h3
      · intro e;rw [e] at h4;exact Xh h4
      · intro e;rw [e] at h4;simpa using Xc h4
      · intro e;rw [e] at h4;intro d hd;exact List.all_eq_true.1 h4 d hd
    | succ p =>
      have hp:r[p]?=some t:=by simpa using hp
      obtain ⟨k1,k2,k3,k4,k5⟩:=i2 p t hp
      refine ⟨by simpa using k1,by simpa using k2,k3,?_,by simpa using k5⟩
      intro e
      have:=k4 e
      cases hb:Nat.beq s.k 3 with
      |true=>rw [hb] at this;simpa [hb] using this
      |false=>rw [hb] at this;simpa [hb] using this
theorem Qi0 :∀{ops:List Oper} {ds:List Nat},QgU ops ds=true->(∀(i:Nat) o d,ops[i]?=some o->o.dst=some d->YH d ds=false)∧∀(i j:Nat) o o' d,ops[i]?=some o->ops[j]?=some o'->o.dst=some d->o'.dst=some d->i=j
  |[],ds,_=>⟨fun i o d h=>by simp at h,fun i j o o' d h=>by simp at h⟩
  | a :: r, ds,h=>by
    unfold QgU at h
    cases hd:a.dst with
    | none =>
      rw [hd] at h
      obtain ⟨i1,i2⟩:=Qi0 h
      refine ⟨?_,?_⟩
      · intro i o d h1 h2
        cases i with
        |zero=>simp at h1;subst h1;rw [hd] at h2;cases h2
        |succ i=>exact i1 i o d (by simpa using h1) h2
      · intro i j o o' d h1 h2 h3 h4
        cases i with
        |zero=>simp at h1;subst h1;rw [hd] at h3;cases h3
        | succ i =>
          cases j with
          |zero=>simp at h2;subst h2;rw [hd] at h4;cases h4
          |succ j=>rw [i2 i j o o' d (by simpa using h1) (by simpa using h2) h3 h4]
    | some d0 =>
      rw [hd] at h
      simp only [Xl,Bool.not_eq_true'] at h
      obtain ⟨i1,i2⟩:=Qi0 h.2
      have cons:∀{d:Nat},YH d (d0::ds)=false->d≠d0∧YH d ds=false:=by
        intro d hm
        have hm:@Bool.rec (fun _=>Bool) (YH d ds) true (Nat.beq d d0)=false:=hm
        cases hb:Nat.beq d d0 with
        |true=>rw [hb] at hm;cases hm
        |false=>rw [hb] at hm;exact ⟨Nat.ne_of_beq_eq_false hb,hm⟩
      refine ⟨?_,?_⟩
      · intro i o d h1 h2
        cases i with
        |zero=>simp at h1;subst h1;rw [hd] at h2;cases h2;exact h.1
        |succ i=>exact (cons (i1 i o d (by simpa using h1) h2)).2
      · intro i j o o' d h1 h2 h3 h4
        cases i with
        | zero =>
          simp at h1;subst h1;rw [hd] at h3;cases h3
          cases j with
          |zero=>rfl
          |succ j=>exact absurd rfl (cons (i1 j o' d0 (by simpa using h2) h4)).1
        | succ i =>
          cases j with
          | zero =>
            simp at h2;subst h2;rw [hd] at h4;cases h4
            exact absurd Z (cons (i1 i o d0 (by simpa using h1) h3)).1
          |succ j=>rw [i2 i j o o' d (by simpa using h1) (by simpa using h2) h3 h4]
theorem Qk5 {ops:List Oper} {T:List (List Nat)}:∀{r:List Oper} {j:Nat},Qgj ops T r j=true->∀(i:Nat) o,r[i]?=some o ->
    (∀u, .tmp u ∈ Ye o.op->∀i',QlU ops u=some i'->i'=j+i∨YH i' (T.getD (j+i) [])=true∨YH (j+i) (T.getD i' [])=true) ∧
    (∀g b,o.guard=some (g,b)->g ∈ Qe0 o)∧∀d ∈ Qe0 o,d<j+i
  |[],j,_,i,o,h=>by simp at h
  | a ::r,j,h,i,o,hi=>by
    unfold Qgj at h
    simp only [Xl] at h
    obtain ⟨⟨⟨h1,h2⟩,h3⟩,h4⟩:=h
    cases i with
    | zero =>
      simp at hi
      subst hi
      refine ⟨?_,?_,?_⟩
      · intro u hu i' hw
        have hm:u ∈ QpG a:=List.mem_filterMap.2 ⟨.tmp u,hu,rfl⟩
        have:=List.all_eq_true.1 h1 u hm
        rw [hw] at this
        simp only [X4] at this
        rcases this with (e |e) |e
        · exact .inl (Xh e)
        · exact .inr (.inl e)
        · exact .inr (.inr e)
      · intro g b hg
        rw [hg] at h2
        exact QfG h2
      · intro d hd
        have:=List.all_eq_true.1 h3 d hd
        simpa [Nat.blt_eq] using this
    | succ i =>
      have:=Qk5 h4 i o (by simpa using hi)
      have e:j+1+i=j+(i+1):=by omega
      rw [e] at this
      exact this
end
end Go.Pw
/- -/
namespace Go.Pw
open Classical
section
variable {P:Program}
theorem Qjt {α β:Type} {f:α->Option β}:∀{l:List α} {r:List β},l.mapM f=some r->r.length=l.length∧∀(i:Nat) b,r[i]?=some b->∃a,l[i]?=some a∧f a=some b
  |[],r,h=>by simp at h;subst h;exact ⟨rfl,fun i b h=>by simp at h⟩
  | a::l,r,h=>by
    simp only [List.mapM_cons,Option.bind_eq_bind,Option.pure_def] at h
    obtain ⟨b,h1,h2⟩:=Option.bind_eq_some_iff.1 h
    obtain ⟨r',h3,h4⟩:=Option.bind_eq_some_iff.1 h2
    cases h4
    obtain ⟨i1,i2⟩:=Qjt h3
    refine ⟨by simp [i1],fun i c hc=>?_⟩
    cases i with
    |zero=>simp at hc;subst hc;exact ⟨a,rfl,h1⟩
    |succ i=>exact i2 i c (by simpa using hc)
theorem Qoa {ops:List Oper} {i:Nat} {o:Oper} {u:Nat} (ho:ops[i]?=some o) (hu:o.dst=some u) (hd:∀(i j:Nat) o o' d,ops[i]?=some o->ops[j]?=some o'->o.dst=some d->o'.dst=some d->i=j):QlU ops u=some i:=by
  unfold QlU
  have hlt:=(Xj.1 ho).1
  have hget:=(Xj.1 ho).2
  rw [List.findIdx?_eq_some_iff_getElem]
  refine ⟨hlt,by rw [hget,hu];simp,fun j hj=>?_⟩
  have hjl:j<ops.length:=by omega
  cases hdj:(ops[j]).dst with
  |none=>simp
  | some d =>
    simp only [Bool.not_eq_true']
    cases hb:Nat.beq d u with
    |false=>simp
    | true =>
      have:=Xh hb
      subst this
      have:=hd j i ops[j] o d (by simp [hjl]) ho hdj hu
      omega
theorem Qpl {N:Nat} {ops:List Oper} (h1:∀(i:Nat) o,ops[i]?=some o->Qb1 N o.dst=true) (h2:∀(i j:Nat) o o' d,ops[i]?=some o->ops[j]?=some o'->o.dst=some d->o'.dst=some d->i=j) (h3:∀(i:Nat) o,ops[i]?=some o->∀d ∈ Qe0 o,d<i) :
    QcI N ops.length ops=true:=by
  unfold QcI
  simp only [Xl,Xz,List.all_eq_true,X4]
  refine ⟨⟨⟨⟨⟨by simp,?_⟩,?_⟩,?_⟩,?_⟩,?_⟩
  · intro t ht;exact .inl (.inl (by simpa [Nat.blt_eq] using ht))
  · intro o ho
    rw [List.take_length] at ho
    obtain ⟨i,hi⟩:=List.mem_iff_getElem?.1 ho
    exact h1 i o hi
  · intro o ho
    rw [List.drop_length] at ho;cases ho
  · rw [List.take_length]
    unfold List.Nodup
    rw [List.pairwise_filterMap,List.pairwise_iff_getElem]
    intro i j hi hj hij b hb b' hb' e
    have hb:(ops[i]).dst=some b:=hb
    have hb':(ops[j]).dst=some b':=hb'
    subst e
    have:=h2 i j ops[i] ops[j] b (by simp [hi]) (by simp [hj]) hb hb'
    omega
  · intro t ht
    split
    · rename_i o ho
      rw [Array.all_eq_true']
      intro e he
      cases hbi:Region.binds .any e with
      |false=>simp
      | true =>
        have:e.on ∈ Qe0 o:=X5.2 ⟨e,List.mem_filter.2 ⟨Array.mem_toList_iff.2 he,hbi⟩,rfl⟩
        have:=h3 t o ho _ this
        simpa [Nat.blt_eq] using this
    · rfl
def Qg7 (s:KS):DS:=⟨s.i,s.k,s.span⟩
theorem Qmv (o:KO) (s:DS) (c:Bool):Qg7 (QkY o s c)=s:=by cases o <;> rfl
theorem QhE {α β:Type} {f:α->Option β} {g:β->α} (hg:∀a b,f a=some b->g b=a):∀{l:List α} {r:List β},l.mapM f=some r->r.map g=l
  |[],r,h=>by simp at h;subst h;rfl
  | a::l,r,h=>by
    simp only [List.mapM_cons,Option.bind_eq_bind,Option.pure_def] at h
    obtain ⟨b,h1,h2⟩:=Option.bind_eq_some_iff.1 h
    obtain ⟨r',h3,h4⟩:=Option.bind_eq_some_iff.1 h2
    cases h4
    simp [hg a b h1,QhE hg h3]
theorem QpO {l:List KS} {p x:Nat} (h:x ∈ ((((l.map Qg7).take p).map (·.i)).reverse++([]:List Nat))):∃(p':Nat) (s':KS),p'<p∧l[p']?=some s'∧s'.i=x:=by
  simp only [List.append_nil,List.mem_reverse,X5] at h
  obtain ⟨d,hd,rfl⟩:=h
  obtain ⟨q,hq⟩:=List.mem_iff_getElem?.1 hd
  rw [Xo] at hq
  split at hq
  · rename_i hlt
    rw [X2] at hq
    obtain ⟨s,hs,rfl⟩:=Xp.1 hq
    exact ⟨q,s,hlt,hs,Z⟩
  · cases hq
theorem Qmp {l:List KS} {p p':Nat} {s':KS} (h1:p'<p) (h2:l[p']?=some s'):s'.i ∈ ((((l.map Qg7).take p).map (·.i)).reverse++([]:List Nat)):=by
  simp only [List.append_nil,List.mem_reverse,X5]
  refine ⟨Qg7 s',List.mem_of_getElem? (i:=p') ?_,Z⟩
  rw [Xo,if_pos h1,X2,h2];rfl
theorem Qkn {x:Nat}:∀{l:List Nat},x ∈ l->YH x l=true
  | y ::l,h=>by
    show @Bool.rec (fun _=>Bool) (YH x l) true (Nat.beq x y)=true
    rcases Xr.1 h with rfl |h
    · have:Nat.beq x x=true:=by simp
      rw [this]
    · rw [Qkn h];cases Nat.beq x y <;> rfl
theorem QnQ {N:Nat} {call:Jp} {ops:List Oper} {ks:List KO} {l:List KS} {base:Id} {st:Nat->DX} {cl:List Nat} {T:List (List Nat)} {cc:DS->Bool} {steps:List DS} (hT:T=Qlb ops []) (hks:ops.mapM (Qj9 P N ops)=some ks) (hcl:cl=(ops.zip ks).map fun q=>cls P q.1.op (kgO q.2))
    (h1:QgU ops []=true) (h2:Qgj ops T ops 0=true) (h3:QeR ops cl T steps [] []=true) (h4:∀s ∈ steps,s.k<=4) (h5:∀(p:Nat) s,steps[p]?=some s->s.k=4->p+1=steps.length) (hl:(steps.mapM fun (s:DS)=>(ks[s.i]?).map fun o=>QkY o s (cc s))=some l)
    (hst:∀(p:Nat) s,l[p]?=some s->DGo call base s (st p) (st (p+1))):G6 P N call ops l base st∧QcI N ops.length ops=true:=by
  have hmap:l.map Qg7=steps:=QhE (fun a b h=>by
    obtain ⟨o,_,rfl⟩:=Xp.1 h
    exact Qmv o a _) hl
  obtain ⟨k1,k2⟩:=Qjt hks
  obtain ⟨m1,m2⟩:=Qjt hl
  obtain ⟨_,hd⟩:=Qi0 h1
  obtain ⟨s1,s2⟩:=Qk3 h3
  have s2':∀(p:Nat) s,l[p]?=some s->_:=fun p s hp=>s2 p (Qg7 s) (by rw [<-hmap,X2,hp];rfl)
  rw [<-hmap] at s1 s2'
  have hr:∀(i:Nat) o,ops[i]?=some o->_:=fun i o ho=>Qk5 h2 i o ho
  have hlt:∀(i:Nat) o,ops[i]?=some o->Qb1 N o.dst=true:=by
    intro i o ho
    have hi:=(Xj.1 ho).1
    obtain ⟨o',h5,h6⟩:=k2 i ks[i] (by simp [show i<ks.length by omega])
    rw [ho] at h5;cases h5
    exact QhF h6
  have hdeps:∀{i:Nat} {o:Oper},ops[i]?=some o->Kf ops i=Qe0 o:=fun ho=>by unfold Kf;rw [ho]
  refine ⟨⟨hst,?_,?_,?_,?_,?_,?_,?_,?_,?_,hd,?_⟩,Qpl hlt hd (fun i o ho d hd'=>by have:=(hr i o ho).2.2 d hd';omega)⟩
  · intro p s hp
    obtain ⟨ds,e1,e2⟩:=m2 p s hp
    obtain ⟨ko,e3,rfl⟩:=Xp.1 e2
    obtain ⟨o,e4,e5⟩:=k2 ds.i ko e3
    have ei:(QkY ko ds (cc ds)).i=ds.i:=by cases ko <;> rfl
    have ek:(QkY ko ds (cc ds)).k=ds.k:=by cases ko <;> rfl
    have eg:(QkY ko ds (cc ds)).g=kgO ko:=by cases ko <;> rfl
    rw [ei]
    obtain ⟨r,gd,g,q1,q2,q3⟩:=Qk8 e5
    have hc:(QkY ko ds (cc ds)).k=0->cls P o.op (QkY ko ds (cc ds)).g=0:=by
      intro hk
      have:=(s2 p ds e1).2.2.1 (by rw [<-ek];exact hk)
      rw [hcl] at this
      rw [eg, <-this,List.getD_eq_getElem?_getD,X2]
      have hz:(ops.zip ks)[ds.i]?=some (o,ko):=by rw [List.getElem?_zip_eq_some];exact ⟨e4,e3⟩
      rw [hz];rfl
    refine ⟨o,e4,?_⟩
    rcases q1 with rfl |⟨d,q,rfl,hd,rfl,rfl⟩
    · exact ⟨Z,QhF e5,q2,q3,hc⟩
    · exact ⟨by rw [hd];rfl,QhF e5,q2,q3,hc⟩
  · intro i o ho
    have hi:=(Xj.1 ho).1
    have:=QfG (s1 i hi)
    obtain ⟨p,s,_,g2,g3⟩:=QpO (l:=l) (p:=(l.map Qg7).length) (by rw [List.take_length];exact this)
    exact ⟨p,s,g2,g3⟩
  · intro p p' s s' hp hp' he
    rcases Nat.lt_trichotomy p p' with h |h |h
    · have:=(s2' p' s' hp').1
      rw [Qkn (by show s'.i ∈ _;rw [<-he];exact Qmp h hp)] at this;cases this
    · exact h
    · have:=(s2' p s hp).1
      rw [Qkn (by show s.i ∈ _;rw [he];exact Qmp h hp')] at this;cases this
  · intro p s hp d hd'
    exact QpO (QfG ((s2' p s hp).2.1 d hd'))
  · intro p s hp hk p' s' h5 h6
    have:=(s2' p s hp).2.2.2.2 hk _ (Qmp h5 h6)
    rw [hT] at this
    exact Qh5 this
  · intro p s hp hk
    have:=(s2' p s hp).2.2.2.1 hk
    refine X0 ?_ this
    rw [List.append_nil, <-List.countP_eq_length_filter,List.countP_reverse,List.countP_map,List.countP_filter, <-List.map_take,List.countP_map]
    refine List.countP_mono_left fun x _ hx=>?_
    simp only [Xl,beq_iff_eq,Bool.not_eq_true',Xx] at hx
    obtain ⟨x1,x2⟩:=hx
    simp only [Function.comp]
    have e1:Nat.beq (Qg7 x).k 3=true:=by show Nat.beq x.k 3=true;rw [x1];rfl
    rw [e1]
    cases hm:YH (Qg7 x).i (T.getD (Qg7 s).i []) with
    |false=>rfl
    |true=>rw [hT] at hm;exact absurd (Qh5 hm) x2
  · intro p s hp
    have:=h4 (Qg7 s) (by rw [<-hmap];exact X5.2 ⟨s,List.mem_of_getElem? hp,rfl⟩)
    exact this
  · intro p s hp hk
    rw [m1]
    exact h5 p (Qg7 s) (by rw [<-hmap,X2,hp];rfl) hk
  · intro i o ho u hu i' o' ho' hu'
    have:=(hr i o ho).1 u hu i' (Qoa ho' hu' hd)
    rw [Nat.zero_add] at this
    rcases this with e |e |e
    · exact .inl e
    · rw [hT] at e;exact .inr (.inl (Qh5 e))
    · rw [hT] at e;exact .inr (.inr (Qh5 e))
  · intro i o j b ho hg
    rw [hdeps ho]
    exact (hr i o ho).2.1 j b hg
end
end Go.Pw
/- -/
namespace Go.Pw
open Classical
section
variable {P:Program}
theorem QgI {N:Nat} {ops:List Oper} {r:KR} (h:Qdm P N ops true=some r):∃(ks:List KO) (cl:List Nat) (l:List KS),ops.mapM (Qj9 P N ops)=some ks∧cl=((ops.zip ks).map fun q=>cls P q.1.op (kgO q.2))∧r= .drawn ops.length l∧(YY ops cl).ok=true∧ops.length<=64 ∧
    ((YY ops cl).steps.mapM fun (s:DS)=>(ks[s.i]?).map fun o=>QkY o s (YH s.i (YY ops cl).conc))=some l:=by
  unfold Qdm at h
  cases hm:ops.mapM (Qj9 P N ops) with
  |none=>rw [hm] at h;cases h
  | some ks =>
    rw [hm] at h
    simp only at h
    generalize hcl:((ops.zip ks).map fun q=>cls P q.1.op (kgO q.2))=cl at h
    cases hb:(YY ops cl).ok && Nat.ble ops.length 64 with
    |false=>rw [hb] at h;cases h
    | true =>
      rw [hb] at h
      simp only [Xl] at hb
      obtain ⟨l,h1,h2⟩:=Xp.1 (show (_:Option (List KS)).map (KR.drawn ops.length)=some r from h)
      exact ⟨ks,cl,l,Z,hcl.symm,h2.symm,hb.1,Xc hb.2,h1⟩
theorem QhR {ops:List Oper} {cl:List Nat} (h:(YY ops cl).ok=true):QgU ops []=true∧Qgj ops (Qlb ops []) ops 0=true∧QeR ops cl (Qlb ops []) (YY ops cl).steps [] []=true∧∃late,Qvv ops (Qlb ops []) (YY ops cl).conc (YY ops cl).steps late=true:=by
  have h':=h
  unfold YY at h'
  simp only [Xl] at h'
  exact ⟨h'.1.1.1,h'.1.1.2,h'.2,_,h'.1.2⟩
theorem Qq7 (hm:P.follows .mixedOrders=true) {call:Jp} (hcall:Qbe P call) {N id:Nat} {ops:List Oper} {l:List KS} (hN:N<=512) (hr:Qdm P N ops true=some (.drawn ops.length l)) (hk:∀s ∈ l,s.k<=3) {F F':AF} {h h':AH} {σ:Sg} {w:World} {f:Fr} {Q:QbB}
    (hd:Qm2 call ops.length l F h= .ok F' h') (H:G8 σ h w) (hF:GG σ F f) (hQ:∀τ w' f',Go1 σ h w τ h' w'->GG τ F' f'->Q .normal f' w'):W P N (.region id ops.toArray true) Q f w:=by
  obtain ⟨ks,cl,l',h1,h2,h3,h4,h5,h6⟩:=QgI hr
  cases h3
  obtain ⟨p1,p2,p3,_⟩:=QhR h4
  obtain ⟨hroom,hd⟩:=QtJ (show Kk (QgA h.next) (Qku call l F h.next ⟨Yv ops.length h.next,h.blk⟩) .no= .ok F' h' from hd)
  have hd:Qnh call h.next l F ⟨Yv ops.length h.next,h.blk⟩ [⟨Yv ops.length h.next,h.blk⟩] []= .ok F' h':=hd
  obtain ⟨st,e1,e2,e3,e4⟩:=Qkv (X:=⟨F,⟨Yv ops.length h.next,h.blk⟩,[⟨Yv ops.length h.next,h.blk⟩],[]⟩) hd
  have hmap:l.map Qg7=(YY ops cl).steps:=QhE (fun a b h=>by
    obtain ⟨o,_,rfl⟩:=Xp.1 h
    exact Qmv o a _) h6
  have hks:∀s ∈ (YY ops cl).steps,s.k<=3:=by
    intro s hs
    rw [<-hmap] at hs
    obtain ⟨t,ht,rfl⟩:=X5.1 hs
    exact hk t ht
  obtain ⟨C,hok⟩:=QnQ (call:=call) (base:=h.next) (st:=st) rfl h1 h2 p1 p2 p3 (fun s hs=>by have:=hks s hs;omega) (fun p s hp h4=>by have:=hks s (List.mem_of_getElem? hp);omega) h6 e2
  have:=Qe2 hroom
  exact QnO C (fun p s hp h=>by have:=hk s (List.mem_of_getElem? hp);omega) hm hok hcall hN (by omega) Z (by rw [e1]) (by rw [e1]) Z (by rw [e1]) e3 e4 H hF hQ
end
end Go.Pw
/- -/
namespace Go.Pw
open Classical
structure Eqv (h h':AH):Prop where
  nx:h.next=h'.next
  gt:∀k,h.get k=h'.get k
theorem Eqv.refl (h:AH):Eqv h h:=⟨rfl,fun _=>rfl⟩
theorem Eqv.symm {h h':AH} (e:Eqv h h'):Eqv h' h:=⟨e.nx.symm,fun k=>(e.gt k).symm⟩
theorem Eqv.trans {h h' h'':AH} (e:Eqv h h') (f:Eqv h' h''):Eqv h h'':=⟨e.nx.trans f.nx,fun k=>(e.gt k).trans (f.gt k)⟩
theorem Qi1 {h h':AH} {k:Id} (e:h.get k=h'.get k):h.cells k=h'.cells k:=by
  show ob (hget k h.blk) QrK=ob (hget k h'.blk) QrK
  rw [show hget k h.blk=hget k h'.blk from e]
theorem Go1.eqv {σ τ:Sg} {h h' h'':AH} {w w':World} (g:Go1 σ h w τ h' w') (e:Eqv h' h''):Go1 σ h w τ h'' w':=by
  have hn:=e.nx
  have hg:=e.gt
  have R:=g.rel
  refine ⟨g.le,⟨by rw [<-hn];exact R.nb,by rw [<-hn];exact R.nx,fun k b hk=>R.bl k b (by rw [hg];exact hk),fun k b m hk hm=>by rw [<-hn];exact R.an k b m (by rw [hg];exact hk) hm,fun k m bk bm pk pm hne hk hm=>R.ap k m bk bm pk pm hne (by rw [hg];exact hk) (by rw [hg];exact hm),fun k m cs al hy bm hk hm=>R.tp k m cs al hy bm (by rw [hg];exact hk) (by rw [hg];exact hm)⟩,
    g.os,g.tape,g.output,g.drawn,g.size,g.keep,fun b hb hf m bm pm hm=>g.cl b hb hf m bm pm (by rw [hg];exact hm),by rw [<-hn];exact g.nxt,g.old,fun k hk ⟨m,bm,q1,q2⟩=>g.old2 k hk ⟨m,bm,by rw [hg];exact q1,q2⟩⟩
theorem Qc9 {sz:Nat} {call:Jp} {a:List AV} {h h1:AH} {v:AV}:Y7 sz call a h= .ok v h1 ↔
    v= .un∧∃q cs c,Qg6 (hd a)=some q∧QbQ (hd2 a)=some cs∧QbY sz cs=true∧h.cells q.1=some c∧c.top=true∧Qch (Nat.add q.2 (Qej cs)) c.cs=true∧h1=AH.put (h.kills c.al) q.1 (.cells (over q.2 cs c.cs) true [] c.hy):=by
  constructor
  · intro hr
    obtain ⟨x,h2,h3⟩:=Qnb (show oH (ob (Qg6 (hd a)) fun q=>ob (QbQ (hd2 a)) fun cs=>Kk (QbY sz cs) (Qig q.1 q.2 cs h) none) (RS.ok .un)= .ok v h1 from hr)
    cases h3
    obtain ⟨q,h4,h5⟩:=Q1 h2
    obtain ⟨cs,h6,h7⟩:=Q1 h5
    obtain ⟨h8,h9⟩:=QB h7
    obtain ⟨c,h10,h11⟩:=Q1 h9
    obtain ⟨h12,h13⟩:=QB h11
    obtain ⟨h14,h15⟩:=QB h13
    cases h15
    exact ⟨Z,q,cs,c,h4,h6,h8,h10,h12,h14,Z⟩
  · rintro ⟨rfl,q,cs,c,h4,h6,h8,h10,h12,h14,rfl⟩
    show oH (ob (Qg6 (hd a)) fun q=>ob (QbQ (hd2 a)) fun cs=>Kk (QbY sz cs) (ob (h.cells q.1) fun c =>
      Kk c.top (Kk (Qch (Nat.add q.2 (Qej cs)) c.cs) (some (AH.put (h.kills c.al) q.1 (.cells (over q.2 cs c.cs) true [] c.hy))) none) none) none) (RS.ok .un)=_
    rw [h4]
    show oH (ob (QbQ (hd2 a)) fun cs=>Kk (QbY sz cs) (ob (h.cells q.1) fun c =>
      Kk c.top (Kk (Qch (Nat.add q.2 (Qej cs)) c.cs) (some (AH.put (h.kills c.al) q.1 (.cells (over q.2 cs c.cs) true [] c.hy))) none) none) none) (RS.ok .un)=_
    rw [h6]
    show oH (Kk (QbY sz cs) (ob (h.cells q.1) fun c =>
      Kk c.top (Kk (Qch (Nat.add q.2 (Qej cs)) c.cs) (some (AH.put (h.kills c.al) q.1 (.cells (over q.2 cs c.cs) true [] c.hy))) none) none) none) (RS.ok .un)=_
    rw [h8,h10]
    show oH (Kk c.top (Kk (Qch (Nat.add q.2 (Qej cs)) c.cs) (some (AH.put (h.kills c.al) q.1 (.cells (over q.2 cs c.cs) true [] c.hy))) none) none) (RS.ok .un)=_
    rw [h12]
    show oH (Kk (Qch (Nat.add q.2 (Qej cs)) c.cs) (some (AH.put (h.kills c.al) q.1 (.cells (over q.2 cs c.cs) true [] c.hy))) none) (RS.ok .un)=_
    rw [h14]
    rfl
theorem QdT {h:AH} {al:List Id} {k j:Id} {b:AB}:(AH.put (h.kills al) k b).get j=if j=k then some b else if j ∈ al then none else h.get j:=by
  rw [Qai]
  split
  · rfl
  · exact Qbo
theorem QoV {sz:Nat} {call:Jp} {a:List AV} {h h' h1:AH} {v:AV} (e:Eqv h h') (hr:Y7 sz call a h= .ok v h1):∃h1',Y7 sz call a h'= .ok v h1'∧Eqv h1 h1':=by
  obtain ⟨hv,q,cs,c,k1,k2,k3,k4,k5,k6,rfl⟩:=Qc9.1 hr
  refine ⟨_,Qc9.2 ⟨hv,q,cs,c,k1,k2,k3,by rw [<-Qi1 (e.gt q.1)];exact k4,k5,k6,Z⟩,?_,?_⟩
  · rw [QcQ,QcQ,Qbh,Qbh];exact e.nx
  · intro k;rw [QdT,QdT,e.gt]
theorem Qoe {s1 s2:Nat} {call:Jp} {a1 a2:List AV} {h h1 h12:AH} {v1 v2:AV} {t1 t2:List Id} (r1:Y7 s1 call a1 h= .ok v1 h1) (r2:Y7 s2 call a2 h1= .ok v2 h12) (u1:Qbd a1 h=some t1) (u2:Qbd a2 h1=some t2) (hd:∀k ∈ t2,k ∉ t1) :
    Qbd a2 h=some t2∧∃h2,Y7 s2 call a2 h= .ok v2 h2∧∃h21,Y7 s1 call a1 h2= .ok v1 h21∧Eqv h21 h12:=by
  obtain ⟨hv1,q1,cs1,c1,k1,k2,k3,k4,k5,k6,rfl⟩:=Qc9.1 r1
  obtain ⟨hv2,q2,cs2,c2,l1,l2,l3,l4,l5,l6,rfl⟩:=Qc9.1 r2
  have e1:t1=q1.1::c1.al:=by
    have:Qbd a1 h=some (q1.1::c1.al):=by
      show (ob (Qg6 (Go.Pw.hd a1)) fun q=>ob (h.cells q.1) fun c=>some (q.1::c.al))=_
      rw [k1];show (ob (h.cells q1.1) fun c=>some (q1.1::c.al))=_;rw [k4];rfl
    rw [u1] at this;exact Zu this
  have e2:t2=q2.1::c2.al:=by
    have:Qbd a2 (AH.put (h.kills c1.al) q1.1 (.cells (over q1.2 cs1 c1.cs) true [] c1.hy))=some (q2.1::c2.al):=by
      show (ob (Qg6 (Go.Pw.hd a2)) fun q=>ob ((AH.put (h.kills c1.al) q1.1 (.cells (over q1.2 cs1 c1.cs) true [] c1.hy)).cells q.1) fun c=>some (q.1::c.al))=_
      rw [l1];show (ob ((AH.put (h.kills c1.al) q1.1 (.cells (over q1.2 cs1 c1.cs) true [] c1.hy)).cells q2.1) fun c=>some (q2.1::c.al))=_;rw [l4];rfl
    rw [u2] at this;exact Zu this
  subst e1 e2
  have n1:q2.1 ∉ q1.1::c1.al:=hd _ List.mem_cons_self
  have n2:q1.1 ∉ q2.1::c2.al:=fun hm=>hd _ hm List.mem_cons_self
  simp only [Xr,not_or] at n1 n2
  have g2:h.cells q2.1=some c2:=by
    rw [<-l4]
    refine Qi1 ?_
    rw [QdT,if_neg n1.1,if_neg n1.2]
  have g1:(AH.put (h.kills c2.al) q2.1 (.cells (over q2.2 cs2 c2.cs) true [] c2.hy)).cells q1.1=some c1:=by
    rw [<-k4]
    refine Qi1 ?_
    rw [QdT,if_neg n2.1,if_neg n2.2]
  refine ⟨?_,_,Qc9.2 ⟨hv2,q2,cs2,c2,l1,l2,l3,g2,l5,l6,Z⟩,_,Qc9.2 ⟨hv1,q1,cs1,c1,k1,k2,k3,g1,k5,k6,Z⟩,?_,?_⟩
  · show (ob (Qg6 (Go.Pw.hd a2)) fun q=>ob (h.cells q.1) fun c=>some (q.1::c.al))=_
    rw [l1];show (ob (h.cells q2.1) fun c=>some (q2.1::c.al))=_;rw [g2];rfl
  · simp only [QcQ,Qbh]
  · intro k
    rw [QdT,QdT,QdT,QdT]
    by_cases a1:k=q1.1
    · have:k≠q2.1:=by rw [a1];exact n2.1
      have h3:k ∉ c2.al:=by rw [a1];exact n2.2
      simp [a1,n2.1,n2.2]
    · by_cases a2:k=q2.1
      · simp [a2,n1.1,n1.2]
      · simp only [if_neg a1,if_neg a2]
        by_cases a3:k ∈ c1.al
        · by_cases a4:k ∈ c2.al
          · simp [a3,a4]
          · simp [a3,a4]
        · by_cases a4:k ∈ c2.al
          · simp [a3,a4]
          · simp [a3,a4]
end Go.Pw
/- -/
namespace Go.Pw
open Classical
theorem Qn3 {x:Id}:∀{l:List Id},x ∈ l->Qrq x l=true
  | y ::l,h=>by
    show @Bool.rec (fun _=>Bool) (Qrq x l) true (QiT x y)=true
    rcases Xr.1 h with rfl |h
    · have hd:∀d:D8,eqD d d=true:=fun d=>by unfold eqD;simp
      have:QiT x x=true:=by unfold QiT;rw [hd,hd,hd,hd,hd];rfl
      rw [this]
    · rw [Qn3 h];cases QiT x y <;> rfl
section
variable {P:Program} {N:Nat} {call:Jp} {ops:List Oper} {l:List KS} {base:Id} {st:Nat->DX}
variable {σ0:Sg} {hO:AH} {w0:World} {f0:Fr} {D:Nat->Bool} {g:Fr} {w:World} {σ:Sg} {p0:Nat}
theorem G6.tch (C:G6 P N call ops l base st) {x:Id} {a:Nat}:∀{b:Nat},a<=b->b<=l.length->x ∈ (st a).tch->x ∈ (st b).tch
  | 0, hab, _, hx => by have:a=0:=by omega
                        subst this;exact hx
  | b + 1,hab,hb,hx=>by
    rcases Nat.lt_or_ge b a with h |h
    · have:a=b+1:=by omega
      subst this;exact hx
    · have ih:=C.tch h (by omega) hx
      have hlt:b<l.length:=by omega
      obtain ⟨s,hs⟩:∃s,l[b]?=some s:=⟨l[b],by simp [hlt]⟩
      rcases C.step b s hs with ⟨_,hY⟩ |⟨_,hdo⟩
      · rw [hY];exact ih
      · unfold DDo at hdo
        split at hdo
        · obtain ⟨_,_,_,_,hY⟩:=hdo;rw [hY];exact ih
        · obtain ⟨_,_,_,_,_,_,_,hY⟩:=hdo;rw [hY];exact ih
        · obtain ⟨_,_,_,_,hY⟩:=hdo;rw [hY];exact ih
        · obtain ⟨_,_,_,t,_,_,hY,c1,c2⟩:=hdo
          rw [hY]
          show x ∈ t
          cases hc:s.conc with
          |false=>rw [c2 hc];exact ih
          | true =>
            obtain ⟨t',_,e⟩:=c1 hc
            rw [e,Qdo];exact List.mem_append_right _ ih
        · obtain ⟨_,_,_,_,_,_,_,_,hY⟩:=hdo;rw [hY];exact ih
structure Dl (l:List KS) (pT m:Nat):Prop where
  le:m<=l.length
  kinds:∀(p:Nat) s,pT<=p->p<m->l[p]?=some s->s.k=0∨s.k=1∨(s.k=3∧s.conc=true∧∃sz,∀e,eOf s.g=some e->e=Y7 sz)
theorem Dl.same (C:G6 P N call ops l base st) {pT m:Nat} (T:Dl l pT m) {a:Nat} (ha:pT<=a):∀{b:Nat},a<=b->b<=m->(∀(q:Nat) s,a<=q->q<b->l[q]?=some s->s.k≠3)->(st b).h=(st a).h
  | 0, hab, _, _ => by have:a=0:=by omega
                       subst this;rfl
  | b + 1,hab,hb,hn=>by
    rcases Nat.lt_or_ge b a with h |h
    · have:a=b+1:=by omega
      subst this;rfl
    · have ih:=T.same C ha h (by omega) (fun q s h1 h2=>hn q s h1 (by omega))
      have hlt:b<l.length:=by have:=T.le;omega
      obtain ⟨s,hs⟩:∃s,l[b]?=some s:=⟨l[b],by simp [hlt]⟩
      have h3:=hn b s h (Nat.lt_succ_self b) hs
      rcases C.step b s hs with ⟨_,hY⟩ |⟨_,hdo⟩
      · rw [hY];exact ih
      · unfold DDo at hdo
        rcases T.kinds b s (by omega) (by omega) hs with e |e |⟨e,_⟩
        · rw [e] at hdo;obtain ⟨_,_,_,_,hY⟩:=hdo;rw [hY];exact ih
        · rw [e] at hdo;obtain ⟨_,_,_,_,_,_,_,hY⟩:=hdo;rw [hY];exact ih
        · exact absurd e h3
theorem Dl.back1 (C:G6 P N call ops l base st) {pT m:Nat} (T:Dl l pT m) {al:List AV} {szl:Nat} {vl:AV} {t:List Id} (hdis:∀k ∈ t,k ∉ (st m).tch) {p:Nat} {s:KS} (hp:pT<=p) (hpm:p<m) (hs:l[p]?=some s) (hk:s.k=3) (hw:QcN (st p).F s.gd=some true)
    {X1:AH} (h1:Y7 szl call al (st (p+1)).h= .ok vl X1) (h2:Qbd al (st (p+1)).h=some t) :
    Qbd al (st p).h=some t∧∃X e v,Y7 szl call al (st p).h= .ok vl X∧eOf s.g=some e∧st (p+1)=⟨(st p).F.put s.d v,(st (p+1)).h,(st (p+1)).hs,(st (p+1)).tch⟩∧∃Y,e call (s.r.f (st p).F) X= .ok v Y∧Eqv Y X1:=by
  rcases T.kinds p s hp hpm hs with e |e |⟨_,hc,sz,hst⟩
  · omega
  · omega
  · rcases C.step p s hs with ⟨hw',_⟩ |⟨_,hdo⟩
    · rw [hw] at hw';cases hw'
    · unfold DDo at hdo
      rw [hk] at hdo
      obtain ⟨e,v,h',tt,g1,g2,hY,c1,_⟩:=hdo
      obtain ⟨t',u1,u2⟩:=c1 hc
      have he:=hst e g1
      subst he
      have eh:(st (p+1)).h=h':=by rw [hY]
      have et:(st (p+1)).tch=tt:=by rw [hY]
      rw [eh] at h1 h2
      obtain ⟨k1,X,k2,Y,k3,k4⟩:=Qoe g2 h1 u1 h2 (fun k hk hm=>hdis k hk (C.tch (a:=p+1) (b:=m) (by omega) T.le (by rw [et,u2,Qdo];exact List.mem_append_left _ hm)))
      exact ⟨k1,X,_,v,k2,g1,by rw [hY],Y,k3,k4⟩
theorem Dl.back (C:G6 P N call ops l base st) {pT m:Nat} (T:Dl l pT m) {al:List AV} {szl:Nat} {vl:AV} {t:List Id} (hdis:∀k ∈ t,k ∉ (st m).tch) {Xm:AH} (h1:Y7 szl call al (st m).h= .ok vl Xm) (h2:Qbd al (st m).h=some t) :
    ∀(d p:Nat),p+d=m->pT<=p->Qbd al (st p).h=some t∧∃X,Y7 szl call al (st p).h= .ok vl X
  | 0,p,he,hp=>by
    have:p=m:=by omega
    subst this;exact ⟨h2,Xm,h1⟩
  | d + 1,p,he,hp=>by
    obtain ⟨i1,X1,i2⟩:=T.back C hdis h1 h2 d (p+1) (by omega) (by omega)
    have hlt:p<l.length:=by have:=T.le;omega
    obtain ⟨s,hs⟩:∃s,l[p]?=some s:=⟨l[p],by simp [hlt]⟩
    by_cases hk:s.k=3
    · rcases C.step p s hs with ⟨_,hY⟩ |⟨hw,_⟩
      · have e:(st (p+1)).h=(st p).h:=by rw [hY]
        rw [e] at i1 i2
        exact ⟨i1,X1,i2⟩
      · obtain ⟨a,X,_,_,b,_⟩:=T.back1 C hdis hp (by omega) hs hk hw i2 i1
        exact ⟨a,X,b⟩
    · have e:=T.same C hp (Nat.le_succ p) (by omega) (fun q s' a b c=>by
        have:q=p:=by omega
        subst this
        rw [hs] at c;cases c;exact hk)
      rw [e] at i1 i2
      exact ⟨i1,X1,i2⟩
end
end Go.Pw
/- -/
namespace Go.Pw
open Classical
section
variable {P:Program} {N:Nat} {call:Jp} {ops:List Oper} {l:List KS} {base:Id} {st:Nat->DX}
variable {σ0:Sg} {hO:AH} {w0:World} {f0:Fr} {D:Nat->Bool} {g:Fr} {w:World} {σ:Sg} {p0:Nat}
structure JL (call:Jp) (ops:List Oper) (l:List KS) (st:Nat->DX) (σ0:Sg) (hO:AH) (w0:World) (f0:Fr) (pT m szl:Nat) (al:List AV) (vl:AV) (D:Nat->Bool) (g:Fr) (w:World) (σ:Sg) (p0:Nat) (Lh:AH):Prop where
  bt:pT<=p0
  le:p0<=m
  pre:∀(p:Nat) s,p<p0->l[p]?=some s->D s.i=true
  chn:∀(p:Nat) s,p0<=p->l[p]?=some s->s.k=3->D s.i=false
  oth:∀(p:Nat) s,l[p]?=some s->s.k≠0->s.k≠3->D s.i=true
  fr:JF ops l st σ0 f0 D g σ
  go:Go1 σ0 hO w0 σ Lh w
  lx:∃X,Y7 szl call al (st p0).h= .ok vl X∧Eqv X Lh
variable {pT m szl:Nat} {al:List AV} {vl:AV} {Lh:AH}
theorem JL.head (C:G6 P N call ops l base st) (hcall:Qbe P call) (hN:N<=512) (hF:GG σ0 (st 0).F f0) (T:Dl l pT m) (hm1:m+1=l.length) {t:List Id} (hdis:∀k ∈ t,k ∉ (st m).tch) {Xm:AH} (hX:Y7 szl call al (st m).h= .ok vl Xm) (ht:Qbd al (st m).h=some t) (hkm:∀s,l[m]?=some s->s.k=4)
    (J:JL call ops l st σ0 hO w0 f0 pT m szl al vl D g w σ p0 Lh) {i:Nat} {o:Oper} (ho:ops[i]?=some o) (hD:D i=false) (hdep:∀d ∈ Kf ops i,D d=true) :
    if Region.wanted o (Jg ops.toArray g) then Exec P (ev g) o w fun v w'=>∃τ p1 L1,JL call ops l st σ0 hO w0 f0 pT m szl al vl (Qeh D i) (JU g o.dst v) w' τ p1 L1 else ∃τ p1 L1,JL call ops l st σ0 hO w0 f0 pT m szl al vl (Qeh D i) (JU g o.dst undef) w τ p1 L1:=by
  obtain ⟨p,s,hp,rfl⟩:=C.cover i o ho
  obtain ⟨o',ho',hs⟩:=C.isop p s hp
  rw [ho] at ho';cases ho'
  have hpp:p0<=p:=by
    rcases Nat.lt_or_ge p p0 with h |h
    · have:=J.pre p s h hp;rw [hD] at this;cases this
    · exact h
  have hpl:=(Xj.1 hp).1
  have hpm:p<m:=by
    rcases Nat.lt_or_ge p m with h |h
    · exact h
    · have:p=m:=by omega
      subst this
      have h4:=hkm s hp
      have:=J.oth p s hp (by omega) (by omega)
      rw [hD] at this;cases this
  have hk:s.k=0∨s.k=3:=by
    rcases Nat.decEq s.k 0 with h |h
    · rcases Nat.decEq s.k 3 with h' |h'
      · have:=J.oth p s hp h h';rw [hD] at this;cases this
      · exact .inr h'
    · exact .inl h
  have same:∀{u:Value},s.k=0->(∀d,o.dst=some d->Gy σ ((st (p+1)).F.at (g3 d)) u)->JL call ops l st σ0 hO w0 f0 pT m szl al vl (Qeh D s.i) (JU g o.dst u) w σ p0 Lh:=by
    intro u h0 hu
    obtain ⟨u1,u2,u3⟩:=J.fr.fwd C (Sg.le_refl σ) hp ho hD hdep hu
    refine ⟨J.bt,J.le,fun q t h1 h2=>QbI (J.pre q t h1 h2),fun q t h1 h2 h3=>?_,fun q t h2 h3 h4=>QbI (J.oth q t h2 h3 h4),⟨J.fr.gle,u1,u2,u3⟩,J.go,J.lx⟩
    have:t.i≠s.i:=fun e=>by have:=C.uniq q p t s h2 hp e;subst this;rw [hp] at h2;cases h2;omega
    rw [Qcj this];exact J.chn q t h1 h2 h3
  have next:∀{u:Value} {τ:Sg} {w':World} {L1 X1:AH},s.k=3->Go1 σ0 hO w0 τ L1 w'->Sg.le σ τ->Y7 szl call al (st (p+1)).h= .ok vl X1->Eqv X1 L1->(∀d,o.dst=some d->Gy τ ((st (p+1)).F.at (g3 d)) u)->JL call ops l st σ0 hO w0 f0 pT m szl al vl (Qeh D s.i) (JU g o.dst u) w' τ (p+1) L1:=by
    intro u τ w' L1 X1 h3 G hle hX1 he hu
    obtain ⟨u1,u2,u3⟩:=J.fr.fwd C hle hp ho hD hdep hu
    refine ⟨by have:=J.bt;omega,hpm,fun q t h1 h2=>?_,fun q t h1 h2 h4=>?_,fun q t h2 h4 h5=>QbI (J.oth q t h2 h4 h5),⟨J.fr.gle.trans hle,u1,u2,u3⟩,G,X1,hX1,he⟩
    · rcases Nat.lt_or_ge q p with h |h
      · exact QbI (J.fr.anc (C.eff p s hp h3 q t h h2) hdep)
      · have:q=p:=by omega
        subst this
        rw [hp] at h2;cases h2;exact Qe6
    · have:t.i≠s.i:=fun e=>by have:=C.uniq q p t s h2 hp e;omega
      rw [Qcj this];exact J.chn q t (by omega) h2 h4
  have heq:s.k=3->(st p).h=(st p0).h:=fun h3=>T.same C J.bt hpp (by omega) (fun q t h1 h2 h4 h5=>by
    have:=J.fr.anc (C.eff p s hp h3 q t h2 h4) hdep
    rw [J.chn q t h1 h4 h5] at this;cases this)
  obtain ⟨X,hx1,hx2⟩:=J.lx
  rcases C.step p s hp with ⟨hw,hY⟩ |⟨hw,hdo⟩
  · rw [J.fr.guard C hN hp ho hdep hs hw]
    rw [if_neg (by decide)]
    have hv:∀(d:Nat),o.dst=some d->Gy σ ((st (p+1)).F.at (g3 d)) undef:=by
      intro d hd
      rw [hY]
      show Gy σ (((st p).F.put s.d .un).at (g3 d)) undef
      rw [QeP hN hs hd];exact .un
    rcases hk with e |e
    · exact ⟨σ,p0,Lh,same e hv⟩
    · have eh:(st (p+1)).h=(st p0).h:=by rw [hY];exact heq e
      exact ⟨σ,p+1,Lh,next e J.go (Sg.le_refl _) (by rw [eh];exact hx1) hx2 hv⟩
  · rw [J.fr.guard C hN hp ho hdep hs hw,if_pos rfl]
    have real:∀{x:KG},s.g=x->x≠QjG->∃lk,(Ye o.op).mapM Qg5=some lk∧s.r=QlT lk∧Qf4 P o.op=some x:=by
      intro x hx hne
      rcases hs.real with h |h
      · rw [hx] at h;exact h
      · exact absurd (hx.symm.trans h) hne
    rcases hk with e |e
    · unfold DDo at hdo
      rw [e] at hdo
      obtain ⟨q,v,g1,g2,hY⟩:=hdo
      have hq:=QoD g1
      obtain ⟨lk,r1,r2,r3⟩:=real hq (fun hf=>by have hf:KG.q q=KG.q (fun _ _=>none):=hf;injection hf with hf;rw [hf] at g2;cases g2)
      have hqu:=QoG r3
      have hc:=hs.quiet e
      rw [hq] at hc
      rw [r2] at g2
      rw [Ql4 hqu hc _ _ Lh] at g2
      refine Qgs hqu o (ev g) σ _ w _ v _ Z J.go.rel (J.fr.args C hN hF hp ho hD hdep r1) g2 fun u hu=>⟨σ,p0,Lh,same e fun d hd=>?_⟩
      rw [hY]
      show Gy σ (((st p).F.put s.d v).at (g3 d)) u
      rw [QeP hN hs hd];exact hu
    · obtain ⟨b1,X1,b2⟩:=T.back C hdis hX ht (m - (p+1)) (p+1) (by omega) (by have:=J.bt;omega)
      obtain ⟨_,X',ef,v,c1,g1,hY,Y,c2,c3⟩:=T.back1 C hdis (by have:=J.bt;omega) hpm hp e hw b2 b1
      rw [heq e,hx1] at c1
      cases c1
      have hq:=QjV g1
      obtain ⟨lk,r1,r2,r3⟩:=real hq (by intro h;cases h)
      have hef:=QjQ r3
      obtain ⟨sz,hsz⟩:∃sz,ef=Y7 sz:=by
        rcases T.kinds p s (by have:=J.bt;omega) hpm hp with h |h |⟨_,_,sz,h⟩
        · omega
        · omega
        · exact ⟨sz,h ef g1⟩
      subst hsz
      obtain ⟨Y',d1,d2⟩:=QoV hx2 c2
      rw [r2] at d1
      have hex:=Qfe hef call hcall o (ev g) σ Lh w _ v Y' rfl (fun _=>rfl) J.go.rel (J.fr.args C hN hF hp ho hD hdep r1) d1
      refine hex.mono ?_
      rintro u w' ⟨τ,hgo,hu⟩
      refine ⟨τ,p+1,Y',next e (J.go.trans hgo) hgo.le b2 (c3.symm.trans d2) fun d hd=>?_⟩
      rw [hY]
      show Gy τ (((st p).F.put s.d v).at (g3 d)) u
      rw [QeP hN hs hd];exact hu
theorem JJ.late (C:G6 P N call ops l base st) (hcall:Qbe P call) (hN:N<=512) (hF:GG σ0 (st 0).F f0) (hm1:m+1=l.length) {t:List Id} (hdis:∀k ∈ t,k ∉ (st m).tch) {Xm:AH} (hX:Y7 szl call al (st m).h= .ok vl Xm) (ht:Qbd al (st m).h=some t)
    (J:JJ ops l base st σ0 hO w0 f0 D g w σ p0) (T:Dl l p0 m) {s:KS} {o:Oper} (hp:l[m]?=some s) (hk:s.k=4) (ho:ops[s.i]?=some o) (hD:D s.i=false) (hdep:∀d ∈ Kf ops s.i,D d=true) (hw:QcN (st m).F s.gd=some true) (hal:al=s.r.f (st m).F) (hg:eOf s.g=some (Y7 szl)) (hFm:(st (m+1)).F=(st m).F.put s.d vl)
    (hoth:∀(p:Nat) t,l[p]?=some t->t.k≠0->t.k≠3->t.k≠4->D t.i=true) :
    if Region.wanted o (Jg ops.toArray g) then Exec P (ev g) o w fun v w'=>∃τ p1 L1,JL call ops l st σ0 hO w0 f0 p0 m szl al vl (Qeh D s.i) (JU g o.dst v) w' τ p1 L1 else False:=by
  obtain ⟨o',ho',hs⟩:=C.isop m s hp
  rw [ho] at ho';cases ho'
  have hpp:=J.pos hp hD
  rw [J.toF.guard C hN hp ho hdep hs hw,if_pos rfl]
  obtain ⟨lk,r1,r2,r3⟩:∃lk,(Ye o.op).mapM Qg5=some lk∧s.r=QlT lk∧Qf4 P o.op=some (.e (Y7 szl)):=by
    have:=QjV hg
    rcases hs.real with h |h
    · rw [this] at h;exact h
    · rw [this] at h;cases h
  have hef:=QjQ r3
  obtain ⟨_,X,b2⟩:=T.back C hdis hX ht (m - p0) p0 (by omega) (Xi _)
  have b2':=b2
  rw [hal,r2] at b2'
  have hex:=Qfe hef call hcall o (ev g) σ (st p0).h w _ vl X rfl (fun _=>rfl) J.go.rel (J.toF.args C hN hF hp ho hD hdep r1) b2'
  refine hex.mono ?_
  rintro u w' ⟨τ,hgo,hu⟩
  obtain ⟨u1,u2,u3⟩:=J.toF.fwd C hgo.le hp ho hD hdep (u:=u) (fun d hd=>by
    rw [hFm,QeP hN hs hd];exact hu)
  refine ⟨τ,p0,X,Xi _,hpp,fun q t h1 h2=>QbI (J.pre q t h1 h2),fun q t h1 h2 h3=>?_,fun q t h2 h3 h4=>?_,⟨J.go.le.trans hgo.le,u1,u2,u3⟩,J.go.trans hgo,X,b2,Eqv.refl X⟩
  · have:t.i≠s.i:=fun e=>by have:=C.uniq q m t s h2 hp e;subst this;rw [hp] at h2;cases h2;omega
    rw [Qcj this];exact J.chn q t h1 h2 h3
  · by_cases h5:t.k=4
    · have h6:=C.last q t h2 h5
      have:q=m:=by omega
      subst this
      rw [hp] at h2;cases h2;exact Qe6
    · exact QbI (hoth q t h2 h3 h4 h5)
end
end Go.Pw
/- -/
namespace Go.Pw
open Classical
theorem Qn7 {ops:List Oper} {li:Nat} {lt conc:List Nat}:∀{l:List DS},Qnd ops li lt conc l=true->∀(p:Nat) s,l[p]?=some s ->
    s.k<=4∧(s.k=1->YH s.i lt=true)∧(s.k=2->∃(p':Nat) (t:DS),p<p'∧l[p']?=some t∧t.k=3∧YH t.i lt=true) ∧
      (s.k=3->YH s.i lt=true∨(YH s.i conc=true∧Qdy ops s.i=true))∧(s.k=4->p+1=l.length∧s.i=li∧Qdy ops s.i=true)
  |[],_,p,s,hp=>by simp at hp
  | a ::r,h,p,s,hp=>by
    unfold Qnd at h
    simp only [Xl] at h
    obtain ⟨h1,h2⟩:=h
    cases p with
    | succ p =>
      obtain ⟨k1,k2,k3,k4,k5⟩:=Qn7 h2 p s (by simpa using hp)
      refine ⟨k1,k2,fun e=>?_,k4,fun e=>?_⟩
      · obtain ⟨p',t,q1,q2,q3,q4⟩:=k3 e
        exact ⟨p'+1,t,by omega,by simpa using q2,q3,q4⟩
      · obtain ⟨q1,q2⟩:=k5 e
        exact ⟨by simp;omega,q2⟩
    | zero =>
      simp at hp
      subst hp
      have hk:a.k<=4:=by
        rcases Nat.lt_or_ge 4 a.k with h |h
        · obtain ⟨m,hm⟩:∃m,a.k=m+5:=⟨a.k - 5,by omega⟩
          rw [hm] at h1;cases h1
        · exact h
      refine ⟨hk,fun e=>?_,fun e=>?_,fun e=>?_,fun e=>?_⟩ <;> rw [e] at h1
      · exact h1
      · obtain ⟨t,ht,hb⟩:=List.any_eq_true.1 h1
        simp only [Xl] at hb
        obtain ⟨q,hq⟩:=List.mem_iff_getElem?.1 ht
        exact ⟨q+1,t,by omega,by simpa using hq,Xh hb.1,hb.2⟩
      · simpa using h1
      · simp only [Xl] at h1
        refine ⟨?_,Xh h1.1.2,h1.2⟩
        have:r=[]:=by
          cases r with
          |nil=>rfl
          |cons x r=>cases h1.1.1
        rw [this];rfl
section
variable {P:Program} {N:Nat} {call:Jp} {ops:List Oper} {l:List KS} {base:Id} {st:Nat->DX}
variable {σ0:Sg} {hO:AH} {w0:World} {f0:Fr} {D:Nat->Bool} {g:Fr} {w:World} {σ:Sg} {p0:Nat}
theorem JF.final (C:G6 P N call ops l base st) (hN:N<=512) (J:JF ops l st σ0 f0 D g σ) (hF:GG σ0 (st 0).F f0) (hD:∀(q:Nat) t,l[q]?=some t->D t.i=true):GG σ (st l.length).F g:=by
  intro u hu
  by_cases hw:∃(i':Nat) (o':Oper),ops[i']?=some o'∧o'.dst=some u
  · obtain ⟨i',o',h1,h2⟩:=hw
    obtain ⟨p',s',g1,rfl⟩:=C.cover i' o' h1
    have hpl:=(Xj.1 g1).1
    rw [C.frames hN hu (a:=p'+1) (b:=l.length) hpl (Xi _)]
    · exact J.frm p' s' o' u g1 (hD p' s' g1) h1 h2
    · intro q t o a1 a2 a3 a4 a5
      have:=C.uniq q p' t s' a3 g1 (C.dsts _ _ _ _ _ a4 h1 a5 h2)
      omega
  · rw [C.frames hN hu (a:=0) (b:=l.length) (X7 _) (Xi _) (fun q t o _ _ _ a4 a5=>hw ⟨_,o,a4,a5⟩)]
    rw [J.ini u fun i o _ a4 a5=>hw ⟨i,o,a4,a5⟩]
    exact (hF.mono J.gle) u hu
theorem JJ.start (C:G6 P N call ops l base st) (hb:base.num+ops.length<=30000) {h:AH} (hnO:h.next=base) (hh0:(st 0).h=⟨Yv ops.length base,h.blk⟩) {σ:Sg} {w:World} {f:Fr} (H:G8 σ h w):JJ ops l base st σ h w f (fun _=>false) f w.drew σ 0:=by
  have hget:∀k,(st 0).h.get k=h.get k:=fun k=>by rw [hh0]
  have hnx:(st 0).h.next.num=base.num+ops.length:=by rw [hh0];exact QhA (by omega)
  have hold:∀k,Old (st 0).h k->Old h k:=fun k ⟨m,bm,h1,h2⟩=>⟨m,bm,by rw [<-hget];exact h1,h2⟩
  have hlt:∀k,Old h k->k.num<base.num:=by
    rintro k ⟨m,bm,h1,h2⟩
    rcases h2 with rfl |h2
    · rw [<-hnO];exact H.lt h1
    · rw [<-hnO];exact H.an m bm k h1 h2
  have H0:G8 σ (st 0).h w.drew:=by
    refine ⟨by rw [hnx];exact hb,fun k hk=>H.nx k (by rw [hnO];omega),fun k b hk=>?_,fun k b m hk hm'=>?_,fun k m bk bm pk pm hne hk hm'=>?_,fun k m cs al hy bm hk hm'=>?_⟩
    · rw [hget] at hk;exact H.bl k b hk
    · rw [hget] at hk;have:=H.an k b m hk hm';rw [hnO] at this;omega
    · rw [hget] at hk hm';exact H.ap k m bk bm pk pm hne hk hm'
    · rw [hget] at hk hm';exact H.tp k m cs al hy bm hk hm'
  have G0:Go1 σ h w σ (st 0).h w.drew:=by
    refine ⟨Sg.le_refl _,H0,Z,Z,Z,Nat.le_succ _,Xi _,fun _ _ h _=>h,fun b _ hf m bm pm hm' hpm=>?_,by rw [hnx,hnO];omega,fun _ _=>rfl,fun k _ ho=>hold k ho⟩
    rw [hget] at hm'
    exact hf m bm pm hm' hpm
  refine ⟨X7 _, .inl rfl,(fun p s hp=>absurd hp (Nat.not_lt_zero p)),(fun _ _ _ _ _=>rfl),(fun _ _ _ _ hd=>by cases hd),(fun i hi=>by cases hi),G0,(by omega),?_,?_,(fun p s o d _ hd=>by cases hd),(fun _ _=>rfl)⟩
  · intro p s _ hp hk
    have hnum:=Qd2 (base:=base) (by omega) (C.idx hp)
    exact ⟨fun ho=>by have:=hlt _ (hold _ ho);omega, .inl ⟨H.nx _ (by rw [hnO];omega),fun hd=>by cases hd⟩⟩
  · intro a b sa sb pa pb _ _ h3 _ _ _ _ h7
    have hnum:=Qd2 (base:=base) (by omega) (C.idx h3)
    rw [H.nx _ (by rw [hnO];omega)] at h7;cases h7
theorem Quw (C:G6 P N call ops l base st) (hm:P.follows .mixedOrders=true) (hok:QcI N ops.length ops=true) (hcall:Qbe P call) (hN:N<=512) (hb:base.num+ops.length<=30000) {h:AH} (hnO:h.next=base) (h0:(st 0).hs=[(st 0).h]) (hh0:(st 0).h=⟨Yv ops.length base,h.blk⟩)
    {F F':AF} {h':AH} (hF0:(st 0).F=F) (hF':(st l.length).F=F') (hh':(st l.length).h=h') {m:Nat} {sl:KS} (hp:l[m]?=some sl) (hk:sl.k=4) (hw:QcN (st m).F sl.gd=some true)
    (hlook:∀(p:Nat) s,l[p]?=some s->s.k=1->Anc ops s.i sl.i) (hall:∀(p:Nat) s,l[p]?=some s->s.k=2->∃(p':Nat) (t:KS),p<p'∧l[p']?=some t∧t.k=3∧Anc ops t.i sl.i)
    (heff:∀(p:Nat) s,l[p]?=some s->s.k=3->Anc ops s.i sl.i∨(s.conc=true∧∃sz,∀e,eOf s.g=some e->e=Y7 sz)) (hst:∃sz,∀e,eOf sl.g=some e->e=Y7 sz)
    {σ:Sg} {w:World} {f:Fr} {id:Nat} {Q:QbB} (H:G8 σ h w) (hF:GG σ F f) (hQ:∀τ w' f',Go1 σ h w τ h' w'->GG τ F' f'->Q .normal f' w'):W P N (.region id ops.toArray true) Q f w:=by
  subst hF0 hF' hh'
  have hm1:=C.last m sl hp hk
  obtain ⟨e,t,vl,Xm,g1,ht,hX,hdis0,hY⟩:∃e t v h',eOf sl.g=some e∧Qbd (sl.r.f (st m).F) (st m).h=some t∧e call (sl.r.f (st m).F) (st m).h= .ok v h'∧QmW (fun k=>Bool.not (Qrq k (st m).tch)) t=true∧st (m+1)=⟨(st m).F.put sl.d v,h',(st m).hs,(st m).tch⟩:=by
    rcases C.step m sl hp with ⟨hw',_⟩ |⟨_,hdo⟩
    · rw [hw] at hw';cases hw'
    · unfold DDo at hdo;rw [hk] at hdo;exact hdo
  obtain ⟨szl,hsz⟩:=hst
  have he:=hsz e g1
  subst he
  have hdis:∀k ∈ t,k ∉ (st m).tch:=by
    intro k hk hm
    have:=QhN hdis0 k hk
    rw [Qn3 hm] at this;cases this
  have hkm:∀s,l[m]?=some s->s.k=4:=fun s hs=>by rw [hp] at hs;cases hs;exact hk
  refine Qm5 hm hok (fun D g w'=>(∃τ p0,JJ ops l base st σ h w f D g w' τ p0)∨∃pT τ p0 Lh,Dl l pT m∧JL call ops l st σ h w f pT m szl (sl.r.f (st m).F) vl D g w' τ p0 Lh) (.inl ⟨σ,0,JJ.start C hb hnO hh0 H⟩) ?_ ?_
  · rintro i o D g w1 hi ho hD hdep0 _ hJ
    have hdep:∀d ∈ Kf ops i,D d=true:=by
      intro d hd
      have hd:d ∈ (o.after.toList.filter (Region.binds .any)).map (·.on):=by
        have:Kf ops i=Qe0 o:=by unfold Kf;rw [ho]
        rw [this] at hd;exact hd
      obtain ⟨e,he,rfl⟩:=X5.1 hd
      obtain ⟨he1,he2⟩:=List.mem_filter.1 he
      exact hdep0 e (Array.mem_toList_iff.1 he1) he2
    rcases hJ with ⟨τ,p0,J⟩ |⟨pT,τ,p0,Lh,T,J⟩
    · by_cases ei:i=sl.i
      · subst ei
        have hpp:=J.pos hp hD
        have early:∀(p:Nat) s,l[p]?=some s->s.k=2->p<p0:=by
          intro p s hs h2
          obtain ⟨p',t',q1,q2,q3,q4⟩:=hall p s hs h2
          rcases Nat.lt_or_ge p' p0 with h |h
          · omega
          · have:=J.toF.anc q4 hdep;rw [J.chn p' t' h q2 q3] at this;cases this
        have T:Dl l p0 m:=by
          refine ⟨by omega,fun p s h1 h2 hs=>?_⟩
          have hk4:=C.kinds p s hs
          have:s.k=0∨s.k=1∨s.k=2∨s.k=3∨s.k=4:=by omega
          rcases this with e |e |e |e |e
          · exact .inl e
          · exact .inr (.inl e)
          · have:=early p s hs e;omega
          · rcases heff p s hs e with ha |⟨c1,c2⟩
            · have:=J.toF.anc ha hdep;rw [J.chn p s h1 hs e] at this;cases this
            · exact .inr (.inr ⟨e,c1,c2⟩)
          · have:=C.last p s hs e;omega
        have:=J.late (szl:=szl) (vl:=vl) C hcall hN hF hm1 hdis hX ht T hp hk ho hD hdep hw rfl g1 (by rw [hY]) (by
          intro p s hs a0 a3 a4
          have hk4:=C.kinds p s hs
          have:s.k=1∨s.k=2:=by omega
          rcases this with e |e
          · exact J.toF.anc (hlook p s hs e) hdep
          · exact J.pre p s (early p s hs e) hs)
        split at this
        · rename_i hwt
          rw [if_pos hwt]
          refine this.mono ?_
          rintro v w' ⟨τ,p1,L1,J1⟩
          exact .inr ⟨p0,τ,p1,L1,T,J1⟩
        · exact this.elim
      · have:=J.head C hcall hN (by omega) hnO h0 hF ho hD hdep (fun p s hs hsi h4=>by
          have:=C.last p s hs h4
          have:p=m:=by omega
          subst this
          rw [hp] at hs;cases hs
          exact absurd hsi.symm ei)
        split at this
        · rename_i hwt
          rw [if_pos hwt]
          exact this.mono fun v w' hv=> .inl hv
        · rename_i hwt
          rw [if_neg hwt]
          exact .inl this
    · have:=J.head C hcall hN hF T hm1 hdis hX ht hkm ho hD hdep
      split at this
      · rename_i hwt
        rw [if_pos hwt]
        refine this.mono ?_
        rintro v w' ⟨τ,p1,L1,J1⟩
        exact .inr ⟨pT,τ,p1,L1,T,J1⟩
      · rename_i hwt
        rw [if_neg hwt]
        obtain ⟨τ,p1,L1,J1⟩:=this
        exact .inr ⟨pT,τ,p1,L1,T,J1⟩
  · rintro D g w1 hall hJ
    have hD:∀(q:Nat) t,l[q]?=some t->D t.i=true:=fun q t hq=>hall _ (C.idx hq)
    rw [List.drop_length]
    rcases hJ with ⟨τ,p0,J⟩ |⟨pT,τ,p0,Lh,T,J⟩
    · have:=J.lat m sl hp hk (hD m sl hp)
      rw [hw] at this;cases this
    · refine Zb (hQ τ w1 g ?_ (J.fr.final C hN hF hD))
      have e:=T.same C J.bt J.le (Xi m) (fun q t h1 h2 h3 h4=>by
        have:=J.chn q t h1 h3 h4
        rw [hD q t h3] at this;cases this)
      obtain ⟨X,x1,x2⟩:=J.lx
      rw [<-e,hX] at x1
      cases x1
      have eh:(st l.length).h=Xm:=by rw [<-hm1,hY]
      rw [eh]
      exact J.go.eqv x2.symm
end
end Go.Pw
/- -/
namespace Go.Pw
open Classical
section
variable {P:Program}
theorem Qns {N:Nat} {ops:List Oper} {s:KS} {o:Oper} (ho:ops[s.i]?=some o) (hs:Dr P N ops s o) (h:Qdy ops s.i=true):∃sz,∀e,eOf s.g=some e->e=Y7 sz:=by
  unfold Qdy at h
  rw [ho] at h
  have h:Qjw o=true:=h
  unfold Qjw at h
  split at h
  · rename_i T x y hop
    cases hz:Qht P T with
    | none =>
      refine ⟨0,fun e he=>?_⟩
      have hg:=QjV he
      rcases hs.real with ⟨_,_,_,hk⟩ |hf
      · rw [hg] at hk
        have hef:=QjQ hk
        rw [hop] at hef
        have hef:QgP P T=some e:=hef
        unfold QgP at hef
        rw [hz] at hef;cases hef
      · rw [hg] at hf;cases hf
    | some sz =>
      refine ⟨sz,fun e he=>?_⟩
      have hg:=QjV he
      rcases hs.real with ⟨_,_,_,hk⟩ |hf
      · rw [hg] at hk
        have hef:=QjQ hk
        rw [hop] at hef
        have hef:QgP P T=some e:=hef
        unfold QgP at hef
        rw [hz] at hef;cases hef;rfl
      · rw [hg] at hf;cases hf
  · cases h
theorem QqE (o:KO) (s:DS) (c:Bool):(QkY o s c).conc=c:=by cases o <;> rfl
theorem Qwy (hm:P.follows .mixedOrders=true) {call:Jp} (hcall:Qbe P call):Qlx P call:=by
  intro N id ops F F' h h' σ w f Q hN hr H hF hQ
  cases hc:Qdm P N ops true with
  |none=>rw [hc] at hr;cases hr
  | some r =>
    rw [hc] at hr
    obtain ⟨ks,cl,l,h1,h2,h3,h4,h5,h6⟩:=QgI hc
    subst h3
    have hd:Qm2 call ops.length l F h= .ok F' h':=hr
    obtain ⟨p1,p2,p3,late,p4⟩:=QhR h4
    have hmap:l.map Qg7=(YY ops cl).steps:=QhE (fun a b h=>by
      obtain ⟨o,_,rfl⟩:=Xp.1 h
      exact Qmv o a _) h6
    cases late with
    | none =>
      refine Qq7 hm hcall hN hc ?_ hd H hF hQ
      intro s hs
      have:=List.all_eq_true.1 (show (YY ops cl).steps.all (fun s=>Nat.ble s.k 3)=true from p4) (Qg7 s) (by rw [<-hmap];exact X5.2 ⟨s,hs,rfl⟩)
      exact Xc this
    | some li =>
      have hl:=Qn7 (show Qnd ops li ((Qlb ops []).getD li []) (YY ops cl).conc (YY ops cl).steps=true from p4)
      obtain ⟨hroom,hd⟩:=QtJ (show Kk (QgA h.next) (Qku call l F h.next ⟨Yv ops.length h.next,h.blk⟩) .no= .ok F' h' from hd)
      have hd:Qnh call h.next l F ⟨Yv ops.length h.next,h.blk⟩ [⟨Yv ops.length h.next,h.blk⟩] []= .ok F' h':=hd
      obtain ⟨st,e1,e2,e3,e4⟩:=Qkv (X:=⟨F,⟨Yv ops.length h.next,h.blk⟩,[⟨Yv ops.length h.next,h.blk⟩],[]⟩) hd
      obtain ⟨C,hok⟩:=QnQ (call:=call) (base:=h.next) (st:=st) rfl h1 h2 p1 p2 p3 (fun s hs=>by
        obtain ⟨q,hq⟩:=List.mem_iff_getElem?.1 hs
        exact (hl q s hq).1) (fun p s hp hk=>((hl p s hp).2.2.2.2 hk).1) h6 e2
      have hrm:=Qe2 hroom
      have hds:∀{p:Nat} {s:KS},l[p]?=some s->(YY ops cl).steps[p]?=some (Qg7 s):=fun hp=>by rw [<-hmap,X2,hp];rfl
      by_cases hx:∃(m:Nat) (sl:KS),l[m]?=some sl∧sl.k=4∧QcN (st m).F sl.gd=some true
      · obtain ⟨m,sl,hp,hk,hw⟩:=hx
        obtain ⟨_,hli,hsl⟩:=(hl m _ (hds hp)).2.2.2.2 hk
        have hli:sl.i=li:=hli
        have anc:∀{x:Nat},YH x ((Qlb ops []).getD li [])=true->Anc ops x sl.i:=fun hx=>by rw [hli];exact Qh5 hx
        obtain ⟨ol,hol,hsl'⟩:=C.isop m sl hp
        refine Quw C hm hok hcall hN (by omega) Z (by rw [e1]) (by rw [e1]) (by rw [e1]) e3 e4 hp hk hw ?_ ?_ ?_ (Qns hol hsl' hsl) H hF hQ
        · intro p s hs e
          exact anc ((hl p _ (hds hs)).2.1 e)
        · intro p s hs e
          obtain ⟨p',t,q1,q2,q3,q4⟩:=(hl p _ (hds hs)).2.2.1 e
          rw [<-hmap,X2] at q2
          obtain ⟨t',ht',rfl⟩:=Xp.1 q2
          exact ⟨p',t',q1,ht',q3,anc q4⟩
        · intro p s hs e
          rcases (hl p _ (hds hs)).2.2.2.1 e with ha |⟨ha,hb⟩
          · exact .inl (anc ha)
          · obtain ⟨ds,z1,z2⟩:=(Qjt h6).2 p s hs
            obtain ⟨ko,_,z3⟩:=Xp.1 z2
            obtain ⟨o,ho,hso⟩:=C.isop p s hs
            refine .inr ⟨?_,Qns ho hso hb⟩
            have z4:=hds hs
            rw [z1] at z4
            cases z4
            rw [<-z3,QqE]
            exact ha
      · refine QnO C (fun p s hp hk=>?_) hm hok hcall hN (by omega) Z (by rw [e1]) (by rw [e1]) Z (by rw [e1]) e3 e4 H hF hQ
        rcases C.step p s hp with ⟨hw,_⟩ |⟨hw,_⟩
        · exact hw
        · exact absurd ⟨p,s,hp,hk,hw⟩ hx
theorem QuZ (hm:P.follows .mixedOrders=true) {ib ct:Nat} (h1:Di P ib Extern.BytealgIndexByte.indexByte) (h2:Di P ct Extern.BytealgCount.count) {n d n' d':Nat} {M:List Nat} {f:Nat} {a:List AV} {v:AV} {h':AH} (hr:QjI P (QrC P (Qwe ib ct) n d M) n' d' f a Dg= .ok v h')
    {us:List Value} (ha:Gs (fun _=>none) a us) (w:World):GM P f us w (fun u w'=>∃τ,Go1 (fun _=>none) Dg w τ h' w'∧Gy τ v u):=by
  have hreg:∀call,Qbe P call->Qlx P call:=fun call hc=>Qwy hm hc
  have hX:=QuB (P:=P) h1 h2
  have hX2:=QsO hX (Qkx hreg hX n d) M
  exact Qkx hreg hX2 n' d' f a Dg v h' _ w us hr (Ql2 w) ha
end
end Go.Pw
