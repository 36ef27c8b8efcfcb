/- -/
import Derived.Test.YtalfjlihddgooaaGreatDoorBa
import Derived.Test.YtalfjlihddgooaaGreatDoorEvB
import Derived.Laws.IdiomStrings
import Derived.Deep.AppendSrc
import Derived.Lib.UnsafeStr
set_option linter.unusedSimpArgs false
set_option linter.unusedVariables false
namespace Go.Pw
theorem Qn5 {σ:Sg} {f:Value->Option AV}:∀{vs:List Value} {as:List AV},(∀v ∈ vs,∀a,f v=some a->Gy σ a v)->vs.mapM f=some as->Gs σ as vs
  |[],as,_,h=>by simp at h;subst h;exact .nil
  | v::vs,as,hf,h=>by
    simp only [List.mapM_cons,Option.bind_eq_bind,Option.pure_def] at h
    obtain ⟨a,h1,h2⟩:=Option.bind_eq_some_iff.1 h
    obtain ⟨r,h3,h4⟩:=Option.bind_eq_some_iff.1 h2
    cases h4
    exact .cons (hf v (by simp) a h1) (Qn5 (fun v hv=>hf v (by simp [hv])) h3)
theorem QjP {σ:Sg}:∀{n:Nat} {v:Value} {a:AV},ofV n v=some a->Gy σ a v
  |0,_,_,h=>by cases h
  | n + 1,v,a,h=>by
    cases v with
    |bool b=>cases h;exact .b b
    |int k i=>cases h;exact Qh0 k i
    |string s=>cases h;exact .s rfl
    | pointer p=>cases p with
      |none=>cases h;exact .pn
      |some p=>cases h
    | slice p l c=>cases p with
      | none =>
        have h:(bif Nat.beq l 0 && Nat.beq c 0 then some AV.sn else none)=some a:=h
        cases hb:Nat.beq l 0 && Nat.beq c 0 with
        |false=>rw [hb] at h;cases h
        | true =>
          rw [hb] at h;cases h
          simp only [Xl] at hb
          have h1:=Xh hb.1
          have h2:=Xh hb.2
          subst h1 h2;exact .sn
      |some p=>cases h
    | map r=>cases r with
      |none=>cases h;exact .mn
      |some p=>cases h
    |nilFunc=>cases h;exact .nf
    |nilIface=>cases h;exact .nif
    | iface t v =>
      obtain ⟨b,h1,rfl⟩:=Xp.1 h
      exact .ifc (QjP h1)
    | agg cs =>
      have h:(match cs.toList.mapM (ofV n) with |some l=>bif l.all QtE then some (AV.agg l) else none |none=>none)=some a:=h
      split at h
      · rename_i l hl
        cases hb:l.all QtE with
        |false=>rw [hb] at h;cases h
        | true =>
          rw [hb] at h;cases h
          have hr:=Qn5 (σ:=σ) (fun v _ a h=>QjP h) hl
          have h1:∀v ∈ cs.toList,v.oneCell'=true:=by
            intro v hv
            obtain ⟨i,hi⟩:=List.mem_iff_getElem?.1 hv
            have hlen:=hr.len
            have hi':i<l.length:=by rw [hlen];exact (Xj.1 hi).1
            obtain ⟨u,hu,hru⟩:=hr.get (Xb hi')
            rw [hi] at hu;cases hu
            exact hru.oneC (List.all_eq_true.1 hb _ (List.getElem_mem hi'))
          have:=Gy.agg hr h1
          rwa [Array.toArray_toList] at this
      · cases h
    |_=>cases h
section
variable {P:Program}
theorem Qc8 {T:TypeId} {z:AV} (h:Qey P T=some z):∃i v,P.info? T=some i∧i.zero=some v∧∀σ,Gy σ z v:=by
  unfold Qey at h
  split at h
  · rename_i i hi
    split at h
    · rename_i v hv
      exact ⟨i,v,hi,hv,fun σ=>QjP h⟩
    · cases h
  · cases h
theorem Qd3 {T:TypeId} {i:TypeInfo} {v:Value} {w:World} (hi:P.info? T=some i) (hz:i.zero=some v):(zeroValue T).run P w= .ok v w:=by
  simp [zeroValue,typeInfo,hi,hz]
/-! maps -/
theorem Qhb {key l:List Nat} {v:AV} {es:List (AV×AV)}:QjF key ((.s l,v)::es)=if key=l then some v else QjF key es:=by
  have:QjF key ((.s l,v)::es)=Kk (eqL key l) (some v) (QjF key es):=rfl
  rw [this,QgT,Qsb]
  by_cases h:key=l <;> simp [h]
theorem Qir {key l:List Nat} {u v:AV} {es:List (AV×AV)}:QlP key u ((.s l,v)::es)=if key=l then (.s key,u)::es else (.s l,v)::QlP key u es:=by
  have:QlP key u ((.s l,v)::es)=Kk (eqL key l) ((.s key,u)::es) ((.s l,v)::QlP key u es):=rfl
  rw [this,QgT,Qsb]
  by_cases h:key=l <;> simp [h]
theorem Qpi {e:AV×AV} {es:List (AV×AV)} (h:QiD (e::es)=true):(∃l,e.1= .s l)∧QiD es=true:=by
  have h1:=QhN h e (by simp)
  have h2:QiD es=true:=by
    have:QiD (e::es)=@Bool.rec (fun _=>Bool) false (QiD es) (@Option.rec (List Nat) (fun _=>Bool) false (fun _=>true) (Qc0 e.1)):=rfl
    rw [this] at h
    cases hb:(@Option.rec (List Nat) (fun _=>Bool) false (fun _=>true) (Qc0 e.1)) with
    |false=>rw [hb] at h;cases h
    |true=>rw [hb] at h;exact h
  cases hg:Qc0 e.1 with
  |none=>simp only [hg] at h1;cases h1
  |some l=>exact ⟨⟨l,Qa0 hg⟩,h2⟩
theorem Qsl (s q:ByteArray):(s == q)=decide (s=q):=by
  by_cases e:s=q
  · subst e
    have:(s == s)=(s.data == s.data):=rfl
    rw [this];simp
  · have:(s == q)=(s.data == q.data):=rfl
    rw [this,decide_eq_false e]
    refine beq_eq_false_iff_ne.2 fun h=>e ?_
    cases s;cases q;cases h;rfl
theorem Qks {σ:Sg} {key:List Nat} {s:ByteArray} (hs:s.data.toList.map UInt8.toNat=key):∀{es:List (AV×AV)} {c:List MapEntry} (n:Nat),QiD es=true->Gs σ (es.map (·.1)) (c.map (·.key))->Gs σ (es.map (·.2)) (c.map (·.val)) ->
    (∃v es1 es2 c1 d c2,QjF key es=some v∧es=es1++(.s key,v)::es2∧c=c1++d::c2∧es1.length=c1.length∧Instr.findNow .string (.string s) c n=some (some (n+c1.length,d.val))∧d.key= .string s∧∀u,QlP key u es=es1++(.s key,u)::es2) ∨
    (QjF key es=none∧Instr.findNow .string (.string s) c n=some none∧∀u,QlP key u es=es++[(.s key,u)])
  | [],c,n,_,hk,_=>by
    cases c with
    |nil=>exact .inr ⟨rfl,rfl,fun _=>rfl⟩
    |cons _ _=>cases hk
  | e ::es,c,n,h,hk,hv=>by
    obtain ⟨⟨l,hl⟩,h'⟩:=Qpi h
    cases c with
    |nil=>cases hk
    | cons d c =>
      obtain ⟨k,v⟩:=e
      simp only at hl
      subst hl
      cases hk with
      |cons hk1 hk2 =>
      cases hv with
      |cons hv1 hv2 =>
      obtain ⟨q,hq,hq'⟩:=Qez hk1
      have hnow:Instr.findNow .string (.string s) (d::c) n=if s=q then some (some (n,d.val)) else Instr.findNow .string (.string s) c (n+1):=by
        simp only [Instr.findNow,hq,Instr.sameNow]
        rw [Qsl]
        by_cases e:s=q
        · subst e;simp
        · simp [e]
      by_cases e:key=l
      · left
        have hsq:s=q:=Qi2.1 (by rw [hs,hq',e])
        subst e hsq
        refine ⟨v,[],es,[],d,c,by rw [Qhb,if_pos Z],Z,Z,Z,by rw [hnow,if_pos Z];rfl,hq,fun u=>by rw [Qir,if_pos Z];rfl⟩
      · have hsq:s≠q:=by rintro rfl;exact e (by rw [<-hs,hq'])
        rcases Qks hs (n+1) h' hk2 hv2 with ⟨v',es1,es2,c1,d',c2,g1,g2,g3,g4,g5,g6,g7⟩ |⟨g1,g2,g3⟩
        · left
          refine ⟨v',(.s l,v)::es1,es2,d::c1,d',c2,by rw [Qhb,if_neg e,g1],by rw [g2];rfl,by rw [g3];rfl,by simp [g4],?_,g6,fun u=>by rw [Qir,if_neg e,g7];rfl⟩
          rw [hnow,if_neg hsq,g5]
          simp;omega
        · right
          exact ⟨by rw [Qhb,if_neg e,g1],by rw [hnow,if_neg hsq,g2],fun u=>by rw [Qir,if_neg e,g3];rfl⟩
theorem Qco {t:TypeId} {s:ByteArray} {n:Nat} {b:Bool} {w:World} (h:P.underlying t=some .string):(Instr.checkKey b (n+1) t (.string s)).run P w= .ok () w:=by
  simp [Instr.checkKey,Xk h]
theorem Qte {σ:Sg} {h:AH} {w:World} {x:AV} {u:Value} {es:List (AV×AV)} (H:G8 σ h w) (hx:Gy σ x u) (he:Qxv x h=some es) :
    ∃c:Array MapEntry,Gs σ (es.map (·.1)) (c.toList.map (·.key))∧Gs σ (es.map (·.2)) (c.toList.map (·.val))∧((u= .map none∧c=#[])∨∃r t,u= .map (some r)∧w.heap[r]?=some (.map c t)):=by
  rcases QbD he with ⟨_,h2⟩ |⟨k,h1,h2⟩
  · obtain ⟨h3,h4⟩:=QB h2
    cases h4
    have:=Qu6 h3
    subst this
    exact ⟨#[], .nil, .nil, .inl ⟨Qww hx,Z⟩⟩
  · have:=Qmx h1
    subst this
    obtain ⟨b,h3,h4⟩:=Q1 h2
    have:b= .map es:=by cases b <;> first |(cases h4;rfl) |cases h4
    subst this
    obtain ⟨pl,o,g1,g2,g3⟩:=H.bl _ _ h3
    obtain ⟨pl',g4,g5⟩:=Qvj hx
    rw [g1] at g4;cases g4
    cases g3 with
    |map ho hk hv=>exact ⟨_,hk,hv, .inr ⟨_,_,g5,g2⟩⟩
theorem Quq {T kt et:TypeId} {z:AV} {ok:Bool} {x i:Operand} (hT:P.underlying T=some (.map kt et)) (hk:P.underlying kt=some .string) (hz:Qey P et=some z):QOK P (.lookup T x i ok) (Qvu z ok):=by
  intro o ρ σ h w a v K ho hR ha hq hK
  obtain ⟨b,c,rfl,hb,hc⟩:=QbW ha
  obtain ⟨key,h1,h2⟩:=Q1 hq
  obtain ⟨es,h3,h4⟩:=Q1 h2
  obtain ⟨h5,h6⟩:=QB h4
  have:=Qa0 (v:=c) h1
  subst this
  obtain ⟨s,hu,hs⟩:=Qez hc
  obtain ⟨m,hm1,hm2,hm3⟩:=Qte hR hb h3
  obtain ⟨ti,zv,hi,hzv,hrz⟩:=Qc8 hz
  have run:∀vo:Value×Bool,(match (Instr.findNow .string (.string s) m.toList 0) with |some (some (_,v))=>(v,true) |_=>(zv,false))=vo->Instr.findNow .string (.string s) m.toList 0≠none->(execOp ρ o).run P w= .ok (.value (if ok then .tuple #[vo.1, .bool vo.2] else vo.1)) w:=by
    intro vo hvo hne
    subst hvo
    unfold execOp
    rcases hm3 with ⟨e1,rfl⟩ |⟨r,t,e1,e2⟩
    · simp [ho,hu,e1,Instr.lookup,Xk hT,Qco (P:=P) hk,Instr.findKey,Xk hk,Instr.findNow,Qd3 hi hzv]
    · cases hf:Instr.findNow .string (.string s) m.toList 0 with
      |none=>exact absurd hf hne
      | some r=>cases r with
        |none=>simp [ho,hu,e1,Instr.lookup,Xk hT,Qco (P:=P) hk,Instr.findKey,Xk hk,hf,Qd3 hi hzv,getObj,Sem.run,e2]
        |some q=>simp [ho,hu,e1,Instr.lookup,Xk hT,Qco (P:=P) hk,Instr.findKey,Xk hk,hf,getObj,Sem.run,e2]
  rcases Qks hs 0 h5 hm1 hm2 with ⟨v',es1,es2,c1,d,c2,g1,g2,g3,g4,g5,g6,g7⟩ |⟨g1,g2,g3⟩
  · have hv':Gy σ v' d.val:=by
      rw [g2,g3] at hm2
      have:(List.map (·.2) (es1++(AV.s key,v')::es2))[es1.length]?=some v':=by simp
      obtain ⟨u,hu1,hu2⟩:=hm2.get this
      have e:(List.map (·.val) (c1++d::c2))[es1.length]?=some d.val:=by rw [g4];simp
      rw [e] at hu1;cases hu1;exact hu2
    rw [g1] at h6
    refine .of_run (run (d.val,true) (by rw [g5]) (by rw [g5];simp)) (hK _ ?_)
    cases ok with
    |true=>cases h6;exact .tup (u:=[d.val, .bool true]) (.cons hv' (.cons (.b _) .nil))
    |false=>cases h6;exact hv'
  · rw [g1] at h6
    refine .of_run (run (zv,false) (by rw [g2]) (by rw [g2];simp)) (hK _ ?_)
    cases ok with
    |true=>cases h6;exact .tup (u:=[zv, .bool false]) (.cons (hrz σ) (.cons (.b _) .nil))
    |false=>cases h6;exact hrz σ
/-! literals -/
theorem QpJ:∀(vs:List Value) (off j:Nat) (cs:Array Value),off+j+vs.length<=cs.size ->
    ((vs.zipIdx j).foldl (fun cs (c,j)=>cs.setIfInBounds (off+j) c) cs).toList=cs.toList.take (off+j)++vs++cs.toList.drop (off+j+vs.length)
  |[],off,j,cs,_=>by simp
  | v ::vs,off,j,cs,h=>by
    simp only [List.zipIdx_cons,List.foldl_cons]
    rw [QpJ vs off (j+1) _ (by simp at h ⊢;omega)]
    simp only [Xw] at h
    have hlt:off+j<cs.toList.length:=by simp;omega
    rw [Array.toList_setIfInBounds]
    have e1:(cs.toList.set (off+j) v).take (off+(j+1))=cs.toList.take (off+j)++[v]:=by
      rw [show off+(j+1)=off+j+1 by omega,List.take_succ_eq_append_getElem (by simpa using hlt)]
      simp [List.take_set_of_le]
    have e2:(cs.toList.set (off+j) v).drop (off+(j+1)+vs.length)=cs.toList.drop (off+j+(v::vs).length):=by
      rw [List.drop_set_of_lt (by omega)]
      congr 1;simp;omega
    rw [e1,e2];simp
theorem Qjz {σ:Sg} {place:Nat->Option (Nat×Nat)}:∀{ps:List (Nat×Nat)} {is:List Nat} {cells cells' vs:List AV} {us:List Value} {zs:Array Value},Qp2 ps cells vs=some cells'->is.map place=ps.map some->vs.length=is.length ->
    (∀p ∈ ps,p.1+p.2<=cells.length)->Gs σ vs us->Gs σ cells zs.toList->(∀u ∈ zs.toList,u.oneCell'=true) ->
    ∃zs':Array Value,Instr.fill place zs (is.zip us)=some zs'∧Gs σ cells' zs'.toList∧(∀u ∈ zs'.toList,u.oneCell'=true)∧zs'.size=zs.size
  | [],is,cells,cells',vs,us,zs,h,hp,hl,hb,hv,hc,h1=>by
    cases h
    cases is with
    |nil=>exact ⟨zs,rfl,hc,h1,rfl⟩
    |cons _ _=>cases hp
  | p ::ps,is,cells,cells',vs,us,zs,h,hp,hl,hb,hv,hc,h1=>by
    cases is with
    |nil=>cases hp
    | cons i is =>
      simp only [Xv,List.cons.injEq] at hp
      cases vs with
      |nil=>cases hl
      | cons v vs =>
        obtain ⟨u,us',rfl,hu,hv'⟩:=hv.cons'
        have h:(ob (QbQ v) fun cs=>Kk (QbY p.2 cs) (Qp2 ps (over p.1 cs cells) vs) none)=some cells':=h
        obtain ⟨cs,h2,h3⟩:=Q1 h
        obtain ⟨h4,h5⟩:=QB h3
        obtain ⟨ws,e1,e2,e3⟩:=hu.cells h2
        have hlen:=QcT h4
        have hbp:=hb p (by simp)
        have hcl:cells.length=zs.size:=by rw [hc.len];simp
        have hwl:ws.length=p.2:=by rw [<-e2.len,hlen]
        rw [Qmr (by omega)] at h5
        have hsz:(u.cells.zipIdx.foldl (fun cs (c,j)=>cs.setIfInBounds (p.1+j) c) zs).toList=zs.toList.take p.1++ws++zs.toList.drop (p.1+ws.length):=by
          rw [e1]
          have:=QpJ ws p.1 0 zs (by omega)
          simpa using this
        generalize hg:u.cells.zipIdx.foldl (fun cs (c,j)=>cs.setIfInBounds (p.1+j) c) zs=zs2 at hsz
        have hz2:zs2.size=zs.size:=by
          have:=congrArg List.length hsz
          simp at this
          omega
        have hlen2:cs.length=ws.length:=e2.len
        obtain ⟨zs',g1,g2,g3,g4⟩:=Qjz (σ:=σ) (place:=place) (zs:=zs2) h5 hp.2 (by simpa using hl) (by
            intro q hq
            have:=hb q (by simp [hq])
            simp;omega) hv' (by
            rw [hsz,hlen2]
            exact ((hc.take p.1).append e2).append (hc.drop _)) (by
            intro y hy
            rw [hsz] at hy
            simp only [Xn] at hy
            rcases hy with (hy |hy) |hy
            · exact h1 y (XE hy)
            · exact e3 y hy
            · exact h1 y (XJ hy))
        refine ⟨zs',?_,g2,g3,by rw [g4,hz2]⟩
        have hus:u.cells.size=p.2:=by rw [e1];simpa using hwl
        simp only [List.zip_cons_cons,Instr.fill,hp.1]
        rw [if_neg (by simp;omega),hg]
        exact g1
end
end Go.Pw
/- -/
namespace Go.Pw
section
variable {P:Program}
theorem QsB {α β:Type} {f:α->Sem β} {g:α->β} {w:World} {l:List α} (h:∀x ∈ l,(f x).run P w= .ok (g x) w):(l.mapM f).run P w= .ok (l.map g) w:=by
  induction l with
  |nil=>simp
  | cons x l ih =>
    simp only [List.mapM_cons,Xe,h x (by simp),Xd,ih (fun y hy=>h y (by simp [hy])),Xg,Xv]
theorem Qq3 {α β:Type} {f:α->Sem β} {g:α->β} {w:World} {xs:Array α} (h:∀x ∈ xs.toList,(f x).run P w= .ok (g x) w):(xs.mapM f).run P w= .ok (xs.toList.map g).toArray w:=by
  rw [Array.mapM_eq_mapM_toList,map_eq_pure_bind,Xe,QsB h]
  simp
theorem Qn6 {α β:Type} {f:α->Option β}:∀{l:List α} {r:List β},l.mapM f=some r->l.map f=r.map some
  |[],r,h=>by simp at h;subst h;rfl
  | x::l,r,h=>by
    simp only [List.mapM_cons,Option.bind_eq_bind,Option.pure_def] at h
    obtain ⟨a,h1,h2⟩:=Option.bind_eq_some_iff.1 h
    obtain ⟨r',h3,h4⟩:=Option.bind_eq_some_iff.1 h2
    cases h4
    simp [h1,Qn6 h3]
theorem Qjk {ρ:Operand->Value}:∀(l:List (Nat×Operand)),(l.map (·.1)).zip ((l.map (·.2)).map ρ)=l.map fun p=>(p.1,ρ p.2)
  |[]=>rfl
  |p::l=>by simp only [Xv,List.zip_cons_cons,Qjk l]
theorem QqT {T:TypeId} {fs:Array Field} {ps:Array (Nat×Operand)} {z:List AV} {l:List (Nat×Nat×Bool)} (hz:Qey P T=some (.agg z)) (hT:P.underlying T=some (.struct fs)) (hl:(ps.toList.map (·.1)).mapM (Qen P T)=some l)
    (hi:fs.toList.all (fun f=>(P.info? f.type).isSome)=true) (hb:l.all (fun q=>Nat.ble (q.1+q.2.1) z.length)=true):QOK P (.build T ps) (Qmj (l.map fun q=>(q.1,q.2.1)) z):=by
  intro o ρ σ h w a v K ho hR ha hq hk
  obtain ⟨cs,h1,h2⟩:=Q1 hq
  cases h2
  obtain ⟨ti,zv,hti,hzv,hrz⟩:=Qc8 hz
  obtain ⟨zs,hzs,hrzs,hz1⟩:=Qjr (hrz σ)
  have ha:Gs σ a ((ps.toList.map (·.2)).map ρ):=ha
  let place:Nat->Option (Nat×Nat):=fun i=>(fs.toList.map fun f=>(f.offset,((P.info? f.type).map (·.size)).getD 0)).toArray[i]?
  have hplace:(ps.toList.map (·.1)).map place=(l.map fun q=>(q.1,q.2.1)).map some:=by
    have:=Qn6 hl
    have e:∀i q,Qen P T i=some q->place i=some (q.1,q.2.1):=by
      intro i q hq
      obtain ⟨fs',f,g1,g2,g3,g4⟩:=QfO (fo:=q.1) (sz:=q.2.1) (ag:=q.2.2) hq
      rw [hT] at g1;cases g1
      obtain ⟨d,i',_,g5,g6,_⟩:=Qea g4
      have g2':fs.toList[i]?=some f:=by simpa using g2
      simp [place,g2,g3,g5,g6]
    have key:∀(is:List Nat) (r:List (Nat×Nat×Bool)),is.map (Qen P T)=r.map some->is.map place=r.map (fun q=>some (q.1,q.2.1)):=by
      intro is
      induction is with
      |nil=>intro r h;cases r with |nil=>rfl |cons _ _=>cases h
      | cons i is ih =>
        intro r h
        cases r with
        |nil=>cases h
        | cons q r =>
          simp only [Xv,List.cons.injEq] at h ⊢
          exact ⟨e i q h.1,ih r h.2⟩
    rw [key _ _ this,List.map_map];rfl
  have hlen:a.length=(ps.toList.map (·.1)).length:=by rw [ha.len];simp
  obtain ⟨zs',g1,g2,g3,g4⟩:=Qjz (σ:=σ) (place:=place) (zs:=zs.toArray) h1 hplace hlen (by
    intro p hp
    obtain ⟨q,hq,rfl⟩:=X5.1 hp
    have:=List.all_eq_true.1 hb q hq
    exact Xc this) ha (by simpa using hrzs) (by simpa using hz1)
  rw [Qjk] at g1
  refine .of_run (v:= .agg zs') ?_ (hk _ ?_)
  · have hm:(fs.mapM fun f=>do pure (f.offset, <-sizeOf f.type):Sem _).run P w= .ok (fs.toList.map fun f=>(f.offset,((P.info? f.type).map (·.size)).getD 0)).toArray w:=by
      refine Qq3 fun f hf=>?_
      obtain ⟨i,hi'⟩:=Option.isSome_iff_exists.1 (List.all_eq_true.1 hi f hf)
      simp [sizeOf,typeInfo,hi']
    unfold execOp
    simp only [ho,Instr.build,Xe,Qd3 hti hzv,Xd,Xk hT,Xg,hm,hzs,Value.cells]
    have e:(ps.map fun p=>(p.1,ρ p.2)).toList=ps.toList.map fun p=>(p.1,ρ p.2):=by simp
    rw [e,g1]
    simp
  · have:=Gy.agg g2 g3
    rwa [Array.toArray_toList] at this
theorem QqU {T e len sz:Nat} {ps:Array (Nat×Operand)} {z:List AV} (hz:Qey P T=some (.agg z)) (hT:P.underlying T=some (.array len e)) (hs:Qht P e=some sz)
    (hb:(ps.toList.map (·.1)).all (fun i=>Nat.ble (i * sz+sz) z.length)=true):QOK P (.build T ps) (Qmj ((ps.toList.map (·.1)).map fun i=>(i * sz,sz)) z):=by
  intro o ρ σ h w a v K ho hR ha hq hk
  obtain ⟨cs,h1,h2⟩:=Q1 hq
  cases h2
  obtain ⟨ti,zv,hti,hzv,hrz⟩:=Qc8 hz
  obtain ⟨zs,hzs,hrzs,hz1⟩:=Qjr (hrz σ)
  have ha:Gs σ a ((ps.toList.map (·.2)).map ρ):=ha
  obtain ⟨i,hi,hsz⟩:=Qfa hs
  have hlen:a.length=(ps.toList.map (·.1)).length:=by rw [ha.len];simp
  obtain ⟨zs',g1,g2,g3,g4⟩:=Qjz (σ:=σ) (place:=fun i=>some (i * sz,sz)) (zs:=zs.toArray) h1 (by simp) hlen (by
    intro p hp
    obtain ⟨q,hq,rfl⟩:=X5.1 hp
    have:=List.all_eq_true.1 hb q hq
    exact Xc this) ha (by simpa using hrzs) (by simpa using hz1)
  rw [Qjk] at g1
  refine .of_run (v:= .agg zs') ?_ (hk _ ?_)
  · unfold execOp
    simp only [ho,Instr.build,Xe,Qd3 hti hzv,Xd,Xk hT,Xg,hzs,Value.cells,sizeOf,typeInfo,program,Sem.run,hi,hsz]
    have e:(ps.map fun p=>(p.1,ρ p.2)).toList=ps.toList.map fun p=>(p.1,ρ p.2):=by simp
    rw [e,g1]
    simp
  · have:=Gy.agg g2 g3
    rwa [Array.toArray_toList] at this
/-! all of them -/
theorem Qgs {op:Op} {q:QaD} (h:Qma P op=some q):QOK P op q:=by
  cases op <;> first |(cases h;done) |skip
  case move x=>cases h;exact Quj
  case assign x=>cases h;exact QqX
  case pick c a b=>cases h;exact QtZ
  case nilCheck x=>cases h;exact Qug
  case unOp op t x=>cases op <;> first |(cases h;done) |(cases h;exact Qw2)
  case extract t i=>cases h;exact QuA
  case makeFunc f a c=>cases f <;> first |(cases h;done) |(cases h;exact QwC)
  case fieldAddr t x k =>
    have h:QdB P t k=some q:=h
    unfold QdB at h
    split at h
    · rename_i fo sz ag hf
      cases hb:Nat.beq sz 0 with
      |true=>rw [hb] at h;cases h
      |false=>rw [hb] at h;cases h;exact Qw1 hf (Nat.ne_of_beq_eq_false hb)
    · cases h
  case field t x k =>
    have h:QjT P t k=some q:=h
    unfold QjT at h
    split at h
    · rename_i fo sz ag hf;cases h;exact Qtd hf
    · cases h
  case load t x =>
    have h:QrG P t=some q:=h
    unfold QrG at h
    split at h
    · rename_i ag sz hf;cases h;exact Qur hf
    · cases h
  case makeInterface t x =>
    have h:Qru P t=some q:=h
    unfold Qru at h
    split at h
    · cases h
    · rename_i d hne hd
      cases h
      exact QwB hd (fun ms e=>hne ms (by rw [<-e]))
    · cases h
  case indexAddr t x i =>
    have h:Qh1 P t=some q:=h
    unfold Qh1 at h
    split at h
    · rename_i len e hT
      split at h
      · rename_i sz hs;cases h;exact Quz hT hs
      · cases h
    · split at h
      · rename_i e sz hs;cases h;exact Quy hs
      · cases h
  case index t x i =>
    have h:QjR P t=some q:=h
    unfold QjR at h
    split at h
    · rename_i hT;cases h;exact Qux hT
    · rename_i len e hT
      split at h
      · rename_i ag sz hs;cases h;exact Qu0 hT hs
      · cases h
    · cases h
  case convert s d x =>
    have h:Qnj P s d=some q:=h
    unfold Qnj at h
    split at h
    · rename_i k' k hs hd;cases h;exact QuF hs hd
    · rename_i e hs hd
      split at h
      · rename_i he;cases h;exact Qwq hs he hd
      · cases h
    · cases h
  case slice t x lo hi mx =>
    cases mx with
    |some m=>cases h
    | none =>
      have h:QjM P t lo.isSome hi.isSome=some q:=h
      unfold QjM at h
      split at h
      · rename_i hT;cases h;exact Qtj hT
      · split at h
        · rename_i e sz hs;cases h;exact Qtk hs
        · cases h
  case lookup t x i ok =>
    have h:QrF P t ok=some q:=h
    unfold QrF at h
    split at h
    · rename_i kt et hT
      split at h
      · rename_i z hk hz;cases h;exact Quq hT hk hz
      · cases h
    · cases h
  case binOp op t x y t' =>
    have h:Qrx P op t y=some q:=h
    unfold Qrx at h
    split at h
    · cases op <;> simp only [XI] at h <;> subst h <;> first |exact QwI |exact QwE (fun _ _=>rfl) |exact Qmf
    · cases h;exact Qmf
    · rename_i E hT
      cases op <;> first |(cases h;done) |(cases h;exact (Qnv hT).1) |(cases h;exact (Qnv hT).2)
    · rename_i ms hT
      cases y with
      |const v=>cases op <;> first |(cases h;done) |(cases h;exact (QnC hT).1) |(cases h;exact (QnC hT).2)
      |_=>cases h
    · cases h
  case call c =>
    have h:Qnk P c=some q:=h
    unfold Qnk at h
    split at h
    · rename_i x t ts hc ha ht
      split at h
      · rename_i hT;cases h;exact QsU hc ha ht hT
      · rename_i E hT;cases h;exact QsV hc ha ht hT
      · cases h
    · rename_i x y hc ha;cases h;exact Qw5 hc ha
    · cases h
  case build t ps =>
    have h:QjY P t (ps.toList.map (·.1))=some q:=h
    unfold QjY at h
    split at h
    · rename_i z fs hz hT
      split at h
      · rename_i l hl
        cases hb:(fs.toList.all fun f=>(P.info? f.type).isSome) && l.all (fun q=>Nat.ble (q.1+q.2.1) z.length) with
        |false=>rw [hb] at h;cases h
        | true =>
          rw [hb] at h;cases h
          simp only [Xl] at hb
          exact QqT hz hT hl hb.1 hb.2
      · cases h
    · rename_i z len e hz hT
      split at h
      · rename_i sz hs
        cases hb:(ps.toList.map (·.1)).all (fun i=>Nat.ble (i * sz+sz) z.length) with
        |false=>rw [hb] at h;cases h
        |true=>rw [hb] at h;cases h;exact QqU hz hT hs hb
      · cases h
    · cases h
end
end Go.Pw
/- -/
namespace Go.Pw
def AOK (P:Program) (op:Op) (g:QdR):Prop :=
  ∀ (o:Oper) (ρ:Operand->Value) (σ:Sg) (w:World) (a:List AV) (k:Id) (v:AV) (b:AB),o.op=op->Gs σ a ((Ye op).map ρ)->g a k=some (v,b) ->
    ∃ u ob n w',(execOp ρ o).run P w= .ok (.value u) w'∧w'.heap=w.heap.push ob∧w'.os=w.os∧w'.tape=w.tape∧w'.output=w.output∧w.drawn<=w'.drawn∧(∀m,¬QaR m b) ∧
      ∀τ,Sg.le σ τ->τ k=some ⟨w.heap.size,0,n⟩->Gy τ v u∧RelB τ ⟨w.heap.size,0,n⟩ b ob
theorem Qfb {τ:Sg} {i:Nat} {cs:List AV} {us:List Value} {top:Bool} {E:TypeId} {hy:Option TypeId} (hr:Gs τ cs us) (h1:∀u ∈ us,u.oneCell'=true) (hh:∀e,hy=some e->E=e) :
    RelB τ ⟨i,0,us.length⟩ (.cells cs top [] hy) (.cells us.toArray E (0,0)):=by
  have hl:=hr.len
  refine .cells (by simp) (by simp [hl]) ?_ ?_ (fun _=>rfl) (fun e he=>⟨hh e he,Z⟩)
  · simp [hl];exact hr
  · simp [hl];exact h1
theorem QcR {m:Id} {cs:List AV} {top:Bool} {hy:Option TypeId}:¬QaR m (.cells cs top [] hy):=by simp [QaR]
section
variable {P:Program}
theorem QiG {e:TypeId} (h:QgQ P e=true):∃i,P.info? e=some i∧i.bytes<=65536:=by
  unfold QgQ at h
  split at h
  · rename_i i hi;exact ⟨i,hi,Xc h⟩
  · cases h
theorem QpM {T:TypeId} {v:Value} {us:List Value} {w:World} (hv:v.cells=us.toArray):(newVar T v).run P w= .ok ⟨w.heap.size,0,none⟩ (w.alloc (.cells us.toArray T)):=by
  simp only [newVar,newRow,newObj,hv,Xe,Sem.run,Xd,Xg]
  rfl
theorem Qw3 {T:TypeId} {z:AV} {cs:List AV} (hz:Qey P T=some z) (hc:QbQ z=some cs):AOK P (.alloc T) (Qxk cs):=by
  intro o ρ σ w a k v b ho ha hg
  cases hg
  obtain ⟨i,zv,hi,hzv,hrz⟩:=Qc8 hz
  obtain ⟨us,e1,e2,e3⟩:=(hrz σ).cells hc
  refine ⟨.pointer (some ⟨w.heap.size,0,none⟩), .cells us.toArray T,us.length,w.alloc (.cells us.toArray T),?_,Z,Z,Z,Z,Xi _,fun m=>QcR,fun τ hle hk=>⟨?_,Qfb (e2.mono hle) e3 (fun _ h=>by cases h)⟩⟩
  · unfold execOp
    simp only [ho,Instr.alloc,Xe,Qd3 hi hzv,Xd,QpM e1,Xg]
  · exact .p (pl:=⟨w.heap.size,0,us.length⟩) hk
theorem QwH {T:TypeId} {x:Operand}:AOK P (.box T x) Qxy:=by
  intro o ρ σ w a k v b ho ha hg
  obtain ⟨c,rfl,hc⟩:=QbX ha
  obtain ⟨cs,h1,h2⟩:=Q1 hg
  cases h2
  obtain ⟨us,e1,e2,e3⟩:=hc.cells h1
  refine ⟨.pointer (some ⟨w.heap.size,0,none⟩), .cells us.toArray T,us.length,w.alloc (.cells us.toArray T),?_,Z,Z,Z,Z,Xi _,fun m=>QcR,fun τ hle hk=>⟨?_,Qfb (e2.mono hle) e3 (fun _ h=>by cases h)⟩⟩
  · unfold execOp
    simp only [ho,Instr.box,Xe,Xd,QpM e1,Xg]
  · exact .p (pl:=⟨w.heap.size,0,us.length⟩) hk
theorem Qw6 {T:TypeId}:AOK P (.makeMap T none) Qxn:=by
  intro o ρ σ w a k v b ho ha hg
  cases hg
  refine ⟨.map (some w.heap.size), .map #[] 0,0,w.alloc (.map #[] 0),?_,Z,Z,Z,Z,Xi _,fun m=>by simp [QaR],fun τ hle hk=>⟨.m (pl:=⟨w.heap.size,0,0⟩) hk, .map Z .nil .nil⟩⟩
  unfold execOp
  simp only [ho,Instr.makeMap,Option.map_none,newObj,Xe,Sem.run,Xd,Xg]
  rfl
theorem Qu2 {T:TypeId} {x:Operand} (hT:P.underlying T=some .string):AOK P (.range T x) Qv1:=by
  intro o ρ σ w a k v b ho ha hg
  obtain ⟨c,rfl,hc⟩:=QbX ha
  obtain ⟨l,h1,h2⟩:=Q1 hg
  cases h2
  have:=Qa0 (v:=c) h1
  subst this
  obtain ⟨q,hu,hq⟩:=Qez hc
  refine ⟨.pointer (some ⟨w.heap.size,0,none⟩), .stringIter q 0,0,w.alloc (.stringIter q 0),?_,Z,Z,Z,Z,Xi _,fun m=>by simp [QaR],fun τ hle hk=>⟨.p (pl:=⟨w.heap.size,0,0⟩) hk, .iter Z hq⟩⟩
  unfold execOp
  simp only [ho,hu,Instr.range,Xe,Xk hT,Xd,Xg,newObj,Sem.run]
  rfl
/-! rows of zeros -/
def Qex:Nat->List Value->List Value
  |0,_=>[]
  |n+1,z=>z++Qex n z
theorem QcW:∀{n:Nat} {z:List Value},(Qex n z).length=n * z.length
  |0,z=>by simp [Qex]
  |n+1,z=>by simp only [Qex,Xt,QcW,Nat.add_mul];omega
theorem Qmq {σ:Sg} {cs:List AV} {us:List Value} (h:Gs σ cs us):∀n,Gs σ (rep n cs) (Qex n us)
  |0=> .nil
  |n+1=>h.append (Qmq h n)
theorem Qke {u:Value} {us:List Value}:∀{n:Nat},u ∈ Qex n us->u ∈ us
  |0,h=>by simp [Qex] at h
  | n+1,h=>by
    rcases Xn.1 h with h |h
    · exact h
    · exact Qke h
theorem Qnx {z:List Value}:∀{n i:Nat},i<n * z.length->(Qex n z)[i]?=z[i % z.length]?
  |0,i,h=>by simp at h
  | n +1,i,h=>by
    have hp:0<z.length:=by
      rcases Nat.eq_zero_or_pos z.length with e |e
      · rw [e] at h;simp at h
      · exact e
    simp only [Qex]
    by_cases hi:i<z.length
    · rw [Xs hi,Nat.mod_eq_of_lt hi]
    · rw [Xy (by omega),Qnx (by rw [Nat.add_mul] at h;omega)]
      rw [Nat.mod_eq_sub_mod (a:=i) (b:=z.length) (by omega)]
theorem Qsz {n:Nat} {zs:List Value}:((Array.range (n * zs.length)).map (fun i=>(zs.toArray)[i % zs.toArray.size]!)).toList=Qex n zs:=by
  apply List.ext_getElem?
  intro i
  by_cases h:i<n * zs.length
  · rw [Qnx h]
    have hp:0<zs.length:=by
      rcases Nat.eq_zero_or_pos zs.length with e |e
      · rw [e] at h;simp at h
      · exact e
    have hm:i % zs.length<zs.length:=Nat.mod_lt _ hp
    simp [h,hm]
  · rw [X3 (by simp;omega),X3 (by rw [QcW];omega)]
theorem Qly {n:Nat} {zs:List Value}:(Array.range (n * zs.length)).map (fun i=>(zs.toArray)[i % zs.toArray.size]!)=(Qex n zs).toArray:=by
  rw [<-Qsz,Array.toArray_toList]
theorem Qw8 {T e len sz:Nat} {ps:Array (Nat×Operand)} {z:AV} {cs:List AV} (hT:Qd1 P T=some (e,sz)) (hz:Qey P e=some z) (hc:QbQ z=some cs) (hl:len * sz<=16777216) (hn:cs.length=sz)
    (hb:(ps.toList.map (·.1)).all (fun i=>Nat.blt i len)=true):AOK P (.buildSlice T len ps) (Qxo len sz ((ps.toList.map (·.1)).map fun i=>(i * sz,sz)) (rep len cs)):=by
  intro o ρ σ w a k v b ho ha hg
  obtain ⟨ds,h1,h2⟩:=Q1 hg
  cases h2
  obtain ⟨hu,hs0,i,hi,hsz⟩:=QcA hT
  obtain ⟨ti,zv,hti,hzv,hrz⟩:=Qc8 hz
  obtain ⟨us,e1,e2,e3⟩:=(hrz σ).cells hc
  have hul:us.length=sz:=by rw [<-e2.len,hn]
  have ha:Gs σ a ((ps.toList.map (·.2)).map ρ):=ha
  have hrep:=Qmq e2 len
  have hreplen:(rep len cs).length=len * sz:=by rw [hrep.len,QcW,hul]
  obtain ⟨zs',g1,g2,g3,g4⟩:=Qjz (σ:=σ) (place:=fun i=>some (i * sz,sz)) (is:=ps.toList.map (·.1)) (zs:=(Qex len us).toArray) h1 (by simp) (by rw [ha.len];simp) (by
    intro p hp
    obtain ⟨q,hq,rfl⟩:=X5.1 hp
    have:=List.all_eq_true.1 hb q hq
    have:q<len:=by simpa [Nat.blt_eq] using this
    rw [hreplen]
    show q * sz+sz<=len * sz
    rw [<-Nat.succ_mul];exact Nat.mul_le_mul_right _ this) ha (by simpa using hrep) (by simpa using fun u hu=>e3 u (Qke hu))
  rw [Qjk] at g1
  have hzl:zs'.toList.length=len * sz:=by
    have:zs'.size=(Qex len us).toArray.size:=g4
    simp [QcW,hul] at this
    simpa using this
  refine ⟨.slice (some ⟨w.heap.size,0,none⟩) len len, .cells zs' e,zs'.toList.length,w.alloc (.cells zs' e),?_,Z,Z,Z,Z,Xi _,fun m=>QcR,fun τ hle hk=>⟨?_,?_⟩⟩
  · have hfill:Instr.fill (fun i=>some (i * sz,sz)) ((Array.range (len * sz)).map fun i=>(if len * sz=0 then #[] else us.toArray)[i % (if len * sz=0 then #[] else us.toArray).size]!) (ps.map fun (i,x)=>(i,ρ x)).toList=some zs':=by
      have e:(ps.map fun p=>(p.1,ρ p.2)).toList=ps.toList.map fun p=>(p.1,ρ p.2):=by simp
      rw [e]
      by_cases h0:len * sz=0
      · rw [if_pos h0,h0]
        have:len=0:=by rcases Nat.mul_eq_zero.1 h0 with h |h;exact h;exact absurd h hs0
        subst this
        rw [show Array.range 0=#[] from rfl,Array.map_empty]
        simpa [Qex] using g1
      · rw [if_neg h0, <-hul,Qly]
        rw [hul];exact g1
    have h24:¬(16777216<len * sz):=by omega
    unfold execOp
    simp only [ho,Instr.buildSlice,Xe,Xk hu,Xd,sizeOf,typeInfo,program,Sem.run,hi,hsz,Xg]
    rw [if_neg (by exact h24)]
    by_cases h0:len * sz=0
    · rw [if_pos h0] at hfill ⊢
      simp only [Xg,Xe,Xd,hfill,newRow,newObj,Sem.run]
      rfl
    · rw [if_neg h0] at hfill ⊢
      simp only [Xg,Xe,Xd,Qd3 hti hzv,e1,hfill,newRow,newObj,Sem.run]
      rfl
  · exact .sl (pl:=⟨w.heap.size,0,zs'.toList.length⟩) hk (Xi _) (fun d hd=>by cases hd;rfl) (.inl ⟨Z,by rw [hzl];simp⟩)
  · have:=Qfb (i:=w.heap.size) (top:=true) (E:=e) (hy:=none) (g2.mono hle) g3 (fun _ h=>by cases h)
    rwa [Array.toArray_toList] at this
theorem Quo {T e sz:Nat} {x y:Operand} {z:AV} {cs:List AV} {ti:TypeInfo} (hT:Qd1 P T=some (e,sz)) (hz:Qey P e=some z) (hc:QbQ z=some cs) (hn:cs.length=sz) (hi:P.info? e=some ti) (hb:ti.bytes<=65536):AOK P (.makeSlice T x y) (Qvt e sz cs):=by
  intro o ρ σ w a k v b ho ha hg
  obtain ⟨c,d,rfl,hc',hd'⟩:=QbW ha
  obtain ⟨l,h1,h2⟩:=Q1 hg
  obtain ⟨m,h3,h4⟩:=Q1 h2
  obtain ⟨h5,h6⟩:=QB h4
  obtain ⟨h7,h8⟩:=QB h6
  cases h8
  have:=Qck (v:=c) h1
  subst this
  have:=Qck (v:=d) h3
  subst this
  have hlm:=Xc h5
  have hm:=Xc h7
  obtain ⟨hu,hs0,i,hi',hsz⟩:=QcA hT
  rw [hi] at hi';cases hi'
  obtain ⟨ti',zv,hti,hzv,hrz⟩:=Qc8 hz
  obtain ⟨us,e1,e2,e3⟩:=(hrz σ).cells hc
  have hul:us.length=sz:=by rw [<-e2.len,hn]
  have hrep:=Qmq e2 m
  have wr:∀n:Nat,n<=65536->IntKind.i64.wrap (Int.ofNat n)=Int.ofNat n:=by
    intro n hn
    have e:IntKind.i64.wrap (Int.ofNat n)=if (Int.ofNat n) % (2 ^ 64:Int) ≥ (2 ^ 63:Int) then (Int.ofNat n) % (2 ^ 64:Int) - (2 ^ 64:Int) else (Int.ofNat n) % (2 ^ 64:Int):=by
      simp [IntKind.wrap,IntKind.bits,IntKind.signed]
    rw [e]
    have h1:(Int.ofNat n) % (2 ^ 64:Int)=Int.ofNat n:=by
      rw [Int.emod_eq_of_lt] <;> simp <;> omega
    rw [h1,if_neg]
    simp;omega
  have w1:=wr l (by omega)
  have w2:=wr m hm
  have hbm:ti.bytes * m<=4294967296:=X0 (Nat.mul_le_mul hb hm) (by decide)
  refine ⟨.slice (some ⟨w.heap.size,0,none⟩) l m, .cells (Qex m us).toArray e,(Qex m us).length,w.alloc (.cells (Qex m us).toArray e),?_,Z,Z,Z,Z,Xi _,fun m=>QcR,fun τ hle hk=>⟨?_,?_⟩⟩
  · have hI:(ti.bytes:Int) * Int.ofNat m=((ti.bytes * m:Nat):Int):=by rw [Int.natCast_mul];rfl
    have hz0:(Array.range (m * sz)).map (fun i=>(if m * sz=0 then #[] else us.toArray)[i % (if m * sz=0 then #[] else us.toArray).size]!)=(Qex m us).toArray:=by
      by_cases h0:m * sz=0
      · have:m=0:=by rcases Nat.mul_eq_zero.1 h0 with h |h;exact h;exact absurd h hs0
        subst this
        simp [Qex]
      · rw [if_neg h0, <-hul,Qly]
    have room:¬(m * ti.bytes > roomBytes):=by
      have:roomBytes=140737488355328:=rfl
      rw [this,Nat.mul_comm];omega
    unfold execOp
    simp only [ho,Qfq hc',Qfq hd',Instr.makeSlice,Xe,Xk hu,Xd,sizeOf,typeInfo,program,Sem.run,hi,Xg,asInt,asIntOf,w1,w2]
    have c1:(decide (Int.ofNat m<0) ||decide ((ti.bytes:Int) * Int.ofNat m > 2 ^ 48) ||decide (Int.ofNat l<0) ||decide (Int.ofNat l > Int.ofNat m))=false:=by
      rw [hI]
      generalize ti.bytes * m=N at hbm
      have a1:¬(Int.ofNat m<0):=by simp
      have a2:¬((N:Int) > 2 ^ 48):=by omega
      have a3:¬(Int.ofNat l<0):=by simp
      have a4:¬(Int.ofNat l > Int.ofNat m):=by simp;omega
      rw [decide_eq_false a1,decide_eq_false a2,decide_eq_false a3,decide_eq_false a4];rfl
    rw [if_neg (by simp only [X4,Xz] at c1 ⊢;simpa using c1)]
    have n1:(Int.ofNat m).toNat=m:=rfl
    have n2:(Int.ofNat l).toNat=l:=rfl
    simp only [Xg,Xd,askRoom,n1,n2]
    rw [if_neg room]
    simp only [Xg,Xe,Xd,program,Sem.run,hi,hsz]
    by_cases h0:m * sz=0
    · rw [if_pos h0] at hz0 ⊢
      simp only [Xg,Xe,Xd,newRow,newObj,Sem.run,hz0]
      rfl
    · rw [if_neg h0] at hz0 ⊢
      simp only [Xg,Xe,Xd,Qd3 hti hzv,e1,newRow,newObj,Sem.run,hz0]
      rfl
  · exact .sl (pl:=⟨w.heap.size,0,(Qex m us).length⟩) hk hlm (fun d hd=>by cases hd;rfl) (.inl ⟨Z,by rw [QcW,hul];simp⟩)
  · exact Qfb (hrep.mono hle) (fun u hu=>e3 u (Qke hu)) (fun e' he=>by cases he;rfl)
theorem Qgz {σ:Sg}:∀(l:List UInt8),Gs σ ((l.map UInt8.toNat).map AV.c) (l.map fun b=>Value.int .u8 b.toNat)
  |[]=> .nil
  |b::l=> .cons (.c _) (Qgz l)
theorem QwG {S T e:TypeId} {x:Operand} (hS:P.underlying S=some .string) (hT:P.underlying T=some (.slice e)) (he:P.underlying e=some (.int .u8)):AOK P (.convert S T x) Qxx:=by
  intro o ρ σ w a k v b ho ha hg
  obtain ⟨c,rfl,hc⟩:=QbX ha
  obtain ⟨l,h1,h2⟩:=Q1 hg
  cases h2
  have:=Qa0 (v:=c) h1
  subst this
  obtain ⟨q,hu,hq⟩:=Qez hc
  have hge:=grownCap_ge w q.size 0 e
  have hsz:q.size=q.data.toList.length:=rfl
  have hl:Qej l=q.size:=by rw [QcH, <-hq,X6];rfl
  have hrow:(bytesRow q (grownCap w q.size 0 e)).toList=(q.data.toList.map fun b=>Value.int .u8 b.toNat)++List.replicate (grownCap w q.size 0 e - q.size) (.int .u8 0):=by
    unfold bytesRow
    simp
  have hlen:(bytesRow q (grownCap w q.size 0 e)).size=grownCap w q.size 0 e:=by
    have:=congrArg List.length hrow
    simp at this
    rw [this]
    have:q.data.size=q.size:=rfl
    omega
  refine ⟨.slice (some ⟨w.heap.size,0,none⟩) q.size (grownCap w q.size 0 e), .cells (bytesRow q (grownCap w q.size 0 e)) e ((bytesRow q (grownCap w q.size 0 e)).size,(bytesRow q (grownCap w q.size 0 e)).size+1),(bytesRow q (grownCap w q.size 0 e)).size,
    w.drew.alloc (.cells (bytesRow q (grownCap w q.size 0 e)) e ((bytesRow q (grownCap w q.size 0 e)).size,(bytesRow q (grownCap w q.size 0 e)).size+1)),?_,rfl,rfl,rfl,rfl,Nat.le_succ _,fun m=>QcR,fun τ hle hk=>⟨?_,?_⟩⟩
  · unfold execOp
    simp only [ho,hu,Xe,run_bytes_of_string (P:=P) w S T e q hS hT he,Xd,Xg]
  · rw [hl]
    exact .sl (pl:=⟨w.heap.size,0,_⟩) hk hge (fun d hd=>by cases hd) (.inl ⟨rfl,by simp [hlen]⟩)
  · rw [Qju, <-hq]
    have e1:List.take (List.map AV.c (List.map UInt8.toNat q.data.toList)).length (List.drop 0 (bytesRow q (grownCap w q.size 0 e)).toList)=q.data.toList.map fun b=>Value.int .u8 b.toNat:=by
      rw [List.drop_zero,hrow,List.take_append_of_le_length (by simp),X9 (by simp)]
    refine .cells rfl (by simp [hlen];exact hge) (by rw [e1];exact Qgz _) (by rw [e1];intro u hu;obtain ⟨b,_,rfl⟩:=X5.1 hu;rfl) (fun h=>by cases h) (fun e h=>by cases h)
theorem QlK {op:Op} {g:QdR} (h:QoP P op=some g):AOK P op g:=by
  cases op <;> first |(cases h;done) |skip
  case alloc t =>
    have h:QoO P t=some g:=h
    unfold QoO at h
    split at h
    · rename_i z hz
      split at h
      · rename_i cs hc;cases h;exact Qw3 hz hc
      · cases h
    · cases h
  case box t x=>cases h;exact QwH
  case makeMap t r=>cases r <;> first |(cases h;exact Qw6) |cases h
  case range t x =>
    have h:QrI P t=some g:=h
    unfold QrI at h
    split at h
    · rename_i hT;cases h;exact Qu2 hT
    · cases h
  case convert s d x =>
    have h:Qwi P s d=some g:=h
    unfold Qwi at h
    split at h
    · rename_i e hs hd
      split at h
      · rename_i he;cases h;exact QwG hs hd he
      · cases h
    · cases h
  case buildSlice t len ps =>
    have h:Qwd P t len (ps.toList.map (·.1))=some g:=h
    unfold Qwd at h
    split at h
    · rename_i e sz hT
      split at h
      · rename_i z hz
        split at h
        · rename_i cs hc
          cases hb:Nat.ble (len * sz) 16777216 && Nat.beq cs.length sz && (ps.toList.map (·.1)).all (fun i=>Nat.blt i len) with
          |false=>rw [hb] at h;cases h
          | true =>
            rw [hb] at h;cases h
            simp only [Xl] at hb
            exact Qw8 hT hz hc (Xc hb.1.1) (Xh hb.1.2) hb.2
        · cases h
      · cases h
    · cases h
  case makeSlice t x y =>
    have h:QrE P t=some g:=h
    unfold QrE at h
    split at h
    · rename_i e sz hT
      split at h
      · rename_i z hz
        split at h
        · rename_i cs hc
          cases hb:Nat.beq cs.length sz && QgQ P e with
          |false=>rw [hb] at h;cases h
          | true =>
            rw [hb] at h;cases h
            simp only [Xl] at hb
            obtain ⟨ti,hi,hti⟩:=QiG hb.2
            exact Quo hT hz hc (Xh hb.1) hi hti
        · cases h
      · cases h
    · cases h
end
end Go.Pw
/- -/
namespace Go.Pw
open Classical
section
variable {σ:Sg} {h:AH} {w:World}
theorem G8.change (H:G8 σ h w) {h1 h':AH} {k:Id} {bk b':AB} {pl:Pl} {o':Obj} {w':World} (hk:h.get k=some bk) (hp:σ k=some pl) (hn:h'.next=h.next)
    (hg1:∀m b,h1.get m=some b->h.get m=some b) (hg:∀m,h'.get m=if m=k then some b' else h1.get m)
    (hdis:∀m bm pm,m≠k->h1.get m=some bm->σ m=some pm->pm.b≠pl.b) (hold:∀m,¬QaR m b') (htop:∀m bm,m≠k->h1.get m=some bm->(∃cs al hy,b'= .cells cs true al hy)->¬QaR k bm)
    (hb:RelB σ pl b' o') (ho:w'.heap[pl.b]?=some o') (hoth:∀i,i≠pl.b->w'.heap[i]?=w.heap[i]?) (hsz:w'.heap.size=w.heap.size)
    (e1:w'.os=w.os) (e2:w'.tape=w.tape) (e3:w'.output=w.output) (e4:w.drawn<=w'.drawn):Go1 σ h w σ h' w':=by
  have hget:∀m b,m≠k->h'.get m=some b->h1.get m=some b:=by
    intro m b hm hh
    rw [hg,if_neg hm] at hh;exact hh
  have hgk:∀b,h'.get k=some b->b=b':=by
    intro b hh
    rw [hg,if_pos rfl] at hh;exact (Zu hh).symm
  refine ⟨Sg.le_refl _,⟨by rw [hn];exact H.nb,by rw [hn];exact H.nx,?_,?_,?_,?_⟩,e1,e2,e3,e4,by rw [hsz];exact Xi _,?_,?_,by rw [hn];exact Xi _,fun _ _=>rfl,fun j _ ⟨m,bm,q1,q2⟩=>by
    by_cases e:m=k
    · subst e
      rw [hgk bm q1] at q2
      rcases q2 with q2 |q2
      · exact ⟨m,bk,hk, .inl q2⟩
      · exact absurd q2 (hold j)
    · exact ⟨m,bm,hg1 _ _ (hget m bm e q1),q2⟩⟩
  · intro m b hm
    by_cases e:m=k
    · subst e
      rw [hgk b hm]
      exact ⟨pl,o',hp,ho,hb⟩
    · obtain ⟨pm,om,g1,g2,g3⟩:=H.bl m b (hg1 _ _ (hget m b e hm))
      exact ⟨pm,om,g1,by rw [hoth _ (hdis m b pm e (hget m b e hm) g1)];exact g2,g3⟩
  · intro m b j hm hj
    rw [hn]
    by_cases e:m=k
    · subst e;rw [hgk b hm] at hj;exact absurd hj (hold j)
    · exact H.an m b j (hg1 _ _ (hget m b e hm)) hj
  · intro i j bi bj pi pj hne hi hj hpi hpj hb'
    by_cases ei:i=k
    · subst ei
      rw [hp] at hpi;cases hpi
      exact absurd hb'.symm (hdis j bj pj (Ne.symm hne) (hget j bj (Ne.symm hne) hj) hpj)
    · by_cases ej:j=k
      · subst ej
        rw [hp] at hpj;cases hpj
        exact absurd hb' (hdis i bi pi hne (hget i bi hne hi) hpi)
      · exact H.ap i j bi bj pi pj hne (hg1 _ _ (hget i bi ei hi)) (hg1 _ _ (hget j bj ej hj)) hpi hpj hb'
  · intro i j cs al hy bj hi hj ho'
    by_cases ej:j=k
    · subst ej;rw [hgk bj hj] at ho';exact hold _ ho'
    · by_cases ei:i=k
      · subst ei
        exact htop j bj ej (hget j bj ej hj) ⟨cs,al,hy,(hgk _ hi).symm⟩ ho'
      · exact H.tp i j cs al hy bj (hg1 _ _ (hget i _ ei hi)) (hg1 _ _ (hget j bj ej hj)) ho'
  · intro i o hi hf
    rw [hoth i (by intro e;exact hf k bk pl hk hp e.symm)]
    exact hi
  · intro i hi hf m bm pm hm hpm
    by_cases e:m=k
    · subst e;rw [hp] at hpm;cases hpm;exact hf m bk pl hk hp
    · exact hf m bm pm (hg1 _ _ (hget m bm e hm)) hpm
theorem G8.alone (H:G8 σ h w) {k m:Id} {cs:List AV} {al:List Id} {hy:Option TypeId} {bm:AB} {pl pm:Pl} (hk:h.get k=some (.cells cs true al hy)) (hm:h.get m=some bm) (hp:σ k=some pl) (hpm:σ m=some pm) (hne:m≠k) (hal:m ∉ al):pm.b≠pl.b:=by
  intro e
  rcases H.ap m k bm _ pm pl hne hm hk hpm hp e with ⟨h1,_⟩ |⟨h1,_⟩
  · exact H.tp k m cs al hy bm hk hm h1
  · exact hal h1
theorem Qq5 {pl:Pl} {cs vs:List AV} {us:List Value} {d:Array Value} {E:TypeId} {hy:Option TypeId} {off:Nat} {top:Bool} (hn:d.size=pl.n) (hf:pl.o+cs.length<=d.size) (hc:Gs σ cs ((d.toList.drop pl.o).take cs.length))
    (h1:∀v ∈ (d.toList.drop pl.o).take cs.length,v.oneCell'=true) (hhy:∀e,hy=some e->E=e∧pl.o=0) (hv:Gs σ vs us) (hu:∀u ∈ us,u.oneCell'=true) (hle:off+vs.length<=cs.length) :
    RelB σ pl (.cells (over off vs cs) top [] hy) (.cells (d.toList.take (pl.o+off)++us++d.toList.drop (pl.o+off+us.length)).toArray E (0,0)):=by
  have hvl:=hv.len
  rw [Qmr (by omega)]
  have hlen:(d.toList.take (pl.o+off)++us++d.toList.drop (pl.o+off+us.length)).length=d.size:=by
    simp;omega
  have hcl:(cs.take off++vs++cs.drop (off+vs.length)).length=cs.length:=by simp;omega
  have key:((d.toList.take (pl.o+off)++us++d.toList.drop (pl.o+off+us.length)).drop pl.o).take cs.length=((d.toList.drop pl.o).take cs.length).take off++us++((d.toList.drop pl.o).take cs.length).drop (off+vs.length):=by
    apply List.ext_getElem?
    intro i
    have hd:d.toList.length=d.size:=by simp
    rw [Xo]
    by_cases hi:i<cs.length
    · rw [if_pos hi,Xu]
      by_cases h2:i<off
      · rw [Xs (by simp;omega),Xs (by simp;omega),Xo,if_pos (by omega)]
        rw [Xs (by simp;omega),Xs (by simp;omega),Xo,if_pos (by omega),Xo,if_pos (by omega),Xu]
      · by_cases h3:i<off+us.length
        · rw [Xs (by simp;omega),Xy (by simp;omega),Xs (by simp;omega),Xy (by simp;omega)]
          congr 1
          simp
          omega
        · rw [Xy (by simp;omega),Xy (by simp;omega),Xu,Xu,Xo]
          rw [if_pos (by simp;omega),Xu]
          congr 1
          simp
          omega
    · rw [if_neg hi,X3]
      simp;omega
  refine .cells (by simp only [List.size_toArray];rw [hlen,hn]) (by rw [hcl];simp only [List.size_toArray];rw [hlen];exact hf) ?_ ?_ (fun _=>rfl) hhy
  · rw [hcl,key]
    exact ((hc.take off).append hv).append (hc.drop _)
  · rw [hcl,key]
    intro v hv'
    simp only [Xn] at hv'
    rcases hv' with (h |h) |h
    · exact h1 v (XE h)
    · exact hu v h
    · exact h1 v (XJ h)
theorem Qof {k:Id} {off:Nat} {vs:List AV} {h':AH} (hs:Qig k off vs h=some h'):∃c,h.cells k=some c∧c.top=true∧off+vs.length<=c.cs.length∧h'=(h.kills c.al).put k (.cells (over off vs c.cs) true [] c.hy):=by
  obtain ⟨c,h1,h2⟩:=Q1 hs
  obtain ⟨h3,h4⟩:=QB h2
  obtain ⟨h5,h6⟩:=QB h4
  cases h6
  have:=QbE h5
  rw [QcH] at this
  exact ⟨c,h1,h3,this,Z⟩
theorem Qkc (H:G8 σ h w) {k:Id} {off:Nat} {vs:List AV} {us:List Value} {h':AH} {pl:Pl} (hs:Qig k off vs h=some h') (hp:σ k=some pl) (hv:Gs σ vs us) (hu:∀u ∈ us,u.oneCell'=true) :
    ∃d E,w.heap[pl.b]?=some (.cells d E (0,0))∧pl.o+off+us.length<=d.size∧Go1 σ h w σ h' (w.setRow pl.b (d.toList.take (pl.o+off)++us++d.toList.drop (pl.o+off+us.length)).toArray):=by
  obtain ⟨c,h1,h2,h3,rfl⟩:=Qof hs
  obtain ⟨hg,pl',d,E,fz,g1,g2,g3,g4,g5,g6,g7,g8⟩:=H.cells h1
  rw [hp] at g1;cases g1
  have:=g7 h2
  subst this
  have hvl:=hv.len
  refine ⟨d,E,g2,by omega,?_⟩
  rw [h2] at hg
  refine H.change (h1:=h.kills c.al) hg hp (by show (h.kills c.al).next=h.next;exact Qbh) ?_ (fun m=>Qai) ?_ (fun m=>QcR) ?_ (Qq5 g3 g4 g5 g6 g8 hv hu h3) (setRow_heap w pl.b _ _ _ _ g2) (fun i hi=>setRow_other w pl.b i _ hi) (QcV _ _ _) Z Z Z (Xi _)
  · intro m b hm
    rw [Qbo] at hm
    split at hm
    · cases hm
    · exact hm
  · intro m bm pm hne hm hpm
    rw [Qbo] at hm
    split at hm
    · cases hm
    · rename_i hnal
      exact H.alone hg hm hp hpm hne hnal
  · intro m bm hne hm _
    rw [Qbo] at hm
    split at hm
    · cases hm
    · exact H.tp k m _ _ _ bm hg hm
end
def GM (P:Program) (f:Nat) (us:List Value) (w:World) (K:Value->World->Prop):Prop :=
  match (callFunc f us.toArray).run P w with
  | .ok (.value v) w'=>K v w'
  | .ok (.enter g args) w'=>Calls P g args w' (fun e w''=>∃v,e= .returned v∧K v w'')
  |_=>False
def Qbe (P:Program) (call:Jp):Prop :=
  ∀(f:Nat) (a:List AV) (h:AH) (v:AV) (h':AH) (σ:Sg) (w:World) (us:List Value),call f a h= .ok v h'->G8 σ h w->Gs σ a us->GM P f us w (fun u w'=>∃τ,Go1 σ h w τ h' w'∧Gy τ v u)
def EOK (P:Program) (op:Op) (e:QaV):Prop :=
  ∀(call:Jp),Qbe P call->∀(o:Oper) (ρ:Operand->Value) (σ:Sg) (h:AH) (w:World) (a:List AV) (v:AV) (h':AH),o.op=op->(∀f,ρ (.func f)= .func (.func f) #[] #[])->G8 σ h w->Gs σ a ((Ye op).map ρ)->e call a h= .ok v h'->Exec P ρ o w (fun u w'=>∃τ,Go1 σ h w τ h' w'∧Gy τ v u)
section
variable {P:Program}
theorem Qnb {o:Option AH} {f:AH->RS} {v:AV} {h':AH} (h:oH o f= .ok v h'):∃x,o=some x∧f x= .ok v h':=by
  cases o with
  |none=>cases h
  |some x=>exact ⟨x,rfl,h⟩
theorem QmQ {b:Bool} {x:RS} {v:AV} {h':AH} (h:Kk b x .no= .ok v h'):b=true∧x= .ok v h':=by
  cases b with
  |true=>exact ⟨rfl,h⟩
  |false=>cases h
theorem QgN {α:Type} {o:Option α} {f:α->RS} {v:AV} {h':AH} (h:@Option.rec α (fun _=>RS) .no f o= .ok v h'):∃x,o=some x∧f x= .ok v h':=by
  cases o with
  |none=>cases h
  |some x=>exact ⟨x,rfl,h⟩
theorem Qs5 {T sz:Nat} {x y:Operand} (hT:Qht P T=some sz):EOK P (.store T x y) (Y7 sz):=by
  intro call hcall o ρ σ h w a v h' ho hρ H ha he
  obtain ⟨b,c,rfl,hb,hc⟩:=QbW ha
  obtain ⟨h2,h3,h4⟩:=Qnb he
  cases h4
  obtain ⟨q,h5,h6⟩:=Q1 h3
  obtain ⟨cs,h7,h8⟩:=Q1 h6
  obtain ⟨h9,h10⟩:=QB h8
  have:=QdX (v:=b) h5
  subst this
  obtain ⟨pl,hp,hu⟩:=QjC hb
  obtain ⟨us,e1,e2,e3⟩:=hc.cells h7
  obtain ⟨d,E,g1,g2,g3⟩:=Qkc H h10 hp e2 e3
  obtain ⟨i,hi,hsz⟩:=Qfa hT
  have hlen:us.length=sz:=by rw [<-e2.len,QcT h9]
  have hrun:(storeVar T ⟨pl.b,pl.o+q.2,none⟩ (ρ y)).run P w= .ok () (w.setRow pl.b (d.toList.take (pl.o+q.2)++us++d.toList.drop (pl.o+q.2+us.length)).toArray):=by
    have:=run_storeCells_at P pl.b (pl.o+q.2) E us 0 d w g1 (by simpa using g2) e3
    simp only [Nat.add_zero] at this
    simp only [storeVar,Xe,sizeOf,typeInfo,program,Sem.run,hi,Xd,Xg,hsz,e1]
    simp [hlen,this]
  refine .of_skip (w':=w.setRow pl.b (d.toList.take (pl.o+q.2)++us++d.toList.drop (pl.o+q.2+us.length)).toArray) ?_ ⟨σ,g3, .un⟩
  unfold execOp
  simp only [ho,hu,Instr.storeAt,Instr.sureAddr,Xe,Xg,Xd,hrun]
end
end Go.Pw
/- -/
namespace Go.Pw
open Classical
section
variable {σ:Sg} {h:AH} {w:World}
theorem RelB.less {pl:Pl} {cs:List AV} {top:Bool} {al al':List Id} {hy:Option TypeId} {o:Obj} (hb:RelB σ pl (.cells cs top al hy) o) (n:Nat):RelB σ pl (.cells (cs.take n) false al' none) o:=by
  cases hb with
  | cells hn hf hc h1 hz hy' =>
    have e:(cs.take n).length<=cs.length:=by simp;omega
    refine .cells hn (by omega) ?_ ?_ (fun h=>by cases h) (fun e h=>by cases h)
    · have:=hc.take n
      rw [List.take_take] at this
      rw [XF];exact this
    · intro v hv
      refine h1 v ?_
      rw [XF,Nat.min_comm] at hv
      have:List.take (min cs.length n) (List.drop pl.o ‹Array Value›.toList)=List.take n (List.take cs.length (List.drop pl.o ‹Array Value›.toList)):=by rw [List.take_take,Nat.min_comm]
      rw [this] at hv
      exact XE hv
theorem RelB.beyond {pm:Pl} {bm:AB} {d d':Array Value} {E:TypeId} {start:Nat} (hb:RelB σ pm bm (.cells d E (0,0))) (he:QgD pm bm<=start) (hs:d'.size=d.size) (ha:∀i,i<start->d'[i]?=d[i]?):RelB σ pm bm (.cells d' E (0,0)):=by
  cases hb with
  | cells hn hf hc h1 hz hy' =>
    rename_i cs top al hy
    have he:pm.o+cs.length<=start:=he
    have key:(d'.toList.drop pm.o).take cs.length=(d.toList.drop pm.o).take cs.length:=by
      apply List.ext_getElem?
      intro i
      rw [Xo,Xo]
      split
      · rw [Xu,Xu]
        simpa using ha (pm.o+i) (by omega)
      · rfl
    exact .cells (by rw [hs];exact hn) (by rw [hs];exact hf) (by rw [key];exact hc) (by rw [key];exact h1) (fun _=>rfl) hy'
theorem QuU (H:G8 σ h w) {k:Id} {cs:List AV} {al:List Id} {hy:Option TypeId} (hk:h.get k=some (.cells cs true al hy)):Go1 σ h w σ (h.put k (.cells cs false al none)) w:=by
  have hget:∀m b,(h.put k (.cells cs false al none)).get m=some b->∃b0,h.get m=some b0∧(∀j,QaR j b↔QaR j b0)∧(∀p,QgD p b=QgD p b0)∧(∀pl o,RelB σ pl b0 o->RelB σ pl b o)∧(∀cs al hy,b= .cells cs true al hy->b0= .cells cs true al hy):=by
    intro m b hm
    rw [Qai] at hm
    split at hm
    · rename_i e;subst e
      cases hm
      refine ⟨_,hk,fun j=>Iff.rfl,fun p=>rfl,fun pl o hb=>?_,fun _ _ _ h=>by cases h⟩
      have:=hb.less (al':=al) cs.length
      rwa [List.take_length] at this
    · exact ⟨b,hm,fun j=>Iff.rfl,fun p=>rfl,fun _ _ h=>h,fun _ _ _ h=>h⟩
  refine ⟨Sg.le_refl _,⟨H.nb,H.nx,?_,?_,?_,?_⟩,Z,Z,Z,Xi _,Xi _,fun _ _ h _=>h,?_,Xi _,fun _ _=>rfl,fun j _ ⟨m,bm,q1,q2⟩=>by
    obtain ⟨b0,q3,q4,_⟩:=hget m bm q1
    exact ⟨m,b0,q3,q2.imp (fun e=>e) (fun e=>(q4 j).1 e)⟩⟩
  · intro m b hm
    obtain ⟨b0,h1,_,_,h2,_⟩:=hget m b hm
    obtain ⟨pl,o,g1,g2,g3⟩:=H.bl m b0 h1
    exact ⟨pl,o,g1,g2,h2 _ _ g3⟩
  · intro m b j hm hj
    obtain ⟨b0,h1,h2,_⟩:=hget m b hm
    exact H.an m b0 j h1 ((h2 j).1 hj)
  · intro i j bi bj pi pj hne hi hj hpi hpj hb
    obtain ⟨bi0,h1,h2,h3,_⟩:=hget i bi hi
    obtain ⟨bj0,g1,g2,g3,_⟩:=hget j bj hj
    rcases H.ap i j bi0 bj0 pi pj hne h1 g1 hpi hpj hb with ⟨a,b⟩ |⟨a,b⟩
    · exact .inl ⟨(h2 j).2 a,by rw [h3,g3];exact b⟩
    · exact .inr ⟨(g2 i).2 a,by rw [h3,g3];exact b⟩
  · intro i j cs' al' hy' bj hi hj ho
    obtain ⟨bi0,h1,_,_,_,h2⟩:=hget i _ hi
    obtain ⟨bj0,g1,g2,_⟩:=hget j bj hj
    rw [h2 _ _ _ rfl] at h1
    exact H.tp i j cs' al' hy' bj0 h1 g1 ((g2 i).1 ho)
  · intro b _ hf m bm pl hm hpl
    obtain ⟨b0,h1,_⟩:=hget m bm hm
    exact hf m b0 pl h1 hpl
theorem G8.addIn (H:G8 σ h w) (hr:QgA h.next=true) {k:Id} {cs ns:List AV} {al:List Id} {hy:Option TypeId} {pl:Pl} {off:Nat} {d d':Array Value} {E:TypeId} {w':World} (hk:h.get k=some (.cells cs false al hy)) (hp:σ k=some pl)
    (hno:∀m bm,h.get m=some bm->¬QaR k bm) (hd:w.heap[pl.b]?=some (.cells d E (0,0))) (hle:off+0<=cs.length) (hlen:cs.length<=off+ns.length)
    (hs:d'.size=d.size) (hag:∀i,i<pl.o+cs.length->d'[i]?=d[i]?) (hb:RelB σ ⟨pl.b,pl.o+off,pl.n⟩ (.cells ns true (k::al) none) (.cells d' E (0,0)))
    (hw:w'.heap[pl.b]?=some (.cells d' E (0,0))) (hoth:∀i,i≠pl.b->w'.heap[i]?=w.heap[i]?) (hsz:w'.heap.size=w.heap.size)
    (e1:w'.os=w.os) (e2:w'.tape=w.tape) (e3:w'.output=w.output) (e4:w.drawn<=w'.drawn) :
    Go1 σ h w (σ.add h.next ⟨pl.b,pl.o+off,pl.n⟩) (h.add (.cells ns true (k::al) none)) w':=by
  have hfresh:σ h.next=none:=H.nx _ (Xi _)
  have hsg:=Qc7 (p:=⟨pl.b,pl.o+off,pl.n⟩) hfresh
  have hnum:=Qms (k:=h.next) (by have:=Qe2 hr;omega)
  have hnext:(h.add (.cells ns true (k::al) none)).next=inc h.next:=rfl
  have hold:∀m bm,(h.add (.cells ns true (k::al) none)).get m=some bm->m≠h.next->h.get m=some bm:=by
    intro m bm hm hne
    rw [Qh2,if_neg hne] at hm;exact hm
  have hnew:∀bm,(h.add (.cells ns true (k::al) none)).get h.next=some bm->bm= .cells ns true (k::al) none:=by
    intro bm hm
    rw [Qh2,if_pos rfl] at hm;exact (Zu hm).symm
  have hkn:=H.lt hk
  have same:∀m bm pm,h.get m=some bm->σ m=some pm->pm.b=pl.b->(m=k∨m ∈ al)∧QgD pm bm<=pl.o+cs.length:=by
    intro m bm pm hm hpm hbb
    by_cases e:m=k
    · subst e
      rw [hk] at hm;cases hm
      rw [hp] at hpm;cases hpm
      exact ⟨.inl Z,Xi _⟩
    · rcases H.ap m k bm _ pm pl e hm hk hpm hp hbb with ⟨h1,_⟩ |⟨h1,h2⟩
      · exact absurd h1 (hno m bm hm)
      · exact ⟨.inr h1,h2⟩
  refine ⟨hsg,⟨?_,?_,?_,?_,?_,?_⟩,e1,e2,e3,e4,by rw [hsz];exact Xi _,?_,?_,by rw [hnext,hnum];omega,fun k hk=>JD (by intro e;rw [e] at hk;omega),fun j hj ⟨m,bm,q1,q2⟩=>by
    rw [Qh2] at q1
    split at q1
    · rename_i e
      cases q1
      rcases q2 with q2 |q2
      · rw [<-q2,e] at hj;omega
      · rcases Xr.1 (show j ∈ k::al from q2) with q2 |q2
        · exact ⟨k,_,hk, .inl q2.symm⟩
        · exact ⟨k,_,hk, .inr q2⟩
    · exact ⟨m,bm,q1,q2⟩⟩
  · rw [hnext,hnum];have:=Qe2 hr;omega
  · intro m hm
    rw [hnext,hnum] at hm
    rw [JD (by intro e;rw [e] at hm;omega)]
    exact H.nx m (by omega)
  · intro m bm hm
    by_cases e:m=h.next
    · subst e
      rw [hnew bm hm]
      exact ⟨_,_,JX,hw,hb.mono hsg⟩
    · have hm':=hold m bm hm e
      obtain ⟨pm,om,g1,g2,g3⟩:=H.bl m bm hm'
      by_cases hbb:pm.b=pl.b
      · obtain ⟨_,h2⟩:=same m bm pm hm' g1 hbb
        rw [hbb,hd] at g2;cases g2
        exact ⟨pm,_,hsg _ _ g1,by rw [hbb];exact hw,(g3.beyond h2 hs hag).mono hsg⟩
      · exact ⟨pm,om,hsg _ _ g1,by rw [hoth _ hbb];exact g2,g3.mono hsg⟩
  · intro m bm j hm hj
    rw [hnext,hnum]
    by_cases e:m=h.next
    · subst e
      rw [hnew bm hm] at hj
      rcases Xr.1 hj with rfl |hj
      · omega
      · have:=H.an k _ j hk hj;omega
    · have:=H.an m bm j (hold m bm hm e) hj;omega
  · intro i j bi bj pi pj hne hi hj hpi hpj hbb
    by_cases ei:i=h.next
    · subst ei
      rw [JX] at hpi;cases hpi
      have hj':=hold j bj hj (Ne.symm hne)
      rw [JD (Ne.symm hne)] at hpj
      obtain ⟨h1,h2⟩:=same j bj pj hj' hpj hbb.symm
      rw [hnew bi hi]
      refine .inl ⟨?_,?_⟩
      · rcases h1 with rfl |h1
        · exact List.mem_cons_self
        · exact List.mem_cons_of_mem _ h1
      · show QgD pj bj<=pl.o+off+ns.length
        omega
    · by_cases ej:j=h.next
      · subst ej
        rw [JX] at hpj;cases hpj
        have hi':=hold i bi hi ei
        rw [JD ei] at hpi
        obtain ⟨h1,h2⟩:=same i bi pi hi' hpi hbb
        rw [hnew bj hj]
        refine .inr ⟨?_,?_⟩
        · rcases h1 with rfl |h1
          · exact List.mem_cons_self
          · exact List.mem_cons_of_mem _ h1
        · show QgD pi bi<=pl.o+off+ns.length
          omega
      · rw [JD ei] at hpi
        rw [JD ej] at hpj
        exact H.ap i j bi bj pi pj hne (hold _ _ hi ei) (hold _ _ hj ej) hpi hpj hbb
  · intro i j cs' al' hy' bj hi hj ho
    by_cases ej:j=h.next
    · subst ej
      rw [hnew bj hj] at ho
      by_cases ei:i=h.next
      · subst ei
        rcases Xr.1 ho with e |ho
        · rw [<-e] at hkn;omega
        · have:=H.an k _ _ hk ho;omega
      · have hi':=hold i _ hi ei
        rcases Xr.1 ho with e |ho
        · subst e;rw [hk] at hi';cases hi'
        · exact H.tp i k cs' al' hy' _ hi' hk ho
    · by_cases ei:i=h.next
      · subst ei;have:=H.an j bj _ (hold j bj hj ej) ho;omega
      · exact H.tp i j cs' al' hy' bj (hold i _ hi ei) (hold j bj hj ej) ho
  · intro i o hi hf
    rw [hoth i (by intro e;exact hf k _ pl hk hp e.symm)]
    exact hi
  · intro i hi hf m bm pm hm hpm
    by_cases e:m=h.next
    · subst e;rw [JX] at hpm;cases hpm;exact hf k _ pl hk hp
    · rw [JD e] at hpm;exact hf m bm pm (hold m bm hm e) hpm
end
end Go.Pw
