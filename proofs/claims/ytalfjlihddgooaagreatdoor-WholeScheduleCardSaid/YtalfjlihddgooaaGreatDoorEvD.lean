/- -/
import Derived.Test.YtalfjlihddgooaaGreatDoorBa
import Derived.Test.YtalfjlihddgooaaGreatDoorEvC
import Derived.Deep.Upon
import Derived.Lib.Bytealg
set_option linter.unusedSimpArgs false
set_option linter.unusedVariables false
namespace Go.Pw
open Classical
section
variable {P:Program} {σ:Sg} {h:AH} {w:World}
theorem Qwr {sz n:Nat} {x:AV} {u:Value} {new:List AV} {tx:TypeId} {d:TypeDesc} (H:G8 σ h w) (hx:Gy σ x u) (hl:QtH x=some n) (hs:QtA sz x h=some new) (hd:P.underlying tx=some d) (hk:QtB d=true) :
    ∃us,Src P sz tx u n us w∧Gs σ new us:=by
  have kind:(∃e',P.underlying tx=some (.slice e'))∨P.underlying tx=some .string:=by
    cases d <;> first |(cases hk;done) |exact .inl ⟨_,hd⟩ |exact .inr hd
  rcases QbD hs with ⟨hgs,h2⟩ |⟨l,h1,h2⟩
  · rcases QbD h2 with ⟨hgl,h3⟩ |⟨s,h3,h4⟩
    · obtain ⟨h4,h5⟩:=QB h3
      cases h5
      have:=Qdk h4
      subst this
      cases hl
      rw [QeO hx]
      exact ⟨[],⟨kind,fun _=>rfl,run_firstCells_none w sz 0 0 0,run_firstCells_none w.drew sz 0 0 0,by simp,fun _ h=>by cases h⟩, .nil⟩
    · obtain ⟨c,h5,h6⟩:=Q1 h4
      obtain ⟨h7,h8⟩:=QB h6
      obtain ⟨h9,h10⟩:=QB h8
      cases h10
      have:=Qbf h3
      subst this
      cases hl
      have e1:=Xh h7
      have hle:s.off+s.len * sz<=c.cs.length:=QbE h9
      obtain ⟨pl,ad,cp,hu,hp,hlc,_,had⟩:=Qel hx
      obtain ⟨hg,pl',dd,E,fz,g1,g2,g3,g4,g5,g6,g7,g8⟩:=H.cells h5
      rw [hp] at g1;cases g1
      rw [YJ,QaF]
      rw [hu]
      obtain ⟨us,hrel,hlen,hrun,hus⟩:=Qah (P:=P) (w:=w) g2 g5 hle
      obtain ⟨us2,hrel2,hlen2,hrun2,hus2⟩:=Qah (P:=P) (w:=w.drew) (E:=E) (fz:=fz) (d:=dd) g2 g5 hle
      have e2:us2=us:=by rw [hus,hus2]
      subst e2
      have one:∀u ∈ us2,u.oneCell'=true:=by
        intro u hu'
        rw [hus] at hu'
        exact g6 u (XJ (XE hu'))
      refine ⟨us2,⟨kind,fun _=>rfl,?_,?_,hlen,one⟩,hrel⟩
      · rcases had with ⟨rfl,_⟩ |⟨h0,_⟩
        · exact hrun
        · have:us2=[]:=XH.1 (by rw [hlen,h0];simp)
          subst this
          simp [Builtin.firstCells,h0,loadCells,loadCellsFrom]
      · rcases had with ⟨rfl,_⟩ |⟨h0,_⟩
        · exact hrun2
        · have:us2=[]:=XH.1 (by rw [hlen,h0];simp)
          subst this
          simp [Builtin.firstCells,h0,loadCells,loadCellsFrom]
  · obtain ⟨h3,h4⟩:=QB h2
    cases h4
    have e1:=Xh h3
    subst e1
    have:=Qa0 h1
    subst this
    cases hl
    obtain ⟨q,hu,hq⟩:=Qez hx
    rw [hu]
    have hlen:Qej l=q.size:=by rw [QcH, <-hq,X6];rfl
    rw [hlen,Qju, <-hq]
    refine ⟨byteCells q,⟨kind,fun _=>rfl,firstCells_string q w,firstCells_string q w.drew,by rw [byteCells_length];simp,fun u hu=>?_⟩,Qgz _⟩
    obtain ⟨b,_,rfl⟩:=X5.1 hu
    rfl
theorem Qu7 {hm:AH} (H:G8 σ hm w) (hr:QgA hm.next=true) {nw:List AV} {us zs:List Value} {e:TypeId} {al:List Id} (hv:Gs σ nw us) (h1:∀u ∈ us,u.oneCell'=true)
    (hal:∀m ∈ al,m.num<hm.next.num∧∀cs al hy,hm.get m≠some (.cells cs true al hy)) (hol:∀m ∈ al,Old hm m) :
    Go1 σ hm w (σ.add hm.next ⟨w.heap.size,0,us.length+zs.length⟩) (hm.add (.cells nw true al none)) (w.drew.alloc (.cells (us.toArray++zs.toArray) e)):=by
  have hl:=hv.len
  refine H.add (b:= .cells nw true al none) (n:=us.length+zs.length) hr (o:= .cells (us.toArray++zs.toArray) e) ?_ (fun m hm'=>hal m hm') (fun m hm'=>hol m hm') Z Z Z Z (Nat.le_succ _)
  refine .cells (by simp) (by simp;omega) ?_ ?_ (fun _=>rfl) (fun _ h=>by cases h)
  · simp [hl]
    exact hv.mono (Qc7 (H.nx _ (Xi _)))
  · simp [hl]
    exact h1
theorem Qdh {t tx ty e:TypeId} {i:TypeInfo} (ht:P.underlying t=some (.slice e)) (hi:P.info? e=some i) (b off sLen sCap:Nat) (x:Value) (n:Nat) (news:List Value) (hs:Src P i.size tx x n news w) {d:Array Value} {E:TypeId}
    (hroom:sLen+n<=sCap) (hd:w.heap[b]?=some (.cells d E (0,0))) (hfit:off+sLen * i.size+news.length<=d.size) :
    (Builtin.append_ #[t,tx] ty #[.slice (some ⟨b,off,none⟩) sLen sCap,x]).run P w= .ok (.slice (some ⟨b,off,none⟩) (sLen+n) sCap) (w.setRow b (d.toList.take (off+sLen * i.size)++news++d.toList.drop (off+sLen * i.size+news.length)).toArray):=by
  have hst:=run_storeCells_at P b (off+sLen * i.size) E news 0 d w hd (by simpa using hfit) hs.one
  simp only [Nat.add_zero] at hst
  rcases hs.kind with ⟨e',hk⟩ |hk <;> simp [Builtin.append_,Xk ht,Xk hk,sizeOf,typeInfo,hi,hs.len,hroom,hs.cells,Addr.add_lit,hst]
theorem QnZ {e sz:Nat} (h:QjJ P e sz=true):∃i z,P.info? e=some i∧i.zero=some z∧z.cells.size=sz:=by
  unfold QjJ at h
  split at h
  · rename_i i hi
    split at h
    · rename_i z hz;exact ⟨i,z,hi,hz,Xh h⟩
    · cases h
  · cases h
theorem Qkd {v v':AV} {hm h':AH} {b:AB} (h:RS.new v hm b= .ok v' h'):QgA hm.next=true∧v=v'∧hm.add b=h':=by
  unfold RS.new at h
  cases hr:QgA hm.next with
  |false=>rw [hr] at h;cases h
  |true=>rw [hr] at h;cases h;exact ⟨rfl,rfl,rfl⟩
theorem QuQ {T U e sz:TypeId} {x y:Operand} {c:Call} {d:TypeDesc} (hc:c.callee= .builtin .append) (ha':c.args.toList=[x,y]) (ht:c.argTypes.toList=[T,U]) (hT:Qd1 P T=some (e,sz)) (hU:P.underlying U=some d)
    (hsm:QgQ P e=true) (hz:QjJ P e sz=true) (hk:QtB d=true):EOK P (.call c) (Qqa sz):=by
  intro call hcall o ρ σ h w a v h' ho hρ H ha he
  have eo:Ye (.call c)=[x,y]:=by simp [Ye,hc,ha']
  rw [eo] at ha
  obtain ⟨s,b,rfl,hs,hb⟩:=QbW ha
  obtain ⟨n,h1,h2⟩:=QgN he
  obtain ⟨new,h3,h4⟩:=QgN h2
  obtain ⟨news,hsrc,hnew⟩:=Qwr (P:=P) H hb h1 h3 hU hk
  obtain ⟨hu,hs0,i,hi,hsz⟩:=QcA hT
  obtain ⟨ti,hti,hby⟩:=QiG hsm
  obtain ⟨ti2,z,hti2,hzz,hzs⟩:=QnZ hz
  rw [hi] at hti;cases hti
  rw [hi] at hti2;cases hti2
  have e1:c.args=#[x,y]:=by rw [<-Array.toArray_toList (xs:=c.args),ha']
  have e2:c.argTypes=#[T,U]:=by rw [<-Array.toArray_toList (xs:=c.argTypes),ht]
  have fin:∀{u:Value} {w':World},(Builtin.append_ #[T,U] o.type #[ρ x,ρ y]).run P w= .ok u w'->(∃τ,Go1 σ h w τ h' w'∧Gy τ v u)->Exec P ρ o w (fun u w'=>∃τ,Go1 σ h w τ h' w'∧Gy τ v u):=by
    intro u w' hrun hK
    refine .of_run (v:=u) (w':=w') ?_ hK
    unfold execOp
    simp only [ho,resolve,hc,e1,e2,Xe,Xg,Xd,invoke,builtin,XB,Xv,XM,hrun]
  rw [<-hsz] at hsrc
  have hnl:news.length=n * sz:=by rw [hsrc.newsLen,hsz]
  have grown:∀{hm:AH} {base:Option Addr} {sLen sCap:Nat} {olds:List Value} {nw:List AV} {al:List Id},Go1 σ h w σ hm w->hm.next=h.next->ρ x= .slice base sLen sCap->(Builtin.firstCells sz sLen (.slice base sLen sCap)).run P w.drew= .ok olds.toArray w.drew ->
      olds.length=sLen * sz->(∀u ∈ olds,u.oneCell'=true)->Gs σ nw (olds++news)->sCap<sLen+n->sLen+n<=131072->(∀m ∈ al,(m.num<hm.next.num∧∀cs al hy,hm.get m≠some (.cells cs true al hy))∧Old hm m) ->
      RS.new (.sl h.next 0 (sLen+n) sz none) hm (.cells nw true al none)= .ok v h'->Exec P ρ o w (fun u w'=>∃τ,Go1 σ h w τ h' w'∧Gy τ v u):=by
    intro hm base sLen sCap olds nw al hgo hnx hx hold hol h1o hv hcap hsmall hal hR
    obtain ⟨hr,rfl,rfl⟩:=Qkd hR
    have hge:=grownCap_ge w (sLen+n) sCap e
    have hrun:=run_append_grow_src (P:=P) w T U o.type e i z hu hi hzz base sLen sCap olds (by rw [hsz];exact hold) (ρ y) n news hsrc hcap (by omega) (growslice_fits hcap (X0 (Nat.mul_le_mul hsmall hby) (by decide)))
    rw [<-hx] at hrun
    have hzl:(Builtin.zeroCells z.cells (grownCap w (sLen+n) sCap e - (sLen+n))).toList.length=(grownCap w (sLen+n) sCap e - (sLen+n)) * sz:=by simp [Builtin.zeroCells,hzs]
    have hgo2:=Qu7 hgo.rel hr (e:=e) (zs:=(Builtin.zeroCells z.cells (grownCap w (sLen+n) sCap e - (sLen+n))).toList) hv (fun u hu=>by
      rcases Xn.1 hu with h |h
      · exact h1o u h
      · exact hsrc.one u h) (fun m hm=>(hal m hm).1) (fun m hm=>(hal m hm).2)
    rw [Array.toArray_toList] at hgo2
    refine fin hrun ⟨_,hgo.trans hgo2,?_⟩
    rw [<-hnx]
    refine .sl JX hge (fun d hd=>by cases hd) (.inl ⟨by simp,?_⟩)
    simp only [Xt,hol,hnl,hzl]
    have:sLen * sz+n * sz+(grownCap w (sLen+n) sCap e - (sLen+n)) * sz=grownCap w (sLen+n) sCap e * sz:=by
      rw [<-Nat.add_mul, <-Nat.add_mul];congr 1;omega
    omega
  unfold Qx0 at h4
  cases hn0:Nat.beq n 0 with
  | true =>
    have hn0':=Xh hn0
    subst hn0'
    have hnil:news=[]:=XH.1 (by rw [hnl];simp)
    subst hnil
    rw [hn0] at h4
    have nothing:∀base sLen sCap,ρ x= .slice base sLen sCap->sLen<=sCap->(Builtin.append_ #[T,U] o.type #[ρ x,ρ y]).run P w= .ok (ρ x) w:=by
      intro base sLen sCap hx hle
      rw [hx]
      exact run_append_nothing w T U o.type e i hu hi base sLen sCap hle (ρ y) hsrc
    have h4:Kk (QeM s) (RS.ok s h) (@Option.rec Sl (fun _=>RS) .no (fun _=>RS.ok s h) (QcO s))= .ok v h':=h4
    cases hsn:QeM s with
    | true =>
      rw [hsn] at h4;cases h4
      have:=Qdk hsn
      subst this
      exact fin (nothing _ _ _ (QeO hs) (Xi _)) ⟨σ,Go1.refl H,hs⟩
    | false =>
      rw [hsn] at h4
      obtain ⟨t,g1,g2⟩:=QgN (o:=QcO s) h4
      cases g2
      have:=Qbf g1
      subst this
      obtain ⟨pl,ad,cp,hx,_,hlc,_⟩:=Qel hs
      exact fin (nothing _ _ _ hx hlc) ⟨σ,Go1.refl H,hs⟩
  | false =>
    rw [hn0] at h4
    have hnpos:=Nat.ne_of_beq_eq_false hn0
    obtain ⟨h5,h6⟩:=QmQ (b:=Nat.ble n 65536) h4
    have hn6:=Xc h5
    cases hsn:QeM s with
    | true =>
      have h6:Kk (QeM s) (RS.new (.sl h.next 0 n sz none) h (.cells new true [] none)) _= .ok v h':=h6
      rw [hsn] at h6
      have:=Qdk hsn
      subst this
      refine grown (hm:=h) (base:=none) (sLen:=0) (sCap:=0) (olds:=[]) (nw:=new) (al:=[]) (Go1.refl H) Z (QeO hs) (run_firstCells_none w.drew sz 0 0 0) (by simp) (fun _ h=>by cases h) hnew (by omega) (by omega) (fun _ h=>by cases h) ?_
      rw [Nat.zero_add];exact h6
    | false =>
      have h6:Kk (QeM s) _ (@Option.rec Sl (fun _=>RS) .no (fun t=>Kk (Nat.ble t.len 65536) (QvB sz n t new h) .no) (QcO s))= .ok v h':=h6
      rw [hsn] at h6
      obtain ⟨t,g1,g2⟩:=QgN (o:=QcO s) h6
      obtain ⟨g3,g4⟩:=QmQ g2
      have ht6:=Xc g3
      have:=Qbf g1
      subst this
      obtain ⟨g5,g6⟩:=QmQ (b:=Nat.beq t.sz sz) g4
      have hts:=Xh g5
      obtain ⟨cc,g7,g8⟩:=QgN (o:=h.cells t.k) g6
      obtain ⟨pl,ad,cp,hx,hp,hlc,hcap,had⟩:=Qel hs
      obtain ⟨hg,pl',dd,E,fz,f1,f2,f3,f4,f5,f6,f7,f8⟩:=H.cells g7
      rw [hp] at f1;cases f1
      have olds:t.off+t.len * sz<=cc.cs.length->∃us,Gs σ ((cc.cs.drop t.off).take (t.len * sz)) us∧us.length=t.len * sz∧(∀u ∈ us,u.oneCell'=true)∧(Builtin.firstCells sz t.len (.slice (some ad) t.len cp)).run P w.drew= .ok us.toArray w.drew:=by
        intro hle
        obtain ⟨us,hrel,hlen,hrun,hus⟩:=Qah (P:=P) (w:=w.drew) (E:=E) (fz:=fz) (d:=dd) (n:=t.len * sz) f2 f5 hle
        refine ⟨us,hrel,hlen,fun u hu=>by rw [hus] at hu;exact f6 u (XJ (XE hu)),?_⟩
        rcases had with ⟨rfl,_⟩ |⟨h0,_⟩
        · exact hrun
        · have:us=[]:=XH.1 (by rw [hlen,h0];simp)
          subst this
          simp [Builtin.firstCells,h0,loadCells,loadCellsFrom]
      cases hcc:t.cap with
      | some cap =>
        rw [hcc] at g8
        have hce:=hcap cap hcc
        subst hce
        have g8:Qwk sz n cp t cc new h= .ok v h':=g8
        unfold Qwk at g8
        cases hb':Nat.ble (Nat.add t.len n) cp with
        | true =>
          rw [hb'] at g8
          have hroom:t.len+n<=cp:=Xc hb'
          obtain ⟨h2',k1,k2⟩:=Qnb g8
          cases k2
          rcases had with ⟨rfl,hrm⟩ |⟨_,h0⟩
          · obtain ⟨d2,E2,q1,q2,q3⟩:=Qkc H k1 hp hnew hsrc.one
            have e3:Nat.add t.off (Nat.mul t.len sz)=t.off+t.len * i.size:=by rw [hsz];rfl
            rw [e3, <-Nat.add_assoc] at q2 q3
            have hrun:=Qdh (P:=P) (w:=w) hu hi pl.b (pl.o+t.off) t.len cp (ρ y) n news hsrc hroom q1 q2 (ty:=o.type)
            rw [<-hx] at hrun
            exact fin hrun ⟨σ,q3, .sl hp hroom (fun d hd=>by cases hd;rfl) (.inl ⟨Z,by rw [<-hts];exact hrm⟩)⟩
          · omega
        | false =>
          rw [hb'] at g8
          have hcap':cp<t.len+n:=by
            refine Nat.lt_of_not_le fun e=>?_
            have:=Nat.ble_eq_true_of_le e
            rw [show Nat.ble (t.len+n) cp=Nat.ble (Nat.add t.len n) cp from rfl,hb'] at this;cases this
          obtain ⟨k1,k2⟩:=QmQ (b:=Qch (Nat.add t.off (Nat.mul t.len sz)) cc.cs) g8
          have hle:t.off+t.len * sz<=cc.cs.length:=QbE k1
          obtain ⟨us,o1,o2,o3,o4⟩:=olds hle
          refine grown (hm:=h) (al:=[]) (Go1.refl H) Z hx o4 o2 o3 (nw:=Qhq (Qbc (Nat.mul t.len sz) (QcP t.off cc.cs)) new) ?_ hcap' (by omega) (fun _ h=>by cases h) k2
          rw [Qdo,YJ,QaF]
          exact o1.append hnew
      | none =>
        rw [hcc] at g8
        have g8:Qwj sz n t cc new h= .ok v h':=g8
        unfold Qwj at g8
        obtain ⟨htop,g9⟩:=QmQ g8
        have:=f7 htop
        subst this
        rw [htop] at hg
        have hlt:=H.lt hg
        have both : ∀{hm:AH} {cs1 nw0:List AV} {al1:List Id},Go1 σ h w σ hm w->hm.next=h.next->hm.get t.k=some (.cells cs1 false al1 none)->cs1=cc.cs.take (t.off+t.len * sz)->t.off+t.len * sz<=cc.cs.length->(∀m bm,hm.get m=some bm->¬QaR t.k bm) ->
            nw0=(cc.cs.drop t.off).take (t.len * sz)->(∀m ∈ t.k::al1,∀cs al hy,hm.get m≠some (.cells cs true al hy)) ->
            RS.new (.sl h.next 0 (t.len+n) sz none) hm (.cells (nw0++new) true (t.k::al1) none)= .ok v h'->Exec P ρ o w (fun u w'=>∃τ,Go1 σ h w τ h' w'∧Gy τ v u):=by
          intro hm cs1 nw0 al1 hgo hnx hk1 hcs1 hle hno hnw hal hR
          obtain ⟨us,o1,o2,o3,o4⟩:=olds hle
          subst hnw
          by_cases hroom:t.len+n<=cp
          · obtain ⟨hr,rfl,rfl⟩:=Qkd hR
            rcases had with ⟨rfl,hrm⟩ |⟨_,h0⟩
            · rw [hts] at hrm
              have hfit:pl.o+t.off+t.len * i.size+news.length<=dd.size:=by
                rw [hnl,hsz,f3]
                have:t.len * sz+n * sz<=cp * sz:=by rw [<-Nat.add_mul];exact Nat.mul_le_mul_right _ hroom
                omega
              have hrun:=Qdh (P:=P) (w:=w) hu hi pl.b (pl.o+t.off) t.len cp (ρ y) n news hsrc hroom f2 hfit (ty:=o.type)
              rw [<-hx] at hrun
              have hcl:cs1.length=t.off+t.len * sz:=by rw [hcs1];simp;omega
              generalize hd':(dd.toList.take (pl.o+t.off+t.len * i.size)++news++dd.toList.drop (pl.o+t.off+t.len * i.size+news.length)).toArray=d' at hrun
              have hd'l:d'.toList=dd.toList.take (pl.o+t.off+t.len * i.size)++news++dd.toList.drop (pl.o+t.off+t.len * i.size+news.length):=by rw [<-hd']
              have hds:d'.size=dd.size:=by
                have:=congrArg List.length hd'l
                simp at this
                omega
              have hnw1:((cc.cs.drop t.off).take (t.len * sz)).length=t.len * sz:=by simp;omega
              have hdl:dd.toList.length=dd.size:=by simp
              have hget:∀j:Nat,d'[j]?=d'.toList[j]?:=fun j=>Array.getElem?_toList.symm
              have hag:∀j,j<pl.o+cs1.length->d'[j]?=dd[j]?:=by
                intro j hj
                rw [hget,hd'l,Xs (by simp;rw [hsz];omega),Xs (by simp;rw [hsz];omega),Xo,if_pos (by rw [hsz];omega)]
                simp
              have hkey:(d'.toList.drop (pl.o+t.off)).take ((cc.cs.drop t.off).take (t.len * sz)++new).length=us++news:=by
                have hus:us=(((dd.toList.drop pl.o).take cc.cs.length).drop t.off).take (t.len * sz):=by
                  obtain ⟨us3,_,_,hr3,hus3⟩:=Qah (P:=P) (w:=w.drew) (E:=E) (fz:=(0,0)) (d:=dd) (n:=t.len * sz) f2 f5 hle
                  have hr4:(loadCells ⟨pl.b,pl.o+t.off,none⟩ (t.len * sz)).run P w.drew= .ok us.toArray w.drew:=o4
                  rw [hr4] at hr3
                  simp at hr3
                  rw [hr3];exact hus3
                have hlen2:((cc.cs.drop t.off).take (t.len * sz)++new).length=t.len * sz+news.length:=by rw [Xt,hnw1,hnew.len]
                rw [hlen2,hd'l]
                apply List.ext_getElem?
                intro j
                rw [Xo]
                by_cases h1:j<t.len * sz
                · rw [if_pos (by omega),Xu,Xs (by simp;rw [hsz];omega),Xs (by simp;rw [hsz];omega),Xo,if_pos (by rw [hsz];omega)]
                  rw [Xs (by omega),hus,Xo,if_pos h1,Xu,Xo,if_pos (by omega),Xu]
                  congr 1;omega
                · by_cases h2:j<t.len * sz+news.length
                  · rw [if_pos h2,Xu,Xs (by simp;rw [hsz];omega),Xy (by simp;rw [hsz];omega),Xy (by omega)]
                    congr 1
                    simp [o2]
                    rw [hsz];omega
                  · rw [if_neg h2,X3]
                    simp [o2];omega
              have hb':RelB σ ⟨pl.b,pl.o+t.off,pl.n⟩ (.cells ((cc.cs.drop t.off).take (t.len * sz)++new) true (t.k::al1) none) (.cells d' E (0,0)):=by
                refine .cells (by rw [hds];exact f3) ?_ ?_ ?_ (fun _=>rfl) (fun _ h=>by cases h)
                · rw [Xt,hnw1,hnew.len,hds]
                  show pl.o+t.off+(t.len * sz+news.length)<=dd.size
                  rw [hsz] at hfit;omega
                · show Gs σ _ ((d'.toList.drop (pl.o+t.off)).take _)
                  rw [hkey];exact o1.append hnew
                · show ∀v ∈ (d'.toList.drop (pl.o+t.off)).take _,v.oneCell'=true
                  rw [hkey]
                  intro u hu
                  rcases Xn.1 hu with h |h
                  · exact o3 u h
                  · exact hsrc.one u h
              have hgo2:=hgo.rel.addIn hr hk1 hp hno f2 (d':=d') (off:=t.off) (ns:=(cc.cs.drop t.off).take (t.len * sz)++new) (w':=w.setRow pl.b d') (by rw [hcl];omega) (by rw [hcl,Xt,hnw1];omega) hds hag hb'
                (setRow_heap w pl.b _ _ _ _ f2) (fun j hj=>setRow_other w pl.b j _ hj) (QcV _ _ _) rfl rfl rfl (Xi _)
              refine fin hrun ⟨_,hgo.trans hgo2,?_⟩
              rw [<-hnx]
              exact .sl JX hroom (fun d hd=>by cases hd) (.inl ⟨rfl,hrm⟩)
            · omega
          · refine grown hgo hnx hx o4 o2 o3 (o1.append hnew) (by omega) (by omega) ?_ hR
            intro m hm
            refine ⟨⟨?_,hal m hm⟩,?_⟩
            · rcases Xr.1 hm with rfl |hm
              · rw [hnx];exact hlt
              · exact hgo.rel.an _ _ m hk1 hm
            · rcases Xr.1 hm with rfl |hm
              · exact ⟨_,_,hk1, .inl Z⟩
              · exact ⟨_,_,hk1, .inr hm⟩
        cases hend:QbY (Nat.add t.off (Nat.mul t.len sz)) cc.cs with
        | true =>
          rw [hend] at g9
          have hlen:cc.cs.length=t.off+t.len * sz:=QcT hend
          have hgo:=QuU H hg
          refine both hgo Z (cs1:=cc.cs) (al1:=cc.al) (nw0:=cc.cs.drop t.off) (by rw [Qai,if_pos Z]) (by rw [<-hlen,List.take_length]) (by omega) ?_ (by rw [X9 (by simp;omega)]) ?_ (by rw [<-QaF, <-Qdo];exact g9)
          · intro m bm hm ho'
            rw [Qai] at hm
            split at hm
            · rename_i e;subst e
              cases hm
              exact H.tp _ _ _ _ _ _ hg hg ho'
            · exact H.tp _ m _ _ _ bm hg hm ho'
          · intro m hm cs al hy hgm
            rw [Qai] at hgm
            split at hgm
            · cases hgm
            · rename_i hne
              rcases Xr.1 hm with rfl |hm
              · exact hne Z
              · exact H.tp m _ _ _ _ _ hgm hg hm
        | false =>
          rw [hend] at g9
          obtain ⟨k1,k2⟩:=QmQ (b:=Qch (Nat.add t.off (Nat.mul t.len sz)) cc.cs) g9
          have hle:t.off+t.len * sz<=cc.cs.length:=QbE k1
          have hgo:Go1 σ h w σ ((h.kills cc.al).put t.k (.cells (Qbc (Nat.add t.off (Nat.mul t.len sz)) cc.cs) false [] none)) w:=by
            refine H.change (h1:=h.kills cc.al) (b':= .cells (Qbc (Nat.add t.off (Nat.mul t.len sz)) cc.cs) false [] none) hg hp Qbh ?_ (fun m=>Qai) ?_ (fun m=>QcR) (fun m bm hne hm ⟨_,_,_,e⟩=>by cases e) ?_ f2 (fun _ _=>rfl) rfl rfl rfl rfl (Xi _)
            · intro m b hm
              rw [Qbo] at hm
              split at hm
              · cases hm
              · exact hm
            · intro m bm pm hne hm hpm
              rw [Qbo] at hm
              split at hm
              · cases hm
              · rename_i hnal
                exact H.alone hg hm hp hpm hne hnal
            · rw [YJ]
              exact RelB.less (top:=true) (al:=cc.al) (hy:=cc.hy) (.cells f3 f4 f5 f6 (fun _=>rfl) f8) _
          refine both hgo (by show (h.kills cc.al).next=h.next;exact Qbh) (al1:=[]) (nw0:=Qbc (Nat.mul t.len sz) (QcP t.off cc.cs)) (by rw [Qai,if_pos Z]) (by rw [YJ];rfl) hle ?_ (by rw [YJ,QaF];rfl) ?_ (by rw [<-Qdo];exact k2)
          · intro m bm hm ho'
            rw [Qai] at hm
            split at hm
            · cases hm;exact QcR ho'
            · rw [Qbo] at hm
              split at hm
              · cases hm
              · exact H.tp _ m _ _ _ bm hg hm ho'
          · intro m hm cs al hy hgm
            rcases Xr.1 hm with rfl |hm
            · rw [Qai,if_pos rfl] at hgm;cases hgm
            · cases hm
end
end Go.Pw
/- -/
namespace Go.Pw
open Classical
section
variable {P:Program}
theorem Qul (x y:Nat):QtG x y=Nat.min x y:=by
  unfold QtG
  cases h:Nat.ble x y with
  |true=>have:=Xc h;show x=_;exact (Nat.min_eq_left this).symm
  | false => have:¬x<=y:=fun e=>by have:=Nat.ble_eq_true_of_le e;rw [h] at this;cases this
             show y=_;exact (Nat.min_eq_right (by omega)).symm
theorem Qtc {σ:Sg} {h:AH} {w:World} {sz n m:Nat} {x:AV} {u:Value} {new:List AV} (H:G8 σ h w) (hx:Gy σ x u) (hl:QtH x=some n) (hs:QtA sz x h=some new) (hm:m<=n) :
    (Builtin.lenOf u).run P w= .ok n w∧∃us,(Builtin.firstCells sz m u).run P w= .ok us.toArray w∧Gs σ (new.take (m * sz)) us∧∀u ∈ us,u.oneCell'=true:=by
  rcases QbD hs with ⟨hgs,h2⟩ |⟨l,h1,h2⟩
  · rcases QbD h2 with ⟨hgl,h3⟩ |⟨s,h3,h4⟩
    · obtain ⟨h4,h5⟩:=QB h3
      cases h5
      have:=Qdk h4
      subst this
      cases hl
      rw [QeO hx]
      have:m=0:=by omega
      subst this
      exact ⟨Z,[],run_firstCells_none w sz 0 0 0,by simpa using Gs.nil,fun _ h=>by cases h⟩
    · obtain ⟨c,h5,h6⟩:=Q1 h4
      obtain ⟨h7,h8⟩:=QB h6
      obtain ⟨h9,h10⟩:=QB h8
      cases h10
      have:=Qbf h3
      subst this
      cases hl
      have hle:s.off+s.len * sz<=c.cs.length:=QbE h9
      have hms:m * sz<=s.len * sz:=Nat.mul_le_mul_right _ hm
      obtain ⟨pl,ad,cp,hu,hp,hlc,_,had⟩:=Qel hx
      obtain ⟨hg,pl',dd,E,fz,g1,g2,g3,g4,g5,g6,g7,g8⟩:=H.cells h5
      rw [hp] at g1;cases g1
      rw [YJ,QaF,hu]
      have hle':s.off+m * sz<=c.cs.length:=by omega
      obtain ⟨us,hrel,hlen,hrun,hus⟩:=Qah (P:=P) (w:=w) (n:=m * sz) g2 g5 hle'
      refine ⟨Z,us,?_,?_,?_⟩
      · rcases had with ⟨rfl,_⟩ |⟨h0,_⟩
        · exact hrun
        · have hm0:m=0:=by have:m<=s.len:=hm;omega
          have:us=[]:=XH.1 (by rw [hlen,hm0];simp)
          subst this
          simp [Builtin.firstCells,hm0,loadCells,loadCellsFrom]
      · have e:Nat.mul s.len sz=s.len * sz:=rfl
        rw [e,List.take_take,Nat.min_eq_left hms];exact hrel
      · intro u hu'
        rw [hus] at hu'
        exact g6 u (XJ (XE hu'))
  · obtain ⟨h3,h4⟩:=QB h2
    cases h4
    have e1:=Xh h3
    subst e1
    have:=Qa0 h1
    subst this
    cases hl
    obtain ⟨q,hu,hq⟩:=Qez hx
    rw [hu]
    have hlen:Qej l=q.size:=by rw [QcH, <-hq,X6];rfl
    rw [hlen] at hm ⊢
    refine ⟨Z,(q.data.toList.take m).map fun b=>Value.int .u8 b.toNat,?_,?_,?_⟩
    · simp only [Builtin.firstCells,Xg]
      congr 2
      apply Array.ext'
      simp [ByteArray.data_extract]
    · rw [Qju, <-hq,Nat.mul_one, <-List.map_take, <-List.map_take]
      exact Qgz _
    · intro u hu
      obtain ⟨b,_,rfl⟩:=X5.1 hu
      rfl
theorem QuE {T e sz:TypeId} {ts:List TypeId} {x y:Operand} {c:Call} (hc:c.callee= .builtin .copy) (ha':c.args.toList=[x,y]) (ht:c.argTypes.toList=T::ts) (hT:Qd1 P T=some (e,sz)):EOK P (.call c) (Qv7 sz):=by
  intro call hcall o ρ σ h w a v h' ho hρ H ha he
  have eo:Ye (.call c)=[x,y]:=by simp [Ye,hc,ha']
  rw [eo] at ha
  obtain ⟨d,b,rfl,hd',hb⟩:=QbW ha
  obtain ⟨s,h1,h2⟩:=QgN he
  obtain ⟨n,h3,h4⟩:=QgN h2
  obtain ⟨new,h5,h6⟩:=QgN h4
  obtain ⟨h7,h8⟩:=QmQ h6
  obtain ⟨h2',k1,k2⟩:=Qnb h8
  cases k2
  have:=Qbf (v:=d) h1
  subst this
  obtain ⟨hu,hs0,i,hi,hsz⟩:=QcA hT
  obtain ⟨pl,ad,cp,hx,hp,hlc,hcap,had⟩:=Qel hd'
  rw [Qul] at k1 ⊢
  obtain ⟨hlen,us,hrun,hrel,hone⟩:=Qtc (P:=P) (m:=Nat.min n s.len) H hb h3 h5 (Nat.min_le_left _ _)
  rw [YJ] at k1
  obtain ⟨dd,E,q1,q2,q3⟩:=Qkc H k1 hp hrel hone
  have e1:c.args=#[x,y]:=by rw [<-Array.toArray_toList (xs:=c.args),ha']
  have e2:c.argTypes[0]?=some T:=by rw [<-Array.getElem?_toList,ht];rfl
  have hst:=run_storeCells_at P pl.b (pl.o+s.off) E us 0 dd w q1 (by simpa using q2) hone
  simp only [Nat.add_zero] at hst
  have hul:us.length=(new.take (Nat.min n s.len * sz)).length:=hrel.len.symm
  have had':ad=⟨pl.b,pl.o+s.off,none⟩∨us=[]:=by
    rcases had with ⟨h,_⟩ |⟨h0,_⟩
    · exact .inl h
    · right
      refine XH.1 ?_
      rw [hul,h0]
      have:Nat.min n 0=0:=Nat.min_zero n
      rw [this];simp
  have hst':(storeCells ad us).run P w= .ok () (w.setRow pl.b (dd.toList.take (pl.o+s.off)++us++dd.toList.drop (pl.o+s.off+us.length)).toArray):=by
    rcases had' with rfl |rfl
    · exact hst
    · have:(storeCells ad []).run P w= .ok () w:=rfl
      rw [this]
      have h0:(storeCells (⟨pl.b,pl.o+s.off,none⟩:Addr) []).run P w= .ok () w:=rfl
      rw [h0] at hst
      exact hst
  refine .of_run (v:=goInt (Nat.min n s.len:Nat)) (w':=w.setRow pl.b (dd.toList.take (pl.o+s.off)++us++dd.toList.drop (pl.o+s.off+us.length)).toArray) ?_ ⟨σ,q3, .n _⟩
  unfold execOp
  simp only [ho,resolve,hc,e1,Xe,Xg,Xd,invoke,builtin,XB,Xv,XM,hx,Builtin.copy_,e2]
  simp [Xk hu,hlen,sizeOf,typeInfo,hi,hsz,hrun,hst']
theorem G8.lone {σ:Sg} {h:AH} {w:World} (H:G8 σ h w) {k m:Id} {bk bm:AB} {pl pm:Pl} (hk:h.get k=some bk) (hm:h.get m=some bm) (hp:σ k=some pl) (hpm:σ m=some pm) (hne:m≠k) (hb:∀cs t al hy,bk≠ .cells cs t al hy):pm.b≠pl.b:=by
  intro e
  rcases H.ap m k bm bk pm pl hne hm hk hpm hp e with ⟨h1,_⟩ |⟨h1,_⟩
  · cases bm with
    | cells cs t al hy =>
      obtain ⟨p1,o1,g1,g2,g3⟩:=H.bl _ _ hk
      obtain ⟨p2,o2,g4,g5,g6⟩:=H.bl _ _ hm
      rw [hp] at g1;cases g1
      rw [hpm] at g4;cases g4
      rw [e] at g5
      rw [g2] at g5;cases g5
      cases g6
      cases bk with
      |cells cs t al hy=>exact hb _ _ _ _ rfl
      |map es=>cases g3
      |iter s p=>cases g3
    |map es=>exact h1
    |iter s p=>exact h1
  · cases bk with
    |cells cs t al hy=>exact hb _ _ _ _ rfl
    |map es=>exact h1
    |iter s p=>exact h1
theorem Qk7 {α:Type} {f:α->α} {y:α} {ys:List α}:∀{xs:List α},(xs++y::ys).modify xs.length f=xs++f y::ys
  |[]=>rfl
  | x::xs=>by
    have:=Qk7 (f:=f) (y:=y) (ys:=ys) (xs:=xs)
    simp only [List.cons_append,Xw,List.modify_succ_cons,this]
theorem QfH {α:Type} {y:α} {ys:List α}:∀{xs:List α} {n:Nat},xs.length=n->(xs++y::ys).drop (n+1)=ys
  |[],n,h=>by subst h;rfl
  |x::xs,n,h=>by subst h;exact QfH (xs:=xs) rfl
theorem Qui {T kt et:TypeId} {x y z:Operand} (hT:P.underlying T=some (.map kt et)) (hk:P.underlying kt=some .string):EOK P (.mapUpdate T x y z) Qvp:=by
  intro call hcall o ρ σ h w a v h' ho hρ H ha he
  obtain ⟨b,c,d,rfl,hb,hc,hd'⟩:=Qvi ha
  obtain ⟨h2,h3,h4⟩:=Qnb he
  cases h4
  obtain ⟨k,h5,h6⟩:=Q1 h3
  obtain ⟨key,h7,h8⟩:=Q1 h6
  obtain ⟨es,h9,h10⟩:=Q1 h8
  obtain ⟨h11,h12⟩:=QB h10
  cases h12
  have:=Qmx (v:=b) h5
  subst this
  have:=Qa0 (v:=c) h7
  subst this
  obtain ⟨pl,hp,hx⟩:=Qvj hb
  obtain ⟨s,hy,hs⟩:=Qez hc
  obtain ⟨bk,g1,g2⟩:=Q1 h9
  have:bk= .map es:=by cases bk <;> first |(cases g2;rfl) |cases g2
  subst this
  obtain ⟨pl',ob,g3,g4,g5⟩:=H.bl _ _ g1
  rw [hp] at g3;cases g3
  cases g5 with
  |map ho' hrk hrv =>
  rename_i cm t
  have go:∀(es':List (AV×AV)) (c':Array MapEntry) (t':Nat),QlP key (hd3 [AV.m k,AV.s key,d]) es=es'->Gs σ (es'.map (·.1)) (c'.toList.map (·.key))->Gs σ (es'.map (·.2)) (c'.toList.map (·.val)) ->
      Go1 σ h w σ (h.put k (.map (QlP key (hd3 [AV.m k,AV.s key,d]) es))) { w with heap:=w.heap.setIfInBounds pl.b (.map c' t') }:=by
    intro es' c' t' e1 r1 r2
    rw [e1]
    refine H.change (h1:=h) (b':= .map es') (o':= .map c' t') g1 hp rfl (fun _ _ h=>h) (fun m=>Qai) (fun m bm pm hne hm hpm=>H.lone g1 hm hp hpm hne (fun _ _ _ _ e=>by cases e)) (fun m hm=>hm) (fun m bm hne hm ⟨_,_,_,e⟩=>by cases e) (.map ho' r1 r2) ?_ ?_ (by simp) rfl rfl rfl (Xi _)
    · simp [KZ g4]
    · intro i hi
      rw [Array.getElem?_setIfInBounds_ne (Ne.symm hi)]
  have hset:∀(ob:Obj),(setObj pl.b ob).run P w= .ok () { w with heap:=w.heap.setIfInBounds pl.b ob }:=by
    intro ob
    simp [setObj,Sem.run,g4]
  rcases Qks hs 0 h11 hrk hrv with ⟨v',es1,es2,c1,dd,c2,f1,f2,f3,f4,f5,f6,f7⟩ |⟨f1,f2,f3⟩
  · have hmod:(cm.modify c1.length fun e=>{ e with key:= .string s,val:=ρ z }).toList=c1++{ dd with key:= .string s,val:=ρ z }::c2:=by
      rw [Array.toList_modify,f3,Qk7]
    have hci:cm[c1.length]?=some dd:=by rw [<-Array.getElem?_toList,f3];simp
    have keep:Instr.keyThatStays (.string s) (.string s)=pure (.string s):=by
      unfold Instr.keyThatStays
      rw [if_pos (by simp [Instr.sameBits,Qsl])]
    refine .of_skip (w':={ w with heap:=w.heap.setIfInBounds pl.b (.map (cm.modify c1.length fun e=>{ e with key:= .string s,val:=ρ z }) t) }) ?_ ⟨σ,go _ (cm.modify c1.length fun e=>{ e with key:= .string s,val:=ρ z }) t (f7 _) ?_ ?_, .un⟩
    · unfold execOp
      simp only [ho,hx,hy]
      simp [Instr.mapUpdate,Xk hT,getObj,Sem.run,g4,Qco (P:=P) hk,Instr.findKey,Xk hk,f5,hci,f6,keep,hset]
    · rw [hmod,List.map_append,Xv,List.map_append,Xv]
      rw [f2,f3,List.map_append,Xv,List.map_append,Xv] at hrk
      have h1:=hrk.take es1.length
      have h2:=hrk.drop (es1.length+1)
      rw [List.take_left' (by simp),List.take_left' (by simp [f4])] at h1
      rw [f4] at h2
      rw [QfH (by simp [f4]),QfH (by simp)] at h2
      exact h1.append (.cons (.s hs) h2)
    · rw [hmod,List.map_append,Xv,List.map_append,Xv]
      rw [f2,f3,List.map_append,Xv,List.map_append,Xv] at hrv
      have h1:=hrv.take es1.length
      have h2:=hrv.drop (es1.length+1)
      rw [List.take_left' (by simp),List.take_left' (by simp [f4])] at h1
      rw [f4] at h2
      rw [QfH (by simp [f4]),QfH (by simp)] at h2
      exact h1.append (.cons hd' h2)
  · refine .of_skip (w':={ w with heap:=w.heap.setIfInBounds pl.b (.map (cm.push { key:= .string s,val:=ρ z,born:=t }) (t+1)) }) ?_ ⟨σ,go _ (cm.push { key:= .string s,val:=ρ z,born:=t }) (t+1) (f3 _) ?_ ?_, .un⟩
    · unfold execOp
      simp only [ho,hx,hy]
      simp [Instr.mapUpdate,Xk hT,getObj,Sem.run,g4,Qco (P:=P) hk,Instr.findKey,Xk hk,f2,hset]
    · rw [Array.toList_push,List.map_append,List.map_append]
      exact hrk.append (.cons (.s hs) .nil)
    · rw [Array.toList_push,List.map_append,List.map_append]
      exact hrv.append (.cons hd' .nil)
theorem QmG {q:ByteArray} {i:Nat} {b:UInt8} (h:q.data.toList[i]?=some b) (hb:b.toNat<128):Utf8.decode q i=(b.toNat,1):=by
  have hi:i<q.size:=(Xj.1 h).1
  have hg:q.get! i=b:=by
    have e:q.get! i=q.data[i]! :=rfl
    rw [e]
    have hi':i<q.data.size:=hi
    rw [getElem!_pos q.data i hi']
    have:=(Xj.1 h).2
    simpa using this
  have e0:(q.get! (i+0)).toNat=b.toNat:=by rw [Nat.add_zero,hg]
  unfold Utf8.decode
  simp only [e0]
  rw [if_pos hb]
theorem QsJ {x:Operand}:EOK P (.next x true) Qvo:=by
  intro call hcall o ρ σ h w a v h' ho hρ H ha he
  obtain ⟨b,rfl,hb⟩:=QbX ha
  obtain ⟨r,h1,h2⟩:=QgN he
  cases h2
  obtain ⟨q,h3,h4⟩:=Q1 h1
  obtain ⟨h5,h6⟩:=QB h4
  obtain ⟨t,h7,h8⟩:=Q1 h6
  have:=QdX (v:=b) h3
  subst this
  have hq0:=Xh h5
  obtain ⟨pl,hp,hx⟩:=QjC hb
  obtain ⟨bk,g1,g2⟩:=Q1 h7
  have:bk= .iter t.1 t.2:=by cases bk <;> first |(cases g2;rfl) |cases g2
  subst this
  obtain ⟨pl',ob,g3,g4,g5⟩:=H.bl _ _ g1
  rw [hp] at g3;cases g3
  cases g5 with
  |iter ho' hs =>
  rename_i s
  rw [hq0,ho'] at hx
  have hsl:s.size=t.1.length:=by rw [<-hs,X6];rfl
  rcases QbD h8 with ⟨k1,k2⟩ |⟨c,k1,k2⟩
  · cases k2
    rw [QfB] at k1
    have:¬t.2<s.size:=by rw [hsl];simpa using k1
    refine .of_run (v:= .tuple #[.bool false]) (w':=w) ?_ ⟨σ,Go1.refl H, .tup (u:=[.bool false]) (.cons (.b _) .nil)⟩
    unfold execOp
    simp [ho,hx,Instr.next,getObj,Sem.run,g4,this]
  · obtain ⟨k3,k4⟩:=QB k2
    cases k4
    have hc:=Xc k3
    rw [QfB, <-hs,X2] at k1
    obtain ⟨y,hy,rfl⟩:=Xp.1 k1
    have hdec:=QmG hy (by omega)
    have hlt:t.2<s.size:=(Xj.1 hy).1
    refine .of_run (v:= .tuple #[.bool true,goInt t.2, .int .i32 y.toNat]) (w':={ w with heap:=w.heap.setIfInBounds pl.b (.stringIter s (t.2+1)) }) ?_ ⟨σ,?_, .tup (u:=[.bool true,goInt t.2, .int .i32 y.toNat]) (.cons (.b _) (.cons (.n _) (.cons (.i _ _) .nil)))⟩
    · unfold execOp
      simp [ho,hx,Instr.next,getObj,setObj,Sem.run,g4,hlt,hdec]
    · refine H.change (h1:=h) (b':= .iter t.1 (t.2+1)) (o':= .stringIter s (t.2+1)) g1 hp rfl (fun _ _ h=>h) (fun m=>Qai) (fun m bm pm hne hm hpm=>H.lone g1 hm hp hpm hne (fun _ _ _ _ e=>by cases e)) (fun m hm=>hm) (fun m bm hne hm ⟨_,_,_,e⟩=>by cases e) (.iter ho' hs) ?_ ?_ (by simp) rfl rfl rfl (Xi _)
      · simp [KZ g4]
      · intro i hi
        rw [Array.getElem?_setIfInBounds_ne (Ne.symm hi)]
end
end Go.Pw
/- -/
namespace Go.Pw
open Classical
section
variable {P:Program}
theorem G8.other {σ:Sg} {h:AH} {w w':World} (H:G8 σ h w) {i:Nat} (hf:Dc σ h i) (hoth:∀j,j≠i->w'.heap[j]?=w.heap[j]?):G8 σ h w':=by
  refine ⟨H.nb,H.nx,fun k b hk=>?_,H.an,H.ap,H.tp⟩
  obtain ⟨pl,o,g1,g2,g3⟩:=H.bl k b hk
  exact ⟨pl,o,g1,by rw [hoth _ (hf k b pl hk g1)];exact g2,g3⟩
theorem Qi4 {a b:Bool} (h:QbO a b=true):a=true∧b=true:=by
  cases a with
  |true=>exact ⟨rfl,h⟩
  |false=>cases h
theorem QqJ {e:Nat} {o:Option Nat} (h:Qxs e o=true):o=some e:=by
  cases o with
  |none=>cases h
  |some x=>rw [Xh (show Nat.beq e x=true from h)]
theorem QtT {T U e:TypeId} {x y:Operand} {c:Call} (hc:c.callee= .builtin .unsafeString) (ha':c.args.toList=[x,y]) (ht:c.argTypes.toList=[T,U]) (hT:P.underlying T=some (.pointer e)) (h1c:P.cellsOf e=1):EOK P (.call c) (Qvf e):=by
  intro call hcall o ρ σ h w a v h' ho hρ H ha he
  have eo:Ye (.call c)=[x,y]:=by simp [Ye,hc,ha']
  rw [eo] at ha
  obtain ⟨b,d,rfl,hb,hd'⟩:=QbW ha
  obtain ⟨r,h1,h2⟩:=QgN he
  cases h2
  obtain ⟨q,h3,h4⟩:=Q1 h1
  obtain ⟨n,h5,h6⟩:=Q1 h4
  obtain ⟨cc,h7,h8⟩:=Q1 h6
  obtain ⟨h9,h10⟩:=QB h8
  obtain ⟨h11,h12⟩:=QB h10
  obtain ⟨h13,h14⟩:=QB h12
  obtain ⟨l,h15,h16⟩:=Q1 h14
  cases h16
  obtain ⟨b1,b2⟩:=Qi4 h9
  obtain ⟨htop,b3⟩:=Qi4 b2
  have hq0:=Xh b1
  have hhy:=QqJ b3
  have:=QdX (v:=b) h3
  subst this
  have:=Qck (v:=d) h5
  subst this
  obtain ⟨pl,hp,hx⟩:=QjC hb
  obtain ⟨hg,pl',dd,E,fz,g1,g2,g3,g4,g5,g6,g7,g8⟩:=H.cells h7
  rw [hp] at g1;cases g1
  obtain ⟨rfl,hpo⟩:=g8 e hhy
  have hle:0+n<=cc.cs.length:=by rw [Nat.zero_add];exact QbE h13
  obtain ⟨h11a,h11b⟩:=Qi4 h11
  have hn1:=Xc h11a
  have hn2:=Xc h11b
  rw [YJ] at h15
  obtain ⟨us,hrel,hlen,hrun,hus⟩:=Qah (P:=P) (w:=w) (n:=n) g2 g5 hle
  rw [List.drop_zero] at hrel
  obtain ⟨e1,e2⟩:=Qi3 h15 hrel
  have hll:l.length=n:=by rw [<-hlen,e1,X6]
  have hat:∀(j:Nat) (x:UInt8),(l.map UInt8.ofNat)[j]?=some x->w.cell? ((⟨pl.b,0,none⟩:Addr).add j)=some (.int .u8 x.toNat):=by
    intro j x hj
    rw [X2] at hj
    obtain ⟨m,hm,rfl⟩:=Xp.1 hj
    have hj':us[j]?=some (.int .u8 (.ofNat m)):=by rw [e1,X2,hm];rfl
    have hjn:j<n:=by rw [<-hlen];exact (Xj.1 hj').1
    rw [hus,List.drop_zero,Xo,if_pos hjn,Xo,if_pos (by omega),Xu,hpo,Nat.zero_add] at hj'
    rw [Addr.add_lit,Nat.zero_add,Qfh g2]
    have hm2:=e2 m (List.mem_of_getElem? hm)
    rw [show ((UInt8.ofNat m).toNat:Int)=Int.ofNat m by simp [Nat.mod_eq_of_lt hm2]]
    simpa using hj'
  have hdn:n<=dd.size:=by rw [hpo] at g4;omega
  have hln:(l.map UInt8.ofNat).length=n:=by simp [hll]
  have hrunS:=Lib.run_unsafeString_row (P:=P) w T U o.type E hT h1c pl.b dd.size (by simp [World.shape?,g2]) (l.map UInt8.ofNat) (by intro e;rw [e] at hln;simp at hln;omega) (by rw [hln];exact hdn) (by rw [hln];omega) hat
  rw [hln] at hrunS
  have ee1:c.args=#[x,y]:=by rw [<-Array.toArray_toList (xs:=c.args),ha']
  have ee2:c.argTypes=#[T,U]:=by rw [<-Array.toArray_toList (xs:=c.argTypes),ht]
  rw [hq0,hpo] at hx
  have hback:∀(l:List Nat),(∀n ∈ l,n<256)->(l.map UInt8.ofNat).map UInt8.toNat=l:=by
    intro l
    induction l with
    |nil=>intro _;rfl
    | cons m l ih =>
      intro h
      have:=h m (by simp)
      simp only [Xv,ih (fun n hn=>h n (by simp [hn]))]
      rw [show (UInt8.ofNat m).toNat=m by simp [Nat.mod_eq_of_lt this]]
  have hoth:∀j,j≠pl.b->(w.freeze ⟨pl.b,0,none⟩ n).heap[j]?=w.heap[j]?:=by
    intro j hj
    unfold World.freeze
    rw [if_neg (by omega)]
    simp only [Array.getElem?_modify]
    rw [if_neg (by intro e;exact hj e.symm)]
  have hget:∀m b,(AH.kill (h.kills cc.al) q.1).get m=some b->m≠q.1∧m ∉ cc.al∧h.get m=some b:=by
    intro m b hm
    rw [QnG] at hm
    split at hm
    · cases hm
    · rename_i hne
      rw [Qbo] at hm
      split at hm
      · cases hm
      · rename_i hal;exact ⟨hne,hal,hm⟩
  rw [htop] at hg
  have hfew:=Go1.fewer (h':=AH.kill (h.kills cc.al) q.1) H (by show (h.kills cc.al).next=h.next;exact Qbh) (fun m b hm=>(hget m b hm).2.2)
  have hfree:Dc σ (AH.kill (h.kills cc.al) q.1) pl.b:=fun m bm pm hm hpm=>H.alone hg (hget m bm hm).2.2 hp hpm (hget m bm hm).1 (hget m bm hm).2.1
  refine .of_run (v:= .string ⟨(l.map UInt8.ofNat).toArray⟩) (w':=w.freeze ⟨pl.b,0,none⟩ n) ?_ ⟨σ,⟨Sg.le_refl _,hfew.rel.other hfree hoth,?_,?_,?_,?_,?_,?_,hfew.cl,hfew.nxt,hfew.old,hfew.old2⟩, .s (hback l e2)⟩
  · unfold execOp
    have hy:=Qfq hd'
    simp only [ho,resolve,hc,ee1,ee2,Xe,Xg,Xd,invoke,builtin,XB,Xv,XM,hx,hy]
    have e3:(Int.ofNat n)=((n:Nat):Int):=rfl
    rw [e3,hrunS]
    simp
  all_goals unfold World.freeze;rw [if_neg (show ¬n=0 by omega)]
  · exact Xi _
  · simp
  · intro i o' hi hf
    simp only [Array.getElem?_modify]
    rw [if_neg (by intro e;exact hf q.1 _ pl hg hp e)]
    exact hi
theorem QfU {ρ:Operand->Value} {o:Oper} {w:World} {K:Value->World->Prop} {f:Nat} {us:List Value} (he:(execOp ρ o).run P w=(callFunc f us.toArray).run P w) (h:GM P f us w K):Exec P ρ o w K:=by
  unfold GM at h
  unfold Exec
  rw [he]
  split at h
  · rename_i v w' hr;rw [hr];exact h
  · rename_i g args w' hr;rw [hr];exact h
  · exact h.elim
theorem Qtn {f:Nat} {c:Call} (hc:c.callee= .value (.func f)):EOK P (.call c) (QvA f):=by
  intro call hcall o ρ σ h w a v h' ho hρ H ha he
  have eo:Ye (.call c)= .func f::c.args.toList:=by simp [Ye,hc]
  rw [eo,Xv] at ha
  obtain ⟨b,bs,rfl,hb,hbs⟩:=Qgr ha
  have he:call f bs h= .ok v h':=he
  refine QfU (f:=f) (us:=c.args.toList.map ρ) ?_ (hcall f bs h v h' σ w _ he H hbs)
  unfold execOp
  simp only [ho,resolve,hc,hρ,Deferred.ofValue,invoke,Xe,Xg,Xd]
  congr 2
  apply Array.ext'
  simp
theorem Qtm {x:Operand} {c:Call} (hc:c.callee= .value x):EOK P (.call c) Qv9:=by
  intro call hcall o ρ σ h w a v h' ho hρ H ha he
  have eo:Ye (.call c)=x::c.args.toList:=by simp [Ye,hc]
  rw [eo,Xv] at ha
  obtain ⟨b,bs,rfl,hb,hbs⟩:=Qgr ha
  obtain ⟨fv,h1,h2⟩:=QgN he
  have:=QnH (v:=b) h1
  subst this
  obtain ⟨fa,fc,hx,hfa,hfc⟩:=Qwx hb
  rw [Qdo,Qdo] at h2
  refine QfU (f:=fv.f) (us:=fa++(c.args.toList.map ρ++fc)) ?_ (hcall fv.f _ h v h' σ w _ h2 H (hfa.append (hbs.append hfc)))
  unfold execOp
  simp only [ho,resolve,hc,hx,Deferred.ofValue,invoke,Xe,Xg,Xd]
  congr 2
  apply Array.ext'
  simp
theorem Qfe {op:Op} {e:QaV} (h:Qm1 P op=some e):EOK P op e:=by
  cases op <;> first |(cases h;done) |skip
  case store t x y =>
    have h:QgP P t=some e:=h
    unfold QgP at h
    split at h
    · rename_i sz hT;cases h;exact Qs5 hT
    · cases h
  case mapUpdate t x y z =>
    have h:QrA P t=some e:=h
    unfold QrA at h
    split at h
    · rename_i kt et hT
      split at h
      · rename_i hk;cases h;exact Qui hT hk
      · cases h
    · cases h
  case next x s=>cases s <;> first |(cases h;done) |(cases h;exact QsJ)
  case call c =>
    have h:QrN P c=some e:=h
    unfold QrN at h
    split at h
    · rename_i f hc;cases h;exact Qtn hc
    · rename_i x _ hc;cases h;exact Qtm hc
    · rename_i hc
      unfold Qxz at h
      split at h
      · rename_i x y T U ha ht
        split at h
        · rename_i el sz d hT hU
          cases hb:QgQ P el && QjJ P el sz && QtB d with
          |false=>rw [hb] at h;cases h
          | true =>
            rw [hb] at h;cases h
            simp only [Xl] at hb
            exact QuQ hc ha ht hT hU hb.1.1 hb.1.2 hb.2
        · cases h
      · cases h
    · rename_i hc
      unfold Qv6 at h
      split at h
      · rename_i x y T ts ha ht
        split at h
        · rename_i el sz hT;cases h;exact QuE hc ha ht hT
        · cases h
      · cases h
    · rename_i hc
      unfold Qve at h
      split at h
      · rename_i x y T U ha ht
        split at h
        · rename_i el hT
          split at h
          · cases hb:Nat.beq (P.cellsOf el) 1 with
            |false=>rw [hb] at h;cases h
            |true=>rw [hb] at h;cases h;exact QtT hc ha ht hT (Xh hb)
          · cases h
        · cases h
      · cases h
    · cases h
end
end Go.Pw
/- -/
namespace Go.Pw
open Classical
section
variable {P:Program}
theorem Quf {call:Jp} (hcall:Qbe P call) {op:Op} {g:KG} (hg:Qf4 P op=some g) {o:Oper} {ρ:Operand->Value} {σ:Sg} {h h1:AH} {w:World} {a:List AV} {v:AV} (ho:o.op=op) (hρ:∀f,ρ (.func f)= .func (.func f) #[] #[]) (H:G8 σ h w) (ha:Gs σ a ((Ye op).map ρ))
    (hr:Qwa call g a h= .ok v h1):Exec P ρ o w (fun u w'=>∃τ,Go1 σ h w τ h1 w'∧Gy τ v u):=by
  unfold Qf4 at hg
  split at hg
  · rename_i q hq
    cases hg
    have hr:Qnn (q a h) h= .ok v h1:=hr
    cases hqa:q a h with
    |none=>rw [hqa] at hr;cases hr
    | some x =>
      rw [hqa] at hr
      cases hr
      exact Qgs hq o ρ σ h w a v _ ho H ha hqa (fun u hu=>⟨σ,Go1.refl H,hu⟩)
  · split at hg
    · rename_i q hq
      cases hg
      obtain ⟨r,h2,h3⟩:=QgN (o:=q a h.next) hr
      obtain ⟨hroom,h4,h5⟩:=Qkd h3
      obtain ⟨v',b⟩:=r
      simp only at h4 h5
      subst h4 h5
      obtain ⟨u,ob,n,w',hrun,hw,e1,e2,e3,e4,hold,hrel⟩:=QlK hq o ρ σ w a h.next v' b ho ha h2
      obtain ⟨r1,r2⟩:=hrel (σ.add h.next ⟨w.heap.size,0,n⟩) (Qc7 (H.nx _ (Xi _))) JX
      exact .of_run hrun ⟨_,H.add hroom r2 (fun m hm=>absurd hm (hold m)) (fun m hm=>absurd hm (hold m)) hw e1 e2 e3 e4,r1⟩
    · obtain ⟨e,he,rfl⟩:=Xp.1 hg
      exact Qfe he call hcall o ρ σ h w a v h1 ho hρ H ha hr
/-! operands -/
theorem Qsa {σ:Sg} {F:AF} {f:Fr} {x:Operand} {a:KA} (hF:GG σ F f) (h:Qg5 x=some a):Gy σ (ka F a) (ev f x):=by
  cases x with
  | tmp t =>
    have h:(bif Nat.blt t 512 then some (KA.t (g3 t)) else none)=some a:=h
    cases hb:Nat.blt t 512 with
    |false=>rw [hb] at h;cases h
    |true=>rw [hb] at h;cases h;exact hF t (by simpa [Nat.blt_eq] using hb)
  | const v =>
    obtain ⟨b,hb,rfl⟩:=Xp.1 (show (ofV 8 v).map KA.k=some a from h)
    exact QjP hb
  |global g=>cases h
  |func f=>cases h;exact .fn .nil .nil
theorem QpR {σ:Sg} {F:AF} {f:Fr} (hF:GG σ F f):∀{xs:List Operand} {l:List KA},xs.mapM Qg5=some l->Gs σ (l.map (ka F)) (xs.map (ev f))
  |[],l,h=>by simp at h;subst h;exact .nil
  | x::xs,l,h=>by
    simp only [List.mapM_cons,Option.bind_eq_bind,Option.pure_def] at h
    obtain ⟨a,h1,h2⟩:=Option.bind_eq_some_iff.1 h
    obtain ⟨r,h3,h4⟩:=Option.bind_eq_some_iff.1 h2
    cases h4
    exact .cons (Qsa hF h1) (QpR hF h3)
theorem QnM {F:AF}:∀{l:List KA},Qp3 l F=l.map (ka F)
  |[]=>rfl
  |a::l=>by have:Qp3 (a::l) F=ka F a::Qp3 l F:=rfl;rw [this,QnM];rfl
theorem QpZ {F:AF} {l:List KA}:(QlT l).f F=l.map (ka F):=by
  match l with
  |[]=>rfl
  |[a]=>rfl
  |[a,b]=>rfl
  |a::b::c::l=>exact QnM (l:=a::b::c::l)
def Qnl (ops:List Oper) (F:AF) (o:Oper) (b:Bool):Prop :=
  match o.guard with
  |none=>b=true
  |some (j,want)=>∃d,(ops[j]?).bind (·.dst)=some d∧d<512∧((∃c,F.at (g3 d)= .b c∧b=(c == want))∨(F.at (g3 d)= .un∧b=false))
theorem QgW {F:AF} {g:G3} {want b:Bool} (h:QcN F (some (g,want))=some b):(∃c,F.at g= .b c∧b=(c == want))∨(F.at g= .un∧b=false):=by
  have h:orE (QiS (AF.at F g)) (Kk (Qrt (AF.at F g)) (some false) none) (fun c=>some (Kk c want (!want)))=some b:=h
  rcases QbD h with ⟨_,h2⟩ |⟨c,h1,h2⟩
  · obtain ⟨h3,h4⟩:=QB h2
    cases h4
    exact .inr ⟨Qu3 h3,Z⟩
  · refine .inl ⟨c,Qgm h1,?_⟩
    cases h2
    cases c <;> cases want <;> rfl
theorem QrW {o:Option Bool} {y n:RF} {F:AF} {h:AH} (hh:oRF o y n= .ok F h):(o=some true∧y= .ok F h)∨(o=some false∧n= .ok F h):=by
  cases o with
  |none=>cases hh
  | some b=>cases b with
    |true=>exact .inl ⟨rfl,hh⟩
    |false=>exact .inr ⟨rfl,hh⟩
theorem QoC {r:RS} {f:AV->AH->RF} {F:AF} {h:AH} (hh:rsF r f= .ok F h):∃v h1,r= .ok v h1∧f v h1= .ok F h:=by
  cases r with
  |no=>cases hh
  |ok v h1=>exact ⟨v,h1,rfl,hh⟩
theorem Qf9 {α:Type} {o:Option α} {f:α->RF} {F:AF} {h:AH} (hh:oF o f= .ok F h):∃x,o=some x∧f x= .ok F h:=by
  cases o with
  |none=>cases hh
  |some x=>exact ⟨x,rfl,hh⟩
theorem Qw7 {N:Nat} {d:Option Nat}:ltA N d=Qb1 N d:=by cases d <;> rfl
theorem QpQ {N:Nat} {ops:List Oper} {o:Oper} {k:KO} (h:Qj9 P N ops o=some k):ltA N o.dst=true∧(match o.guard with |none=>some (QpP (rOf o.op) (gOf P o.op) o.dst) |some (j,b)=>Qjv ops (rOf o.op) (gOf P o.op) o.dst j b)=some k:=by
  unfold Qj9 at h
  cases hb:ltA N o.dst with
  |false=>rw [hb] at h;cases h
  |true=>rw [hb] at h;exact ⟨rfl,h⟩
theorem QhF {N:Nat} {ops:List Oper} {o:Oper} {k:KO} (h:Qj9 P N ops o=some k):Qb1 N o.dst=true:=by rw [<-Qw7];exact (QpQ h).1
theorem Qsd (op:Op):(∃l,(Ye op).mapM Qg5=some l∧rOf op=QlT l∧Qf4 P op=some (gOf P op))∨gOf P op=QjG:=by
  unfold gOf rOf QrQ
  cases hm:(Ye op).mapM Qg5 with
  |none=>exact .inr rfl
  | some l =>
    cases hg:Qf4 P op with
    |none=>exact .inr rfl
    |some g=>exact .inl ⟨l,rfl,rfl,rfl⟩
theorem Qk8 {N:Nat} {ops:List Oper} {o:Oper} {k:KO} (h:Qj9 P N ops o=some k) :
    ∃ (r:Ar) (gd:Option (G3×Bool)) (g:KG),(k= .o r (o.dst.map u3) gd g∨∃d q,k= .q r (u3 d) q∧o.dst=some d∧gd=none∧g= .q q) ∧
      ((∃l,(Ye o.op).mapM Qg5=some l∧r=QlT l∧Qf4 P o.op=some g)∨g=QjG) ∧
      ((o.guard=none∧gd=none)∨∃j want d,o.guard=some (j,want)∧(ops[j]?).bind (·.dst)=some d∧d<512∧gd=some (g3 d,want)):=by
  obtain ⟨_,h⟩:=QpQ h
  cases hgu:o.guard with
  | none =>
    rw [hgu] at h
    cases h
    refine ⟨rOf o.op,none,gOf P o.op,?_,Qsd _, .inl ⟨Z,Z⟩⟩
    generalize gOf P o.op=g
    cases g with
    | q q=>cases hd:o.dst with
      |none=>exact .inl rfl
      |some d=>exact .inr ⟨d,q,rfl,rfl,rfl,rfl⟩
    |a q=>exact .inl rfl
    |e q=>exact .inl rfl
  | some gw =>
    obtain ⟨j,want⟩:=gw
    rw [hgu] at h
    have h:Qjv ops (rOf o.op) (gOf P o.op) o.dst j want=some k:=h
    unfold Qjv at h
    split at h
    · rename_i d hd
      cases hb2:Nat.blt d 512 with
      |false=>rw [hb2] at h;cases h
      | true =>
        rw [hb2] at h
        cases h
        exact ⟨rOf o.op,some (g3 d,want),gOf P o.op, .inl Z,Qsd _, .inr ⟨j,want,d,Z,hd,by simpa [Nat.blt_eq] using hb2,Z⟩⟩
    · cases h
theorem Qs8 {N:Nat} {ops:List Oper} {o:Oper} {k:KO} {call:Jp} {ih:AF->AH->RF} {F F':AF} {h h':AH} (hk:Qj9 P N ops o=some k) (hs:Qr5 k call ih F h= .ok F' h') :
    ∃ b,Qnl ops F o b∧((b=false∧ih (F.put (o.dst.map u3) .un) h= .ok F' h') ∨
      (b=true∧∃l g v h1,(Ye o.op).mapM Qg5=some l∧Qf4 P o.op=some g∧Qwa call g (l.map (ka F)) h= .ok v h1∧ih (F.put (o.dst.map u3) v) h1= .ok F' h')):=by
  obtain ⟨r,gd,g,hk1,hg,hgd⟩:=Qk8 hk
  have hs':Qr4 r (o.dst.map u3) gd g call ih F h= .ok F' h':=by
    rcases hk1 with rfl |⟨d,q,rfl,hd,rfl,rfl⟩
    · exact hs
    · have hs:@Option.rec AV (fun _=>RF) .no (fun v=>ih (AF.set F (u3 d) v) h) (q (Ar.f r F) h)= .ok F' h':=hs
      show oRF (some true) (rsF (Qnn (q (Ar.f r F) h) h) fun v h'=>ih (AF.put F (o.dst.map u3) v) h') _=_
      cases hq:q (Ar.f r F) h with
      |none=>rw [hq] at hs;cases hs
      | some v =>
        rw [hq] at hs
        rw [hd]
        exact hs
  unfold Qr4 at hs'
  rcases QrW hs' with ⟨hw,hy⟩ |⟨hw,hn⟩
  · obtain ⟨v,h1,hr,hi⟩:=QoC hy
    refine ⟨true,?_, .inr ⟨Z,?_⟩⟩
    · unfold Qnl
      rcases hgd with ⟨e1,e2⟩ |⟨j,want,d,e1,e2,e3,e4⟩
      · rw [e1]
      · rw [e1];subst e4;exact ⟨d,e2,e3,QgW hw⟩
    · rcases hg with ⟨l,e1,e2,e3⟩ |e1
      · subst e2
        rw [QpZ] at hr
        exact ⟨l,g,v,h1,e1,e3,hr,hi⟩
      · subst e1;cases hr
  · refine ⟨false,?_, .inl ⟨Z,hn⟩⟩
    unfold Qnl
    rcases hgd with ⟨e1,e2⟩ |⟨j,want,d,e1,e2,e3,e4⟩
    · subst e2;cases hw
    · rw [e1];subst e4;exact ⟨d,e2,e3,QgW hw⟩
theorem QrV {σ:Sg} {u:Value} (h:Gy σ .un u):u=undef:=by cases h;rfl
theorem QeV {ops:List Oper} {f:Fr} {j d:Nat} (h:(ops[j]?).bind (·.dst)=some d):Jg ops.toArray f j=match f d with | .bool b=>some b |_=>none:=by
  unfold Jg
  have:(ops.toArray[j]?).bind (·.dst)=some d:=by simpa using h
  split
  · next d' e=>rw [this] at e;cases e;rfl
  · next e=>rw [this] at e;cases e
theorem Qmo {N:Nat} (hN:N<=512) {ops:List Oper} {call:Jp} (hcall:Qbe P call) {Q:QbB}:∀{l:List Oper} {ks:List KO} {F F':AF} {h h':AH} {σ:Sg} {w:World} {f:Fr},l.mapM (Qj9 P N ops)=some ks->QvZ call ks F h= .ok F' h'->G8 σ h w->GG σ F f ->
    (∀τ w' f',Go1 σ h w τ h' w'->GG τ F' f'->Q .normal f' w')->WL P N ops.toArray Q l f w
  | [],ks,F,F',h,h',σ,w,f,hm,hr,H,hF,hQ=>by
    simp at hm
    subst hm
    cases hr
    exact Zb (hQ σ w f (Go1.refl H) hF)
  | o ::l,ks,F,F',h,h',σ,w,f,hm,hr,H,hF,hQ=>by
    simp only [List.mapM_cons,Option.bind_eq_bind,Option.pure_def] at hm
    obtain ⟨k,h1,h2⟩:=Option.bind_eq_some_iff.1 hm
    obtain ⟨ks',h3,h4⟩:=Option.bind_eq_some_iff.1 h2
    cases h4
    have hr:Qr5 k call (QvZ call ks') F h= .ok F' h':=hr
    have hd:=QhF h1
    have hd5:Qb1 512 o.dst=true:=by
      cases e:o.dst with
      |none=>rfl
      |some d=>rw [e] at hd;simp [Qb1,Nat.blt_eq] at hd ⊢;omega
    obtain ⟨b,hw,hb⟩:=Qs8 h1 hr
    rcases hb with ⟨rfl,hi⟩ |⟨rfl,kl,g,v,h5,e1,e2,e3,hi⟩
    · unfold Qnl at hw
      cases hg:o.guard with
      |none=>rw [hg] at hw;cases hw
      | some gw =>
        obtain ⟨j,want⟩:=gw
        rw [hg] at hw
        obtain ⟨d,g1,g2,g3'⟩:=hw
        have ih:=Qmo hN hcall h3 hi H (hF.put hd5 .un) hQ
        rcases g3' with ⟨c,g4,g5⟩ |⟨g4,_⟩
        · have hf:f d= .bool c:=by have:=hF d g2;rw [g4] at this;exact QjD this
          exact Zl hg (by rw [QeV g1,hf]) g5.symm hd ih
        · have hf:f d=undef:=by have:=hF d g2;rw [g4] at this;exact QrV this
          exact QhW hg (by rw [QeV g1,hf];rfl) hd ih
    · have hex:=Quf (ρ:=ev f) hcall e2 rfl (fun _=>rfl) H (QpR hF e1) e3
      have hex2:Exec P (ev f) o w fun u w'=>WL P N ops.toArray Q l (JU f o.dst u) w':=by
        refine hex.mono ?_
        rintro u w' ⟨τ,hgo,hu⟩
        exact Qmo hN hcall h3 hi hgo.rel ((hF.mono hgo.le).put hd5 hu) (fun υ w2 f2 hgo2 hF2=>hQ υ w2 f2 (hgo.trans hgo2) hF2)
      unfold Qnl at hw
      cases hg:o.guard with
      |none=>exact Za hg hd hex2
      | some gw =>
        obtain ⟨j,want⟩:=gw
        rw [hg] at hw
        obtain ⟨d,g1,g2,g3'⟩:=hw
        rcases g3' with ⟨c,g4,g5⟩ |⟨_,g5⟩
        · have hf:f d= .bool c:=by have:=hF d g2;rw [g4] at this;exact QjD this
          have:c=want:=by simpa using g5.symm
          subst this
          exact Qsw hg (by rw [QeV g1,hf]) hd hex2
        · cases g5
end
end Go.Pw
/- -/
namespace Go.Pw
open Classical
section
variable {P:Program}
inductive Out:RC->Exit->AF->AH->Prop where
  |nor (F:AF) (h:AH):Out (.nor F h) .normal F h
  |ret (F:AF) (h:AH):Out (.ret F h) .ret F h
  |ext (i:Nat) (F:AF) (h:AH):Out (.ext i F h) (.exit i) F h
def Qlx (P:Program) (call:Jp):Prop :=
  ∀ (N id:Nat) (ops:List Oper) (F F':AF) (h h':AH) (σ:Sg) (w:World) (f:Fr) (Q:QbB),N<=512->QlZ call (Qdm P N ops true) F h= .ok F' h'->G8 σ h w->GG σ F f ->
    (∀τ w' f',Go1 σ h w τ h' w'->GG τ F' f'->Q .normal f' w')->W P N (.region id ops.toArray true) Q f w
def Qdb (P:Program) (call:Jp) (N n:Nat) (c:Code):Prop :=
  ∀ (F:AF) (h:AH) (σ:Sg) (w:World) (f:Fr) (Q:QbB),QcM P call N n c F h≠ .no->G8 σ h w->GG σ F f ->
    (∀e F' h',Out (QcM P call N n c F h) e F' h'->∀τ w' f',Go1 σ h w τ h' w'->GG τ F' f'->Q e f' w')->W P N c Q f w
theorem Qws {call:Jp} {N n:Nat} {x y:Code} (hx:Qdb P call N n x) (hy:Qdb P call N n y):Qdb P call N n (.seq x y):=by
  intro F h σ w f Q hno H hF hQ
  have e0:QcM P call N n (.seq x y) F h=RC.seq (QcM P call N n x F h) (QcM P call N n y):=rfl
  rw [e0] at hno hQ
  refine Zc (hx F h σ w f _ ?_ H hF ?_)
  · intro e;rw [e] at hno;exact hno rfl
  · intro e F1 h1 hout τ w1 f1 hgo hF1
    cases hr:QcM P call N n x F h with
    |no=>rw [hr] at hout;cases hout
    | nor F2 h2 =>
      rw [hr] at hout hno hQ
      cases hout
      exact hy F1 h1 τ w1 f1 Q hno hgo.rel hF1 fun e F' h' ho υ w2 f2 hgo2 hF2=>hQ e F' h' ho υ w2 f2 (hgo.trans hgo2) hF2
    | ret F2 h2 =>
      rw [hr] at hout hno hQ
      cases hout
      exact hQ _ _ _ (.ret F1 h1) τ w1 f1 hgo hF1
    | ext i F2 h2 =>
      rw [hr] at hout hno hQ
      cases hout
      exact hQ _ _ _ (.ext i F1 h1) τ w1 f1 hgo hF1
theorem Qto {call:Jp} {N n id:Nat} {x:Code} (hx:Qdb P call N n x):Qdb P call N n (.block id x):=by
  intro F h σ w f Q hno H hF hQ
  have e0:QcM P call N n (.block id x) F h=RC.blk id (QcM P call N n x F h):=rfl
  rw [e0] at hno hQ
  refine QaU (hx F h σ w f _ ?_ H hF ?_)
  · intro e;rw [e] at hno;exact hno rfl
  · intro e F1 h1 hout τ w1 f1 hgo hF1
    cases hr:QcM P call N n x F h with
    |no=>rw [hr] at hout;cases hout
    | nor F2 h2 =>
      rw [hr] at hout hno hQ
      cases hout
      exact hQ _ _ _ (.nor F1 h1) τ w1 f1 hgo hF1
    | ret F2 h2 =>
      rw [hr] at hout hno hQ
      cases hout
      exact hQ _ _ _ (.ret F1 h1) τ w1 f1 hgo hF1
    | ext i F2 h2 =>
      rw [hr] at hout hno hQ
      cases hout
      show bif Nat.beq i id then Q .normal f1 w1 else Q (.exit i) f1 w1
      have e1:RC.blk id (.ext i F1 h1)=Kk (Nat.beq i id) (.nor F1 h1) (.ext i F1 h1):=rfl
      rw [e1] at hQ
      cases hb:Nat.beq i id with
      |true=>rw [hb] at hQ;exact hQ _ _ _ (.nor F1 h1) τ w1 f1 hgo hF1
      |false=>rw [hb] at hQ;exact hQ _ _ _ (.ext i F1 h1) τ w1 f1 hgo hF1
theorem Qup {call:Jp} {N n:Nat} {x:Code} (hx:Qdb P call N n x):Qdb P call N n (.loop x):=by
  intro F h σ w f Q hno H hF hQ
  have e0:QcM P call N n (.loop x) F h=Qnc (QcM P call N n x) n F h:=rfl
  rw [e0] at hno hQ
  generalize hr:Qnc (QcM P call N n x) n F h=r at hno hQ
  refine QjZ (fun k f1 w1=>∃τ F1 h1,Go1 σ h w τ h1 w1∧GG τ F1 f1∧Qnc (QcM P call N n x) k F1 h1=r) ⟨n,σ,F,h,Go1.refl H,hF,hr⟩ ?_
  rintro k f1 w1 ⟨τ,F1,h1,hgo,hF1,hk⟩
  cases k with
  |zero=>exact absurd hk.symm hno
  | succ k =>
    have hk:RC.seq (QcM P call N n x F1 h1) (Qnc (QcM P call N n x) k)=r:=hk
    refine hx F1 h1 τ w1 f1 _ ?_ hgo.rel hF1 ?_
    · intro e;rw [e] at hk;exact hno hk.symm
    · intro e F2 h2 hout υ w2 f2 hgo2 hF2
      cases hrr:QcM P call N n x F1 h1 with
      |no=>rw [hrr] at hout;cases hout
      | nor F3 h3 =>
        rw [hrr] at hout hk
        cases hout
        exact ⟨k,Nat.lt_succ_self k,υ,F2,h2,hgo.trans hgo2,hF2,hk⟩
      | ret F3 h3 =>
        rw [hrr] at hout hk
        cases hout
        exact hQ _ _ _ (hk ▸ Out.ret F2 h2) υ w2 f2 (hgo.trans hgo2) hF2
      | ext i F3 h3 =>
        rw [hrr] at hout hk
        cases hout
        exact hQ _ _ _ (hk ▸ Out.ext i F2 h2) υ w2 f2 (hgo.trans hgo2) hF2
theorem QuG {call:Jp} {N n:Nat} {c:Operand} {x y:Code} (hx:Qdb P call N n x) (hy:Qdb P call N n y):Qdb P call N n (.cond c x y):=by
  intro F h σ w f Q hno H hF hQ
  have e0:QcM P call N n (.cond c x y) F h=QrM F h (QcM P call N n x) (QcM P call N n y) (Qg5 c):=rfl
  rw [e0] at hno hQ
  cases hk:Qg5 c with
  |none=>rw [hk] at hno;exact absurd rfl hno
  | some a =>
    rw [hk] at hno hQ
    have e1:QrM F h (QcM P call N n x) (QcM P call N n y) (some a)=@Option.rec Bool (fun _=>RC) .no (fun b=>Kk b (QcM P call N n x F h) (QcM P call N n y F h)) (QiS (ka F a)):=rfl
    rw [e1] at hno hQ
    cases hb:QiS (ka F a) with
    |none=>rw [hb] at hno;exact absurd rfl hno
    | some b =>
      have hrel:=Qsa hF hk
      rw [Qgm hb] at hrel
      have hv:=QjD hrel
      rw [hb] at hno hQ
      cases b with
      |true=>exact QbR hv (hx F h σ w f Q hno H hF hQ)
      |false=>exact QaT hv (hy F h σ w f Q hno H hF hQ)
theorem Qq6 {call:Jp} (hcall:Qbe P call) (hreg:Qlx P call) {N n id:Nat} (hN:N<=512) {ops:Array Oper} {draw:Bool}:Qdb P call N n (.region id ops draw):=by
  intro F h σ w f Q hno H hF hQ
  have e0:QcM P call N n (.region id ops draw) F h=QvG (QlZ call (Qdm P N ops.toList draw) F h):=rfl
  rw [e0] at hno hQ
  cases hr:QlZ call (Qdm P N ops.toList draw) F h with
  |no=>rw [hr] at hno;exact absurd rfl hno
  | ok F1 h1 =>
    rw [hr] at hQ
    have hQ1:∀τ w' f',Go1 σ h w τ h1 w'->GG τ F1 f'->Q .normal f' w':=fun τ w' f' a b=>hQ _ _ _ (.nor F1 h1) τ w' f' a b
    have e2:ops=ops.toList.toArray:=by simp
    rw [e2]
    cases draw with
    |true=>exact hreg N id ops.toList F F1 h h1 σ w f Q hN hr H hF hQ1
    | false =>
      unfold Qdm at hr
      cases hm:ops.toList.mapM (Qj9 P N ops.toList) with
      |none=>rw [hm] at hr;cases hr
      | some ks =>
        rw [hm] at hr
        exact Zd (Qmo hN hcall hm hr H hF hQ1)
theorem QeS {call:Jp} (hcall:Qbe P call) (hreg:Qlx P call) {N n:Nat} (hN:N<=512):∀c:Code,Qdb P call N n c
  | .skip=>fun F h σ w f Q hno H hF hQ=>Yx (hQ _ _ _ (.nor F h) σ w f (Go1.refl H) hF)
  | .region id ops draw=>Qq6 hcall hreg hN
  | .seq x y=>Qws (QeS hcall hreg hN x) (QeS hcall hreg hN y)
  | .cond c x y=>QuG (QeS hcall hreg hN x) (QeS hcall hreg hN y)
  | .block id x=>Qto (QeS hcall hreg hN x)
  | .loop x=>Qup (QeS hcall hreg hN x)
  | .exit id=>fun F h σ w f Q hno H hF hQ=>QoQ (hQ _ _ _ (.ext id F h) σ w f (Go1.refl H) hF)
  | .ret=>fun F h σ w f Q hno H hF hQ=>Qhv (hQ _ _ _ (.ret F h) σ w f (Go1.refl H) hF)
  | .rangeFunc _ _ _ _=>fun F h σ w f Q hno H hF hQ=>absurd rfl hno
  | .scope _=>fun F h σ w f Q hno H hF hQ=>absurd rfl hno
  | .label _=>fun F h σ w f Q hno H hF hQ=>absurd rfl hno
  | .goto _=>fun F h σ w f Q hno H hF hQ=>absurd rfl hno
  | .refuse _=>fun F h σ w f Q hno H hF hQ=>absurd rfl hno
/-! ### a function's entry and its results -/
theorem QlF {σ:Sg}:∀{a:List AV} {us:List Value} (k:Nat) (F:AF) (f:Fr),Gs σ a us->GG σ F f->k+us.length<=512 ->
    GG σ (Qik ((List.range' k us.length).map u3) a F) (fun m=>if k<=m∧m<k+us.length then us.getD (m - k) undef else f m)
  | [],_,k,F,f, .nil,hF,hk=>by
    intro m hm
    have:(fun m=>if k<=m∧m<k+([]:List Value).length then ([]:List Value).getD (m - k) undef else f m)=f:=by
      funext m;rw [if_neg (by simp)]
    rw [this]
    exact hF m hm
  | _ ::_,_,k,F,f, .cons (x:=x) (v:=v) (xs:=xs) (vs:=vs) h t,hF,hk=>by
    simp only [Xw] at hk
    have h1:=hF.set (d:=k) (by omega) h
    have h2:=QlF (k+1) _ _ t h1 (by omega)
    have e:Qik ((List.range' k (v::vs).length).map u3) (x::xs) F=Qik ((List.range' (k+1) vs.length).map u3) xs (AF.set F (u3 k) x):=rfl
    rw [e]
    have:(fun m=>if k<=m∧m<k+(v::vs).length then (v::vs).getD (m - k) undef else f m)=fun m=>if k+1<=m∧m<k+1+vs.length then vs.getD (m - (k+1)) undef else upd f k v m:=by
      funext m
      simp only [Xw]
      by_cases h1:k+1<=m∧m<k+1+vs.length
      · rw [if_pos h1,if_pos (by omega)]
        have:m - k=m - (k+1)+1:=by omega
        rw [this];rfl
      · rw [if_neg h1]
        by_cases h2:m=k
        · subst h2;rw [if_pos (by omega)];simp [upd]
        · have h3:Nat.beq m k=false:=Qep.2 h2
          rw [if_neg (by omega)];simp [upd,h3]
    rw [this]
    exact h2
theorem Qtf {σ:Sg} {a:List AV} {us:List Value} (h:Gs σ a us) {n:Nat} (hn:us.length=n) (hk:n<=512):GG σ (Qik ((List.range n).map u3) a Dp) (entry us.toArray):=by
  subst hn
  have h0:GG σ Dp (fun _=>undef):=fun n _=>by rw [QxT];exact .un
  have:=QlF (σ:=σ) 0 Dp _ h h0 (by omega)
  rw [List.range_eq_range']
  have e:(entry us.toArray:Fr)=fun m=>if 0<=m∧m<0+us.length then us.getD (m - 0) undef else undef:=by
    funext m
    unfold entry
    split
    · simp
    · next hh =>
      have:us.length<=m:=by omega
      simp [this]
  rw [e]
  exact this
theorem Qh8 {σ:Sg}:∀{a:List AV} {us:List Value},Gs σ a us->a.length=us.length
  |_,_, .nil=>rfl
  |_,_, .cons _ t=>by simp [Qh8 t]
theorem QrU {σ:Sg} {F:AF} {h:AH} {w:World} {f:Fr} {N:Nat} (H:G8 σ h w) (hF:GG σ F f):∀{rs:List ResultVar} {ks:List KV} {vs:List AV},rs.mapM (Qrs P)=some ks->QtC F h ks=some vs ->
    ∃us,Gs σ vs us∧∀a,Fits N a f->(rs.mapM (m:=Sem) (fun | .tmp t=>pure (a.tmps.getD t undef) | .cell b T=>do loadVar T (<-asAddr (a.tmps.getD b undef)))).run P w= .ok us w
  | [],ks,vs,hm,hr=>by
    simp at hm;subst hm
    cases hr
    exact ⟨[], .nil,fun a _=>by simp [Xg]⟩
  | r ::rs,ks,vs,hm,hr=>by
    simp only [List.mapM_cons,Option.bind_eq_bind,Option.pure_def] at hm
    obtain ⟨k,h1,h2⟩:=Option.bind_eq_some_iff.1 hm
    obtain ⟨ks',h3,h4⟩:=Option.bind_eq_some_iff.1 h2
    cases h4
    have hr:(ob (Qxc F h k) fun x=>ob (QtC F h ks') fun r=>some (x::r))=some vs:=hr
    obtain ⟨x,h5,h6⟩:=Q1 hr
    obtain ⟨xs,h7,h8⟩:=Q1 h6
    cases h8
    obtain ⟨us,hus,hrun⟩:=QrU H hF h3 h7
    cases r with
    | tmp t =>
      have h1:(bif Nat.blt t 512 then some (KV.t (g3 t)) else none)=some k:=h1
      cases hb:Nat.blt t 512 with
      |false=>rw [hb] at h1;cases h1
      | true =>
        rw [hb] at h1;cases h1
        have h5:some (AF.at F (g3 t))=some x:=h5
        cases h5
        refine ⟨f t::us, .cons (hF t (by simpa [Nat.blt_eq] using hb)) hus,fun a ha=>?_⟩
        have:=hrun a ha
        simp only [ha.get] at this
        rw [List.mapM_cons,Xe]
        simp only [Xg,Xd,ha.get,Xe,this]
    | cell b T =>
      have h1:(bif Nat.blt b 512 then (QiF P T).map fun q=>KV.c (g3 b) q.2 q.1 else none)=some k:=h1
      cases hb:Nat.blt b 512 with
      |false=>rw [hb] at h1;cases h1
      | true =>
        rw [hb] at h1
        obtain ⟨q,hq,rfl⟩:=Xp.1 h1
        have h5:Qpx q.2 q.1 [AF.at F (g3 b)] h=some x:=h5
        obtain ⟨p,g1,g2⟩:=Q1 h5
        obtain ⟨c,g3',g4⟩:=Q1 g2
        have hfb:=hF b (by simpa [Nat.blt_eq] using hb)
        have g1:AF.at F (g3 b)= .p p.1 p.2:=QdX g1
        rw [g1] at hfb
        obtain ⟨pl,hp,hu⟩:=QjC hfb
        obtain ⟨hg,pl',d,E,fz,k1,k2,k3,k4,k5,k6,k7⟩:=H.cells g3'
        rw [hp] at k1;cases k1
        obtain ⟨u,hv,hl⟩:=Ds (P:=P) (h:=h) k2 k5 k6 (Qec hq) g4
        refine ⟨u::us, .cons hv hus,fun a ha=>?_⟩
        have:=hrun a ha
        simp only [ha.get] at this
        rw [List.mapM_cons,Xe]
        have hA:(asAddr (f b)).run P w= .ok ⟨pl.b,pl.o+p.2,none⟩ w:=by rw [hu];rfl
        simp only [Xe,ha.get,hA,Xg,Xd,hl,this]
theorem Qua {σ:Sg} {vs:List AV} {us:List Value} (h:Gs σ vs us):Gy σ (Qr8 vs) (if h:us.toArray.size=1 then us.toArray[0] else .tuple us.toArray):=by
  cases h with
  |nil=>exact .tup .nil
  | cons h t=>cases t with
    |nil=>exact h
    | cons h2 t2 =>
      rw [dif_neg (by simp)]
      exact .tup (.cons h (.cons h2 t2))
theorem QoZ {σ:Sg} {F:AF} {h:AH} {w:World} {f:Fr} {fn:Func} (H:G8 σ h w) (hF:GG σ F f) {ks:List KV} {v:AV} {h':AH} (hm:fn.results.toList.mapM (Qrs P)=some ks) (hr:Qro ks F h= .ok v h') :
    h'=h∧∃u,Gy σ v u∧Qdj P fn f w u:=by
  unfold Qro at hr
  have hr:(@Option.rec AV (fun _=>RS) .no (fun v=> .ok v h) (ob (QtC F h ks) fun r=>some (Qr8 r)))= .ok v h':=hr
  obtain ⟨x,h1,h2⟩:=QgN hr
  cases h2
  obtain ⟨vs,h3,h4⟩:=Q1 h1
  cases h4
  obtain ⟨us,hus,hrun⟩:=QrU (N:=fn.ntmps) H hF hm h3
  refine ⟨Z,_,Qua hus,fun a ha=>?_⟩
  unfold results
  rw [Xe,Array.mapM_eq_mapM_toList,map_eq_pure_bind,Xe]
  have:=hrun a ha
  erw [this]
  simp [Xg]
/-! ### calls -/
theorem Qpk {f:Nat} {k:KF} (h:Qp1 P f=some k):∃fn c,P.funcs[f]?=some fn∧fn.body=some c∧(fn.name == "runtime.NumGoroutine")=false∧fn.ntmps<=512∧fn.params.size+fn.nfree<=fn.ntmps ∧
    k.N=fn.ntmps∧k.ps=(List.range (fn.params.size+fn.nfree)).map u3∧k.code=c∧fn.results.toList.mapM (Qrs P)=some k.res:=by
  unfold Qp1 at h
  cases hf:P.funcs[f]? with
  |none=>rw [hf] at h;cases h
  | some fn =>
    rw [hf] at h
    cases hb:fn.body with
    |none=>simp only [hb] at h;cases h
    | some c =>
      simp only [hb] at h
      cases hm:fn.results.toList.mapM (Qrs P) with
      |none=>rw [hm] at h;cases h
      | some res =>
        rw [hm] at h
        simp only [Bool.cond_eq_ite] at h
        split at h
        · cases h
        · next hc =>
          cases h
          simp only [X4,not_or,Bool.not_eq_true,Bool.not_eq_false',Nat.ble_eq,Bool.not_eq_eq_eq_not,Bool.not_true,Bool.not_false] at hc
          have b1:Nat.ble fn.ntmps 512=true:=by cases e:Nat.ble fn.ntmps 512 with |true=>rfl |false=>exact absurd e hc.1.2
          have b2:Nat.ble (fn.params.size+fn.nfree) fn.ntmps=true:=by cases e:Nat.ble (fn.params.size+fn.nfree) fn.ntmps with |true=>rfl |false=>exact absurd e hc.2
          exact ⟨fn,c,Z,hb,hc.1.1,Xc b1,Xc b2,Z,Z,Z,hm⟩
theorem QuL {call:Jp} (hcall:Qbe P call) (hreg:Qlx P call) {f n:Nat} {k:KF} (hk:Qp1 P f=some k) {a:List AV} {us:List Value} {h h':AH} {v:AV} {σ:Sg} {w:World}
    (hr:QrP P call n k a h= .ok v h') (H:G8 σ h w) (ha:Gs σ a us):GM P f us w (fun u w'=>∃τ,Go1 σ h w τ h' w'∧Gy τ v u):=by
  obtain ⟨fn,c,hf,hb,hn,h5,hpar,e1,e2,e3,hm⟩:=Qpk hk
  unfold QrP at hr
  rw [e1,e2,e3] at hr
  obtain ⟨hlen,hr⟩:=QmQ hr
  have hlen:=QcT hlen
  rw [QcH,X6,XK] at hlen
  have hus:us.length=fn.params.size+fn.nfree:=by rw [<-Qh8 ha];exact hlen
  have hF:=Qtf ha hus (by omega)
  have hrun:(callFunc f us.toArray).run P w= .ok (.enter f us.toArray) w:=by
    simp only [callFunc,Xe,Xg,Xd,program,Sem.run,hf,hn,hb,Xf,if_false,Option.isNone_some]
  unfold GM
  rw [hrun]
  refine Qh hf hb (by simp only [Nat.ble_eq,List.size_toArray];omega) ?_
  have key:∀{F1:AF} {h1:AH} {τ:Sg} {w1:World} {f1:Fr},Qro k.res F1 h1= .ok v h'->Go1 σ h w τ h1 w1->GG τ F1 f1->∃u,Qdj P fn f1 w1 u∧∃τ,Go1 σ h w τ h' w1∧Gy τ v u:=by
    intro F1 h1 τ w1 f1 hret hgo hF1
    obtain ⟨rfl,u,hu,hread⟩:=QoZ hgo.rel hF1 hm hret
    exact ⟨u,hread,τ,hgo,hu⟩
  refine QeS (n:=n) hcall hreg h5 c _ h σ w _ _ ?_ H hF ?_
  · intro e;rw [e] at hr;cases hr
  · intro e F1 h1 hout τ w1 f1 hgo hF1
    cases hrc:QcM P call fn.ntmps n c (Qik ((List.range (fn.params.size+fn.nfree)).map u3) a Dp) h with
    |no=>rw [hrc] at hr;cases hr
    |nor F2 h2=>rw [hrc] at hr hout;cases hout;exact key hr hgo hF1
    |ret F2 h2=>rw [hrc] at hr hout;cases hout;exact key hr hgo hF1
    |ext i F2 h2=>rw [hrc] at hr;cases hr
def XOK (P:Program) (X:Ext):Prop :=
  ∀(f:Nat) (g:List AV->Option AV) (a:List AV) (h:AH) (v:AV) (σ:Sg) (w:World) (us:List Value),X f=some g->g a=some v->G8 σ h w->Gs σ a us->GM P f us w (fun u w'=>∃τ,Go1 σ h w τ h w'∧Gy τ v u)
theorem Qkx (hreg:∀call,Qbe P call->Qlx P call) {X:Ext} (hX:XOK P X) (n:Nat):∀d,Qbe P (QjI P X n d)
  |0=>fun f a h v h' σ w us hr=>by cases hr
  | d +1=>fun f a h v h' σ w us hr H ha=>by
    have hr:QrO P X n (QjI P X n d) f a h= .ok v h':=hr
    have ih:=Qkx hreg hX n d
    unfold QrO at hr
    cases hx:X f with
    | some g =>
      rw [hx] at hr
      have hr:(@Option.rec AV (fun _=>RS) .no (fun v=> .ok v h) (g a))= .ok v h':=hr
      obtain ⟨y,h1,h2⟩:=QgN hr
      cases h2
      exact hX f g a h v σ w us hx h1 H ha
    | none =>
      rw [hx] at hr
      obtain ⟨k,h1,h2⟩:=QgN hr
      exact QuL ih (hreg _ ih) h1 h2 H ha
/-! ### functions of one string, reckoned once -/
theorem GM.mono {f:Nat} {us:List Value} {w:World} {K K':Value->World->Prop} (h:GM P f us w K) (hk:∀v w,K v w->K' v w):GM P f us w K':=by
  unfold GM at h ⊢
  split at h
  · exact hk _ _ h
  · exact Calls.mono h fun e w' ⟨v,he,hv⟩=>⟨v,he,hk _ _ hv⟩
  · exact h.elim
mutual
theorem QhG {σ τ:Sg}:∀{v:AV} {u:Value},QlS v=true->Gy σ v u->Gy τ v u
  |_,_,_, .un=> .un
  |_,_,_, .b x=> .b x
  |_,_,_, .n x=> .n x
  |_,_,_, .c x=> .c x
  |_,_,_, .i k n=> .i k n
  |_,_,_, .s h=> .s h
  |_,_,_, .pn=> .pn
  |_,_,h, .p _=>by cases h
  |_,_,_, .sn=> .sn
  |_,_,h, .sl _ _ _ _=>by cases h
  |_,_,_, .mn=> .mn
  |_,_,h, .m _=>by cases h
  |_,_,_, .nf=> .nf
  |_,_,h, .fn _ _=>by cases h
  |_,_,_, .nif=> .nif
  | .ifc _ x,_,h, .ifc hx=> .ifc (QhG (show QlS x=true from h) hx)
  | .agg x,_,h, .agg hx h1=> .agg (Qiz (show QlS (.tup x)=true from h) hx) h1
  | .tup x,_,h, .tup hx=> .tup (Qiz h hx)
theorem Qiz {σ τ:Sg}:∀{l:List AV} {us:List Value},QlS (.tup l)=true->Gs σ l us->Gs τ l us
  |_,_,_, .nil=> .nil
  | x::xs,_,h, .cons hx t=>by
    have h:QbO (QlS x) (QlS (.tup xs))=true:=h
    cases h1:QlS x with
    |false=>rw [h1] at h;cases h
    |true=>rw [h1] at h;exact .cons (QhG h1 hx) (Qiz h t)
end
theorem QoK (k:Id):Dg.get k=none:=by
  cases k with
  | mk a b c d e =>
    show N8E.sel e (N8E.sel d (N8E.sel c (N8E.sel b (N8E.sel a Qwc))))=none
    unfold Qwc
    rw [Qay,Qay,Qay,Qay,Qay]
theorem Ql2 (w:World):G8 (fun _=>none) Dg w:=by
  have hg:∀k b,Dg.get k=some b->False:=fun k b h=>by rw [QoK] at h;cases h
  exact ⟨by decide,fun _ _=>rfl,fun k b h=>(hg k b h).elim,fun k b _ h=>(hg k b h).elim,fun k _ b _ _ _ _ h=>(hg k b h).elim,fun k _ _ _ _ _ h=>(hg k _ h).elim⟩
theorem Go1.grow {σ τ:Sg} {h h1:AH} {w w':World} (H:G8 σ h w) (g:Go1 (fun _=>none) Dg w τ h1 w'):Go1 σ h w σ h w':=by
  have hk:∀b o,w.heap[b]?=some o->w'.heap[b]?=some o:=fun b o hb=>g.keep b o hb fun k bk pl hh=>by rw [QoK] at hh;cases hh
  refine ⟨Sg.le_refl _,⟨H.nb,H.nx,?_,H.an,H.ap,H.tp⟩,g.os,g.tape,g.output,g.drawn,g.size,fun b o hb _=>hk b o hb,fun _ _ hf=>hf,Xi _,fun _ _=>rfl,fun _ _ h=>h⟩
  intro k b hb
  obtain ⟨pl,o,h1,h2,h3⟩:=H.bl k b hb
  exact ⟨pl,o,h1,hk _ _ h2,h3⟩
theorem QfG {x:Nat}:∀{l:List Nat},YH x l=true->x ∈ l
  |[],h=>by cases h
  | y::l,h=>by
    have h:@Bool.rec (fun _=>Bool) (YH x l) true (Nat.beq x y)=true:=h
    cases hb:Nat.beq x y with
    |true=>exact (Xh hb) ▸ List.mem_cons_self
    |false=>rw [hb] at h;exact List.mem_cons_of_mem _ (QfG h)
theorem Qta {T:Type} {k:Nat->T}:∀n:Nat,QrL n k=k n
  |0=>rfl
  |n+1=>rfl
theorem QsO {X:Ext} (hX:XOK P X) {n d:Nat} (hc:Qbe P (QjI P X n d)) (M:List Nat):XOK P (QrC P X n d M):=by
  intro f g a h v σ w us hf hg H ha
  have hf:Kk (YH f M) (some (Qvs P X n d f)) (X f)=some g:=hf
  cases hm:YH f M with
  |false=>rw [hm] at hf;exact hX f g a h v σ w us hf hg H ha
  | true =>
    rw [hm] at hf
    cases hf
    have hg:Kk (QbY 1 a) (ob (Qc0 (hd a)) fun l=>QrL (enc l) (Qvr P X n d f l)) none=some v:=hg
    obtain ⟨h1,h2⟩:=QB hg
    have h1:=QcT h1
    obtain ⟨x,rfl⟩:=List.length_eq_one_iff.1 h1
    obtain ⟨l,h3,h4⟩:=Q1 h2
    have h3:x= .s l:=Qa0 h3
    subst h3
    rw [Qta] at h4
    obtain ⟨h5,h6⟩:=QB h4
    rw [QgT] at h5
    have h5:=of_decide_eq_true h5
    rw [h5] at h6
    cases ha with |cons hx t =>
    cases t
    cases hr:QjI P X n d f [.s l] Dg with
    |no=>rw [hr] at h6;cases h6
    | ok y h7 =>
      rw [hr] at h6
      have h6:Kk (QlS y) (some y) none=some v:=h6
      obtain ⟨h8,h9⟩:=QB h6
      cases h9
      exact (hc f _ _ _ _ _ w _ hr (Ql2 w) (.cons (QhG Z hx) .nil)).mono fun u w' ⟨τ,hgo,hu⟩=>⟨σ,hgo.grow H,QhG h8 hu⟩
end
end Go.Pw
