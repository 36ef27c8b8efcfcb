/- -/
import Derived.Test.YtalfjlihddgooaaGreatDoorBa
import Derived.Test.YtalfjlihddgooaaGreatDoorEvD
import Derived.Laws.Externs
import Derived.Test.YtalfjlihddgooaaGreatDoorLB
set_option linter.unusedSimpArgs false
set_option linter.unusedVariables false
namespace Go.Pw
open Classical
section
variable {P:Program}
theorem Qvg {b:UInt8} {c:Nat} (hc:c<=255):(b == c.toUInt8)=Nat.beq b.toNat c:=by
  have h1:c.toUInt8.toNat=c:=by simp [Nat.toUInt8,UInt8.toNat_ofNat'];omega
  rw [Bool.eq_iff_iff,beq_iff_eq,Nat.beq_eq]
  constructor
  · rintro rfl;exact h1
  · intro h;exact UInt8.toNat_inj.1 (by rw [h1,h])
theorem QnL {c:Nat} (hc:c<=255):∀(l:List UInt8) (n:Nat),Qng c (l.map UInt8.toNat) n=if Lib.indexByte l c.toUInt8= -1 then none else some (n+(Lib.indexByte l c.toUInt8).toNat)
  |[],n=>rfl
  | b ::l,n=>by
    have e:Qng c ((b::l).map UInt8.toNat) n=Kk (Nat.beq b.toNat c) (some n) (Qng c (l.map UInt8.toNat) (Nat.succ n)):=rfl
    rw [e,QnL hc l (Nat.succ n)]
    have hge:=Lib.indexByte_ge l c.toUInt8
    have e2:Lib.indexByte (b::l) c.toUInt8=if b == c.toUInt8 then 0 else if Lib.indexByte l c.toUInt8 == -1 then -1 else Lib.indexByte l c.toUInt8+1:=rfl
    rw [e2,Qvg hc]
    cases hb:Nat.beq b.toNat c with
    |true=>rfl
    | false =>
      show (if Lib.indexByte l c.toUInt8= -1 then none else some (Nat.succ n+(Lib.indexByte l c.toUInt8).toNat))=_
      generalize Lib.indexByte l c.toUInt8=x at hge
      by_cases hx:x= -1
      · subst hx;rfl
      · rw [if_neg hx]
        simp only [Xf,if_false,beq_iff_eq,if_neg hx]
        rw [if_neg (by omega)]
        congr 1
        omega
theorem QlG {c:Nat} (hc:c<=255):∀(l:List UInt8) (n:Nat),QjW c (l.map UInt8.toNat) n=n+Lib.countByte l c.toUInt8
  |[],n=>rfl
  | b::l,n=>by
    have e:QjW c ((b::l).map UInt8.toNat) n=QjW c (l.map UInt8.toNat) (Kk (Nat.beq b.toNat c) (Nat.succ n) n):=rfl
    rw [e,QlG hc l]
    unfold Lib.countByte
    rw [List.count_cons,Qvg hc]
    cases hb:Nat.beq b.toNat c with
    |true=>show Nat.succ n+_=n+(_+1);omega
    |false=>rfl
theorem QkE {f:FuncId} {fn:Func} {e:Array Value->Sem Value} (hf:P.funcs[f]?=some fn) (hname:(fn.name == "runtime.NumGoroutine")=false) (hb:fn.body.isNone=true) (hn:Extern.findNext fn=none) (he:Extern.find fn=some e)
    {us:List Value} {w:World} {r:Value} {K:Value->World->Prop} (hr:(e us.toArray).run P w= .ok r w) (hk:K r w):GM P f us w K:=by
  have hrun:=run_callFunc_extern hf hname hb hn he us.toArray w
  rw [hr] at hrun
  unfold GM
  rw [hrun]
  exact hk
theorem QnN {a:List AV} {us:List Value} {σ:Sg} (hu:us.length=2) (ha:Gs σ a us) {l:List Nat} {c:Nat} (h1:Qc0 (hd a)=some l) (h2:QkZ (hd2 a)=some c):∃q:ByteArray,us=[.string q, .int .u8 (.ofNat c)]∧q.data.toList.map UInt8.toNat=l:=by
  match us,hu with
  | [u,v],_ =>
    obtain ⟨x,y,rfl,hx,hy⟩:=QbW ha
    have h3:x= .s l:=Qa0 h1
    have h4:y= .c c:=Qmy h2
    subst h3 h4
    obtain ⟨q,rfl,hq⟩:=Qez hx
    rw [Qr7 hy]
    exact ⟨q,Z,hq⟩
structure Di (P:Program) (f:Nat) (e:Array Value->Sem Value):Prop where
  ex:∃fn,P.funcs[f]?=some fn∧(fn.name == "runtime.NumGoroutine")=false∧fn.body.isNone=true∧Extern.findNext fn=none∧Extern.find fn=some e
theorem QuB {ib ct:Nat} (h1:Di P ib Extern.BytealgIndexByte.indexByte) (h2:Di P ct Extern.BytealgCount.count):XOK P (Qwe ib ct):=by
  intro f g a h v σ w us hf hg H ha
  have hf:Kk (Nat.beq f ib) (some ibK) (Kk (Nat.beq f ct) (some ctK) none)=some g:=hf
  cases hb:Nat.beq f ib with
  | true =>
    rw [hb] at hf;cases hf
    have:=Xh hb
    subst this
    obtain ⟨fn,k1,k2,k3,k4,k5⟩:=h1.ex
    have hg:Kk (QbY 2 a) (ob (Qc0 (hd a)) fun l=>ob (QkZ (hd2 a)) fun c=>Kk (Nat.ble c 255) (orE (Qng c l 0) (some (.i .i64 (.negSucc 0))) fun n=>some (.n n)) none) none=some v:=hg
    obtain ⟨g0,hg⟩:=QB hg
    obtain ⟨l,g1,hg⟩:=Q1 hg
    obtain ⟨c,g2,hg⟩:=Q1 hg
    obtain ⟨g3,hg⟩:=QB hg
    have g3:=Xc g3
    obtain ⟨q,rfl,rfl⟩:=QnN (by rw [<-Qh8 ha];exact QcT g0) ha g1 g2
    refine QkE k1 k2 k3 k4 k5 (Lib.run_indexByteString q (.ofNat c) w) ⟨σ,Go1.refl H,?_⟩
    have e:(Int.ofNat c).toNat.toUInt8=c.toUInt8:=rfl
    rw [e]
    rw [QnL g3] at hg
    have hge:=Lib.indexByte_ge q.data.toList c.toUInt8
    generalize Lib.indexByte q.data.toList c.toUInt8=x at hg hge
    by_cases hx:x= -1
    · subst hx
      cases hg
      exact .i _ _
    · rw [if_neg hx] at hg
      cases hg
      have:x= .ofNat (0+x.toNat):=by simp only [Int.ofNat_eq_natCast];omega
      rw [this]
      simp only [Int.ofNat_eq_natCast,XD,Nat.zero_add]
      exact .n _
  | false =>
    rw [hb] at hf
    cases hb:Nat.beq f ct with
    |false=>rw [hb] at hf;cases hf
    | true =>
      rw [hb] at hf;cases hf
      have:=Xh hb
      subst this
      obtain ⟨fn,k1,k2,k3,k4,k5⟩:=h2.ex
      have hg:Kk (QbY 2 a) (ob (Qc0 (hd a)) fun l=>ob (QkZ (hd2 a)) fun c=>Kk (Nat.ble c 255) (some (.n (QjW c l 0))) none) none=some v:=hg
      obtain ⟨g0,hg⟩:=QB hg
      obtain ⟨l,g1,hg⟩:=Q1 hg
      obtain ⟨c,g2,hg⟩:=Q1 hg
      obtain ⟨g3,hg⟩:=QB hg
      have g3:=Xc g3
      obtain ⟨q,rfl,rfl⟩:=QnN (by rw [<-Qh8 ha];exact QcT g0) ha g1 g2
      refine QkE k1 k2 k3 k4 k5 (Lib.run_countString q (.ofNat c) w) ⟨σ,Go1.refl H,?_⟩
      cases hg
      rw [QlG g3]
      rw [Nat.zero_add]
      exact .n _
end
end Go.Pw
/- -/
namespace Go.Pw
open Classical
section
variable {P:Program}
theorem QaS {α:Type} {o:Option α} {f:α->Bool} (h:oB o f=true):∃x,o=some x∧f x=true:=by
  cases o with
  |none=>cases h
  |some x=>exact ⟨x,rfl,h⟩
theorem Qab {a b:Bool} (h:QbO a b=true):a=true∧b=true:=by
  cases a with
  |true=>exact ⟨rfl,h⟩
  |false=>cases h
theorem Qmz {a b:Id} (h:QiT a b=true):a=b:=by
  have hd:∀{x y:D8},eqD x y=true->x=y:=fun {x y} h=>by
    have:=Xh h
    rw [<-QnX x, <-QnX y,this]
  cases a;cases b
  obtain ⟨h1,h⟩:=Qab h
  obtain ⟨h2,h⟩:=Qab h
  obtain ⟨h3,h⟩:=Qab h
  obtain ⟨h4,h5⟩:=Qab h
  have e1:=hd h1;have e2:=hd h2;have e3:=hd h3;have e4:=hd h4;have e5:=hd h5
  simp only at e1 e2 e3 e4 e5
  rw [e1,e2,e3,e4,e5]
theorem QuC {a b:Option Nat} (h:Qwf a b=true):a=b:=by
  cases a <;> cases b
  · rfl
  · cases h
  · cases h
  · exact congrArg some (Xh h)
theorem QsZ {v:AV} {x:IntKind×Int} (h:D5 v=some x):v= .i x.1 x.2:=by cases v <;> first |(cases h;rfl) |cases h
theorem QqL {v:AV} {x:Nat×AV} (h:QoL v=some x):v= .ifc x.1 x.2:=by cases v <;> first |(cases h;rfl) |cases h
theorem Qu4 {v:AV} (h:Qxp v=true):v= .pn:=by cases v <;> first |rfl |cases h
theorem Qu5 {v:AV} (h:Qxq v=true):v= .nf:=by cases v <;> first |rfl |cases h
theorem D2 {v:AV} (h:Qrt v=true):v= .un:=by cases v <;> first |rfl |cases h
theorem D3 {v:AV} (h:QeM v=true):v= .sn:=by cases v <;> first |rfl |cases h
theorem D4 {v:AV} (h:QtI v=true):v= .mn:=by cases v <;> first |rfl |cases h
theorem Dz {v:AV} (h:Qlw v=true):v= .nif:=by cases v <;> first |rfl |cases h
theorem Dy {l:List AV} (h:Qlv l=true):l=[]:=by cases l <;> first |rfl |cases h
theorem D7 {a b:Int} (h:eqI a b=true):a=b:=by
  cases a <;> cases b
  · exact congrArg Int.ofNat (Xh h)
  · cases h
  · cases h
  · exact congrArg Int.negSucc (Xh h)
noncomputable def Qqn (l m:List AV):Bool:=Qrw (.tup l) (.tup m)
mutual
theorem Qm0:∀(v w:AV),Qrw v w=true->v=w
  | .un,w,h=>(D2 h).symm
  | .b x,w,h=>by
    obtain ⟨y,h1,h2⟩:=QaS (show oB (QiS w) (fun y=>@Bool.rec (fun _=>Bool) (Bool.not y) y x)=true from h)
    rw [Qgm h1];cases x <;> cases y <;> first |rfl |cases h2
  | .n x,w,h=>by
    obtain ⟨y,h1,h2⟩:=QaS (show oB (Qf5 w) (Nat.beq x)=true from h)
    rw [Qck h1,Xh h2]
  | .c x,w,h=>by
    obtain ⟨y,h1,h2⟩:=QaS (show oB (QkZ w) (Nat.beq x)=true from h)
    rw [Qmy h1,Xh h2]
  | .i k n,w,h=>by
    obtain ⟨q,h1,h2⟩:=QaS (show oB (D5 w) (fun q=>QbO (Nat.beq (kNo k) (kNo q.1)) (eqI n q.2))=true from h)
    obtain ⟨h3,h4⟩:=Qab h2
    rw [QsZ h1, <-QpS (Xh h3), <-D7 h4]
  | .s l,w,h=>by
    obtain ⟨y,h1,h2⟩:=QaS (show oB (Qc0 w) (eqL l)=true from h)
    rw [QgT] at h2
    rw [Qa0 h1,of_decide_eq_true h2]
  | .pn,w,h=>(Qu4 h).symm
  | .p k o,w,h=>by
    obtain ⟨q,h1,h2⟩:=QaS (show oB (Qg6 w) (fun q=>QbO (QiT k q.1) (Nat.beq o q.2))=true from h)
    obtain ⟨h3,h4⟩:=Qab h2
    rw [QdX h1, <-Qmz h3, <-Xh h4]
  | .sn,w,h=>(D3 h).symm
  | .sl k o l z c,w,h=>by
    obtain ⟨q,h1,h2⟩:=QaS (show oB (QcO w) (fun q=>QbO (QiT k q.k) (QbO (Nat.beq o q.off) (QbO (Nat.beq l q.len) (QbO (Nat.beq z q.sz) (Qwf c q.cap)))))=true from h)
    obtain ⟨h3,h2⟩:=Qab h2
    obtain ⟨h4,h2⟩:=Qab h2
    obtain ⟨h5,h2⟩:=Qab h2
    obtain ⟨h6,h7⟩:=Qab h2
    rw [Qbf h1, <-Qmz h3, <-Xh h4, <-Xh h5, <-Xh h6, <-QuC h7]
  | .mn,w,h=>(D4 h).symm
  | .m k,w,h=>by
    obtain ⟨y,h1,h2⟩:=QaS (show oB (Qrv w) (QiT k)=true from h)
    rw [Qmx h1,Qmz h2]
  | .nf,w,h=>(Qu5 h).symm
  | .fn f a c,w,h=>by
    obtain ⟨q,h1,h2⟩:=QaS (show oB (Qp0 w) (fun q=>QbO (Nat.beq f q.f) (QbO (Qqn a q.a) (Qqn c q.c)))=true from h)
    obtain ⟨h3,h2⟩:=Qab h2
    obtain ⟨h4,h5⟩:=Qab h2
    rw [QnH h1, <-Xh h3, <-Qh4 a _ h4, <-Qh4 c _ h5]
  | .nif,w,h=>(Dz h).symm
  | .ifc t x,w,h=>by
    obtain ⟨q,h1,h2⟩:=QaS (show oB (QoL w) (fun q=>QbO (Nat.beq t q.1) (Qrw x q.2))=true from h)
    obtain ⟨h3,h4⟩:=Qab h2
    rw [QqL h1, <-Xh h3, <-Qm0 x _ h4]
  | .agg l,w,h=>by
    obtain ⟨q,h1,h2⟩:=QaS (show oB (QjS w) (Qqn l)=true from h)
    rw [Qiy h1, <-Qh4 l _ h2]
  | .tup l,w,h=>by
    obtain ⟨q,h1,h2⟩:=QaS (show oB (Qme w) (Qqn l)=true from h)
    rw [QlB h1, <-Qh4 l _ h2]
theorem Qh4:∀(l m:List AV),Qqn l m=true->l=m
  |[],m,h=>(Dy (show Qlv m=true from h)).symm
  |x::l,[],h=>by cases (show false=true from h)
  | x::l,y::m,h=>by
    obtain ⟨h1,h2⟩:=Qab (show QbO (Qrw x y) (Qqn l m)=true from h)
    rw [Qm0 x y h1,Qh4 l m h2]
end
theorem Ql4 {op:Op} {q:QaD} (h:Qma P op=some q) (hc:cls P op (.q q)=0) (a:List AV) (h1 h2:AH):q a h1=q a h2:=by
  cases op <;> first |(cases h;done) |(cases hc;done) |(cases h;rfl) |skip
  case unOp op t x=>cases op <;> first |(cases h;done) |(cases h;rfl)
  case makeFunc f a c=>cases f <;> first |(cases h;done) |(cases h;rfl)
  case fieldAddr t x k =>
    have h:QdB P t k=some q:=h
    unfold QdB at h
    split at h
    · rename_i fo sz ag _
      cases hb:Nat.beq sz 0 with
      |false=>rw [hb] at h;cases h;rfl
      |true=>rw [hb] at h;cases h
    · cases h
  case field t x k =>
    have h:QjT P t k=some q:=h
    unfold QjT at h
    split at h <;> first |(cases h;rfl) |cases h
  case makeInterface t x =>
    have h:Qru P t=some q:=h
    unfold Qru at h
    split at h <;> first |(cases h;done) |(cases h;rfl)
  case indexAddr t x i =>
    have h:Qh1 P t=some q:=h
    unfold Qh1 at h
    split at h <;> (split at h <;> first |(cases h;done) |(cases h;rfl))
  case index t x i =>
    have h:QjR P t=some q:=h
    unfold QjR at h
    split at h
    · cases h;rfl
    · split at h <;> first |(cases h;done) |(cases h;rfl)
    · cases h
  case convert s d x =>
    have h:Qnj P s d=some q:=h
    unfold Qnj at h
    split at h
    · cases h;rfl
    · rename_i e hs hd
      have hc:(match P.underlying s with |some (.slice _)=>1 |_=>0)=0:=hc
      rw [hs] at hc
      cases hc
    · cases h
  case slice t x lo hi mx =>
    cases mx with
    |some m=>cases h
    | none =>
      have h:QjM P t lo.isSome hi.isSome=some q:=h
      unfold QjM at h
      split at h
      · cases h;rfl
      · split at h <;> first |(cases h;done) |(cases h;rfl)
  case binOp op t x y t' =>
    have h:Qrx P op t y=some q:=h
    unfold Qrx at h
    split at h
    · split at h <;> (cases h;rfl)
    · cases h;rfl
    · split at h <;> first |(cases h;done) |(cases h;rfl)
    · cases hb:QnB y with
      |false=>rw [hb] at h;cases h
      |true=>rw [hb] at h;simp only [cond_true] at h;split at h <;> first |(cases h;done) |(cases h;rfl)
    · cases h
  case call c =>
    have h:Qnk P c=some q:=h
    unfold Qnk at h
    split at h
    · split at h <;> first |(cases h;done) |(cases h;rfl)
    · cases h;rfl
    · cases h
  case build t ps =>
    have h:QjY P t (ps.toList.map (·.1))=some q:=h
    unfold QjY at h
    split at h
    · split at h
      · simp only [Bool.cond_eq_ite] at h
        split at h <;> first |(cases h;done) |(cases h;rfl)
      · cases h
    · split at h
      · simp only [Bool.cond_eq_ite] at h
        split at h <;> first |(cases h;done) |(cases h;rfl)
      · cases h
    · cases h
end
end Go.Pw
/- -/
namespace Go.Pw
open Classical
section
variable {σ:Sg} {h:AH} {w:World}
theorem G8.sig (H:G8 σ h w) {id:Id} {pl:Pl} (h1:σ id=none) (h2:id.num<h.next.num):G8 (σ.add id pl) h w:=by
  have hl:=Qc7 (p:=pl) h1
  have hk:∀k b pk,h.get k=some b->(σ.add id pl) k=some pk->σ k=some pk:=by
    intro k b pk hb hp
    by_cases e:k=id
    · subst e
      obtain ⟨_,_,e,_⟩:=H.bl k b hb
      rw [h1] at e;cases e
    · rwa [JD e] at hp
  refine ⟨H.nb,fun k hn=>?_,fun k b hb=>?_,H.an,fun k m bk bm pk pm hne hk1 hm hpk hpm=>H.ap k m bk bm pk pm hne hk1 hm (hk _ _ _ hk1 hpk) (hk _ _ _ hm hpm),H.tp⟩
  · rw [JD (by intro e;rw [e] at hn;omega)]
    exact H.nx k hn
  · obtain ⟨pk,o,g1,g2,g3⟩:=H.bl k b hb
    exact ⟨pk,o,hl _ _ g1,g2,g3.mono hl⟩
theorem G8.grown {w':World} (H:G8 σ h w) (hw:∀(b:Nat) o,w.heap[b]?=some o->w'.heap[b]?=some o):G8 σ h w':=by
  refine ⟨H.nb,H.nx,fun k b hb=>?_,H.an,H.ap,H.tp⟩
  obtain ⟨pk,o,g1,g2,g3⟩:=H.bl k b hb
  exact ⟨pk,o,g1,hw _ _ g2,g3⟩
theorem QcQ {k:Id} {b:AB}:(h.put k b).next=h.next:=by cases h;rfl
theorem Old.put {id k:Id} {b:AB} (hb:∀m,¬QaR m b) (ho:Old (h.put id b) k):k=id∨Old h k:=by
  obtain ⟨m,bm,h1,h2⟩:=ho
  rw [Qai] at h1
  split at h1
  · rename_i e
    cases h1
    rcases h2 with h2 |h2
    · exact .inl (h2.symm.trans e)
    · exact absurd h2 (hb k)
  · exact .inr ⟨m,bm,h1,h2⟩
theorem G8.absorb (H:G8 σ h w) {id:Id} {pl:Pl} {b:AB} {o:Obj} (h1:σ id=some pl) (h2:w.heap[pl.b]?=some o) (h3:RelB σ pl b o) (h4:∀m,¬QaR m b) (h5:Dc σ h pl.b) (h6:¬Old h id) (h7:id.num<h.next.num) :
    G8 σ (h.put id b) w:=by
  have hget:∀k bk,(h.put id b).get k=some bk->(k=id∧bk=b)∨(k≠id∧h.get k=some bk):=by
    intro k bk hk
    rw [Qai] at hk
    split at hk
    · rename_i e;cases hk;exact .inl ⟨e,rfl⟩
    · rename_i e;exact .inr ⟨e,hk⟩
  refine ⟨by rw [QcQ];exact H.nb,by rw [QcQ];exact H.nx,?_,?_,?_,?_⟩
  · intro k bk hk
    rcases hget k bk hk with ⟨rfl,rfl⟩ |⟨_,hk'⟩
    · exact ⟨pl,o,h1,h2,h3⟩
    · exact H.bl k bk hk'
  · intro k bk m hk hm
    rw [QcQ]
    rcases hget k bk hk with ⟨rfl,rfl⟩ |⟨_,hk'⟩
    · exact absurd hm (h4 m)
    · exact H.an k bk m hk' hm
  · intro k m bk bm pk pm hne hk hm hpk hpm he
    rcases hget k bk hk with ⟨e1,e2⟩ |⟨_,hk'⟩
    · rcases hget m bm hm with ⟨e3,e4⟩ |⟨_,hm'⟩
      · exact absurd (e1.trans e3.symm) hne
      · rw [e1,h1] at hpk;cases hpk
        exact absurd he.symm (h5 m bm pm hm' hpm)
    · rcases hget m bm hm with ⟨e3,e4⟩ |⟨_,hm'⟩
      · rw [e3,h1] at hpm;cases hpm
        exact absurd he (h5 k bk pk hk' hpk)
      · exact H.ap k m bk bm pk pm hne hk' hm' hpk hpm he
  · intro k m cs al hy bm hk hm ho
    rcases hget m bm hm with ⟨_,e4⟩ |⟨_,hm'⟩
    · rw [e4] at ho;exact h4 k ho
    · rcases hget k _ hk with ⟨e1,_⟩ |⟨_,hk'⟩
      · rw [e1] at ho;exact h6 ⟨m,bm,hm', .inr ho⟩
      · exact H.tp k m cs al hy bm hk' hm' ho
end
/-! ### the order in which it is reckoned -/
structure DX where
  F:AF
  h:AH
  hs:List AH
  tch:List Id
def DDo (call:Jp) (base:Id) (s:KS) (X Y:DX):Prop :=
  match s.k with
  |0=>∃q v,qOf s.g=some q∧q (s.r.f X.F) X.h=some v∧Y=⟨X.F.put s.d v,X.h,X.hs,X.tch⟩
  |1=>∃q h1 v,qOf s.g=some q∧hdO X.hs=some h1∧q (s.r.f X.F) h1=some v∧QoB q (s.r.f X.F) v (Qbc s.span (tl X.hs))=true∧Y=⟨X.F.put s.d v,X.h,X.hs,X.tch⟩
  |2=>∃q r,aOf s.g=some q∧q (s.r.f X.F) (Yv s.i base)=some r∧Y=⟨X.F.put s.d r.1,X.h.put (Yv s.i base) r.2,X.hs,X.tch⟩
  |3=>∃e v h' t,eOf s.g=some e∧e call (s.r.f X.F) X.h= .ok v h'∧Y=⟨X.F.put s.d v,h',h'::X.hs,t⟩∧(s.conc=true->∃t',Qbd (s.r.f X.F) X.h=some t'∧t=Qhq t' X.tch)∧(s.conc=false->t=X.tch)
  |_=>∃e t v h',eOf s.g=some e∧Qbd (s.r.f X.F) X.h=some t∧e call (s.r.f X.F) X.h= .ok v h'∧QmW (fun k=>Bool.not (Qrq k X.tch)) t=true∧Y=⟨X.F.put s.d v,h',X.hs,X.tch⟩
def DGo (call:Jp) (base:Id) (s:KS) (X Y:DX):Prop :=
  (QcN X.F s.gd=some false∧Y=⟨X.F.put s.d .un,X.h,Kk (Nat.beq s.k 3) (X.h::X.hs) X.hs,X.tch⟩)∨(QcN X.F s.gd=some true∧DDo call base s X Y)
theorem QtJ {b:Bool} {x:RF} {F:AF} {h:AH} (hh:Kk b x .no= .ok F h):b=true∧x= .ok F h:=by
  cases b with
  |true=>exact ⟨rfl,hh⟩
  |false=>cases hh
theorem Qti {call:Jp} {base:Id} {s:KS} {ih:Dk} {X:DX} {F':AF} {h':AH} (hr:Qp5 call base s ih X.F X.h X.hs X.tch= .ok F' h'):∃Y:DX,DGo call base s X Y∧ih Y.F Y.h Y.hs Y.tch= .ok F' h':=by
  unfold Qp5 at hr
  rcases QrW hr with ⟨hw,hy⟩ |⟨hw,hn⟩
  · have key:∃Y:DX,DDo call base s X Y∧ih Y.F Y.h Y.hs Y.tch= .ok F' h':=by
      have hk:s.k=0∨s.k=1∨s.k=2∨s.k=3∨∃m,s.k=m+4:=by
        rcases s.k with _ |_ |_ |_ |m
        · exact .inl Z
        · exact .inr (.inl Z)
        · exact .inr (.inr (.inl Z))
        · exact .inr (.inr (.inr (.inl Z)))
        · exact .inr (.inr (.inr (.inr ⟨m,Z⟩)))
      rcases hk with hk |hk |hk |hk |⟨m,hk⟩ <;> (unfold Qxw at hy;unfold DDo;rw [hk] at hy ⊢)
      · obtain ⟨q,h1,hy⟩:=Qf9 hy
        obtain ⟨v,h2,hy⟩:=Qf9 hy
        exact ⟨⟨X.F.put s.d v,X.h,X.hs,X.tch⟩,⟨q,v,h1,h2,Z⟩,hy⟩
      · obtain ⟨q,h1,hy⟩:=Qf9 hy
        obtain ⟨h0,h2,hy⟩:=Qf9 hy
        obtain ⟨v,h3,hy⟩:=Qf9 hy
        obtain ⟨h4,hy⟩:=QtJ hy
        exact ⟨⟨X.F.put s.d v,X.h,X.hs,X.tch⟩,⟨q,h0,v,h1,h2,h3,h4,Z⟩,hy⟩
      · obtain ⟨q,h1,hy⟩:=Qf9 hy
        obtain ⟨r,h2,hy⟩:=Qf9 hy
        exact ⟨⟨X.F.put s.d r.1,X.h.put (Yv s.i base) r.2,X.hs,X.tch⟩,⟨q,r,h1,h2,Z⟩,hy⟩
      · obtain ⟨e,h1,hy⟩:=Qf9 hy
        obtain ⟨v,h2,h3,hy⟩:=QoC hy
        cases hc:s.conc with
        |false=>rw [hc] at hy;exact ⟨⟨X.F.put s.d v,h2,h2::X.hs,X.tch⟩,⟨e,v,h2,X.tch,h1,h3,rfl,(fun h=>by cases h),fun _=>rfl⟩,hy⟩
        | true =>
          rw [hc] at hy
          obtain ⟨t,ht,hy⟩:=Qf9 (show oF (Qbd (Ar.f s.r X.F) X.h) (fun t=>ih (AF.put X.F s.d v) h2 (h2::X.hs) (Qhq t X.tch))= .ok F' h' from hy)
          exact ⟨⟨X.F.put s.d v,h2,h2::X.hs,Qhq t X.tch⟩,⟨e,v,h2,_,h1,h3,Z,(fun _=>⟨t,ht,Z⟩),(fun h=>by cases h)⟩,hy⟩
      · obtain ⟨e,h1,hy⟩:=Qf9 hy
        obtain ⟨t,h2,hy⟩:=Qf9 hy
        obtain ⟨v,h3,h4,hy⟩:=QoC hy
        obtain ⟨h5,hy⟩:=QtJ hy
        exact ⟨⟨X.F.put s.d v,h3,X.hs,X.tch⟩,⟨e,t,v,h3,h1,h2,h4,h5,Z⟩,hy⟩
    obtain ⟨Y,h1,h2⟩:=key
    exact ⟨Y, .inr ⟨hw,h1⟩,h2⟩
  · exact ⟨⟨X.F.put s.d .un,X.h,Kk (Nat.beq s.k 3) (X.h::X.hs) X.hs,X.tch⟩, .inl ⟨hw,Z⟩,hn⟩
theorem Qkv {call:Jp} {base:Id}:∀{l:List KS} {X:DX} {F':AF} {h':AH},Qnh call base l X.F X.h X.hs X.tch= .ok F' h' ->
    ∃st:Nat->DX,st 0=X∧(∀p s,l[p]?=some s->DGo call base s (st p) (st (p+1)))∧(st l.length).F=F'∧(st l.length).h=h'
  | [],X,F',h',hr=>by
    cases hr
    exact ⟨fun _=>X,Z,fun p s hp=>by simp at hp,Z,Z⟩
  | s::l,X,F',h',hr=>by
    obtain ⟨Y,h1,h2⟩:=Qti (show Qp5 call base s (Qnh call base l) X.F X.h X.hs X.tch= .ok F' h' from hr)
    obtain ⟨st,g1,g2,g3,g4⟩:=Qkv h2
    refine ⟨fun p=>match p with |0=>X |p+1=>st p,Z,?_,g3,g4⟩
    intro p s' hp
    cases p with
    |zero=>simp at hp;subst hp;show DGo call base s X (st 0);rw [g1];exact h1
    |succ p=>exact g2 p s' (by simpa using hp)
/-! ### what waits on what -/
def Kf (ops:List Oper) (i:Nat):List Nat:=match ops[i]? with
  |some o=>Qe0 o
  |none=>[]
inductive Anc (ops:List Oper):Nat->Nat->Prop where
  |dep {d i:Nat} (h:d ∈ Kf ops i):Anc ops d i
  |tr {x d i:Nat} (h:d ∈ Kf ops i) (t:Anc ops x d):Anc ops x i
theorem Anc.inn {ops:List Oper} {D:Nat->Prop} (hD:∀i,D i->∀d ∈ Kf ops i,D d) {x i:Nat} (h:Anc ops x i):(∀d ∈ Kf ops i,D d)->D x:=by
  induction h with
  |dep h=>exact fun hi=>hi _ h
  |tr h _ ih=>exact fun hi=>ih (hD _ (hi _ h))
section
variable {P:Program}
structure Dr (P:Program) (N:Nat) (ops:List Oper) (s:KS) (o:Oper):Prop where
  d:s.d=o.dst.map u3
  lt:Qb1 N o.dst=true
  real:(∃lk,(Ye o.op).mapM Qg5=some lk∧s.r=QlT lk∧Qf4 P o.op=some s.g)∨s.g=QjG
  gd:(o.guard=none∧s.gd=none)∨∃j want d,o.guard=some (j,want)∧(ops[j]?).bind (·.dst)=some d∧d<512∧s.gd=some (g3 d,want)
  quiet:s.k=0->cls P o.op s.g=0
structure G6 (P:Program) (N:Nat) (call:Jp) (ops:List Oper) (l:List KS) (base:Id) (st:Nat->DX):Prop where
  step:∀(p:Nat) s,l[p]?=some s->DGo call base s (st p) (st (p+1))
  isop:∀(p:Nat) s,l[p]?=some s->∃o,ops[s.i]?=some o∧Dr P N ops s o
  cover:∀(i:Nat) o,ops[i]?=some o->∃(p:Nat) (s:KS),l[p]?=some s∧s.i=i
  uniq:∀(p p':Nat) s s',l[p]?=some s->l[p']?=some s'->s.i=s'.i->p=p'
  deps:∀(p:Nat) s,l[p]?=some s->∀d ∈ Kf ops s.i,∃(p':Nat) (s':KS),p'<p∧l[p']?=some s'∧s'.i=d
  eff:∀(p:Nat) s,l[p]?=some s->s.k=3->∀(p':Nat) s',p'<p->l[p']?=some s'->Anc ops s'.i s.i
  look:∀(p:Nat) s,l[p]?=some s->s.k=1->((l.take p).countP fun s'=>s'.k == 3 && !decide (Anc ops s'.i s.i))<=s.span
  kinds:∀(p:Nat) s,l[p]?=some s->s.k<=4
  last:∀(p:Nat) s,l[p]?=some s->s.k=4->p+1=l.length
  reads:∀(i:Nat) o,ops[i]?=some o->∀u, .tmp u ∈ Ye o.op->∀(i':Nat) o',ops[i']?=some o'->o'.dst=some u->i'=i∨Anc ops i' i∨Anc ops i i'
  dsts:∀(i i':Nat) o o' d,ops[i]?=some o->ops[i']?=some o'->o.dst=some d->o'.dst=some d->i=i'
  guards:∀(i:Nat) o j b,ops[i]?=some o->o.guard=some (j,b)->j ∈ Kf ops i
end
end Go.Pw
/- -/
namespace Go.Pw
open Classical
theorem Qn8 {σ:Sg} {F:AF} {f:Fr}:∀{xs:List Operand} {lk:List KA},xs.mapM Qg5=some lk->(∀u, .tmp u ∈ xs->u<512->Gy σ (F.at (g3 u)) (f u))->Gs σ (lk.map (ka F)) (xs.map (ev f))
  |[],l,h,_=>by simp at h;subst h;exact .nil
  | x ::xs,l,h,hr=>by
    simp only [List.mapM_cons,Option.bind_eq_bind,Option.pure_def] at h
    obtain ⟨a,h1,h2⟩:=Option.bind_eq_some_iff.1 h
    obtain ⟨r,h3,h4⟩:=Option.bind_eq_some_iff.1 h2
    cases h4
    refine .cons ?_ (Qn8 h3 fun u hu=>hr u (List.mem_cons_of_mem _ hu))
    cases x with
    | tmp t =>
      have h:(bif Nat.blt t 512 then some (KA.t (g3 t)) else none)=some a:=h1
      cases hb:Nat.blt t 512 with
      |false=>rw [hb] at h;cases h
      |true=>rw [hb] at h;cases h;exact hr t List.mem_cons_self (by simpa [Nat.blt_eq] using hb)
    | const v =>
      obtain ⟨b,hb,rfl⟩:=Xp.1 (show (ofV 8 v).map KA.k=some a from h1)
      exact QjP hb
    |global g=>cases h1
    |func f=>cases h1;exact .fn .nil .nil
theorem DGo.frame {call:Jp} {base:Id} {s:KS} {X Y:DX} (h:DGo call base s X Y):∃v,Y.F=X.F.put s.d v:=by
  rcases h with ⟨_,rfl⟩ |⟨_,h⟩
  · exact ⟨_,Z⟩
  · unfold DDo at h
    split at h
    · obtain ⟨_,v,_,_,rfl⟩:=h;exact ⟨v,rfl⟩
    · obtain ⟨_,_,v,_,_,_,_,rfl⟩:=h;exact ⟨v,rfl⟩
    · obtain ⟨_,r,_,_,rfl⟩:=h;exact ⟨r.1,rfl⟩
    · obtain ⟨_,v,_,_,_,_,rfl,_⟩:=h;exact ⟨v,rfl⟩
    · obtain ⟨_,_,v,_,_,_,_,_,rfl⟩:=h;exact ⟨v,rfl⟩
def Pre (l:List KS) (p i:Nat):Prop:=∃(p':Nat) (s':KS),p'<p∧l[p']?=some s'∧s'.i=i
section
variable {P:Program} {N:Nat} {call:Jp} {ops:List Oper} {l:List KS} {base:Id} {st:Nat->DX}
theorem G6.pre_clo (C:G6 P N call ops l base st) (p:Nat):∀i,Pre l p i->∀d ∈ Kf ops i,Pre l p d:=by
  rintro i ⟨p',s',h1,h2,rfl⟩ d hd
  obtain ⟨q,s,g1,g2,g3⟩:=C.deps p' s' h2 d hd
  exact ⟨q,s,Nat.lt_trans g1 h1,g2,g3⟩
theorem G6.frame1 (C:G6 P N call ops l base st) (hN:N<=512) {p:Nat} {s:KS} {o:Oper} (hp:l[p]?=some s) (ho:ops[s.i]?=some o) {u:Nat} (hu:u<512) (hne:o.dst≠some u):(st (p+1)).F.at (g3 u)=(st p).F.at (g3 u):=by
  obtain ⟨v,hv⟩:=(C.step p s hp).frame
  obtain ⟨o',ho',hs⟩:=C.isop p s hp
  rw [ho] at ho';cases ho'
  rw [hv,hs.d]
  cases hd:o.dst with
  |none=>rfl
  | some d =>
    have hlt:=hs.lt
    rw [hd] at hlt hne
    have hd5:d<512:=XL (by simpa [Qb1,Nat.blt_eq] using hlt) hN
    show (AF.set (st p).F (u3 d) v).at (g3 u)=_
    rw [QoN hd5 hu,if_neg (by intro e;exact hne (by rw [e]))]
theorem G6.frames (C : G6 P N call ops l base st) (hN:N<=512) {u:Nat} (hu:u<512) {a:Nat}:∀{b:Nat},a<=b->b<=l.length->(∀(p:Nat) s o,a<=p->p<b->l[p]?=some s->ops[s.i]?=some o->o.dst≠some u)->(st b).F.at (g3 u)=(st a).F.at (g3 u)
  | 0, hab, _, _ => by have:a=0:=by omega
                       subst this;rfl
  | b +1,hab,hb,hn=>by
    rcases Nat.lt_or_ge b a with h |h
    · have:a=b+1:=by omega
      subst this;rfl
    · have hlt:b<l.length:=by omega
      obtain ⟨s,hs⟩:∃s,l[b]?=some s:=⟨l[b],by simp [hlt]⟩
      obtain ⟨o,ho,_⟩:=C.isop b s hs
      rw [C.frame1 hN hs ho hu (hn b s o h (Nat.lt_succ_self b) hs ho)]
      exact C.frames hN hu h (by omega) fun p s o h1 h2=>hn p s o h1 (by omega)
structure JF (ops:List Oper) (l:List KS) (st:Nat->DX) (σ0:Sg) (f0:Fr) (D:Nat->Bool) (g:Fr) (σ:Sg):Prop where
  gle:Sg.le σ0 σ
  clo:∀i,D i=true->∀d ∈ Kf ops i,D d=true
  frm:∀(p:Nat) s o d,l[p]?=some s->D s.i=true->ops[s.i]?=some o->o.dst=some d->Gy σ ((st (p+1)).F.at (g3 d)) (g d)
  ini:∀u,(∀(i:Nat) o,D i=true->ops[i]?=some o->o.dst≠some u)->g u=f0 u
structure JJ (ops:List Oper) (l:List KS) (base:Id) (st:Nat->DX) (σ0:Sg) (hO:AH) (w0:World) (f0:Fr) (D:Nat->Bool) (g:Fr) (w:World) (σ:Sg) (p0:Nat):Prop where
  le:p0<=l.length
  mark:p0=0∨∃(q:Nat) (s:KS),p0=q+1∧l[q]?=some s∧s.k=3
  pre:∀(p:Nat) s,p<p0->l[p]?=some s->D s.i=true
  chn:∀(p:Nat) s,p0<=p->l[p]?=some s->s.k=3->D s.i=false
  lat:∀(p:Nat) s,l[p]?=some s->s.k=4->D s.i=true->QcN (st p).F s.gd=some false
  clo:∀i,D i=true->∀d ∈ Kf ops i,D d=true
  go:Go1 σ0 hO w0 σ (st p0).h w
  nn:base.num+ops.length<=(st p0).h.next.num
  ext:∀(p:Nat) s,p0<=p->l[p]?=some s->s.k=2->¬Old (st p0).h (Yv s.i base)∧((σ (Yv s.i base)=none∧(D s.i=true->QcN (st p).F s.gd=some false)) ∨
    (D s.i=true∧∃pl o q r,σ (Yv s.i base)=some pl∧aOf s.g=some q∧q (s.r.f (st p).F) (Yv s.i base)=some r∧(∀m,¬QaR m r.2)∧w.heap[pl.b]?=some o∧RelB σ pl r.2 o∧w0.heap.size<=pl.b∧Dc σ (st p0).h pl.b))
  dis:∀(p p':Nat) s s' pl pl',p0<=p->p0<=p'->l[p]?=some s->l[p']?=some s'->s.k=2->s'.k=2->p≠p'->σ (Yv s.i base)=some pl->σ (Yv s'.i base)=some pl'->pl.b≠pl'.b
  frm:∀(p:Nat) s o d,l[p]?=some s->D s.i=true->ops[s.i]?=some o->o.dst=some d->Gy σ ((st (p+1)).F.at (g3 d)) (g d)
  ini:∀u,(∀(i:Nat) o,D i=true->ops[i]?=some o->o.dst≠some u)->g u=f0 u
section
variable {σ0:Sg} {hO:AH} {w0:World} {f0:Fr} {D:Nat->Bool} {g:Fr} {w:World} {σ:Sg} {p0:Nat}
theorem JJ.toF (J:JJ ops l base st σ0 hO w0 f0 D g w σ p0):JF ops l st σ0 f0 D g σ:=⟨J.go.le,J.clo,J.frm,J.ini⟩
theorem JF.anc (J:JF ops l st σ0 f0 D g σ) {x i:Nat} (h:Anc ops x i) (hi:∀d ∈ Kf ops i,D d=true):D x=true:=h.inn (D:=fun i=>D i=true) J.clo hi
theorem JF.left (C:G6 P N call ops l base st) (hN:N<=512) (J:JF ops l st σ0 f0 D g σ) {p:Nat} {s:KS} (hp:l[p]?=some s) (hdep:∀d ∈ Kf ops s.i,D d=true) {i':Nat} {o':Oper} (ha:Anc ops i' s.i) (ho:ops[i']?=some o') {u:Nat} (hu:o'.dst=some u) (h5:u<512) :
    Gy σ ((st p).F.at (g3 u)) (g u):=by
  have hD:=J.anc ha hdep
  obtain ⟨p',s',g1,g2,rfl⟩:=ha.inn (D:=Pre l p) (C.pre_clo p) (C.deps p s hp)
  have:=J.frm p' s' o' u g2 hD ho hu
  rw [C.frames hN h5 (a:=p'+1) (b:=p) (by omega) (by have:=(Xj.1 hp).1;omega)]
  · exact this
  · intro q t o h1 h2 h3 h4 h6
    have:=C.uniq q p' t s' h3 g2 (C.dsts _ _ _ _ _ h4 ho h6 hu)
    omega
theorem JF.arg (C:G6 P N call ops l base st) (hN:N<=512) (J:JF ops l st σ0 f0 D g σ) (hF:GG σ0 (st 0).F f0) {p:Nat} {s:KS} {o:Oper} (hp:l[p]?=some s) (ho:ops[s.i]?=some o) (hD:D s.i=false) (hdep:∀d ∈ Kf ops s.i,D d=true)
    {u:Nat} (hu: .tmp u ∈ Ye o.op) (h5:u<512):Gy σ ((st p).F.at (g3 u)) (g u):=by
  have hpl:p<=l.length:=by have:=(Xj.1 hp).1;omega
  have both:(∀(i':Nat) o',ops[i']?=some o'->o'.dst=some u->D i'=false∧∀(q:Nat) t,q<p->l[q]?=some t->t.i≠i')->Gy σ ((st p).F.at (g3 u)) (g u):=by
    intro hno
    rw [C.frames hN h5 (a:=0) (b:=p) (by omega) hpl (fun q t o' _ h2 h3 h4 h6=>(hno _ _ h4 h6).2 q t h2 h3 rfl)]
    rw [J.ini u fun i o' h1 h2 h3=>by rw [(hno i o' h2 h3).1] at h1;cases h1]
    exact (hF.mono J.gle) u h5
  by_cases hw:∃(i':Nat) (o':Oper),ops[i']?=some o'∧o'.dst=some u
  · obtain ⟨i',o',h1,h2⟩:=hw
    have one:∀(j:Nat) oj,ops[j]?=some oj->oj.dst=some u->j=i':=fun j oj h3 h4=>C.dsts _ _ _ _ _ h3 h1 h4 h2
    rcases C.reads s.i o ho u hu i' o' h1 h2 with e |ha |ha
    · refine both fun j oj h3 h4=>?_
      have:=one j oj h3 h4
      rw [this,e]
      exact ⟨hD,fun q t h5 h6 h7=>by have:=C.uniq q p t s h6 hp h7;omega⟩
    · exact J.left C hN hp hdep ha h1 h2 h5
    · refine both fun j oj h3 h4=>?_
      have:=one j oj h3 h4
      rw [this]
      constructor
      · cases hd:D i' with
        |false=>rfl
        |true=>have:=J.anc ha (J.clo i' hd);rw [hD] at this;cases this
      · intro q t h5 h6 h7
        obtain ⟨p',s',g1,g2,g3⟩:=ha.inn (D:=Pre l p) (C.pre_clo p) (C.pre_clo p i' ⟨q,t,h5,h6,h7⟩)
        have:=C.uniq p' p s' s g2 hp g3
        omega
  · exact both fun j oj h3 h4=>absurd ⟨j,oj,h3,h4⟩ hw
theorem JF.args (C:G6 P N call ops l base st) (hN:N<=512) (J:JF ops l st σ0 f0 D g σ) (hF:GG σ0 (st 0).F f0) {p:Nat} {s:KS} {o:Oper} (hp:l[p]?=some s) (ho:ops[s.i]?=some o) (hD:D s.i=false) (hdep:∀d ∈ Kf ops s.i,D d=true)
    {lk:List KA} (hk:(Ye o.op).mapM Qg5=some lk):Gs σ ((QlT lk).f (st p).F) ((Ye o.op).map (ev g)):=by
  rw [QpZ]
  exact Qn8 hk fun u hu h5=>J.arg C hN hF hp ho hD hdep hu h5
theorem JF.guard (C:G6 P N call ops l base st) (hN:N<=512) (J:JF ops l st σ0 f0 D g σ) {p:Nat} {s:KS} {o:Oper} (hp:l[p]?=some s) (ho:ops[s.i]?=some o) (hdep:∀d ∈ Kf ops s.i,D d=true) (hs:Dr P N ops s o) {b:Bool} (hw:QcN (st p).F s.gd=some b) :
    Region.wanted o (Jg ops.toArray g)=b:=by
  rcases hs.gd with ⟨e1,e2⟩ |⟨j,want,d,e1,e2,e3,e4⟩
  · rw [e2] at hw;cases hw
    simp [Region.wanted,e1]
  · rw [e4] at hw
    obtain ⟨oj,hoj,hdj⟩:=Option.bind_eq_some_iff.1 e2
    have hrel:=J.left C hN hp hdep (.dep (C.guards _ _ _ _ ho e1)) hoj hdj e3
    have hy:=QeV (f:=g) e2
    simp only [Region.wanted,e1,hy]
    rcases QgW hw with ⟨c,h1,h2⟩ |⟨h1,h2⟩
    · rw [h1] at hrel
      rw [QjD hrel,h2]
      cases c <;> cases want <;> rfl
    · rw [h1] at hrel
      rw [QrV hrel,h2]
      rfl
end
end
end Go.Pw
/- -/
namespace Go.Pw
open Classical
def Qeh (D:Nat->Bool) (i:Nat):Nat->Bool:=fun j=>if j=i then true else D j
theorem Qe6 {D:Nat->Bool} {i:Nat}:Qeh D i i=true:=by simp [Qeh]
theorem QbI {D:Nat->Bool} {i j:Nat} (h:D j=true):Qeh D i j=true:=by unfold Qeh;split <;> simp [h]
theorem Qcj {D:Nat->Bool} {i j:Nat} (h:j≠i):Qeh D i j=D j:=by simp [Qeh,h]
theorem Qjm {D:Nat->Bool} {i j:Nat} (h:Qeh D i j=true):j=i∨D j=true:=by
  by_cases e:j=i
  · exact .inl e
  · rw [Qcj e] at h;exact .inr h
section
variable {P:Program} {N:Nat} {call:Jp} {ops:List Oper} {l:List KS} {base:Id} {st:Nat->DX}
variable {σ0:Sg} {hO:AH} {w0:World} {f0:Fr} {D:Nat->Bool} {g:Fr} {w:World} {σ:Sg} {p0:Nat}
theorem G6.idx (C:G6 P N call ops l base st) {p:Nat} {s:KS} (hp:l[p]?=some s):s.i<ops.length:=by
  obtain ⟨o,ho,_⟩:=C.isop p s hp
  exact (Xj.1 ho).1
theorem Qd2 (hb:base.num+ops.length<=32767) {i:Nat} (hi:i<ops.length):(Yv i base).num=base.num+i:=QhA (by omega)
theorem JJ.absorb (C:G6 P N call ops l base st) (hb:base.num+ops.length<=32767) (hnO:hO.next=base) (J:JJ ops l base st σ0 hO w0 f0 D g w σ p0):∀{p:Nat},p0<=p->p<=l.length->(∀(q:Nat) s,p0<=q->q<p->l[q]?=some s->D s.i=true) ->
    Go1 σ0 hO w0 σ (st p).h w∧base.num+ops.length<=(st p).h.next.num ∧
    (∀(p':Nat) s,p<=p'->l[p']?=some s->s.k=2->¬Old (st p).h (Yv s.i base)∧((σ (Yv s.i base)=none∧(D s.i=true->QcN (st p').F s.gd=some false)) ∨
      (D s.i=true∧∃pl o q r,σ (Yv s.i base)=some pl∧aOf s.g=some q∧q (s.r.f (st p').F) (Yv s.i base)=some r∧(∀m,¬QaR m r.2)∧w.heap[pl.b]?=some o∧RelB σ pl r.2 o∧w0.heap.size<=pl.b∧Dc σ (st p).h pl.b)))
  | 0,h0,_,_=>by
    have:p0=0:=by omega
    subst this
    exact ⟨J.go,J.nn,J.ext⟩
  | p + 1,h0,hl,hall=>by
    rcases Nat.lt_or_ge p p0 with h |h
    · have:p0=p+1:=by omega
      subst this
      exact ⟨J.go,J.nn,J.ext⟩
    · obtain ⟨i1, i2,i3⟩:=J.absorb C hb hnO h (by omega) (fun q s h1 h2=>hall q s h1 (by omega))
      have hlt:p<l.length:=by omega
      obtain ⟨s,hs⟩:∃s,l[p]?=some s:=⟨l[p],by simp [hlt]⟩
      have hD:=hall p s h (Nat.lt_succ_self p) hs
      have same:(st (p+1)).h=(st p).h->_:=fun e=>by
        refine (⟨e ▸ i1,e ▸ i2,fun p' s' h1 h2 h3=>?_⟩:Go1 σ0 hO w0 σ (st (p+1)).h w∧base.num+ops.length<=(st (p+1)).h.next.num ∧
          (∀(p':Nat) s,p+1<=p'->l[p']?=some s->s.k=2->¬Old (st (p+1)).h (Yv s.i base)∧((σ (Yv s.i base)=none∧(D s.i=true->QcN (st p').F s.gd=some false)) ∨
            (D s.i=true∧∃pl o q r,σ (Yv s.i base)=some pl∧aOf s.g=some q∧q (s.r.f (st p').F) (Yv s.i base)=some r∧(∀m,¬QaR m r.2)∧w.heap[pl.b]?=some o∧RelB σ pl r.2 o∧w0.heap.size<=pl.b∧Dc σ (st (p+1)).h pl.b))))
        rw [e]
        exact i3 p' s' (by omega) h2 h3
      rcases C.step p s hs with ⟨_,hY⟩ |⟨hw,hdo⟩
      · exact same (by rw [hY])
      · have hk3:s.k≠3:=fun e=>by have:=J.chn p s h hs e;rw [hD] at this;cases this
        have hk4:s.k≠4:=fun e=>by have:=J.lat p s hs e hD;rw [hw] at this;cases this
        have hk:=C.kinds p s hs
        have hk':s.k=0∨s.k=1∨s.k=2:=by omega
        unfold DDo at hdo
        rcases hk' with e |e |e <;> rw [e] at hdo
        · obtain ⟨_,_,_,_,hY⟩:=hdo;exact same (by rw [hY])
        · obtain ⟨_,_,_,_,_,_,_,hY⟩:=hdo;exact same (by rw [hY])
        · obtain ⟨q,r,g1,g2,hY⟩:=hdo
          obtain ⟨hno,hor⟩:=i3 p s (Xi _) hs e
          rcases hor with ⟨_,h2⟩ |⟨_,pl,o,q',r',k1,k2,k3,k4,k5,k6,k7,k8⟩
          · have:=h2 hD;rw [hw] at this;cases this
          · rw [g1] at k2;cases k2
            rw [g2] at k3;cases k3
            have eh:(st (p+1)).h=(st p).h.put (Yv s.i base) r.2:=by rw [hY]
            have hnum:=Qd2 (base:=base) hb (C.idx hs)
            have hidx:=C.idx hs
            have hrel:=i1.rel.absorb k1 k5 k6 k4 k8 hno (by omega)
            rw [eh]
            refine ⟨⟨i1.le,hrel,i1.os,i1.tape,i1.output,i1.drawn,i1.size,i1.keep,?_,by rw [QcQ];exact i1.nxt,i1.old,?_⟩,by rw [QcQ];exact i2,?_⟩
            · intro b hlt hf m bm pm hm hpm
              rw [Qai] at hm
              split at hm
              · rename_i em
                subst em
                rw [k1] at hpm;cases hpm
                omega
              · exact i1.cl b hlt hf m bm pm hm hpm
            · intro k hk ho
              rcases ho.put k4 with rfl |ho
              · rw [hnO] at hk;omega
              · exact i1.old2 k hk ho
            · intro p' s' h1 h2 h3
              obtain ⟨hno',hor'⟩:=i3 p' s' (by omega) h2 h3
              refine ⟨fun ho=>?_,hor'.imp (fun x=>x) ?_⟩
              · rcases ho.put k4 with e' |ho
                · have hnum':=Qd2 (base:=base) hb (C.idx h2)
                  have:s'.i=s.i:=by rw [e'] at hnum';omega
                  have:=C.uniq p' p s' s h2 hs this
                  omega
                · exact hno' ho
              · rintro ⟨j1,pl',o',q',r',j2,j3,j4,j5,j6,j7,j8,j9⟩
                refine ⟨j1,pl',o',q',r',j2,j3,j4,j5,j6,j7,j8,?_⟩
                intro m bm pm hm hpm
                rw [Qai] at hm
                split at hm
                · rename_i em
                  subst em
                  rw [k1] at hpm;cases hpm
                  exact J.dis p p' s s' _ _ h (by omega) hs h2 e h3 (by omega) k1 j2
                · exact j9 m bm pm hm hpm
theorem JF.fwd (C:G6 P N call ops l base st) (J:JF ops l st σ0 f0 D g σ) {τ:Sg} (hle:Sg.le σ τ) {p:Nat} {s:KS} {o:Oper} (hp:l[p]?=some s) (ho:ops[s.i]?=some o) (hD:D s.i=false) (hdep:∀d ∈ Kf ops s.i,D d=true) {u:Value}
    (hu:∀d,o.dst=some d->Gy τ ((st (p+1)).F.at (g3 d)) u) :
    (∀i,Qeh D s.i i=true->∀d ∈ Kf ops i,Qeh D s.i d=true) ∧
    (∀(p':Nat) s' o' d,l[p']?=some s'->Qeh D s.i s'.i=true->ops[s'.i]?=some o'->o'.dst=some d->Gy τ ((st (p'+1)).F.at (g3 d)) (JU g o.dst u d)) ∧
    (∀v,(∀(i:Nat) o',Qeh D s.i i=true->ops[i]?=some o'->o'.dst≠some v)->JU g o.dst u v=f0 v):=by
  refine ⟨?_,?_,?_⟩
  · intro i hi d hd
    rcases Qjm hi with rfl |hi
    · exact QbI (hdep d hd)
    · exact QbI (J.clo i hi d hd)
  · intro p' s' o' d h1 h2 h3 h4
    by_cases e:s'.i=s.i
    · have:=C.uniq p' p s' s h1 hp e
      subst this
      rw [hp] at h1;cases h1
      rw [ho] at h3;cases h3
      rw [h4]
      show Gy τ _ (upd g d u d)
      rw [QfE]
      exact hu d h4
    · have hne:o.dst≠some d:=fun e'=>e (C.dsts _ _ _ _ _ h3 ho h4 e')
      have hg:JU g o.dst u d=g d:=by
        cases hd:o.dst with
        |none=>rfl
        |some d'=>rw [hd] at hne;exact Qek _ _ (by intro e';exact hne (by rw [e']))
      rw [hg]
      rw [Qcj e] at h2
      exact (J.frm p' s' o' d h1 h2 h3 h4).mono hle
  · intro v hv
    have hne:o.dst≠some v:=hv s.i o Qe6 ho
    have hg:JU g o.dst u v=g v:=by
      cases hd:o.dst with
      |none=>rfl
      |some d'=>rw [hd] at hne;exact Qek _ _ (by intro e';exact hne (by rw [e']))
    rw [hg]
    exact J.ini v fun i o' h1 h2=>hv i o' (QbI h1) h2
theorem JJ.pos (J:JJ ops l base st σ0 hO w0 f0 D g w σ p0) {p:Nat} {s:KS} (hp:l[p]?=some s) (hD:D s.i=false):p0<=p:=by
  rcases Nat.lt_or_ge p p0 with h |h
  · have:=J.pre p s h hp;rw [hD] at this;cases this
  · exact h
theorem JJ.same (C:G6 P N call ops l base st) (J:JJ ops l base st σ0 hO w0 f0 D g w σ p0) {p:Nat} {s:KS} {o:Oper} (hp:l[p]?=some s) (ho:ops[s.i]?=some o) (hD:D s.i=false) (hdep:∀d ∈ Kf ops s.i,D d=true) (hk:s.k≠3) (hw:s.k=2∨s.k=4->QcN (st p).F s.gd=some false) {u:Value}
    (hu:∀d,o.dst=some d->Gy σ ((st (p+1)).F.at (g3 d)) u):JJ ops l base st σ0 hO w0 f0 (Qeh D s.i) (JU g o.dst u) w σ p0:=by
  obtain ⟨u1,u2,u3⟩:=J.toF.fwd C (Sg.le_refl σ) hp ho hD hdep hu
  refine ⟨J.le,J.mark,fun p' s' h1 h2=>QbI (J.pre p' s' h1 h2),?_,?_,u1,J.go,J.nn,?_,J.dis,u2,u3⟩
  · intro p' s' h1 h2 h3
    have:s'.i≠s.i:=fun e=>by have:=C.uniq p' p s' s h2 hp e;subst this;rw [hp] at h2;cases h2;exact hk h3
    rw [Qcj this]
    exact J.chn p' s' h1 h2 h3
  · intro p' s' h2 h3 hd
    rcases Qjm hd with e |hd
    · have:=C.uniq p' p s' s h2 hp e
      subst this
      rw [hp] at h2;cases h2
      exact hw (.inr h3)
    · exact J.lat p' s' h2 h3 hd
  · intro p' s' h1 h2 h3
    obtain ⟨a,b⟩:=J.ext p' s' h1 h2 h3
    refine ⟨a,?_⟩
    by_cases e:s'.i=s.i
    · have:=C.uniq p' p s' s h2 hp e
      subst this
      rw [hp] at h2;cases h2
      rcases b with ⟨b1,b2⟩ |⟨b1,_⟩
      · exact .inl ⟨b1,fun _=>hw (.inl h3)⟩
      · rw [hD] at b1;cases b1
    · rw [Qcj e];exact b
end
end Go.Pw
/- -/
namespace Go.Pw
open Classical
section
variable {P:Program} {N:Nat} {call:Jp} {ops:List Oper} {l:List KS} {base:Id} {st:Nat->DX}
variable {σ0:Sg} {hO:AH} {w0:World} {f0:Fr} {D:Nat->Bool} {g:Fr} {w:World} {σ:Sg} {p0:Nat}
theorem JJ.made (C:G6 P N call ops l base st) (hb:base.num+ops.length<=32767) (hnO:hO.next=base) (J:JJ ops l base st σ0 hO w0 f0 D g w σ p0) {p:Nat} {s:KS} {o:Oper} (hp:l[p]?=some s) (ho:ops[s.i]?=some o) (hD:D s.i=false) (hdep:∀d ∈ Kf ops s.i,D d=true)
    (hk:s.k=2) {q:QdR} {r:AV×AB} (g1:aOf s.g=some q) (g2:q (s.r.f (st p).F) (Yv s.i base)=some r) (hold:∀m,¬QaR m r.2) {n:Nat} {ob:Obj} {w':World} (hh:w'.heap=w.heap.push ob) (e1:w'.os=w.os) (e2:w'.tape=w.tape) (e3:w'.output=w.output) (e4:w.drawn<=w'.drawn)
    (hrb:RelB (σ.add (Yv s.i base) ⟨w.heap.size,0,n⟩) ⟨w.heap.size,0,n⟩ r.2 ob) {u:Value} (hu:∀d,o.dst=some d->Gy (σ.add (Yv s.i base) ⟨w.heap.size,0,n⟩) ((st (p+1)).F.at (g3 d)) u) :
    JJ ops l base st σ0 hO w0 f0 (Qeh D s.i) (JU g o.dst u) w' (σ.add (Yv s.i base) ⟨w.heap.size,0,n⟩) p0:=by
  have hpp:=J.pos hp hD
  obtain ⟨x1,x2⟩:=J.ext p s hpp hp hk
  have hnone:σ (Yv s.i base)=none:=by
    rcases x2 with ⟨x,_⟩ |⟨x,_⟩
    · exact x
    · rw [hD] at x;cases x
  have hle:=Qc7 (p:=⟨w.heap.size,0,n⟩) hnone
  have hnum:=Qd2 (base:=base) hb (C.idx hp)
  have hidx:=C.idx hp
  have hnn:=J.nn
  have hgrow:∀(b:Nat) x,w.heap[b]?=some x->w'.heap[b]?=some x:=by
    intro b x hx
    rw [hh,Array.getElem?_push_lt (KZ hx), <-hx]
    simp [KZ hx]
  have hfree:∀b,Dc σ (st p0).h b->Dc (σ.add (Yv s.i base) ⟨w.heap.size,0,n⟩) (st p0).h b:=by
    intro b hf m bm pm hm hpm
    by_cases e:m=Yv s.i base
    · subst e
      obtain ⟨_,_,z,_⟩:=J.go.rel.bl _ bm hm
      rw [hnone] at z;cases z
    · rw [JD e] at hpm;exact hf m bm pm hm hpm
  obtain ⟨u1,u2,u3⟩:=J.toF.fwd C hle hp ho hD hdep hu
  have G:=J.go
  have hidne:∀{p':Nat} {s':KS},l[p']?=some s'->p'≠p->Yv s'.i base≠Yv s.i base:=by
    intro p' s' h2 hne e
    have h3:=Qd2 (base:=base) hb (C.idx h2)
    rw [e] at h3
    exact hne (C.uniq p' p s' s h2 hp (by omega))
  refine ⟨J.le,J.mark,fun p' s' h1 h2=>QbI (J.pre p' s' h1 h2),?_,?_,u1,?_,J.nn,?_,?_,u2,u3⟩
  · intro p' s' h1 h2 h3
    have:s'.i≠s.i:=fun e=>by have:=C.uniq p' p s' s h2 hp e;subst this;rw [hp] at h2;cases h2;omega
    rw [Qcj this]
    exact J.chn p' s' h1 h2 h3
  · intro p' s' h2 h3 hd
    rcases Qjm hd with e |hd
    · have:=C.uniq p' p s' s h2 hp e
      subst this
      rw [hp] at h2;cases h2
      omega
    · exact J.lat p' s' h2 h3 hd
  · refine ⟨G.le.trans hle,(G.rel.sig hnone (by omega)).grown hgrow,e1.trans G.os,e2.trans G.tape,e3.trans G.output,X0 G.drawn e4,?_,fun b x hx hf=>hgrow b x (G.keep b x hx hf),fun b hb hf=>hfree b (G.cl b hb hf),G.nxt,?_,G.old2⟩
    · rw [hh,Array.size_push];have:=G.size;omega
    · intro k hk
      rw [JD (by intro e;rw [hnO,e] at hk;omega)]
      exact G.old k hk
  · intro p' s' h1 h2 h3
    obtain ⟨a,b⟩:=J.ext p' s' h1 h2 h3
    refine ⟨a,?_⟩
    by_cases e:p'=p
    · subst e
      rw [hp] at h2;cases h2
      refine .inr ⟨Qe6,_,ob,q,r,JX,g1,g2,hold,by rw [hh];simp,hrb,G.size,?_⟩
      apply hfree
      intro m bm pm hm hpm he
      obtain ⟨pm',om,z1,z2,_⟩:=G.rel.bl m bm hm
      rw [hpm] at z1;cases z1
      have:=KZ z2
      simp only at he
      omega
    · have hne:s'.i≠s.i:=fun e'=>e (C.uniq p' p s' s h2 hp e')
      rw [Qcj hne,JD (hidne h2 e)]
      refine b.imp (fun x=>x) ?_
      rintro ⟨j1,pl',o',q',r',j2,j3,j4,j5,j6,j7,j8,j9⟩
      exact ⟨j1,pl',o',q',r',j2,j3,j4,j5,hgrow _ _ j6,j7.mono hle,j8,hfree _ j9⟩
  · intro a b sa sb pa pb h1 h2 h3 h4 h5 h6 hne h7 h8
    have small:∀{c:Nat} {sc:KS} {pc:Pl},p0<=c->l[c]?=some sc->sc.k=2->c≠p->(σ.add (Yv s.i base) ⟨w.heap.size,0,n⟩) (Yv sc.i base)=some pc->pc.b<w.heap.size:=by
      intro c sc pc z1 z2 z3 z4 z5
      rw [JD (hidne z2 z4)] at z5
      rcases (J.ext c sc z1 z2 z3).2 with ⟨y,_⟩ |⟨_,pl',o',q',r',j2,j3,j4,j5,j6,_⟩
      · rw [z5] at y;cases y
      · rw [z5] at j2;cases j2;exact KZ j6
    by_cases ea:a=p
    · subst ea
      rw [hp] at h3;cases h3
      rw [JX] at h7;cases h7
      have:=small h2 h4 h6 (Ne.symm hne) h8
      simp only;omega
    · by_cases eb:b=p
      · subst eb
        rw [hp] at h4;cases h4
        rw [JX] at h8;cases h8
        have:=small h1 h3 h5 hne h7
        simp only;omega
      · rw [JD (hidne h3 ea)] at h7
        rw [JD (hidne h4 eb)] at h8
        exact J.dis a b sa sb pa pb h1 h2 h3 h4 h5 h6 hne h7 h8
theorem JJ.done (C:G6 P N call ops l base st) (hb:base.num+ops.length<=32767) (hnO:hO.next=base) (J:JJ ops l base st σ0 hO w0 f0 D g w σ p0) {p:Nat} {s:KS} {o:Oper} (hp:l[p]?=some s) (ho:ops[s.i]?=some o) (hD:D s.i=false) (hdep:∀d ∈ Kf ops s.i,D d=true)
    (hk:s.k=3) {u:Value} {τ:Sg} {w':World} (G:Go1 σ (st p).h w τ (st (p+1)).h w') (hu:∀d,o.dst=some d->Gy τ ((st (p+1)).F.at (g3 d)) u) :
    JJ ops l base st σ0 hO w0 f0 (Qeh D s.i) (JU g o.dst u) w' τ (p+1):=by
  have hpp:=J.pos hp hD
  have hpl:=(Xj.1 hp).1
  have ahead:∀(q:Nat) t,q<p->l[q]?=some t->D t.i=true:=fun q t h1 h2=>J.toF.anc (C.eff p s hp hk q t h1 h2) hdep
  obtain ⟨i1,i2,i3⟩:=J.absorb C hb hnO hpp (by omega) (fun q t _ h1 h2=>ahead q t h1 h2)
  obtain ⟨u1,u2,u3⟩:=J.toF.fwd C G.le hp ho hD hdep hu
  have hne:∀{p':Nat} {s':KS},p+1<=p'->l[p']?=some s'->s'.i≠s.i:=fun h1 h2 e=>by have:=C.uniq _ _ _ _ h2 hp e;omega
  refine ⟨hpl, .inr ⟨p,s,Z,hp,hk⟩,?_,?_,?_,u1,i1.trans G,X0 i2 G.nxt,?_,?_,u2,u3⟩
  · intro q t h1 h2
    rcases Nat.lt_or_ge q p with h |h
    · exact QbI (ahead q t h h2)
    · have:q=p:=by omega
      subst this
      rw [hp] at h2;cases h2
      exact Qe6
  · intro p' s' h1 h2 h3
    rw [Qcj (hne h1 h2)]
    exact J.chn p' s' (by omega) h2 h3
  · intro p' s' h2 h3 hd
    rcases Qjm hd with e |hd
    · have:=C.uniq p' p s' s h2 hp e
      subst this
      rw [hp] at h2;cases h2
      omega
    · exact J.lat p' s' h2 h3 hd
  · intro p' s' h1 h2 h3
    obtain ⟨a,b⟩:=i3 p' s' (by omega) h2 h3
    have hnum:=Qd2 (base:=base) hb (C.idx h2)
    have hidx:=C.idx h2
    refine ⟨fun ho'=>a (G.old2 _ (by omega) ho'),?_⟩
    rw [Qcj (hne h1 h2)]
    rcases b with ⟨b1,b2⟩ |⟨j1,pl',o',q',r',j2,j3,j4,j5,j6,j7,j8,j9⟩
    · exact .inl ⟨by rw [G.old _ (by omega)];exact b1,b2⟩
    · exact .inr ⟨j1,pl',o',q',r',G.le _ _ j2,j3,j4,j5,G.keep _ _ j6 j9,j7.mono G.le,j8,G.cl _ (KZ j6) j9⟩
  · intro a b sa sb pa pb h1 h2 h3 h4 h5 h6 hne h7 h8
    have z1:=Qd2 (base:=base) hb (C.idx h3)
    have z2:=Qd2 (base:=base) hb (C.idx h4)
    have z3:=C.idx h3
    have z4:=C.idx h4
    rw [G.old _ (by omega)] at h7
    rw [G.old _ (by omega)] at h8
    exact J.dis a b sa sb pa pb (by omega) (by omega) h3 h4 h5 h6 hne h7 h8
theorem G6.hist (C:G6 P N call ops l base st) {i p0:Nat}:∀{p:Nat},p0<=p->p<=l.length->(∀(q:Nat) s,p0<=q->q<p->l[q]?=some s->s.k=3->¬Anc ops s.i i) ->
    ∃X,(st p).hs=X++(st p0).hs∧X.length<=(l.take p).countP fun s'=>s'.k == 3 && !decide (Anc ops s'.i i)
  | 0,h0,_,_=>by
    have:p0=0:=by omega
    subst this
    exact ⟨[],Z,X7 _⟩
  | p + 1,h0,hl,hn=>by
    rcases Nat.lt_or_ge p p0 with h |h
    · have:p0=p+1:=by omega
      subst this
      exact ⟨[],Z,X7 _⟩
    · obtain ⟨X,h1,h2⟩:=C.hist h (by omega) (fun q s a b=>hn q s a (by omega))
      have hlt:p<l.length:=by omega
      obtain ⟨s,hs⟩:∃s,l[p]?=some s:=⟨l[p],by simp [hlt]⟩
      have htake:l.take (p+1)=l.take p++[s]:=by rw [List.take_add_one,hs];rfl
      rw [htake,List.countP_append]
      by_cases e:s.k=3
      · have hc:([s].countP fun s'=>s'.k == 3 && !decide (Anc ops s'.i i))=1:=by
          simp [e,hn p s h (Nat.lt_succ_self p) hs e]
        rw [hc]
        rcases C.step p s hs with ⟨_,hY⟩ |⟨_,hdo⟩
        · refine ⟨(st p).h::X,?_,by simp;omega⟩
          rw [hY,e]
          show (st p).h::(st p).hs=_
          rw [h1];rfl
        · unfold DDo at hdo
          rw [e] at hdo
          obtain ⟨_,_,h',_,_,_,hY,_⟩:=hdo
          refine ⟨h'::X,?_,by simp;omega⟩
          rw [hY]
          show h'::(st p).hs=_
          rw [h1];rfl
      · refine ⟨X,?_,by omega⟩
        have hk:=C.kinds p s hs
        have hk':s.k=0∨s.k=1∨s.k=2∨s.k=4:=by omega
        rcases C.step p s hs with ⟨_,hY⟩ |⟨_,hdo⟩
        · rw [hY, <-h1]
          rcases hk' with e |e |e |e <;> rw [e] <;> rfl
        · unfold DDo at hdo
          rcases hk' with e |e |e |e <;> rw [e] at hdo
          · obtain ⟨_,_,_,_,hY⟩:=hdo;rw [hY];exact h1
          · obtain ⟨_,_,_,_,_,_,_,hY⟩:=hdo;rw [hY];exact h1
          · obtain ⟨_,_,_,_,hY⟩:=hdo;rw [hY];exact h1
          · obtain ⟨_,_,_,_,_,_,_,_,hY⟩:=hdo;rw [hY];exact h1
end
end Go.Pw
/- -/
namespace Go.Pw
open Classical
section
variable {P:Program} {N:Nat} {call:Jp} {ops:List Oper} {l:List KS} {base:Id} {st:Nat->DX}
variable {σ0:Sg} {hO:AH} {w0:World} {f0:Fr} {D:Nat->Bool} {g:Fr} {w:World} {σ:Sg} {p0:Nat}
theorem QoG {op:Op} {q:QaD} (h:Qf4 P op=some (.q q)):Qma P op=some q:=by
  unfold Qf4 at h
  split at h
  · rename_i g hg;cases h;exact hg
  · split at h
    · cases h
    · obtain ⟨e,_,he⟩:=Xp.1 h;cases he
theorem QwA {op:Op} {q:QdR} (h:Qf4 P op=some (.a q)):QoP P op=some q:=by
  unfold Qf4 at h
  split at h
  · cases h
  · split at h
    · rename_i g hg;cases h;exact hg
    · obtain ⟨e,_,he⟩:=Xp.1 h;cases he
theorem QjQ {op:Op} {q:QaV} (h:Qf4 P op=some (.e q)):Qm1 P op=some q:=by
  unfold Qf4 at h
  split at h
  · cases h
  · split at h
    · cases h
    · obtain ⟨e,h1,he⟩:=Xp.1 h;cases he;exact h1
theorem QoD {g:KG} {q:QaD} (h:qOf g=some q):g= .q q:=by cases g <;> first |(cases h;rfl) |cases h
theorem QwK {g:KG} {q:QdR} (h:aOf g=some q):g= .a q:=by cases g <;> first |(cases h;rfl) |cases h
theorem QjV {g:KG} {q:QaV} (h:eOf g=some q):g= .e q:=by cases g <;> first |(cases h;rfl) |cases h
theorem QeP {F:AF} {o:Oper} {s:KS} {v:AV} (hN:N<=512) (hs:Dr P N ops s o) {d:Nat} (hd:o.dst=some d):(F.put s.d v).at (g3 d)=v:=by
  have hlt:=hs.lt
  rw [hd] at hlt
  have h5:d<512:=XL (by simpa [Qb1,Nat.blt_eq] using hlt) hN
  rw [hs.d,hd]
  show (AF.set F (u3 d) v).at (g3 d)=v
  rw [QoN h5 h5,if_pos rfl]
theorem QsR (C:G6 P N call ops l base st) (h0:(st 0).hs=[(st 0).h]) (J:JJ ops l base st σ0 hO w0 f0 D g w σ p0) {p:Nat} {s:KS} (hp:l[p]?=some s) (hD:D s.i=false) (hdep:∀d ∈ Kf ops s.i,D d=true) (hk:s.k=1) {q:QaD} {a:List AV} {h1:AH} {v:AV}
    (g1:hdO (st p).hs=some h1) (g2:q a h1=some v) (g3:QoB q a v (Qbc s.span (tl (st p).hs))=true):q a (st p0).h=some v:=by
  have hpp:=J.pos hp hD
  have hpl:=(Xj.1 hp).1
  obtain ⟨X,e1,e2⟩:=C.hist (i:=s.i) hpp (by omega) (fun q' t a1 a2 a3 a4 ha=>by
    have:=J.toF.anc ha hdep
    rw [J.chn q' t a1 a3 a4] at this;cases this)
  have hspan:=X0 e2 (C.look p s hp hk)
  obtain ⟨r,hr⟩:∃r,(st p0).hs=(st p0).h::r:=by
    rcases J.mark with rfl |⟨c,t,rfl,hc,hk3⟩
    · exact ⟨[],h0⟩
    · rcases C.step c t hc with ⟨_,hY⟩ |⟨_,hdo⟩
      · rw [hY,hk3];exact ⟨_,rfl⟩
      · unfold DDo at hdo
        rw [hk3] at hdo
        obtain ⟨_,_,h',_,_,_,hY,_⟩:=hdo
        rw [hY];exact ⟨_,rfl⟩
  rw [hr] at e1
  rw [e1] at g1 g3
  cases X with
  | nil =>
    have g1:some (st p0).h=some h1:=g1
    cases g1
    exact g2
  | cons x X =>
    have hm:(st p0).h ∈ Qbc s.span (tl ((x::X)++(st p0).h::r)):=by
      rw [YJ]
      show (st p0).h ∈ (X++(st p0).h::r).take s.span
      refine List.mem_of_getElem? (i:=X.length) ?_
      rw [Xo,if_pos (by simp at hspan;omega)]
      simp
    obtain ⟨y,k1,k2⟩:=QaS (QhN g3 _ hm)
    rw [k1,Qm0 _ _ k2]
theorem JJ.head (C:G6 P N call ops l base st) (hcall:Qbe P call) (hN:N<=512) (hb:base.num+ops.length<=32767) (hnO:hO.next=base) (h0:(st 0).hs=[(st 0).h]) (hF:GG σ0 (st 0).F f0) (J:JJ ops l base st σ0 hO w0 f0 D g w σ p0)
    {i:Nat} {o:Oper} (ho:ops[i]?=some o) (hD:D i=false) (hdep:∀d ∈ Kf ops i,D d=true) (h4:∀(p:Nat) s,l[p]?=some s->s.i=i->s.k=4->QcN (st p).F s.gd=some false) :
    if Region.wanted o (Jg ops.toArray g) then Exec P (ev g) o w fun v w'=>∃τ p1,JJ ops l base st σ0 hO w0 f0 (Qeh D i) (JU g o.dst v) w' τ p1 else ∃τ p1,JJ ops l base st σ0 hO w0 f0 (Qeh D i) (JU g o.dst undef) w τ p1:=by
  obtain ⟨p,s,hp,rfl⟩:=C.cover i o ho
  obtain ⟨o',ho',hs⟩:=C.isop p s hp
  rw [ho] at ho';cases ho'
  have hpp:=J.pos hp hD
  have hpl:=(Xj.1 hp).1
  rcases C.step p s hp with ⟨hw,hY⟩ |⟨hw,hdo⟩
  · rw [J.toF.guard C hN hp ho hdep hs hw]
    rw [if_neg (by decide)]
    have hv:∀{τ:Sg} (d:Nat),o.dst=some d->Gy τ ((st (p+1)).F.at (g3 d)) undef:=by
      intro τ d hd
      rw [hY]
      show Gy τ (((st p).F.put s.d .un).at (g3 d)) undef
      rw [QeP hN hs hd];exact .un
    by_cases hk:s.k=3
    · have ahead:∀(q:Nat) t,q<p->l[q]?=some t->D t.i=true:=fun q t h1 h2=>J.toF.anc (C.eff p s hp hk q t h1 h2) hdep
      obtain ⟨i1,_,_⟩:=J.absorb C hb hnO hpp (by omega) (fun q t _ h1 h2=>ahead q t h1 h2)
      have e:(st (p+1)).h=(st p).h:=by rw [hY]
      exact ⟨σ,p+1,J.done C hb hnO hp ho hD hdep hk (by rw [e];exact Go1.refl i1.rel) hv⟩
    · exact ⟨σ,p0,J.same C hp ho hD hdep hk (fun _=>hw) hv⟩
  · rw [J.toF.guard C hN hp ho hdep hs hw,if_pos rfl]
    have real:∀{x:KG},s.g=x->x≠QjG->∃lk,(Ye o.op).mapM Qg5=some lk∧s.r=QlT lk∧Qf4 P o.op=some x:=by
      intro x hx hne
      rcases hs.real with h |h
      · rw [hx] at h;exact h
      · exact absurd (hx.symm.trans h) hne
    have hk4:s.k≠4:=fun e=>by have:=h4 p s hp rfl e;rw [hw] at this;cases this
    have hk:=C.kinds p s hp
    have hk':s.k=0∨s.k=1∨s.k=2∨s.k=3:=by omega
    unfold DDo at hdo
    rcases hk' with e |e |e |e <;> rw [e] at hdo
    · obtain ⟨q,v,g1,g2,hY⟩:=hdo
      have hq:=QoD g1
      obtain ⟨lk,r1,r2,r3⟩:=real hq (fun hf=>by have hf:KG.q q=KG.q (fun _ _=>none):=hf;injection hf with hf;rw [hf] at g2;cases g2)
      have hqu:=QoG r3
      have hc:=hs.quiet e
      rw [hq] at hc
      rw [r2] at g2
      rw [Ql4 hqu hc _ _ (st p0).h] at g2
      refine Qgs hqu o (ev g) σ _ w _ v _ Z J.go.rel (J.toF.args C hN hF hp ho hD hdep r1) g2 fun u hu=>⟨σ,p0,J.same C hp ho hD hdep (by omega) (fun h=>by omega) fun d hd=>?_⟩
      rw [hY]
      show Gy σ (((st p).F.put s.d v).at (g3 d)) u
      rw [QeP hN hs hd];exact hu
    · obtain ⟨q,h1,v,g1,g2,g3',g4,hY⟩:=hdo
      have hq:=QoD g1
      obtain ⟨lk,r1,r2,r3⟩:=real hq (fun hf=>by have hf:KG.q q=KG.q (fun _ _=>none):=hf;injection hf with hf;rw [hf] at g3';cases g3')
      have hqu:=QoG r3
      have g5:=QsR C h0 J hp hD hdep e g2 g3' g4
      rw [r2] at g5
      refine Qgs hqu o (ev g) σ _ w _ v _ Z J.go.rel (J.toF.args C hN hF hp ho hD hdep r1) g5 fun u hu=>⟨σ,p0,J.same C hp ho hD hdep (by omega) (fun h=>by omega) fun d hd=>?_⟩
      rw [hY]
      show Gy σ (((st p).F.put s.d v).at (g3 d)) u
      rw [QeP hN hs hd];exact hu
    · obtain ⟨q,r,g1,g2,hY⟩:=hdo
      have hq:=QwK g1
      obtain ⟨lk,r1,r2,r3⟩:=real hq (by intro h;cases h)
      have hal:=QwA r3
      obtain ⟨v,b⟩:=r
      have g2':=g2
      rw [r2] at g2'
      obtain ⟨u,ob,n,w',hrun,hh,e1,e2,e3,e4,hold,hrel⟩:=QlK hal o (ev g) σ w _ _ v b rfl (J.toF.args C hN hF hp ho hD hdep r1) g2'
      have hnone:σ (Yv s.i base)=none:=by
        rcases (J.ext p s hpp hp e).2 with ⟨x,_⟩ |⟨x,_⟩
        · exact x
        · rw [hD] at x;cases x
      obtain ⟨q1,q2⟩:=hrel (σ.add (Yv s.i base) ⟨w.heap.size,0,n⟩) (Qc7 hnone) JX
      refine .of_run hrun ⟨_,p0,J.made C hb hnO hp ho hD hdep e g1 g2 hold hh e1 e2 e3 e4 q2 fun d hd=>?_⟩
      rw [hY]
      show Gy _ (((st p).F.put s.d v).at (g3 d)) u
      rw [QeP hN hs hd];exact q1
    · obtain ⟨ef,v,h',t,g1,g2,hY,_⟩:=hdo
      have hq:=QjV g1
      obtain ⟨lk,r1,r2,r3⟩:=real hq (by intro h;cases h)
      have hef:=QjQ r3
      have ahead:∀(q:Nat) t,q<p->l[q]?=some t->D t.i=true:=fun q t h1 h2=>J.toF.anc (C.eff p s hp e q t h1 h2) hdep
      obtain ⟨i1,_,_⟩:=J.absorb C hb hnO hpp (by omega) (fun q t _ h1 h2=>ahead q t h1 h2)
      rw [r2] at g2
      have hex:=Qfe hef call hcall o (ev g) σ (st p).h w _ v h' rfl (fun _=>rfl) i1.rel (J.toF.args C hN hF hp ho hD hdep r1) g2
      refine hex.mono ?_
      rintro u w' ⟨τ,hgo,hu⟩
      have eh:(st (p+1)).h=h':=by rw [hY]
      refine ⟨τ,p+1,J.done C hb hnO hp ho hD hdep e (by rw [eh];exact hgo) fun d hd=>?_⟩
      rw [hY]
      show Gy τ (((st p).F.put s.d v).at (g3 d)) u
      rw [QeP hN hs hd];exact hu
theorem QnO (C:G6 P N call ops l base st) (hk3:∀(p:Nat) s,l[p]?=some s->s.k=4->QcN (st p).F s.gd=some false) (hm:P.follows .mixedOrders=true) (hok:QcI N ops.length ops=true) (hcall:Qbe P call) (hN:N<=512) (hb:base.num+ops.length<=30000) {h:AH} (hnO:h.next=base) (h0:(st 0).hs=[(st 0).h]) (hh0:(st 0).h=⟨Yv ops.length base,h.blk⟩)
    (hlen:l.length=l.length) {F F':AF} {h':AH} (hF0:(st 0).F=F) (hF':(st l.length).F=F') (hh':(st l.length).h=h') {σ:Sg} {w:World} {f:Fr} {id:Nat} {Q:QbB} (H:G8 σ h w) (hF:GG σ F f)
    (hQ:∀τ w' f',Go1 σ h w τ h' w'->GG τ F' f'->Q .normal f' w'):W P N (.region id ops.toArray true) Q f w:=by
  subst hF0 hF' hh'
  have hget:∀k,(st 0).h.get k=h.get k:=fun k=>by rw [hh0]
  have hnx:(st 0).h.next.num=base.num+ops.length:=by rw [hh0];exact QhA (by omega)
  have hold:∀k,Old (st 0).h k->Old h k:=fun k ⟨m,bm,h1,h2⟩=>⟨m,bm,by rw [<-hget];exact h1,h2⟩
  have hlt:∀k,Old h k->k.num<base.num:=by
    rintro k ⟨m,bm,h1,h2⟩
    rcases h2 with rfl |h2
    · rw [<-hnO];exact H.lt h1
    · rw [<-hnO];exact H.an m bm k h1 h2
  have H0:G8 σ (st 0).h w.drew:=by
    refine ⟨by rw [hnx];exact hb,fun k hk=>H.nx k (by rw [hnO];omega),fun k b hk=>?_,fun k b m hk hm'=>?_,fun k m bk bm pk pm hne hk hm'=>?_,fun k m cs al hy bm hk hm'=>?_⟩
    · rw [hget] at hk;exact H.bl k b hk
    · rw [hget] at hk;have:=H.an k b m hk hm';rw [hnO] at this;omega
    · rw [hget] at hk hm';exact H.ap k m bk bm pk pm hne hk hm'
    · rw [hget] at hk hm';exact H.tp k m cs al hy bm hk hm'
  have G0:Go1 σ h w σ (st 0).h w.drew:=by
    refine ⟨Sg.le_refl _,H0,Z,Z,Z,Nat.le_succ _,Xi _,fun _ _ h _=>h,fun b _ hf m bm pm hm' hpm=>?_,by rw [hnx,hnO];omega,fun _ _=>rfl,fun k _ ho=>hold k ho⟩
    rw [hget] at hm'
    exact hf m bm pm hm' hpm
  have J0:JJ ops l base st σ h w f (fun _=>false) f w.drew σ 0:=by
    refine ⟨X7 _, .inl rfl,(fun p s hp=>absurd hp (Nat.not_lt_zero p)),(fun _ _ _ _ _=>rfl),(fun _ _ _ _ hd=>by cases hd),(fun i hi=>by cases hi),G0,(by omega),?_,?_,(fun p s o d _ hd=>by cases hd),(fun _ _=>rfl)⟩
    · intro p s _ hp hk
      have hnum:=Qd2 (base:=base) (by omega) (C.idx hp)
      exact ⟨fun ho=>by have:=hlt _ (hold _ ho);omega, .inl ⟨H.nx _ (by rw [hnO];omega),fun hd=>by cases hd⟩⟩
    · intro a b sa sb pa pb _ _ h3 _ _ _ _ h7
      have hnum:=Qd2 (base:=base) (by omega) (C.idx h3)
      rw [H.nx _ (by rw [hnO];omega)] at h7;cases h7
  refine Qm5 hm hok (fun D g w'=>∃τ p0,JJ ops l base st σ h w f D g w' τ p0) ⟨σ,0,J0⟩ ?_ ?_
  · rintro i o D g w1 hi ho hD hdep _ ⟨τ,p0,J⟩
    refine J.head C hcall hN (by omega) hnO h0 hF ho hD ?_ (fun p s hp _ h=>hk3 p s hp h)
    intro d hd
    have hd:d ∈ (o.after.toList.filter (Region.binds .any)).map (·.on):=by
      have:Kf ops i=Qe0 o:=by unfold Kf;rw [ho]
      rw [this] at hd;exact hd
    obtain ⟨e,he,rfl⟩:=X5.1 hd
    obtain ⟨he1,he2⟩:=List.mem_filter.1 he
    exact hdep e (Array.mem_toList_iff.1 he1) he2
  · rintro D g w1 hall ⟨τ,p0,J⟩
    have hD:∀(q:Nat) t,l[q]?=some t->D t.i=true:=fun q t hq=>hall _ (C.idx hq)
    obtain ⟨i1,_,_⟩:=J.absorb C (by omega) hnO J.le (Xi _) (fun q t _ _ hq=>hD q t hq)
    rw [List.drop_length]
    refine Zb (hQ τ w1 g i1 ?_)
    intro u hu
    by_cases hw:∃(i':Nat) (o':Oper),ops[i']?=some o'∧o'.dst=some u
    · obtain ⟨i',o',h1,h2⟩:=hw
      obtain ⟨p',s',g1,rfl⟩:=C.cover i' o' h1
      have hpl:=(Xj.1 g1).1
      rw [C.frames hN hu (a:=p'+1) (b:=l.length) hpl (Xi _)]
      · exact J.frm p' s' o' u g1 (hD p' s' g1) h1 h2
      · intro q t o a1 a2 a3 a4 a5
        have:=C.uniq q p' t s' a3 g1 (C.dsts _ _ _ _ _ a4 h1 a5 h2)
        omega
    · rw [C.frames hN hu (a:=0) (b:=l.length) (X7 _) (Xi _) (fun q t o _ _ _ a4 a5=>hw ⟨_,o,a4,a5⟩)]
      rw [J.ini u fun i o _ a4 a5=>hw ⟨i,o,a4,a5⟩]
      exact (hF.mono i1.le) u hu
end
end Go.Pw
