/- -/
import Derived.Test.YtalfjlihddgooaaGreatDoorEv
import Derived.Test.YtalfjlihddgooaaGreatDoorLB
import Derived.Test.YtalfjlihddgooaaGreatDoorBa
import Derived.Test.YtalfjlihddgooaaGreatDoorLC
import Derived.Laws.BytesString
set_option linter.unusedSimpArgs false
set_option linter.unusedVariables false
namespace Go.Pw
/-! ### eight by eight -/
section
variable {α:Type}
open Classical in
theorem KL (d e:D8) (f:α->α) (t:N8E α):N8E.sel e (N8E.upd d f t)=if e=d then f (N8E.sel e t) else N8E.sel e t:=by
  cases d <;> cases e <;> simp <;> rfl
theorem QfR {R:Type} (d:D8) (k:(N8E α->α)->R):N8E.selC d k=k (N8E.sel d):=by cases d <;> rfl
theorem QfQ {R:Type} (d:D8) (k:((α->α)->N8E α->N8E α)->R):N8E.updC d k=k (N8E.upd d):=by cases d <;> rfl
theorem Qay (d:D8) (x:α):N8E.sel d (N8E.all x)=x:=by cases d <;> rfl
end
theorem D8.no_lt (d:D8):d.no<8:=by cases d <;> decide
theorem QnX (d:D8):Yr d.no=d:=by cases d <;> rfl
theorem QnY {n:Nat} (h:n<8):(Yr n).no=n:=by
  match n,h with
  |0,_ |1,_ |2,_ |3,_ |4,_ |5,_ |6,_ |7,_=>rfl
theorem QdC {T:Type} (d:D8) (ok:D8->T) (carry:T):(∃e:D8,e.no=d.no+1∧D8.nx d ok carry=ok e)∨(d.no=7∧D8.nx d ok carry=carry):=by
  cases d
  · exact .inl ⟨.d1,Z,Z⟩
  · exact .inl ⟨.d2,Z,Z⟩
  · exact .inl ⟨.d3,Z,Z⟩
  · exact .inl ⟨.d4,Z,Z⟩
  · exact .inl ⟨.d5,Z,Z⟩
  · exact .inl ⟨.d6,Z,Z⟩
  · exact .inl ⟨.d7,Z,Z⟩
  · exact .inr ⟨Z,Z⟩
noncomputable def Id.num (k:Id):Nat:=(((k.a.no * 8+k.b.no) * 8+k.c.no) * 8+k.d.no) * 8+k.e.no
theorem Qms {k:Id} (h:k.num<32767):(inc k).num=k.num+1:=by
  obtain ⟨a,b,c,d,e⟩:=k
  have ha:=a.no_lt;have hb:=b.no_lt;have hc:=c.no_lt;have hd:=d.no_lt;have he:=e.no_lt
  have z0:D8.d0.no=0:=rfl
  unfold inc
  simp only [Id.num] at h ⊢
  rcases QdC e (fun e=>(⟨a,b,c,d,e⟩:Id)) (D8.nx d (fun d=>⟨a,b,c,d, .d0⟩) (D8.nx c (fun c=>⟨a,b,c, .d0, .d0⟩) (D8.nx b (fun b=>⟨a,b, .d0, .d0, .d0⟩) (D8.nx a (fun a=>⟨a, .d0, .d0, .d0, .d0⟩) ⟨a,b,c,d,e⟩)))) with ⟨e',h1,h2⟩ |⟨h1,h2⟩
  · rw [h2];simp only [h1];omega
  · rw [h2]
    rcases QdC d (fun d=>(⟨a,b,c,d, .d0⟩:Id)) (D8.nx c (fun c=>⟨a,b,c, .d0, .d0⟩) (D8.nx b (fun b=>⟨a,b, .d0, .d0, .d0⟩) (D8.nx a (fun a=>⟨a, .d0, .d0, .d0, .d0⟩) ⟨a,b,c,d,e⟩))) with ⟨d',h3,h4⟩ |⟨h3,h4⟩
    · rw [h4];simp only [h3,z0];omega
    · rw [h4]
      rcases QdC c (fun c=>(⟨a,b,c, .d0, .d0⟩:Id)) (D8.nx b (fun b=>⟨a,b, .d0, .d0, .d0⟩) (D8.nx a (fun a=>⟨a, .d0, .d0, .d0, .d0⟩) ⟨a,b,c,d,e⟩)) with ⟨c',h5,h6⟩ |⟨h5,h6⟩
      · rw [h6];simp only [h5,z0];omega
      · rw [h6]
        rcases QdC b (fun b=>(⟨a,b, .d0, .d0, .d0⟩:Id)) (D8.nx a (fun a=>⟨a, .d0, .d0, .d0, .d0⟩) ⟨a,b,c,d,e⟩) with ⟨b',h7,h8⟩ |⟨h7,h8⟩
        · rw [h8];simp only [h7,z0];omega
        · rw [h8]
          rcases QdC a (fun a=>(⟨a, .d0, .d0, .d0, .d0⟩:Id)) ⟨a,b,c,d,e⟩ with ⟨a',h9,h10⟩ |⟨h9,h10⟩
          · rw [h10];simp only [h9,z0];omega
          · omega
theorem Qe2 {k:Id} (h:QgA k=true):k.num<28672:=by
  obtain ⟨a,b,c,d,e⟩:=k
  have hb:=b.no_lt;have hc:=c.no_lt;have hd:=d.no_lt;have he:=e.no_lt
  have:a.no<7:=by cases a <;> first |decide |cases h
  simp only [Id.num];omega
theorem QhA {k:Id}:∀{n:Nat},k.num+n<=32767->(Yv n k).num=k.num+n
  |0,_=>rfl
  | n+1,h=>by
    have ih:=QhA (k:=k) (n:=n) (by omega)
    have:Yv (n+1) k=inc (Yv n k):=rfl
    rw [this,Qms (by omega),ih];omega
open Classical in
theorem Qiw (x:Option AB) (k j:Id) (t:HT):hget j (QlQ x k t)=if j=k then x else hget j t:=by
  obtain ⟨a,b,c,d,e⟩:=k
  obtain ⟨a',b',c',d',e'⟩:=j
  have e1:∀t,hget (⟨a',b',c',d',e'⟩:Id) t=N8E.sel e' (N8E.sel d' (N8E.sel c' (N8E.sel b' (N8E.sel a' t)))):=fun _=>rfl
  have e2:QlQ x (⟨a,b,c,d,e⟩:Id) t=N8E.upd a (N8E.upd b (N8E.upd c (N8E.upd d (N8E.upd e (fun _=>x))))) t:=rfl
  rw [e1,e1,e2]
  simp only [Id.mk.injEq]
  by_cases ha:a'=a
  · subst ha
    rw [KL,if_pos rfl]
    by_cases hb:b'=b
    · subst hb
      rw [KL,if_pos rfl]
      by_cases hc:c'=c
      · subst hc
        rw [KL,if_pos rfl]
        by_cases hd:d'=d
        · subst hd
          rw [KL,if_pos rfl,KL]
          by_cases he:e'=e
          · subst he;simp
          · simp [he]
        · rw [KL,if_neg hd];simp [hd]
      · rw [KL,if_neg hc];simp [hc]
    · rw [KL,if_neg hb];simp [hb]
  · rw [KL,if_neg ha];simp [ha]
/-! ### values -/
structure Pl where
  b:Nat
  o:Nat
  n:Nat
abbrev Sg:=Id->Option Pl
def Sg.le (σ τ:Sg):Prop:=∀k p,σ k=some p->τ k=some p
theorem Sg.le_refl (σ:Sg):Sg.le σ σ:=fun _ _ h=>h
theorem Sg.le.trans {σ τ υ:Sg} (h:Sg.le σ τ) (k:Sg.le τ υ):Sg.le σ υ:=fun i p hp=>k i p (h i p hp)
open Classical in
noncomputable def Sg.add (σ:Sg) (k:Id) (p:Pl):Sg:=fun j=>if j=k then some p else σ j
theorem Qc7 {σ:Sg} {k:Id} {p:Pl} (h:σ k=none):Sg.le σ (σ.add k p):=by
  intro j q hq
  unfold Sg.add
  split
  · rename_i e;subst e;rw [h] at hq;cases hq
  · exact hq
theorem JX {σ:Sg} {k:Id} {p:Pl}:(σ.add k p) k=some p:=by simp [Sg.add]
theorem JD {σ:Sg} {k j:Id} {p:Pl} (h:j≠k):(σ.add k p) j=σ j:=by simp [Sg.add,h]
mutual
inductive Gy (σ:Sg):AV->Value->Prop where
  |un:Gy σ .un undef
  |b (x:Bool):Gy σ (.b x) (.bool x)
  |n (x:Nat):Gy σ (.n x) (.int .i64 (.ofNat x))
  |c (x:Nat):Gy σ (.c x) (.int .u8 (.ofNat x))
  |i (k:IntKind) (n:Int):Gy σ (.i k n) (.int k n)
  |s {l:List Nat} {q:ByteArray} (h:q.data.toList.map UInt8.toNat=l):Gy σ (.s l) (.string q)
  |pn:Gy σ .pn (.pointer none)
  |p {k:Id} {off:Nat} {pl:Pl} (h:σ k=some pl):Gy σ (.p k off) (.pointer (some ⟨pl.b,pl.o+off,none⟩))
  |sn:Gy σ .sn (.slice none 0 0)
  |sl {k:Id} {off len sz c:Nat} {cap:Option Nat} {pl:Pl} {a:Addr} (h:σ k=some pl) (hl:len<=c) (hc:∀d,cap=some d->c=d)
      (ha:(a=⟨pl.b,pl.o+off,none⟩∧pl.o+off+c * sz<=pl.n)∨(len=0∧c=0)):Gy σ (.sl k off len sz cap) (.slice (some a) len c)
  |mn:Gy σ .mn (.map none)
  |m {k:Id} {pl:Pl} (h:σ k=some pl):Gy σ (.m k) (.map (some pl.b))
  |nf:Gy σ .nf .nilFunc
  |fn {f:Nat} {x y:List AV} {u v:List Value} (hx:Gs σ x u) (hy:Gs σ y v):Gy σ (.fn f x y) (.func (.func f) u.toArray v.toArray)
  |nif:Gy σ .nif .nilIface
  |ifc {t:Nat} {x:AV} {v:Value} (h:Gy σ x v):Gy σ (.ifc t x) (.iface t v)
  |agg {x:List AV} {u:List Value} (h:Gs σ x u) (h1:∀v ∈ u,v.oneCell'=true):Gy σ (.agg x) (.agg u.toArray)
  |tup {x:List AV} {u:List Value} (h:Gs σ x u):Gy σ (.tup x) (.tuple u.toArray)
inductive Gs (σ:Sg):List AV->List Value->Prop where
  |nil:Gs σ [] []
  |cons {x:AV} {v:Value} {xs:List AV} {vs:List Value} (h:Gy σ x v) (t:Gs σ xs vs):Gs σ (x::xs) (v::vs)
end
mutual
theorem Gy.mono {σ τ:Sg} (l:Sg.le σ τ):∀{x:AV} {v:Value},Gy σ x v->Gy τ x v
  |_,_, .un=> .un
  |_,_, .b x=> .b x
  |_,_, .n x=> .n x
  |_,_, .c x=> .c x
  |_,_, .i k n=> .i k n
  |_,_, .s h=> .s h
  |_,_, .pn=> .pn
  |_,_, .p h=> .p (l _ _ h)
  |_,_, .sn=> .sn
  |_,_, .sl h hl hc ha=> .sl (l _ _ h) hl hc ha
  |_,_, .mn=> .mn
  |_,_, .m h=> .m (l _ _ h)
  |_,_, .nf=> .nf
  |_,_, .fn hx hy=> .fn (Gs.mono l hx) (Gs.mono l hy)
  |_,_, .nif=> .nif
  |_,_, .ifc h=> .ifc (Gy.mono l h)
  |_,_, .agg h h1=> .agg (Gs.mono l h) h1
  |_,_, .tup h=> .tup (Gs.mono l h)
theorem Gs.mono {σ τ:Sg} (l:Sg.le σ τ):∀{x:List AV} {v:List Value},Gs σ x v->Gs τ x v
  |_,_, .nil=> .nil
  |_,_, .cons h t=> .cons (Gy.mono l h) (Gs.mono l t)
end
section
variable {σ:Sg}
theorem Gs.len {xs:List AV} {vs:List Value} (h:Gs σ xs vs):xs.length=vs.length:=by
  induction xs generalizing vs with
  |nil=>cases h;rfl
  |cons x xs ih=>cases h with |cons _ t=>simp [ih t]
theorem Gs.get {xs:List AV} {vs:List Value} (h:Gs σ xs vs) {i:Nat} {x:AV} (hx:xs[i]?=some x):∃v,vs[i]?=some v∧Gy σ x v:=by
  induction xs generalizing vs i with
  |nil=>simp at hx
  | cons y xs ih =>
    cases h with
    | cons h t =>
      cases i with
      |zero=>simp at hx;subst hx;exact ⟨_,by simp,h⟩
      |succ i=>simp at hx;obtain ⟨v,h1,h2⟩:=ih t hx;exact ⟨v,by simpa using h1,h2⟩
theorem Gs.append {xs ys:List AV} {vs us:List Value} (h:Gs σ xs vs) (k:Gs σ ys us):Gs σ (xs++ys) (vs++us):=by
  induction xs generalizing vs with
  |nil=>cases h;exact k
  |cons x xs ih=>cases h with |cons h t=>exact .cons h (ih t)
theorem Gs.take {xs:List AV} {vs:List Value} (n:Nat) (h:Gs σ xs vs):Gs σ (xs.take n) (vs.take n):=by
  induction xs generalizing vs n with
  |nil=>cases h;simp;exact .nil
  | cons x xs ih =>
    cases h with
    | cons h t=>cases n with
      |zero=>exact .nil
      |succ n=>exact .cons h (ih n t)
theorem Gs.drop {xs:List AV} {vs:List Value} (n:Nat) (h:Gs σ xs vs):Gs σ (xs.drop n) (vs.drop n):=by
  induction xs generalizing vs n with
  |nil=>cases h;simp;exact .nil
  | cons x xs ih =>
    cases h with
    | cons h t=>cases n with
      |zero=>exact .cons h t
      |succ n=>exact ih n t
theorem Gs.cons' {x:AV} {xs:List AV} {vs:List Value} (h:Gs σ (x::xs) vs):∃v us,vs=v::us∧Gy σ x v∧Gs σ xs us:=by
  cases h with |cons h t=>exact ⟨_,_,rfl,h,t⟩
theorem Gy.oneC {x:AV} {v:Value} (h:Gy σ x v) (h1:QtE x=true):v.oneCell'=true:=by
  cases h <;> first |rfl |cases h1
theorem Gy.cells {x:AV} {v:Value} {cs:List AV} (h:Gy σ x v) (h1:QbQ x=some cs):∃us,v.cells=us.toArray∧Gs σ cs us∧∀u ∈ us,u.oneCell'=true:=by
  cases h with
  |un=>cases h1
  |tup h=>cases h1
  |agg h h2=>cases h1;exact ⟨_,rfl,h,h2⟩
  |_=>cases h1;exact ⟨[_],rfl, .cons (by constructor <;> assumption) .nil,by intro u hu;simp at hu;subst hu;rfl⟩
end
end Go.Pw
/- -/
namespace Go.Pw
open Classical
inductive RelB (σ:Sg) (pl:Pl):AB->Obj->Prop where
  |cells {cs:List AV} {top:Bool} {al:List Id} {hy:Option TypeId} {c:Array Value} {E:TypeId} {fz:Nat×Nat} (hn:c.size=pl.n) (hf:pl.o+cs.length<=c.size)
      (hc:Gs σ cs ((c.toList.drop pl.o).take cs.length)) (h1:∀v ∈ (c.toList.drop pl.o).take cs.length,v.oneCell'=true) (hz:top=true->fz=(0,0)) (hy':∀e,hy=some e->E=e∧pl.o=0):RelB σ pl (.cells cs top al hy) (.cells c E fz)
  |map {es:List (AV×AV)} {c:Array MapEntry} {t:Nat} (ho:pl.o=0) (hk:Gs σ (es.map (·.1)) (c.toList.map (·.key))) (hv:Gs σ (es.map (·.2)) (c.toList.map (·.val))):RelB σ pl (.map es) (.map c t)
  |iter {l:List Nat} {q:ByteArray} {pos:Nat} (ho:pl.o=0) (h:q.data.toList.map UInt8.toNat=l):RelB σ pl (.iter l pos) (.stringIter q pos)
theorem RelB.mono {σ τ:Sg} {pl:Pl} {b:AB} {o:Obj} (l:Sg.le σ τ) (h:RelB σ pl b o):RelB τ pl b o:=by
  cases h with
  |cells hn hf hc h1 hz hy'=>exact .cells hn hf (hc.mono l) h1 hz hy'
  |map ho hk hv=>exact .map ho (hk.mono l) (hv.mono l)
  |iter ho h=>exact .iter ho h
def QaR (m:Id):AB->Prop
  | .cells _ _ al _=>m ∈ al
  |_=>False
def QgD (p:Pl):AB->Nat
  | .cells cs _ _ _=>p.o+cs.length
  |_=>0
noncomputable abbrev AH.get (h:AH) (k:Id):Option AB:=hget k h.blk
structure G8 (σ:Sg) (h:AH) (w:World):Prop where
  nb:h.next.num<=30000
  nx:∀k,h.next.num<=k.num->σ k=none
  bl:∀k b,h.get k=some b->∃pl o,σ k=some pl∧w.heap[pl.b]?=some o∧RelB σ pl b o
  an:∀k b m,h.get k=some b->QaR m b->m.num<h.next.num
  ap:∀k m bk bm pk pm,k≠m->h.get k=some bk->h.get m=some bm->σ k=some pk->σ m=some pm->pk.b=pm.b->(QaR m bk∧QgD pm bm<=QgD pk bk)∨(QaR k bm∧QgD pk bk<=QgD pm bm)
  tp:∀k m cs al hy bm,h.get k=some (.cells cs true al hy)->h.get m=some bm->¬QaR k bm
def Dc (σ:Sg) (h:AH) (b:Nat):Prop:=∀k bk pl,h.get k=some bk->σ k=some pl->pl.b≠b
def Old (h:AH) (k:Id):Prop:=∃m bm,h.get m=some bm∧(m=k∨QaR k bm)
structure Go1 (σ:Sg) (h:AH) (w:World) (τ:Sg) (h':AH) (w':World):Prop where
  le:Sg.le σ τ
  rel:G8 τ h' w'
  os:w'.os=w.os
  tape:w'.tape=w.tape
  output:w'.output=w.output
  drawn:w.drawn<=w'.drawn
  size:w.heap.size<=w'.heap.size
  keep:∀b o,w.heap[b]?=some o->Dc σ h b->w'.heap[b]?=some o
  cl:∀b,b<w.heap.size->Dc σ h b->Dc τ h' b
  nxt:h.next.num<=h'.next.num
  old:∀k,k.num<h.next.num->τ k=σ k
  old2:∀k,k.num<h.next.num->Old h' k->Old h k
theorem KZ {α:Type} {c:Array α} {b:Nat} {o:α} (h:c[b]?=some o):b<c.size:=(Array.getElem?_eq_some_iff.1 h).1
theorem Go1.refl {σ:Sg} {h:AH} {w:World} (H:G8 σ h w):Go1 σ h w σ h w:=⟨Sg.le_refl _,H,rfl,rfl,rfl,Xi _,Xi _,fun _ _ h _=>h,fun _ _ h=>h,Xi _,fun _ _=>rfl,fun _ _ h=>h⟩
theorem Go1.trans {σ τ υ:Sg} {h h1 h2:AH} {w w1 w2:World} (a:Go1 σ h w τ h1 w1) (b:Go1 τ h1 w1 υ h2 w2):Go1 σ h w υ h2 w2 :=
  ⟨a.le.trans b.le,b.rel,b.os.trans a.os,b.tape.trans a.tape,b.output.trans a.output,X0 a.drawn b.drawn,X0 a.size b.size,
    fun i o hi hf=>b.keep i o (a.keep i o hi hf) (a.cl i (KZ hi) hf),fun i hi hf=>b.cl i (XL hi a.size) (a.cl i hi hf),X0 a.nxt b.nxt,fun k hk=>(b.old k (XL hk a.nxt)).trans (a.old k hk),fun k hk ho=>a.old2 k hk (b.old2 k (XL hk a.nxt) ho)⟩
section
variable {σ:Sg} {h:AH} {w:World}
theorem Qai {h:AH} {k j:Id} {b:AB}:(h.put k b).get j=if j=k then some b else h.get j:=Qiw _ _ _ _
theorem QnG {h:AH} {k j:Id}:(h.kill k).get j=if j=k then none else h.get j:=Qiw _ _ _ _
theorem Qh2 {h:AH} {j:Id} {b:AB}:(h.add b).get j=if j=h.next then some b else h.get j:=Qiw _ _ _ _
theorem Qbo:∀{l:List Id} {h:AH} {j:Id},(h.kills l).get j=if j ∈ l then none else h.get j
  |[],h,j=>by simp [AH.kills]
  | k::l,h,j=>by
    have:h.kills (k::l)=(h.kill k).kills l:=rfl
    rw [this,Qbo,QnG]
    by_cases e:j=k <;> simp [e]
theorem Qbh:∀{l:List Id} {h:AH},(h.kills l).next=h.next
  |[],h=>rfl
  | k::l,h=>by
    have:h.kills (k::l)=(h.kill k).kills l:=rfl
    rw [this,Qbh];rfl
theorem G8.lt (H:G8 σ h w) {k:Id} {b:AB} (hk:h.get k=some b):k.num<h.next.num:=by
  obtain ⟨pl,o,hp,_⟩:=H.bl k b hk
  refine Nat.lt_of_not_le fun hle=>?_
  rw [H.nx k hle] at hp;cases hp
theorem G8.fewer {h':AH} (H:G8 σ h w) (hn:h'.next=h.next) (hg:∀k b,h'.get k=some b->h.get k=some b):G8 σ h' w:=by
  refine ⟨by rw [hn];exact H.nb,by rw [hn];exact H.nx,fun k b hk=>H.bl k b (hg _ _ hk),fun k b m hk=>by rw [hn];exact H.an k b m (hg _ _ hk),?_,?_⟩
  · intro k m bk bm pk pm hne hk hm;exact H.ap k m bk bm pk pm hne (hg _ _ hk) (hg _ _ hm)
  · intro k m cs al hy bm hk hm;exact H.tp k m cs al hy bm (hg _ _ hk) (hg _ _ hm)
theorem Dc.fewer {h':AH} {b:Nat} (hf:Dc σ h b) (hg:∀k b,h'.get k=some b->h.get k=some b):Dc σ h' b:=fun k bk pl hk hp=>hf k bk pl (hg _ _ hk) hp
theorem Go1.fewer {h':AH} (H:G8 σ h w) (hn:h'.next=h.next) (hg:∀k b,h'.get k=some b->h.get k=some b):Go1 σ h w σ h' w :=
  ⟨Sg.le_refl _,H.fewer hn hg,rfl,rfl,rfl,Xi _,Xi _,fun _ _ h _=>h,fun _ _ hf=>hf.fewer hg,by rw [hn];exact Xi _,fun _ _=>rfl,fun k _ ⟨m,bm,h1,h2⟩=>⟨m,bm,hg _ _ h1,h2⟩⟩
theorem G8.push (H:G8 σ h w) (o:Obj):G8 σ h (w.alloc o):=by
  refine ⟨H.nb,H.nx,fun k b hk=>?_,H.an,H.ap,H.tp⟩
  obtain ⟨pl,o',h1,h2,h3⟩:=H.bl k b hk
  refine ⟨pl,o',h1,?_,h3⟩
  have:=KZ h2
  simp only [World.alloc]
  rw [Array.getElem?_push_lt this]
  rw [<-h2];simp [this]
theorem G8.add (H:G8 σ h w) (hr:QgA h.next=true) {o:Obj} {b:AB} {n:Nat} (hb:RelB (σ.add h.next ⟨w.heap.size,0,n⟩) ⟨w.heap.size,0,n⟩ b o) (hal:∀m,QaR m b->m.num<h.next.num∧∀cs al hy,h.get m≠some (.cells cs true al hy)) (hol:∀m,QaR m b->Old h m) {w':World}
    (hw:w'.heap=w.heap.push o) (h1:w'.os=w.os) (h2:w'.tape=w.tape) (h3:w'.output=w.output) (h4:w.drawn<=w'.drawn):Go1 σ h w (σ.add h.next ⟨w.heap.size,0,n⟩) (h.add b) w':=by
  have hfresh:σ h.next=none:=H.nx _ (Xi _)
  have hle:=Qc7 (p:=⟨w.heap.size,0,n⟩) hfresh
  have hnum:=Qms (k:=h.next) (by have:=Qe2 hr;omega)
  have hnext:(h.add b).next=inc h.next:=rfl
  have hold:∀k bk,(h.add b).get k=some bk->k≠h.next->h.get k=some bk:=by
    intro k bk hk hne
    rw [Qh2,if_neg hne] at hk;exact hk
  have hnew:∀bk,(h.add b).get h.next=some bk->bk=b:=by
    intro bk hk
    rw [Qh2,if_pos rfl] at hk;exact (Zu hk).symm
  have hpush:∀(i:Nat) (o':Obj),w.heap[i]?=some o'->w'.heap[i]?=some o':=by
    intro i o' hi
    rw [hw,Array.getElem?_push_lt (KZ hi), <-hi]
    simp [KZ hi]
  refine ⟨hle,⟨?_,?_,?_,?_,?_,?_⟩,h1,h2,h3,h4,by rw [hw];simp,fun i o' hi _=>hpush i o' hi,?_,by rw [hnext,hnum];omega,fun k hk=>JD (by intro e;rw [e] at hk;omega),fun k hk ⟨m,bm,g1,g2⟩=>by
    by_cases e:m=h.next
    · subst e
      rw [hnew bm g1] at g2
      rcases g2 with e |g2
      · rw [<-e] at hk;omega
      · exact hol k g2
    · exact ⟨m,bm,hold m bm g1 e,g2⟩⟩
  · rw [hnext,hnum];have:=Qe2 hr;omega
  · intro k hk
    rw [hnext,hnum] at hk
    rw [JD (by intro e;rw [e] at hk;omega)]
    exact H.nx k (by omega)
  · intro k bk hk
    by_cases e:k=h.next
    · subst e
      rw [hnew bk hk]
      exact ⟨_,o,JX,by rw [hw];simp,hb⟩
    · obtain ⟨pl,o',g1,g2,g3⟩:=H.bl k bk (hold k bk hk e)
      exact ⟨pl,o',hle _ _ g1,hpush _ _ g2,g3.mono hle⟩
  · intro k bk m hk hm
    rw [hnext,hnum]
    by_cases e:k=h.next
    · subst e;rw [hnew bk hk] at hm;have:=(hal m hm).1;omega
    · have:=H.an k bk m (hold k bk hk e) hm;omega
  · intro k m bk bm pk pm hne hk hm hpk hpm hb'
    by_cases e:k=h.next
    · subst e
      have hm':=hold m bm hm (Ne.symm hne)
      rw [JX] at hpk;cases hpk
      obtain ⟨pl,o',g1,g2,g3⟩:=H.bl m bm hm'
      rw [JD (Ne.symm hne)] at hpm
      rw [g1] at hpm;cases hpm
      have:=KZ g2
      simp only at hb';omega
    · by_cases e2:m=h.next
      · subst e2
        have hk':=hold k bk hk e
        rw [JX] at hpm;cases hpm
        obtain ⟨pl,o',g1,g2,g3⟩:=H.bl k bk hk'
        rw [JD e] at hpk
        rw [g1] at hpk;cases hpk
        have:=KZ g2
        simp only at hb';omega
      · rw [JD e] at hpk
        rw [JD e2] at hpm
        exact H.ap k m bk bm pk pm hne (hold _ _ hk e) (hold _ _ hm e2) hpk hpm hb'
  · intro k m cs al hy bm hk hm ho
    by_cases e2:m=h.next
    · subst e2
      rw [hnew bm hm] at ho
      by_cases e:k=h.next
      · subst e;have:=(hal _ ho).1;omega
      · exact (hal _ ho).2 _ _ _ (hold _ _ hk e)
    · by_cases e:k=h.next
      · subst e;have:=H.an m bm _ (hold _ _ hm e2) ho;omega
      · exact H.tp k m cs al hy bm (hold _ _ hk e) (hold _ _ hm e2) ho
  · intro i hi hf k bk pl hk hpl
    by_cases e:k=h.next
    · subst e;rw [JX] at hpl;cases hpl;simp only;omega
    · rw [JD e] at hpl;exact hf k bk pl (hold _ _ hk e) hpl
end
/-! ### frames -/
def GG (σ:Sg) (F:AF) (f:Fr):Prop:=∀n,n<512->Gy σ (F.at (g3 n)) (f n)
theorem GG.mono {σ τ:Sg} (l:Sg.le σ τ) {F:AF} {f:Fr} (h:GG σ F f):GG τ F f:=fun n hn=>(h n hn).mono l
theorem Qv3 (n:Nat):g3 n=⟨N8E.sel (Yr (n / 64)),N8E.sel (Yr (n / 8 % 8)),N8E.sel (Yr (n % 8))⟩:=by
  unfold g3;rw [QfR,QfR,QfR]
theorem Qx8 (n:Nat):u3 n=⟨N8E.upd (Yr (n / 64)),N8E.upd (Yr (n / 8 % 8)),N8E.upd (Yr (n % 8))⟩:=by
  unfold u3;rw [QfQ,QfQ,QfQ]
theorem Qiu {m n:Nat} (hm:m<8) (hn:n<8):Yr m=Yr n↔m=n :=
  ⟨fun h=>by have:=congrArg D8.no h;rwa [QnY hm,QnY hn] at this,fun h=>by rw [h]⟩
theorem QoN {F:AF} {d n:Nat} {v:AV} (hd:d<512) (hn:n<512):(AF.set F (u3 d) v).at (g3 n)=if n=d then v else F.at (g3 n):=by
  rw [Qv3,Qx8]
  have e1:∀F:AF,AF.at F ⟨N8E.sel (Yr (n / 64)),N8E.sel (Yr (n / 8 % 8)),N8E.sel (Yr (n % 8))⟩=N8E.sel (Yr (n % 8)) (N8E.sel (Yr (n / 8 % 8)) (N8E.sel (Yr (n / 64)) F)):=fun _=>rfl
  have e2:AF.set F ⟨N8E.upd (Yr (d / 64)),N8E.upd (Yr (d / 8 % 8)),N8E.upd (Yr (d % 8))⟩ v=N8E.upd (Yr (d / 64)) (N8E.upd (Yr (d / 8 % 8)) (N8E.upd (Yr (d % 8)) fun _=>v)) F:=rfl
  rw [e1,e1,e2]
  rw [KL]
  by_cases h1:n / 64=d / 64
  · rw [h1,if_pos rfl,KL]
    by_cases h2:n / 8 % 8=d / 8 % 8
    · rw [h2,if_pos rfl,KL]
      by_cases h3:n % 8=d % 8
      · have:n=d:=by omega
        rw [h3,if_pos rfl,if_pos this]
      · have:n≠d:=by omega
        rw [if_neg (by rw [Qiu (by omega) (by omega)];exact h3),if_neg this]
    · have:n≠d:=by omega
      rw [if_neg (by rw [Qiu (by omega) (by omega)];exact h2),if_neg this]
  · have:n≠d:=by omega
    rw [if_neg (by rw [Qiu (by omega) (by omega)];exact h1),if_neg this]
theorem GG.set {σ:Sg} {F:AF} {f:Fr} (h:GG σ F f) {d:Nat} (hd:d<512) {x:AV} {v:Value} (hv:Gy σ x v):GG σ (AF.set F (u3 d) x) (upd f d v):=by
  intro n hn
  rw [QoN hd hn]
  by_cases e:n=d
  · subst e;simp only [if_true,QfE];exact hv
  · simp only [e,if_false,Qek _ _ e];exact h n hn
theorem GG.put {σ:Sg} {F:AF} {f:Fr} (h:GG σ F f) {d:Option Nat} (hd:Qb1 512 d=true) {x:AV} {v:Value} (hv:Gy σ x v):GG σ (AF.put F (d.map u3) x) (JU f d v):=by
  cases d with
  |none=>exact h
  |some d=>exact h.set (by simpa [Qb1,Nat.blt_eq] using hd) hv
theorem QxT (g:Nat):Dp.at (g3 g)= .un:=by
  rw [Qv3]
  have e1:AF.at Dp ⟨N8E.sel (Yr (g / 64)),N8E.sel (Yr (g / 8 % 8)),N8E.sel (Yr (g % 8))⟩=N8E.sel (Yr (g % 8)) (N8E.sel (Yr (g / 8 % 8)) (N8E.sel (Yr (g / 64)) Dp)):=rfl
  rw [e1];unfold Dp;rw [Qay,Qay,Qay]
end Go.Pw
/- -/
namespace Go.Pw
section
variable {α β:Type}
theorem Q1 {o:Option α} {f:α->Option β} {y:β} (h:ob o f=some y):∃x,o=some x∧f x=some y:=by
  cases o with
  |none=>cases h
  |some x=>exact ⟨x,rfl,h⟩
theorem QbD {o:Option α} {d:Option β} {f:α->Option β} {y:β} (h:orE o d f=some y):(o=none∧d=some y)∨∃x,o=some x∧f x=some y:=by
  cases o with
  |none=>exact .inl ⟨rfl,h⟩
  |some x=>exact .inr ⟨x,rfl,h⟩
theorem QB {b:Bool} {x:Option α} {y:α} (h:Kk b x none=some y):b=true∧x=some y:=by
  cases b with
  |true=>exact ⟨rfl,h⟩
  |false=>cases h
theorem Qsb {T:Type} {b:Bool} {x y:T}:Kk b x y=if b=true then x else y:=by cases b <;> rfl
theorem QfB:∀{n:Nat} {l:List α},nth n l=l[n]?
  |0,[]=>rfl
  |0,x::l=>rfl
  |n+1,[]=>by have:nth (n+1) ([]:List α)=nth n []:=rfl;rw [this,QfB];simp
  |n+1,x::l=>by have:nth (n+1) (x::l)=nth n l:=rfl;rw [this,QfB];simp
theorem QaF:∀{n:Nat} {l:List α},QcP n l=l.drop n
  |0,l=>rfl
  |n+1,[]=>by have:QcP (n+1) ([]:List α)=QcP n []:=rfl;rw [this,QaF];simp
  |n+1,x::l=>by have:QcP (n+1) (x::l)=QcP n l:=rfl;rw [this,QaF];simp
theorem YJ:∀{n:Nat} {l:List α},Qbc n l=l.take n
  |0,l=>by simp;rfl
  |n+1,[]=>rfl
  |n+1,x::l=>by have:Qbc (n+1) (x::l)=x::Qbc n l:=rfl;rw [this,YJ];simp
theorem QbE:∀{n:Nat} {l:List α},Qch n l=true->n<=l.length
  |0,l,_=>by simp
  |n+1,[],h=>by cases h
  |n+1,x::l,h=>by have:Qch n l=true:=h;simp;exact QbE this
theorem QcT:∀{n:Nat} {l:List α},QbY n l=true->l.length=n
  |0,[],_=>rfl
  |0,x::l,h=>by cases h
  |n+1,[],h=>by cases h
  |n+1,x::l,h=>by have:QbY n l=true:=h;simp [QcT this]
theorem QcH:∀{l:List α},Qej l=l.length
  |[]=>rfl
  |x::l=>by have:Qej (x::l)=(Qej l).succ:=rfl;rw [this,QcH];simp
theorem Qdo {m:List α}:∀{l:List α},Qhq l m=l++m
  |[]=>rfl
  |x::l=>by have:Qhq (x::l) m=x::Qhq l m:=rfl;rw [this,Qdo];simp
theorem Qju {f:α->β}:∀{l:List α},Qrr f l=l.map f
  |[]=>rfl
  |x::l=>by have:Qrr f (x::l)=f x::Qrr f l:=rfl;rw [this,Qju];simp
theorem Qkh:∀{vs cs:List α},QjE vs cs=vs++cs.drop vs.length
  |[],cs=>by simp;rfl
  |v::vs,[]=>by have:QjE (v::vs) []=v::QjE vs []:=rfl;rw [this,Qkh];simp
  |v::vs,c::cs=>by have:QjE (v::vs) (c::cs)=v::QjE vs cs:=rfl;rw [this,Qkh];simp
theorem Qmr {vs:List α}:∀{n:Nat} {cs:List α},n<=cs.length->over n vs cs=cs.take n++vs++cs.drop (n+vs.length)
  |0,cs,_=>by have:over 0 vs cs=QjE vs cs:=rfl;rw [this,Qkh];simp
  |n+1,[],h=>by simp at h
  | n+1,c::cs,h=>by
    have:over (n+1) vs (c::cs)=c::over n vs cs:=rfl
    rw [this,Qmr (by simpa using h)]
    simp [Nat.add_right_comm n 1]
theorem QhN {f:α->Bool}:∀{l:List α},QmW f l=true->∀x ∈ l,f x=true
  |[],_,x,hx=>by simp at hx
  | y ::l,h,x,hx=>by
    have:QmW f (y::l)=@Bool.rec (fun _=>Bool) false (QmW f l) (f y):=rfl
    rw [this] at h
    cases hy:f y with
    |false=>rw [hy] at h;cases h
    | true =>
      rw [hy] at h
      rcases Xr.1 hx with rfl |hx
      · exact hy
      · exact QhN h x hx
end
theorem QgT:∀{l m:List Nat},eqL l m=decide (l=m)
  |[],[]=>rfl
  |[],y::m=>rfl
  |x::l,[]=>by simp;rfl
  | x ::l,y::m=>by
    have:eqL (x::l) (y::m)=@Bool.rec (fun _=>Bool) false (eqL l m) (Nat.beq x y):=rfl
    rw [this]
    cases hb:Nat.beq x y with
    | true =>
      have:=Xh hb
      subst this
      show eqL l m=_
      rw [QgT];simp
    | false =>
      have:=Nat.ne_of_beq_eq_false hb
      simp [this]
section
variable {v:AV}
theorem Qgm {x:Bool} (h:QiS v=some x):v= .b x:=by cases v <;> first |(cases h;rfl) |cases h
theorem Qck {x:Nat} (h:Qf5 v=some x):v= .n x:=by cases v <;> first |(cases h;rfl) |cases h
theorem Qu9 {x:Nat} (h:Qqm v=some x):v= .n x∨v= .c x:=by cases v <;> first |(cases h;exact .inl rfl) |(cases h;exact .inr rfl) |cases h
theorem Qmy {x:Nat} (h:QkZ v=some x):v= .c x:=by cases v <;> first |(cases h;rfl) |cases h
theorem Qa0 {x:List Nat} (h:Qc0 v=some x):v= .s x:=by cases v <;> first |(cases h;rfl) |cases h
theorem QdX {x:Id×Nat} (h:Qg6 v=some x):v= .p x.1 x.2:=by cases v <;> first |(cases h;rfl) |cases h
theorem Qbf {x:Sl} (h:QcO v=some x):v= .sl x.k x.off x.len x.sz x.cap:=by cases v <;> first |(cases h;rfl) |cases h
theorem Qmx {x:Id} (h:Qrv v=some x):v= .m x:=by cases v <;> first |(cases h;rfl) |cases h
theorem QnH {x:Fv} (h:Qp0 v=some x):v= .fn x.f x.a x.c:=by cases v <;> first |(cases h;rfl) |cases h
theorem Qiy {x:List AV} (h:QjS v=some x):v= .agg x:=by cases v <;> first |(cases h;rfl) |cases h
theorem QlB {x:List AV} (h:Qme v=some x):v= .tup x:=by cases v <;> first |(cases h;rfl) |cases h
theorem Qdk (h:QeM v=true):v= .sn:=by cases v <;> first |rfl |cases h
theorem Qu6 (h:QtI v=true):v= .mn:=by cases v <;> first |rfl |cases h
theorem Qn9 (h:Qlw v=true):v= .nif:=by cases v <;> first |rfl |cases h
theorem QsX (h:QrJ v=true):∃t x,v= .ifc t x:=by cases v <;> first |exact ⟨_,_,rfl⟩ |cases h
theorem Qu3 (h:Qrt v=true):v= .un:=by cases v <;> first |rfl |cases h
end
section
variable {σ:Sg} {v:AV} {u:Value}
theorem Gy.int_of {k:IntKind} {n:Int} (h:QtK v=some (k,n)) (hv:Gy σ v u):u= .int k n:=by
  cases hv <;> first |(cases h;rfl) |cases h
theorem Qh0 (k:IntKind) (n:Int):Gy σ (mkI k n) (.int k n):=by
  cases k <;> cases n <;> first |exact .n _ |exact .c _ |exact .i _ _
theorem QjD {x:Bool} (h:Gy σ (.b x) u):u= .bool x:=by cases h;rfl
theorem Qfq {x:Nat} (h:Gy σ (.n x) u):u= .int .i64 (.ofNat x):=by cases h;rfl
theorem Qr7 {x:Nat} (h:Gy σ (.c x) u):u= .int .u8 (.ofNat x):=by cases h;rfl
theorem Qpv {x:Nat} (h:Qqm v=some x) (hv:Gy σ v u):∃k,u= .int k (.ofNat x):=by
  rcases Qu9 h with rfl |rfl
  · exact ⟨_,Qfq hv⟩
  · exact ⟨_,Qr7 hv⟩
theorem Qez {x:List Nat} (h:Gy σ (.s x) u):∃q:ByteArray,u= .string q∧q.data.toList.map UInt8.toNat=x:=by cases h with |s h=>exact ⟨_,rfl,h⟩
theorem QjC {k:Id} {off:Nat} (h:Gy σ (.p k off) u):∃pl,σ k=some pl∧u= .pointer (some ⟨pl.b,pl.o+off,none⟩):=by cases h with |p h=>exact ⟨_,h,rfl⟩
theorem QeO (h:Gy σ .sn u):u= .slice none 0 0:=by cases h;rfl
theorem Qww (h:Gy σ .mn u):u= .map none:=by cases h;rfl
theorem Qvj {k:Id} (h:Gy σ (.m k) u):∃pl,σ k=some pl∧u= .map (some pl.b):=by cases h with |m h=>exact ⟨_,h,rfl⟩
theorem QpF (h:Gy σ .nif u):u= .nilIface:=by cases h;rfl
theorem QtY {t:Nat} {x:AV} (h:Gy σ (.ifc t x) u):∃y,u= .iface t y∧Gy σ x y:=by cases h with |ifc h=>exact ⟨_,rfl,h⟩
theorem Qjr {x:List AV} (h:Gy σ (.agg x) u):∃us,u= .agg us.toArray∧Gs σ x us∧∀v ∈ us,v.oneCell'=true:=by cases h with |agg h h1=>exact ⟨_,rfl,h,h1⟩
theorem QtX {x:List AV} (h:Gy σ (.tup x) u):∃us,u= .tuple us.toArray∧Gs σ x us:=by cases h with |tup h=>exact ⟨_,rfl,h⟩
theorem Qwx {f:Nat} {x y:List AV} (h:Gy σ (.fn f x y) u):∃a c,u= .func (.func f) a.toArray c.toArray∧Gs σ x a∧Gs σ y c:=by cases h with |fn h h1=>exact ⟨_,_,rfl,h,h1⟩
theorem Qel {k:Id} {off len sz:Nat} {cap:Option Nat} (h:Gy σ (.sl k off len sz cap) u):∃pl a c,u= .slice (some a) len c∧σ k=some pl∧len<=c∧(∀d,cap=some d->c=d)∧((a=⟨pl.b,pl.o+off,none⟩∧pl.o+off+c * sz<=pl.n)∨(len=0∧c=0)):=by
  cases h with |sl h hl hc ha=>exact ⟨_,_,_,rfl,h,hl,hc,ha⟩
theorem QbX {a:List AV} {x:Value} (h:Gs σ a [x]):∃b,a=[b]∧Gy σ b x:=by
  cases h with |cons h t=>cases t;exact ⟨_,rfl,h⟩
theorem QbW {a:List AV} {x y:Value} (h:Gs σ a [x,y]):∃b c,a=[b,c]∧Gy σ b x∧Gy σ c y:=by
  cases h with |cons h t=>obtain ⟨c,rfl,h2⟩:=QbX t;exact ⟨_,_,rfl,h,h2⟩
theorem Qvi {a:List AV} {x y z:Value} (h:Gs σ a [x,y,z]):∃b c d,a=[b,c,d]∧Gy σ b x∧Gy σ c y∧Gy σ d z:=by
  cases h with |cons h t=>obtain ⟨c,d,rfl,h2,h3⟩:=QbW t;exact ⟨_,_,_,rfl,h,h2,h3⟩
end
/-! ### what each quiet operation leaves -/
def QOK (P:Program) (op:Op) (q:QaD):Prop :=
  ∀(o:Oper) (ρ:Operand->Value) (σ:Sg) (h:AH) (w:World) (a:List AV) (v:AV) (K:Value->World->Prop),o.op=op->G8 σ h w->Gs σ a ((Ye op).map ρ)->q a h=some v->(∀u,Gy σ v u->K u w)->Exec P ρ o w K
section
variable {P:Program}
theorem Quj {x:Operand}:QOK P (.move x) QrB:=by
  intro o ρ σ h w a v K ho hR ha hq hk
  obtain ⟨b,rfl,hb⟩:=QbX ha
  cases hq
  exact Zm ho Z (hk _ hb)
theorem QqX {x:Operand}:QOK P (.assign x) QrB:=by
  intro o ρ σ h w a v K ho hR ha hq hk
  obtain ⟨b,rfl,hb⟩:=QbX ha
  cases hq
  exact Zo ho Z (hk _ hb)
theorem QtZ {c x y:Operand}:QOK P (.pick c x y) Qvm:=by
  intro o ρ σ h w a v K ho hR ha hq hk
  obtain ⟨b,d,e,rfl,hb,hd',he⟩:=Qvi ha
  obtain ⟨t,h1,h2⟩:=Q1 hq
  have:=Qgm (v:=b) h1
  subst this
  have hc:=QjD hb
  cases t with
  |true=>cases h2;exact Zs ho hc rfl (hk _ hd')
  |false=>cases h2;exact QiO ho hc rfl (hk _ he)
theorem Qw2 {t:TypeId} {x:Operand}:QOK P (.unOp .not t x) Qxh:=by
  intro o ρ σ h w a v K ho hR ha hq hk
  obtain ⟨b,rfl,hb⟩:=QbX ha
  obtain ⟨t,h1,h2⟩:=Q1 hq
  have:=Qgm (v:=b) h1
  subst this
  cases h2
  exact DN ho (QjD hb) (hk _ (.b _))
theorem Qug {x:Operand}:QOK P (.nilCheck x) Qvn:=by
  intro o ρ σ h w a v K ho hR ha hq hk
  obtain ⟨b,rfl,hb⟩:=QbX ha
  have hq:Qxj b=some v:=hq
  generalize hx:ρ x=u at hb
  cases hb with
  |p h=>cases hq;exact Jt ho hx (hk _ (.p h))
  |fn h1 h2=>cases hq;exact .of_run (by simp [execOp,ho,hx,go_sem]) (hk _ (.fn h1 h2))
  |ifc h1=>cases hq;exact .of_run (by simp [execOp,ho,hx,go_sem]) (hk _ (.ifc h1))
  |_=>cases hq
/-! integers and strings -/
theorem QpS {k j:IntKind} (h:kNo k=kNo j):k=j:=by cases k <;> cases j <;> first |rfl |cases h
theorem Qsi (a b:Int):eqI a b=decide (a=b):=by
  cases a with
  | ofNat x=>cases b with
    | ofNat y =>
      show Nat.beq x y=_
      cases h:Nat.beq x y with
      |true=>have:=Xh h;simp [this]
      |false=>have:=Nat.ne_of_beq_eq_false h;simp;omega
    |negSucc y=>simp [eqI]
  | negSucc x=>cases b with
    |ofNat y=>simp [eqI]
    | negSucc y =>
      show Nat.beq x y=_
      cases h:Nat.beq x y with
      |true=>have:=Xh h;simp [this]
      |false=>have:=Nat.ne_of_beq_eq_false h;simp;omega
theorem Qmb (a b :Int):leI a b=decide (a<=b):=by
  cases a with
  | ofNat x=>cases b with
    | ofNat y =>
      show Nat.ble x y=_
      cases h:Nat.ble x y with
      |true=>have:=Xc h;simp;omega
      | false => have:¬x<=y:=fun e=>by have:=Nat.ble_eq_true_of_le e;rw [h] at this;cases this
                 simp;omega
    |negSucc y=>simp [leI];omega
  | negSucc x => cases b with
    |ofNat y=>simp [leI];omega
    | negSucc y =>
      show Nat.ble y x=_
      cases h:Nat.ble y x with
      |true=>have:=Xc h;simp;omega
      | false => have:¬y<=x:=fun e=>by have:=Nat.ble_eq_true_of_le e;rw [h] at this;cases this
                 simp;omega
theorem QqH {σ:Sg} {op:BinOp} {k:IntKind} {x y:Int} {v:AV} (h:Qmd op k x y=some v):∃u,Gy σ v u∧∀(T:TypeId) (w:World),(binOp op T (.int k x) (.int k y)).run P w= .ok u w:=by
  cases op <;> first |(cases h;done) |skip
  case add=>cases h;exact ⟨_,Qh0 _ _,fun T w=>by simp [binOp,go_sem]⟩
  case sub=>cases h;exact ⟨_,Qh0 _ _,fun T w=>by simp [binOp,go_sem]⟩
  case mul=>cases h;exact ⟨_,Qh0 _ _,fun T w=>by simp [binOp,go_sem]⟩
  case eql=>cases h;exact ⟨_, .b _,fun T w=>by rw [Qsi];simp [binOp,go_sem];exact Qjy x y⟩
  case neq=>cases h;exact ⟨_, .b _,fun T w=>by rw [Qsi];simp [binOp,go_sem];show (!(x == y))=_;rw [Qjy]⟩
  case lss=>cases h;exact ⟨_, .b _,fun T w=>by rw [Qmb];simp [binOp,go_sem];by_cases h:y<=x <;> simp [h] <;> omega⟩
  case leq=>cases h;exact ⟨_, .b _,fun T w=>by rw [Qmb];simp [binOp,go_sem]⟩
  case gtr=>cases h;exact ⟨_, .b _,fun T w=>by rw [Qmb];simp [binOp,go_sem];by_cases h:x<=y <;> simp [h] <;> omega⟩
  case geq=>cases h;exact ⟨_, .b _,fun T w=>by rw [Qmb];simp [binOp,go_sem]⟩
theorem Qi2 {p q:ByteArray}:p.data.toList.map UInt8.toNat=q.data.toList.map UInt8.toNat↔p=q:=by
  refine ⟨fun h=>?_,fun h=>by rw [h]⟩
  have:p.data.toList=q.data.toList:=by
    have inj:∀(l m:List UInt8),l.map UInt8.toNat=m.map UInt8.toNat->l=m:=by
      intro l
      induction l with
      |nil=>intro m h;cases m with |nil=>rfl |cons _ _=>cases h
      | cons x l ih =>
        intro m h
        cases m with
        |nil=>cases h
        | cons y m =>
          simp only [Xv,List.cons.injEq] at h
          rw [UInt8.toNat_inj.1 h.1,ih m h.2]
    exact inj _ _ h
  obtain ⟨⟨l⟩⟩:=p
  obtain ⟨⟨m⟩⟩:=q
  simp at this;rw [this]
theorem Qq0 {σ:Sg} {op:BinOp} {x y:List Nat} {p q:ByteArray} {v:AV} (h:QrT op x y=some v) (hp:p.data.toList.map UInt8.toNat=x) (hq:q.data.toList.map UInt8.toNat=y) :
    ∃u,Gy σ v u∧∀(T:TypeId) (w:World),(binOp op T (.string p) (.string q)).run P w= .ok u w:=by
  subst hp hq
  cases op <;> first |(cases h;done) |skip
  case eql=>cases h;exact ⟨_, .b _,fun T w=>by rw [QgT];simp only [Qi2];rw [<-Qjo];simp [go_sem]⟩
  case neq=>cases h;exact ⟨_, .b _,fun T w=>by rw [QgT];simp only [Qi2];rw [<-Qjo];simp [go_sem]⟩
  case add =>
    obtain ⟨h1,h2⟩:=QB h
    cases h2
    have hs:∀p:ByteArray,p.size=p.data.toList.length:=fun p=>rfl
    rw [QcH,QcH,X6,X6, <-hs, <-hs] at h1
    have h1:p.size+q.size<9223372036854775808:=by simpa [Nat.blt_eq] using h1
    refine ⟨.string (p++q), .s ?_,fun T w=>?_⟩
    · rw [Qdo];simp
    · have h2:¬(IntKind.i64.max<(p.size:Int)+(q.size:Int)):=by
        have:IntKind.i64.max=9223372036854775807:=rfl
        omega
      simp [binOp,go_sem,Op.stringOp,h2]
      omega
theorem Qou {T:TypeId} {op:BinOp} {x y:Operand} {k j:IntKind} {a b:Int} {w:World}:(eqGuard op T x y (.int k a) (.int j b)).run P w= .ok () w:=by cases op <;> simp [eqGuard,go_sem]
theorem Qot {T:TypeId} {op:BinOp} {x y:Operand} {a b:ByteArray} {w:World}:(eqGuard op T x y (.string a) (.string b)).run P w= .ok () w:=by cases op <;> simp [eqGuard,go_sem]
theorem Qmf {op:BinOp} {T T':TypeId} {x y:Operand}:QOK P (.binOp op T x y T') (QtL op):=by
  intro o ρ σ h w a v K ho hR ha hq hk
  obtain ⟨b,c,rfl,hb,hc⟩:=QbW ha
  have hq:QgS op b c=some v:=hq
  rcases QbD hq with ⟨_,h1⟩ |⟨l,h1,h2⟩
  · obtain ⟨⟨k,n⟩,h1,h2⟩:=Q1 h1
    obtain ⟨⟨j,m⟩,h3,h4⟩:=Q1 h2
    obtain ⟨h5,h6⟩:=QB h4
    have:=QpS (Xh h5)
    simp only at this
    subst this
    obtain ⟨u,hu,hr⟩:=QqH (P:=P) (σ:=σ) h6
    exact Qaa ho (hb.int_of h1) (hc.int_of h3) Qou (hr T w) (hk _ hu)
  · obtain ⟨m,h3,h4⟩:=Q1 h2
    have e1:=Qa0 h1
    have e2:=Qa0 h3
    subst e1 e2
    obtain ⟨p,hp,hp'⟩:=Qez hb
    obtain ⟨q,hq',hq''⟩:=Qez hc
    obtain ⟨u,hu,hr⟩:=Qq0 (P:=P) (σ:=σ) h4 hp' hq''
    exact Qaa ho hp hq' Qot (hr T w) (hk _ hu)
theorem QwE {op:BinOp} {f:Nat->Nat->Bool} {T T':TypeId} {x y:Operand} (hf:∀m n:Nat,Qmd op .i64 (.ofNat m) (.ofNat n)=some (.b (f m n))):QOK P (.binOp op T x y T') (QmU f op):=by
  intro o ρ σ h w a v K ho hR ha hq hk
  have key:QtL op a h=some v:=by
    unfold QmU at hq
    cases h1:Qf5 (hd a) with
    |none=>rw [h1] at hq;exact hq
    | some m =>
      rw [h1] at hq
      cases h2:Qf5 (hd2 a) with
      |none=>rw [h2] at hq;exact hq
      | some n =>
        rw [h2] at hq
        have e1:=Qck h1
        have e2:=Qck h2
        show QgS op (hd a) (hd2 a)=some v
        rw [e1,e2]
        have:QgS op (.n m) (.n n)=Qmd op .i64 (.ofNat m) (.ofNat n):=rfl
        rw [this,hf]
        exact hq
  exact Qmf (T:=T) (T':=T') _ _ _ _ _ _ _ _ ho hR ha key hk
theorem Qs2 {σ:Sg} {z:Nat} {v:AV} (h:Qr1 z=some v):Gy σ v (.int .i64 (IntKind.i64.wrap (.ofNat z))):=by
  unfold Qr1 at h
  cases hb:Nat.ble z 9223372036854775807 with
  |false=>rw [hb] at h;cases h;exact .i _ _
  | true =>
    rw [hb] at h
    cases h
    have hz:=Xc hb
    have:IntKind.i64.wrap (.ofNat z)= .ofNat z:=by
      have e:IntKind.i64.wrap (Int.ofNat z)=if (Int.ofNat z) % (2 ^ 64:Int) ≥ (2 ^ 63:Int) then (Int.ofNat z) % (2 ^ 64:Int) - (2 ^ 64:Int) else (Int.ofNat z) % (2 ^ 64:Int):=by
        simp [IntKind.wrap,IntKind.bits,IntKind.signed]
      rw [e]
      have h1:(Int.ofNat z) % (2 ^ 64:Int)=Int.ofNat z:=by
        rw [Int.emod_eq_of_lt] <;> simp <;> omega
      rw [h1,if_neg]
      simp;omega
    rw [this];exact .n z
theorem QwI {T T':TypeId} {x y:Operand}:QOK P (.binOp .add T x y T') Qwl:=by
  intro o ρ σ h w a v K ho hR ha hq hk
  unfold Qwl at hq
  cases h1:Qf5 (hd a) with
  |none=>rw [h1] at hq;exact Qmf (T:=T) (T':=T') _ _ _ _ _ _ _ _ ho hR ha hq hk
  | some m =>
    rw [h1] at hq
    cases h2:Qf5 (hd2 a) with
    |none=>rw [h2] at hq;cases hq
    | some n =>
      rw [h2] at hq
      obtain ⟨b,c,rfl,hb,hc⟩:=QbW ha
      have e1:=Qck (v:=b) h1
      have e2:=Qck (v:=c) h2
      subst e1 e2
      exact DG ho (Qfq hb) (Qfq hc) (hk _ (Qs2 hq))
/-! against nil -/
theorem Qnv {E T T':TypeId} {x y:Operand} (hT:P.underlying T=some (.slice E)):QOK P (.binOp .eql T x y T') (QiC Qna false)∧QOK P (.binOp .neq T x y T') (QiC Qna true):=by
  have key:∀{σ:Sg} {b c:AV} {u v:Value} {r:Bool},Qna b c=some r->Gy σ b u->Gy σ c v->∃a n k,u= .slice a n k∧v= .slice none 0 0∧a.isNone=r:=by
    intro σ b c u v r h hb hc
    obtain ⟨h1,h2⟩:=QB h
    have:=Qdk h1
    subst this
    have hv:=QeO hc
    cases hs:QeM b with
    | true =>
      rw [hs] at h2;cases h2
      have:=Qdk hs
      subst this
      exact ⟨_,_,_,QeO hb,hv,Z⟩
    | false =>
      rw [hs] at h2
      obtain ⟨s,h3,h4⟩:=Q1 h2
      cases h4
      have:=Qbf h3
      subst this
      obtain ⟨pl,a,c,hu,_⟩:=Qel hb
      exact ⟨_,_,_,hu,hv,Z⟩
  constructor
  · intro o ρ σ h w a v K ho hR ha hq hk
    obtain ⟨b,c,rfl,hb,hc⟩:=QbW ha
    obtain ⟨r,h1,h2⟩:=Q1 hq
    cases h2
    obtain ⟨a,n,k,hu,hv,hr⟩:=key h1 hb hc
    exact Qaa (op:= .eql) ho hu hv (by simp [eqGuard,go_sem]) (by simp only [binOp];simp [Qb7 (P:=P) w T E a n k 0 0 hT,hr];cases r <;> rfl) (hk _ (.b _))
  · intro o ρ σ h w a v K ho hR ha hq hk
    obtain ⟨b,c,rfl,hb,hc⟩:=QbW ha
    obtain ⟨r,h1,h2⟩:=Q1 hq
    cases h2
    obtain ⟨a,n,k,hu,hv,hr⟩:=key h1 hb hc
    exact Qaa (op:= .neq) ho hu hv (by simp [eqGuard,go_sem]) (by simp only [binOp];simp [Qb7 (P:=P) w T E a n k 0 0 hT,hr];cases r <;> rfl) (hk _ (.b _))
end
end Go.Pw
/- -/
namespace Go.Pw
section
variable {P:Program}
theorem QkN {T:TypeId} {ms:Array (String×TypeId)} (hT:P.underlying T=some (.interface ms)) (d:Nat) (w:World) (u:Value) (r:Bool) (h:(r=true∧u= .nilIface)∨(r=false∧∃t y,u= .iface t y)):(Op.equalIn (d+1) T u .nilIface).run P w= .ok r w:=by
  rcases h with ⟨rfl,rfl⟩ |⟨rfl,t,y,rfl⟩ <;> simp [Op.equalIn,Xk hT]
theorem QnC {T T':TypeId} {ms:Array (String×TypeId)} {x:Operand} {cv:Value} (hT:P.underlying T=some (.interface ms)):QOK P (.binOp .eql T x (.const cv) T') (QiC Qnf false)∧QOK P (.binOp .neq T x (.const cv) T') (QiC Qnf true):=by
  have key:∀{σ:Sg} {b c:AV} {u v:Value} {r:Bool},Qnf b c=some r->Gy σ b u->Gy σ c v->v= .nilIface∧((r=true∧u= .nilIface)∨(r=false∧∃t y,u= .iface t y)):=by
    intro σ b c u v r h hb hc
    obtain ⟨h1,h2⟩:=QB h
    have:=Qn9 h1
    subst this
    have hv:=QpF hc
    cases hs:Qlw b with
    | true =>
      rw [hs] at h2;cases h2
      have:=Qn9 hs
      subst this
      exact ⟨hv, .inl ⟨Z,QpF hb⟩⟩
    | false =>
      rw [hs] at h2
      obtain ⟨h3,h4⟩:=QB (b:=QrJ b) h2
      cases h4
      obtain ⟨t,y,rfl⟩:=QsX h3
      obtain ⟨z,hu,_⟩:=QtY hb
      exact ⟨hv, .inr ⟨Z,_,_,hu⟩⟩
  have run:∀(w:World) (u:Value) (r:Bool),((r=true∧u= .nilIface)∨(r=false∧∃t y,u= .iface t y))->(Op.equal T u .nilIface).run P w= .ok r w:=fun w u r h=>QkN hT 9999 w u r h
  have guard:∀(w:World) (op:BinOp) (u:Value) (r:Bool),((r=true∧u= .nilIface)∨(r=false∧∃t y,u= .iface t y))->(eqGuard op T x (.const cv) u .nilIface).run P w= .ok () w:=by
    intro w op u r h
    rcases h with ⟨rfl,rfl⟩ |⟨rfl,t,y,rfl⟩
    · cases op <;> cases x <;> simp [eqGuard,go_sem]
    · cases op <;> cases x <;> simp [eqGuard,go_sem]
  constructor
  · intro o ρ σ h w a v K ho hR ha hq hk
    obtain ⟨b,c,rfl,hb,hc⟩:=QbW ha
    obtain ⟨r,h1,h2⟩:=Q1 hq
    cases h2
    obtain ⟨hv,hu⟩:=key h1 hb hc
    have e:binOp .eql T (ρ x) .nilIface=(do pure (.bool (<-Op.equal T (ρ x) .nilIface))):=by rcases hu with ⟨_,h⟩ |⟨_,_,_,h⟩ <;> rw [h] <;> rfl
    exact Qaa (op:= .eql) (v:= .bool r) ho Z hv (guard w _ _ _ hu) (by rw [e,Xe,run w _ _ hu];rfl) (hk _ (.b _))
  · intro o ρ σ h w a v K ho hR ha hq hk
    obtain ⟨b,c,rfl,hb,hc⟩:=QbW ha
    obtain ⟨r,h1,h2⟩:=Q1 hq
    cases h2
    obtain ⟨hv,hu⟩:=key h1 hb hc
    have e:binOp .neq T (ρ x) .nilIface=(do pure (.bool (!(<-Op.equal T (ρ x) .nilIface)))):=by rcases hu with ⟨_,h⟩ |⟨_,_,_,h⟩ <;> rw [h] <;> rfl
    exact Qaa (op:= .neq) (v:= .bool (!r)) ho Z hv (guard w _ _ _ hu) (by rw [e,Xe,run w _ _ hu];rfl) (hk _ (.b _))
/-! places -/
theorem Qec {T:TypeId} {ag:Bool} {sz:Nat} (h:QiF P T=some (ag,sz)):Qam P T=some (ag,sz):=h
theorem Qfa {T:TypeId} {sz:Nat} (h:Qht P T=some sz):∃i,P.info? T=some i∧i.size=sz:=Xp.1 h
theorem QcA {T e sz:Nat} (h:Qd1 P T=some (e,sz)):P.underlying T=some (.slice e)∧sz≠0∧∃i,P.info? e=some i∧i.size=sz:=by
  unfold Qd1 at h
  split at h
  · rename_i e' hu
    split at h
    · rename_i n hn
      cases hb:Nat.beq n 0 with
      |true=>rw [hb] at h;cases h
      | false =>
        rw [hb] at h
        cases h
        exact ⟨hu,Nat.ne_of_beq_eq_false hb,Qfa hn⟩
    · cases h
  · cases h
theorem Qli {T e sz:Nat} (h:Qd1 P T=some (e,sz)):∃b,JM P T=some (e,sz,b):=by
  obtain ⟨hu,_,i,hi,hs⟩:=QcA h
  exact ⟨i.bytes,by simp [JM,hu,hi,hs]⟩
theorem QfO {T k fo sz:Nat} {ag:Bool} (h:Qen P T k=some (fo,sz,ag)):∃fs f,P.underlying T=some (.struct fs)∧fs[k]?=some f∧f.offset=fo∧Qam P f.type=some (ag,sz):=by
  unfold Qen at h
  split at h
  · rename_i fs hu
    split at h
    · rename_i f hf
      split at h
      · rename_i ag' sz' hs
        cases h
        exact ⟨fs,f,hu,by simpa using hf,Z,hs⟩
      · cases h
    · cases h
  · cases h
theorem Qw1 {T k fo sz:Nat} {ag:Bool} {x:Operand} (hT:Qen P T k=some (fo,sz,ag)) (hs:sz≠0):QOK P (.fieldAddr T x k) (Qxg fo):=by
  intro o ρ σ h w a v K ho hR ha hq hk
  obtain ⟨b,rfl,hb⟩:=QbX ha
  obtain ⟨q,h1,h2⟩:=Q1 hq
  cases h2
  have:=QdX (v:=b) h1
  subst this
  obtain ⟨pl,hp,hu⟩:=QjC hb
  obtain ⟨fs,f,hu',hf,ho',hty⟩:=QfO hT
  obtain ⟨d,i,hd,hi,hsz,_⟩:=Qea hty
  have hf':Qhw P T k=some fo:=by simp [Qhw,hu',hf,hi,hsz,hs,ho']
  exact Zp hf' ho hu (by rw [Nat.add_assoc];rfl) (hk _ (.p hp))
theorem QpL {σ:Sg} {off sz:Nat} {ag:Bool} {cs:List AV} {us:List Value} {v:AV} {T:TypeId} {w:World} (h:part off sz ag cs=some v) (hT:Qam P T=some (ag,sz)) (hr:Gs σ cs us) (h1:∀u ∈ us,u.oneCell'=true) :
    ∃u,Gy σ v u∧(Go.part T us.toArray off).run P w= .ok u w:=by
  cases ag with
  | false =>
    have h:nth off cs=some v:=h
    rw [QfB] at h
    obtain ⟨u,hu,hru⟩:=hr.get h
    exact ⟨u,hru,by simp [Go.part,Qe8 hT,hu]⟩
  | true =>
    have h:Kk (Qch (Nat.add off sz) cs) (some (.agg (Qbc sz (QcP off cs)))) none=some v:=h
    obtain ⟨h2,h3⟩:=QB h
    cases h3
    have hle:off+sz<=cs.length:=QbE h2
    rw [YJ,QaF]
    refine ⟨.agg ((us.drop off).take sz).toArray, .agg ((hr.drop off).take sz) (fun u hu=>h1 u (XJ (XE hu))),?_⟩
    simp [Go.part,Qe8 hT,GN hT]
theorem Qtd {T k fo sz:Nat} {ag:Bool} {x:Operand} (hT:Qen P T k=some (fo,sz,ag)):QOK P (.field T x k) (Qsh fo sz ag):=by
  intro o ρ σ h w a v K ho hR ha hq hk
  obtain ⟨b,rfl,hb⟩:=QbX ha
  obtain ⟨cs,h1,h2⟩:=Q1 hq
  have:=Qiy (v:=b) h1
  subst this
  obtain ⟨us,hu,hr,h1'⟩:=Qjr hb
  obtain ⟨fs,f,hu',hf,ho',hty⟩:=QfO hT
  subst ho'
  obtain ⟨u,hv,hrun⟩:=QpL (P:=P) (w:=w) h2 hty hr h1'
  refine .of_run (v:=u) ?_ (hk _ hv)
  unfold execOp
  simp [ho,hu,Instr.field,Xk hu',hf,asAgg,hrun]
theorem Quy {T e sz:Nat} {x i:Operand} (hT:Qd1 P T=some (e,sz)):QOK P (.indexAddr T x i) (Qvy sz):=by
  intro o ρ σ h w a v K ho hR ha hq hk
  obtain ⟨b,c,rfl,hb,hc⟩:=QbW ha
  obtain ⟨s,h1,h2⟩:=Q1 hq
  obtain ⟨n,h3,h4⟩:=Q1 h2
  obtain ⟨h5,h6⟩:=QB h4
  obtain ⟨h7,h8⟩:=QB h6
  cases h8
  have:=Qbf (v:=b) h1
  subst this
  obtain ⟨k,hn⟩:=Qpv h3 hc
  obtain ⟨pl,ad,cp,hu,hp,hl,_,had⟩:=Qel hb
  have hlt:n<s.len:=by
    unfold ltN at h7
    cases hb:Nat.ble s.len n with
    |true=>rw [hb] at h7;cases h7
    |false=>refine Nat.lt_of_not_le fun e=>?_;have:=Nat.ble_eq_true_of_le e;rw [hb] at this;cases this
  rcases had with ⟨rfl,hroom⟩ |⟨h0,_⟩
  · obtain ⟨by_,hty⟩:=Qli hT
    refine Qi (n:= .ofNat n) hty ho hu hn (by simp) (by simp;exact hlt) (hk _ ?_)
    have:=Gy.p (off:=Nat.add s.off (Nat.mul n sz)) hp
    rw [show pl.o+Nat.add s.off (Nat.mul n sz)=pl.o+s.off+(Int.ofNat n).toNat * sz by simp [Nat.add_assoc]] at this
    exact this
  · omega
theorem QrX {m n:Nat} (h:ltN m n=true):m<n:=by
  unfold ltN at h
  cases hb:Nat.ble n m with
  |true=>rw [hb] at h;cases h
  |false=>refine Nat.lt_of_not_le fun e=>?_;have:=Nat.ble_eq_true_of_le e;rw [hb] at this;cases this
theorem Quz {T e len sz:Nat} {x i:Operand} (hT:P.underlying T=some (.array len e)) (hs:Qht P e=some sz):QOK P (.indexAddr T x i) (Qvz len sz):=by
  intro o ρ σ h w a v K ho hR ha hq hk
  obtain ⟨b,c,rfl,hb,hc⟩:=QbW ha
  obtain ⟨q,h1,h2⟩:=Q1 hq
  obtain ⟨n,h3,h4⟩:=Q1 h2
  obtain ⟨h5,h6⟩:=QB h4
  cases h6
  have:=QdX (v:=b) h1
  subst this
  obtain ⟨k,hn⟩:=Qpv h3 hc
  obtain ⟨pl,hp,hu⟩:=QjC hb
  have hlt:=QrX h5
  obtain ⟨ti,hi,hsz⟩:=Qfa hs
  refine .of_run (v:= .pointer (some ⟨pl.b,pl.o+q.2+n * sz,none⟩)) ?_ (hk _ ?_)
  · unfold execOp
    simp [ho,hu,hn,Instr.indexAt,asIntOf,Xk hT,hlt,sizeOf,typeInfo,hi,hsz,Addr.add_lit,Instr.sureAddr]
  · have:=Gy.p (off:=Nat.add q.2 (Nat.mul n sz)) hp
    rw [show pl.o+Nat.add q.2 (Nat.mul n sz)=pl.o+q.2+n * sz by simp [Nat.add_assoc]] at this
    exact this
theorem Qux {T:TypeId} {x i:Operand} (hT:P.underlying T=some .string):QOK P (.index T x i) Qvx:=by
  intro o ρ σ h w a v K ho hR ha hq hk
  obtain ⟨b,c,rfl,hb,hc⟩:=QbW ha
  obtain ⟨l,h1,h2⟩:=Q1 hq
  obtain ⟨n,h3,h4⟩:=Q1 h2
  obtain ⟨z,h5,h6⟩:=Q1 h4
  cases h6
  have:=Qa0 (v:=b) h1
  subst this
  obtain ⟨k,hn⟩:=Qpv h3 hc
  obtain ⟨q,hu,hq'⟩:=Qez hb
  rw [QfB, <-hq',X2] at h5
  obtain ⟨y,hy,rfl⟩:=Xp.1 h5
  have hy':q[n]?=some y:=by
    have:n<q.data.toList.length:=(Xj.1 hy).1
    rw [Xb this] at hy
    have hn:n<q.size:=this
    rw [getElem?_pos q n hn]
    simp at hy ⊢
    exact hy
  refine .of_run (v:= .int .u8 y.toNat) ?_ (hk _ (.c _))
  unfold execOp
  simp [ho,hu,hn,Instr.index,asIntOf,Xk hT,hy']
theorem Qu0 {T e len sz:Nat} {ag:Bool} {x i:Operand} (hT:P.underlying T=some (.array len e)) (hs:QiF P e=some (ag,sz)):QOK P (.index T x i) (Qv0 len sz ag):=by
  intro o ρ σ h w a v K ho hR ha hq hk
  obtain ⟨b,c,rfl,hb,hc⟩:=QbW ha
  obtain ⟨cs,h1,h2⟩:=Q1 hq
  obtain ⟨n,h3,h4⟩:=Q1 h2
  obtain ⟨h5,h6⟩:=QB h4
  have:=Qiy (v:=b) h1
  subst this
  obtain ⟨k,hn⟩:=Qpv h3 hc
  obtain ⟨us,hu,hr,h1'⟩:=Qjr hb
  have hlt:=QrX h5
  obtain ⟨u,hv,hrun⟩:=QpL (P:=P) (w:=w) h6 (Qec hs) hr h1'
  refine .of_run (v:=u) ?_ (hk _ hv)
  have hrun':(Go.part e us.toArray (n * sz)).run P w= .ok u w:=hrun
  unfold execOp
  simp [ho,hu,hn,Instr.index,asIntOf,Xk hT,hlt,GN (Qec hs),hrun']
/-! memory -/
theorem G8.cells {σ:Sg} {h:AH} {w:World} (H:G8 σ h w) {k:Id} {c:CsE} (hc:h.cells k=some c) :
    h.get k=some (.cells c.cs c.top c.al c.hy)∧∃pl d E fz,σ k=some pl∧w.heap[pl.b]?=some (.cells d E fz)∧d.size=pl.n∧pl.o+c.cs.length<=d.size∧Gs σ c.cs ((d.toList.drop pl.o).take c.cs.length) ∧
      (∀v ∈ (d.toList.drop pl.o).take c.cs.length,v.oneCell'=true)∧(c.top=true->fz=(0,0))∧(∀e,c.hy=some e->E=e∧pl.o=0):=by
  obtain ⟨b,h1,h2⟩:=Q1 hc
  have:b= .cells c.cs c.top c.al c.hy:=by cases b <;> first |(cases h2;rfl) |cases h2
  subst this
  obtain ⟨pl,o,h3,h4,h5⟩:=H.bl _ _ h1
  cases h5 with
  |cells hn hf hr h1' hz hy'=>exact ⟨h1,pl,_,_,_,h3,h4,hn,hf,hr,h1',hz,hy'⟩
theorem Qfh {w:World} {b off:Nat} {d:Array Value} {E:TypeId} {fz:Nat×Nat} (h:w.heap[b]?=some (.cells d E fz)):w.cell? ⟨b,off,none⟩=d[off]?:=by simp [World.cell?,h]
theorem Ds {σ:Sg} {h:AH} {w:World} {pl:Pl} {d:Array Value} {E:TypeId} {fz:Nat×Nat} {cs:List AV} {off sz:Nat} {ag:Bool} {T:TypeId} {v:AV} (hd:w.heap[pl.b]?=some (.cells d E fz)) (hr:Gs σ cs ((d.toList.drop pl.o).take cs.length))
    (h1:∀v ∈ (d.toList.drop pl.o).take cs.length,v.oneCell'=true) (hT:Qam P T=some (ag,sz)) (hv:part off sz ag cs=some v):∃u,Gy σ v u∧(loadVar T ⟨pl.b,pl.o+off,none⟩).run P w= .ok u w:=by
  have at_:∀(j:Nat) (u:Value),((d.toList.drop pl.o).take cs.length)[j]?=some u->w.cell? ⟨pl.b,pl.o+j,none⟩=some u:=by
    intro j u hj
    rw [Qfh hd]
    rw [Xo] at hj
    split at hj
    · rw [Xu] at hj
      simpa using hj
    · cases hj
  cases ag with
  | false =>
    have hv:nth off cs=some v:=hv
    rw [QfB] at hv
    obtain ⟨u,hu,hru⟩:=hr.get hv
    exact ⟨u,hru,YX hT (at_ _ _ hu)⟩
  | true =>
    have hv:Kk (Qch (Nat.add off sz) cs) (some (.agg (Qbc sz (QcP off cs)))) none=some v:=hv
    obtain ⟨h2,h3⟩:=QB hv
    cases h3
    have hle:off+sz<=cs.length:=QbE h2
    rw [YJ,QaF]
    have hrel:=(hr.drop off).take sz
    have hlen:=hrel.len
    have hlen':((cs.drop off).take sz).length=sz:=by simp;omega
    refine ⟨.agg (((((d.toList.drop pl.o).take cs.length).drop off).take sz).toArray), .agg hrel (fun u hu=>h1 u (XJ (XE hu))),Yz (by rw [<-hlen,hlen'];exact hT) ?_⟩
    intro j u hj
    rw [Addr.add_lit,Nat.add_assoc]
    refine at_ _ _ ?_
    rw [Xo] at hj
    split at hj
    · rw [Xu] at hj;exact hj
    · cases hj
theorem Qur {T sz:Nat} {ag:Bool} {x:Operand} (hT:QiF P T=some (ag,sz)):QOK P (.load T x) (Qpx sz ag):=by
  intro o ρ σ h w a v K ho hR ha hq hk
  obtain ⟨b,rfl,hb⟩:=QbX ha
  obtain ⟨q,h1,h2⟩:=Q1 hq
  obtain ⟨c,h3,h4⟩:=Q1 h2
  have:=QdX (v:=b) h1
  subst this
  obtain ⟨pl,hp,hu⟩:=QjC hb
  obtain ⟨hg,pl',d,E,fz,g1,g2,g3,g4,g5,g6,g7⟩:=hR.cells h3
  rw [hp] at g1;cases g1
  obtain ⟨u,hv,hrun⟩:=Ds (P:=P) (h:=h) g2 g5 g6 (Qec hT) h4
  refine .of_run (v:=u) ?_ (hk _ hv)
  unfold execOp
  simp only [ho,hu,Instr.loadAt,Instr.sureAddr,Xe,Xg,Xd,hrun]
end
end Go.Pw
/- -/
namespace Go.Pw
section
variable {P:Program}
theorem Qgr {σ:Sg} {a:List AV} {u:Value} {us:List Value} (h:Gs σ a (u::us)):∃b bs,a=b::bs∧Gy σ b u∧Gs σ bs us:=by
  cases h with |cons h t=>exact ⟨_,_,rfl,h,t⟩
theorem QuA {i:Nat} {x:Operand}:QOK P (.extract x i) (Qv5 i):=by
  intro o ρ σ h w a v K ho hR ha hq hk
  obtain ⟨b,rfl,hb⟩:=QbX ha
  obtain ⟨vs,h1,h2⟩:=Q1 hq
  have:=QlB (v:=b) h1
  subst this
  obtain ⟨us,hu,hr⟩:=QtX hb
  rw [QfB] at h2
  obtain ⟨u,hu',hv⟩:=hr.get h2
  exact DP ho hu (by simpa using hu') (hk _ hv)
theorem QwB {T:TypeId} {d:TypeDesc} {x:Operand} (hT:P.underlying T=some d) (hd:∀ms,d≠ .interface ms):QOK P (.makeInterface T x) (Qxr T):=by
  intro o ρ σ h w a v K ho hR ha hq hk
  obtain ⟨b,rfl,hb⟩:=QbX ha
  cases hq
  refine .of_run (v:= .iface T (ρ x)) ?_ (hk _ (.ifc hb))
  unfold execOp
  cases d <;> first |exact absurd rfl (hd _) |simp [ho,Instr.makeInterface,Xk hT]
theorem QwC {f:Nat} {fs cs:Array Operand}:QOK P (.makeFunc (.func f) fs cs) (Qxt f fs.size):=by
  intro o ρ σ h w a v K ho hR ha hq hk
  cases hq
  have ha:Gs σ a ((fs.toList++cs.toList).map ρ):=ha
  rw [List.map_append] at ha
  have h1:=ha.take fs.size
  have h2:=ha.drop fs.size
  rw [List.take_left' (by simp)] at h1
  rw [List.drop_left' (by simp)] at h2
  rw [YJ,QaF] at hk
  refine .of_run (v:= .func (.func f) (fs.toList.map ρ).toArray (cs.toList.map ρ).toArray) ?_ (hk _ (.fn h1 h2))
  unfold execOp
  simp [ho,Instr.makeFunc]
  exact ⟨by rw [<-Array.toList_map,Array.toArray_toList],by rw [<-Array.toList_map,Array.toArray_toList]⟩
theorem QuF {S T:TypeId} {k k':IntKind} {x:Operand} (hS:P.underlying S=some (.int k')) (hT:P.underlying T=some (.int k)):QOK P (.convert S T x) (Qv8 k):=by
  intro o ρ σ h w a v K ho hR ha hq hk
  obtain ⟨b,rfl,hb⟩:=QbX ha
  obtain ⟨⟨j,n⟩,h1,h2⟩:=Q1 hq
  cases h2
  exact QeE (by rw [hS];rfl) hT ho (hb.int_of h1) (hk _ (Qh0 _ _))
theorem Qi3 {σ:Sg}:∀{xs:List AV} {us:List Value} {l:List Nat},Qmi xs=some l->Gs σ xs us->us=l.map (fun n=>Value.int .u8 (.ofNat n))∧∀n ∈ l,n<256
  |[],us,l,h,hr=>by cases h;cases hr;simp
  | x::xs,us,l,h,hr=>by
    have h:(ob (QkZ x) fun n=>Kk (Nat.ble n 255) (ob (Qmi xs) fun r=>some (n::r)) none)=some l:=h
    obtain ⟨n,h1,h2⟩:=Q1 h
    obtain ⟨h3,h4⟩:=QB h2
    obtain ⟨r,h5,h6⟩:=Q1 h4
    cases h6
    have:=Qmy h1
    subst this
    obtain ⟨u,us',rfl,hu,hr'⟩:=hr.cons'
    obtain ⟨ih1,ih2⟩:=Qi3 h5 hr'
    have:=Xc h3
    refine ⟨by rw [Qr7 hu,ih1];rfl,?_⟩
    intro m hm
    rcases Xr.1 hm with rfl |hm
    · omega
    · exact ih2 m hm
theorem QiL:∀(l:List Nat) (s:ByteArray),(∀n ∈ l,n<256)->((l.map Int.ofNat).foldl (fun r n=>r.push (UInt8.ofNat n.toNat)) s).data.toList.map UInt8.toNat=s.data.toList.map UInt8.toNat++l
  |[],s,_=>by simp
  | n::l,s,h=>by
    simp only [Xv,List.foldl_cons]
    rw [QiL l _ (fun m hm=>h m (by simp [hm]))]
    have:=h n (by simp)
    simp [ByteArray.push,Nat.mod_eq_of_lt this]
theorem Qah {σ:Sg} {w:World} {pl:Pl} {d:Array Value} {E:TypeId} {fz:Nat×Nat} {cs:List AV} {off n:Nat} (hd:w.heap[pl.b]?=some (.cells d E fz)) (hr:Gs σ cs ((d.toList.drop pl.o).take cs.length)) (hle:off+n<=cs.length) :
    ∃us,Gs σ ((cs.drop off).take n) us∧us.length=n∧(loadCells ⟨pl.b,pl.o+off,none⟩ n).run P w= .ok us.toArray w∧us=(((d.toList.drop pl.o).take cs.length).drop off).take n:=by
  have hrel:=(hr.drop off).take n
  have hlen:(((((d.toList.drop pl.o).take cs.length).drop off).take n)).length=n:=by
    rw [<-hrel.len];simp;omega
  refine ⟨_,hrel,hlen,?_,Z⟩
  have:=run_loadCells_list (P:=P) w ⟨pl.b,pl.o+off,none⟩ ((((d.toList.drop pl.o).take cs.length).drop off).take n) ?_
  · rw [hlen] at this;exact this
  · intro j u hj
    rw [Addr.add_lit]
    rw [Qfh hd]
    rw [Xo] at hj
    split at hj
    · rw [Xu,Xo] at hj
      split at hj
      · rw [Xu] at hj
        rw [<-hj];simp [Nat.add_assoc]
      · cases hj
    · cases hj
theorem Qwq {S T e:TypeId} {x:Operand} (hS:P.underlying S=some (.slice e)) (he:P.underlying e=some (.int .u8)) (hT:P.underlying T=some .string):QOK P (.convert S T x) QvY:=by
  intro o ρ σ h w a v K ho hR ha hq hk
  obtain ⟨b,rfl,hb⟩:=QbX ha
  unfold QvY at hq
  cases hs:QeM (hd [b]) with
  | true =>
    rw [hs] at hq;cases hq
    have:=Qdk (v:=b) hs
    subst this
    refine .of_run (v:= .string .empty) ?_ (hk _ (.s Z))
    unfold execOp
    simp only [ho,QeO hb,Xe,run_convert_bytes_string w S T e _ _ _ hS he hT]
    rfl
  | false =>
    rw [hs] at hq
    obtain ⟨s,h1,h2⟩:=Q1 hq
    obtain ⟨c,h3,h4⟩:=Q1 h2
    obtain ⟨h5,h6⟩:=QB h4
    obtain ⟨l,h7,h8⟩:=Q1 h6
    cases h8
    have:=Qbf (v:=b) h1
    subst this
    obtain ⟨pl,ad,cp,hu,hp,hl,_,had⟩:=Qel hb
    obtain ⟨hg,pl',d,E,fz,g1,g2,g3,g4,g5,g6,g7⟩:=hR.cells h3
    rw [hp] at g1;cases g1
    rw [YJ,QaF] at h7
    have hle:s.off+s.len<=c.cs.length:=QbE h5
    have fin:∀q:ByteArray,q.data.toList.map UInt8.toNat=l->(Conv.bytesToString (.slice (some ad) s.len cp)).run P w= .ok (.string q) w->Exec P ρ o w K:=by
      intro q hq hrun
      refine .of_run (v:= .string q) ?_ (hk _ (.s hq))
      unfold execOp
      simp only [ho,hu,Xe,run_convert_bytes_string w S T e _ _ _ hS he hT,hrun,Xd,Xg]
    obtain ⟨us,hrel,hlen,hrun,_⟩:=Qah (P:=P) (n:=s.len) g2 g5 hle
    obtain ⟨e1,e2⟩:=Qi3 h7 hrel
    rcases had with ⟨rfl,_⟩ |⟨h0,_⟩
    · have:=run_bytesToString (P:=P) w ⟨pl.b,pl.o+s.off,none⟩ s.len cp (l.map Int.ofNat) (by rw [hrun,e1,List.map_map];rfl)
      refine fin _ ?_ this
      rw [QiL l _ e2];simp
    · have hl0:l=[]:=by
        have:us.length=0:=by rw [hlen,h0]
        rw [e1,X6] at this
        exact XH.1 this
      subst hl0
      have:=run_bytesToString (P:=P) w ad s.len cp [] (by rw [h0];rfl)
      exact fin _ Z this
/-! parts -/
theorem Qeb {x:AV} {m n:Nat} (h:QfD x m=some n):x= .n n∧n<=m:=by
  obtain ⟨k,h1,h2⟩:=Q1 h
  obtain ⟨h3,h4⟩:=QB h2
  cases h4
  exact ⟨Qck h1,Xc h3⟩
theorem Qm3 {σ:Sg} {lo hi:Option Operand} {len cap:Nat} {a:List AV} {ρ:Operand->Value} {q:Nat×Nat} {w:World} {isS:Bool} (h:QtN lo.isSome hi.isSome len a=some q) (ha:Gs σ a ((lo.toList++hi.toList).map ρ)) (hc:len<=cap) :
    q.1<=q.2∧q.2<=len∧(Instr.sliceBounds isS len cap (lo.map ρ) (hi.map ρ) none).run P w= .ok (q.1,q.2,cap) w:=by
  cases hi with
  | none =>
    cases lo with
    |none=>cases h;exact ⟨X7 _,Xi _,by simp [Instr.sliceBounds]⟩
    | some x =>
      obtain ⟨b,rfl,hb⟩:=QbX ha
      obtain ⟨n,h1,h2⟩:=Q1 (o:=QfD b len) h
      cases h2
      obtain ⟨rfl,hle⟩:=Qeb h1
      refine ⟨hle,Xi _,?_⟩
      simp only [Instr.sliceBounds,Option.map_some,Option.map_none,Qfq hb,Xe,Xg,Xd,Qap (P:=P) (w:=w) (k:= .i64) (i:=Int.ofNat n) (y:=len) (by simp) (by simpa using hle)]
      rfl
  | some y =>
    cases lo with
    | none =>
      obtain ⟨b,rfl,hb⟩:=QbX ha
      obtain ⟨n,h1,h2⟩:=Q1 (o:=QfD b len) h
      cases h2
      obtain ⟨rfl,hle⟩:=Qeb h1
      refine ⟨X7 _,hle,?_⟩
      simp only [Instr.sliceBounds,Option.map_some,Option.map_none,Qfq hb,Xe,Xg,Xd,Qap (P:=P) (w:=w) (k:= .i64) (i:=Int.ofNat n) (y:=cap) (by simp) (by simp;omega)]
      rfl
    | some x =>
      obtain ⟨b,c,rfl,hb,hc'⟩:=QbW ha
      obtain ⟨n,h1,h2⟩:=Q1 (o:=QfD c len) h
      obtain ⟨m,h3,h4⟩:=Q1 (o:=QfD b n) h2
      cases h4
      obtain ⟨rfl,hle⟩:=Qeb h1
      obtain ⟨rfl,hle'⟩:=Qeb h3
      refine ⟨hle',hle,?_⟩
      simp only [Instr.sliceBounds,Option.map_some,Option.map_none,Qfq hb,Qfq hc',Xe,Xg,Xd,Qap (P:=P) (w:=w) (k:= .i64) (i:=Int.ofNat n) (y:=cap) (by simp) (by simp;omega),
        Qap (P:=P) (w:=w) (k:= .i64) (i:=Int.ofNat m) (y:=(Int.ofNat n).toNat) (by simp) (by simpa using hle')]
      rfl
theorem Qtj {T:TypeId} {x:Operand} {lo hi:Option Operand} (hT:P.underlying T=some .string):QOK P (.slice T x lo hi none) (Qsj lo.isSome hi.isSome):=by
  intro o ρ σ h w a v K ho hR ha hq hk
  have ha:Gs σ a ((x::(lo.toList++hi.toList)).map ρ):=ha
  rw [Xv] at ha
  obtain ⟨b,a,rfl,hb,ht⟩:=Qgr ha
  obtain ⟨l,h1,h2⟩:=Q1 hq
  obtain ⟨q,h3,h4⟩:=Q1 h2
  cases h4
  have:=Qa0 (v:=b) h1
  subst this
  obtain ⟨s,hu,hs⟩:=Qez hb
  rw [QcH] at h3
  have hlen:l.length=s.size:=by rw [<-hs,X6];rfl
  rw [hlen] at h3
  obtain ⟨b1,b2,hrun⟩:=Qm3 (P:=P) (w:=w) (isS:=false) (cap:=s.size) h3 ht (Xi _)
  refine .of_run (v:= .string (s.extract q.1 q.2)) ?_ (hk _ (.s ?_))
  · unfold execOp
    simp only [ho,hu,Option.map_none,Instr.sliceAt,Instr.slice,Xe,Xk hT,Xd,Xg,hrun]
    simp [hrun]
  · rw [QaF,YJ, <-hs]
    simp [ByteArray.data_extract,List.map_drop,List.map_take,List.drop_take]
theorem Qtk {T e sz:TypeId} {x:Operand} {lo hi:Option Operand} (hT:Qd1 P T=some (e,sz)):QOK P (.slice T x lo hi none) (Qsk lo.isSome hi.isSome sz):=by
  intro o ρ σ h w a v K ho hR ha hq hk
  have ha:Gs σ a ((x::(lo.toList++hi.toList)).map ρ):=ha
  rw [Xv] at ha
  obtain ⟨b,a,rfl,hb,ht⟩:=Qgr ha
  obtain ⟨hu',hs0,i,hi',hsz⟩:=QcA hT
  rcases QbD hq with ⟨_,h2⟩ |⟨s,h1,h2⟩
  · obtain ⟨h3,h4⟩:=QB h2
    obtain ⟨q,h5,h6⟩:=Q1 h4
    cases h6
    have:=Qdk (v:=b) h3
    subst this
    obtain ⟨b1,b2,hrun⟩:=Qm3 (P:=P) (w:=w) (isS:=true) (cap:=0) h5 ht (Xi _)
    have q1:q.1=0:=by omega
    have q2:q.2=0:=by omega
    refine .of_run (v:= .slice none 0 0) ?_ (hk _ .sn)
    unfold execOp
    rw [q1,q2] at hrun
    simp [ho,QeO hb,Instr.sliceAt,Instr.slice,Xk hu',hrun,sizeOf,typeInfo,hi']
  · obtain ⟨h3,h4⟩:=QB h2
    obtain ⟨q,h5,h6⟩:=Q1 h4
    cases h6
    have:=Qbf (v:=b) h1
    subst this
    have e1:=Xh h3
    obtain ⟨pl,ad,cp,hu,hp,hl,hcap,had⟩:=Qel hb
    obtain ⟨b1,b2,hrun⟩:=Qm3 (P:=P) (w:=w) (isS:=true) (cap:=cp) h5 ht hl
    refine .of_run (v:= .slice (some (if cp=q.1 then ad else ad.add (q.1 * sz))) (q.2 - q.1) (cp - q.1)) ?_ (hk _ ?_)
    · unfold execOp
      have:(if cp=q.1 then some ad else Option.map (fun x=>x.add (q.1 * i.size)) (some ad))=some (if cp=q.1 then ad else ad.add (q.1 * sz)):=by
        rw [hsz];split <;> rfl
      simp only [ho,hu,Option.map_none,Instr.sliceAt,Instr.slice,Xe,Xk hu',Xd,Xg,hrun,sizeOf,typeInfo,program,Sem.run,hi']
      rw [this]
    · refine .sl hp (by show q.2 - q.1<=cp - q.1;omega) ?_ ?_
      · intro d hd
        obtain ⟨c,hc,hd'⟩:=Q1 hd
        cases hd'
        rw [hcap c hc];rfl
      · by_cases hz:cp=q.1
        · right
          exact ⟨by show q.2 - q.1=0;omega,by omega⟩
        · left
          rw [if_neg hz]
          rcases had with ⟨rfl,hroom⟩ |⟨h0,hc0⟩
          · refine ⟨by rw [Addr.add_lit];show _=(⟨pl.b,pl.o+(s.off+q.1 * sz),none⟩:Addr);rw [Nat.add_assoc],?_⟩
            show pl.o+(s.off+q.1 * sz)+(cp - q.1) * sz<=pl.n
            rw [e1] at hroom
            have:q.1 * sz+(cp - q.1) * sz=cp * sz:=by rw [<-Nat.add_mul];congr 1;omega
            omega
          · omega
theorem QsU {T:TypeId} {x:Operand} {c:Call} {ts:List TypeId} (hc:c.callee= .builtin .len) (ha':c.args.toList=[x]) (ht:c.argTypes.toList=T::ts) (hT:P.underlying T=some .string):QOK P (.call c) QrY:=by
  intro o ρ σ h w a v K ho hR ha hq hk
  have e:Ye (.call c)=[x]:=by simp [Ye,hc,ha']
  rw [e] at ha
  obtain ⟨b,rfl,hb⟩:=QbX ha
  obtain ⟨l,h1,h2⟩:=Q1 hq
  cases h2
  have:=Qa0 (v:=b) h1
  subst this
  obtain ⟨s,hu,hs⟩:=Qez hb
  have e1:c.args=#[x]:=by rw [<-Array.toArray_toList (xs:=c.args),ha']
  have e2:c.argTypes[0]?=some T:=by rw [<-Array.getElem?_toList,ht];rfl
  have hlen:Qej l=s.size:=by rw [QcH, <-hs,X6];rfl
  refine .of_run (v:= .int .i64 (s.size:Int)) ?_ (hk _ (by rw [hlen];exact .n _))
  unfold execOp
  simp [ho,resolve,hc,e1,hu,invoke,builtin,Builtin.len_,e2,Xk hT,goInt]
theorem QsV {T E:TypeId} {x:Operand} {c:Call} {ts:List TypeId} (hc:c.callee= .builtin .len) (ha':c.args.toList=[x]) (ht:c.argTypes.toList=T::ts) (hT:P.underlying T=some (.slice E)):QOK P (.call c) QrZ:=by
  intro o ρ σ h w a v K ho hR ha hq hk
  have e:Ye (.call c)=[x]:=by simp [Ye,hc,ha']
  rw [e] at ha
  obtain ⟨b,rfl,hb⟩:=QbX ha
  have e1:c.args=#[x]:=by rw [<-Array.toArray_toList (xs:=c.args),ha']
  have e2:c.argTypes[0]?=some T:=by rw [<-Array.getElem?_toList,ht];rfl
  have run:∀ad n k,ρ x= .slice ad n k->(execOp ρ o).run P w= .ok (.value (.int .i64 (n:Int))) w:=by
    intro ad n k hu
    unfold execOp
    simp [ho,resolve,hc,e1,hu,invoke,builtin,Builtin.len_,e2,Xk hT,goInt]
  rcases QbD hq with ⟨_,h2⟩ |⟨s,h1,h2⟩
  · obtain ⟨h3,h4⟩:=QB h2
    cases h4
    have:=Qdk (v:=b) h3
    subst this
    exact .of_run (run _ _ _ (QeO hb)) (hk _ (.n 0))
  · cases h2
    have:=Qbf (v:=b) h1
    subst this
    obtain ⟨pl,ad,cp,hu,_⟩:=Qel hb
    exact .of_run (run _ _ _ hu) (hk _ (.n _))
theorem Qw5 {x y:Operand} {c:Call} (hc:c.callee= .builtin .min) (ha':c.args.toList=[x,y]):QOK P (.call c) Qxl:=by
  intro o ρ σ h w a v K ho hR ha hq hk
  have e:Ye (.call c)=[x,y]:=by simp [Ye,hc,ha']
  rw [e] at ha
  obtain ⟨b,d,rfl,hb,hd'⟩:=QbW ha
  obtain ⟨m,h1,h2⟩:=Q1 hq
  obtain ⟨n,h3,h4⟩:=Q1 h2
  cases h4
  have:=Qck (v:=b) h1
  subst this
  have:=Qck (v:=d) h3
  subst this
  have e1:c.args=#[x,y]:=by rw [<-Array.toArray_toList (xs:=c.args),ha']
  obtain ⟨cal,args,ts⟩:=c
  cases hc;cases e1
  refine QlN ho (Qfq hb) (Qfq hd') (hk _ ?_)
  have:min (Int.ofNat m) (Int.ofNat n)=Int.ofNat (Kk (Nat.ble m n) m n):=by
    cases hb:Nat.ble m n with
    |true=>have:=Xc hb;show _=Int.ofNat m;simp;omega
    | false => have:¬m<=n:=fun e=>by have:=Nat.ble_eq_true_of_le e;rw [hb] at this;cases this
               show _=Int.ofNat n;simp;omega
  rw [this];exact .n _
end
end Go.Pw
