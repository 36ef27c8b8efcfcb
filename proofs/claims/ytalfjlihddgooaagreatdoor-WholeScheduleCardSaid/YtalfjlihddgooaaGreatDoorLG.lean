/- -/
import Derived.Test.YtalfjlihddgooaaGreatDoorBa
import Derived.Test.YtalfjlihddgooaaGreatDoorLE
import Derived.Test.YtalfjlihddgooaaGreatDoorLC
import Derived.Test.YtalfjlihddgooaaGreatDoorLA
import Derived.Test.YtalfjlihddgooaaGreatDoorLF
import Derived.Test.YtalfjlihddgooaaGreatDoorLD
import Derived.KernelRfl
set_option linter.unusedSimpArgs false
namespace Go.Pw
section
variable {P:Program} {ρ:Operand->Value} {o:Oper} {w w0:World} {s:Gc} {H:List Res} {K:Value->World->Prop} {T:TypeId}
theorem Qcs {x i:Operand} {k:IntKind} {n y:Int} {q:ByteArray} (hT:P.underlying T=some .string) (ho:o.op= .index T x i) (hx:ρ x= .string q) (hi:ρ i= .int k n) (hy:idx (QcJ q) n=some y) (hk:K (.int .u8 y) w):Exec P ρ o w K:=by
 obtain ⟨h0,hlt,hget⟩:=Qj hy
 refine QiP (v:= .int .u8 y) ho hx hi ?_ hk
 obtain ⟨b,hb,rfl⟩:∃b,q[n.toNat]?=some b∧y=(b.toNat:Int):=by
  unfold QcJ at hget
  rw [X2,Xp] at hget
  obtain ⟨b,hb,rfl⟩:=hget
  refine ⟨b,?_,Z⟩
  have hl:=(Xj.1 hb).1
  rw [Array.getElem?_toList] at hb
  have hlt':n.toNat<q.size:=by rw [Array.length_toList] at hl;exact hl
  rw [getElem?_pos q n.toNat hlt', <-hb]
  obtain ⟨_,h2⟩:=Array.getElem?_eq_some_iff.1 hb
  rw [hb, <-h2]
  rfl
 simp only [Instr.index,asIntOf,Xe,Xg,Xd,Xk hT]
 rw [if_pos h0,hb]
 rfl
theorem St.freezeVar {α:Type} {E:Enc α} {b:Nat} {Te:TypeId} {cs:List Value} {y:α} (hS:St w0 s (.box b Te cs::H) w) (h:E.rep s cs y):∃t,Gc.le s t∧St w0 t H w∧At t b 0 E y:=by
 obtain ⟨bs,t,hp,hle,hbs,hS'⟩:=hS.freezeWith
 obtain ⟨rfl,hb⟩:=hp
 refine ⟨t,hle,hS',cs.toArray,Te,(0,0),by rw [hbs b (by simp),hb],?_⟩
 have h2:=E.mono hle h
 have hl:=E.len h
 simp only [List.drop_zero]
 rw [X9 (by omega)]
 exact h2
theorem DZ {fn:Fn} {caps:List Operand} {vs:List Value} (ho:o.op= .makeFunc fn #[] caps.toArray) (hc:List.map ρ caps=vs) (hk:K (.func fn #[] vs.toArray) w):Exec P ρ o w K:=by
 refine .of_run (v:= .func fn #[] vs.toArray) (w':=w) ?_ hk
 unfold execOp
 simp only [ho,Instr.makeFunc,Xe,Xg,Xd,XB,hc]
 rfl
theorem Qa1 {c:Operand} {f:FuncId} {fn:Func} {args:List Operand} {ts:Array TypeId} {vs cap all:List Value} (ho:o.op= .call { callee:= .value c,args:=args.toArray,argTypes:=ts }) (hc:ρ c= .func (.func f) #[] cap.toArray)
  (hf:P.funcs[f]?=some fn) (hb:fn.body.isNone=false) (hn:(fn.name == "runtime.NumGoroutine")=false) (hargs:List.map ρ args=vs) (hall:vs++cap=all)
  (h:Calls P f all.toArray w fun e w'=>∃v,e= .returned v∧K v w'):Exec P ρ o w K :=
 QkH ho hc hf hb hn hargs (by subst hall;simpa using h)
end
end Go.Pw
/- -/
namespace Go.Pw
section
variable {P:Program} {ρ:Operand->Value} {o:Oper} {w:World} {K:Value->World->Prop} {T T' E:TypeId} {x:Operand} {a:Option Addr} {n c:Nat}
end
end Go.Pw
/- -/
set_option linter.unusedVariables false
namespace Go.Pw
section
variable {P:Program} {ρ:Operand->Value} {o:Oper} {w w0:World} {s:Gc} {H:List Res} {K:Value->World->Prop} {T:TypeId}
theorem Qoq {α:Type} {E:Enc α} {y:α} {b off:Nat} (hT:Qam P T=some (E.agg,E.sz)) (h:At s b off E y) :
  ∃v,E.val s v y∧∀{w0 w':World} {s':Gc} {H':List Res},Gc.le s s'->St w0 s' H' w'->(Instr.loadAt T (.pointer (some ⟨b,off,none⟩))).run P w'= .ok v w':=by
 obtain ⟨c,Te,fz,h1,h2⟩:=h
 have hlen:=E.len h2
 have hcell:∀{w0 w':World} {s':Gc} {H':List Res},Gc.le s s'->St w0 s' H' w'->∀j v,((c.toList.drop off).take E.sz)[j]?=some v->w'.cell? ((⟨b,off,none⟩:Addr).add j)=some v:=by
  intro w0 w' s' H' hl hS j v hv
  rw [Addr.add_lit,Qa2 hS (hl _ _ h1)]
  rw [Xo] at hv
  split at hv
  ·rw [Xu] at hv
   simpa using hv
  ·cases hv
 cases hag:E.agg with
 | true =>
  refine ⟨.agg ((c.toList.drop off).take E.sz).toArray,?_,fun {w0 w' s' H'} hl hS=>?_⟩
  ·unfold Enc.val
   rw [if_pos hag]
   exact ⟨_,Z,by simpa using h2⟩
  ·have hrun:=Yz (P:=P) (w:=w') (a:=⟨b,off,none⟩) (cs:=(c.toList.drop off).take E.sz) (by rw [hlen, <-hag];exact hT) (hcell hl hS)
   simp only [Instr.loadAt,Instr.sureAddr,Xe,Xg,Xd,hrun]
 | false =>
  have h1':=E.single hag
  rw [h1'] at h2 hlen
  obtain ⟨v,hv⟩:∃v,(c.toList.drop off).take 1=[v]:=by
   match hq:(c.toList.drop off).take 1,hlen with
   |[v],_=>exact ⟨v,rfl⟩
  refine ⟨v,?_,fun {w0 w' s' H'} hl hS=>?_⟩
  ·unfold Enc.val
   rw [if_neg (by simp [hag])]
   rw [<-hv];exact h2
  ·have hc0:=hcell hl hS 0 v (by rw [h1',hv];rfl)
   have hc0':w'.cell? (⟨b,off,none⟩:Addr)=some v:=by simpa [Addr.add] using hc0
   have hrun:=YX (P:=P) (w:=w') (T:=T) (n:=E.sz) (by rw [<-hag];exact hT) hc0'
   simp only [Instr.loadAt,Instr.sureAddr,Xe,Xg,Xd,hrun]
theorem Qll {α:Type} {E:Enc α} {y:α} {x:Operand} {b off n:Nat} (hS:St w0 s H w) (hT:Qam P T=some (E.agg,E.sz)) (ho:o.op= .load T x) (hx:ρ x= .pointer (some ⟨b,off,none⟩)) (hn:off=n)
  (h:At s b n E y) (hk:∀v,E.val s v y->(∀{w0 w':World} {s':Gc} {H':List Res},Gc.le s s'->St w0 s' H' w'->(Instr.loadAt T (.pointer (some ⟨b,off,none⟩))).run P w'= .ok v w')->K v w):Exec P ρ o w K:=by
 subst hn
 obtain ⟨v,h1,h2⟩:=Qoq (P:=P) hT h
 refine .of_run (v:=v) ?_ (hk v h1 h2)
 unfold execOp
 simp only [ho,hx,Xe,h2 (Zv _) hS,Xd,Xg]
theorem QgK {x:Operand} {u v:Value} (ho:o.op= .load T x) (hx:ρ x=u) (h:(Instr.loadAt T u).run P w= .ok v w) (hk:K v w):Exec P ρ o w K:=by
 refine .of_run (v:=v) ?_ hk
 unfold execOp
 simp only [ho,hx,Xe,h,Xd,Xg]
end
end Go.Pw
/- -/
namespace Go.Pw
section
variable {P:Program} {ρ:Operand->Value} {o:Oper} {w w0:World} {K:Value->World->Prop} {T:TypeId} {s:Gc} {H:List Res}
end
end Go.Pw
/- -/
namespace Go.Pw
def Qql (Zq:List Nat) (n0:Nat) (ops:List Oper) (i:Nat):Bool:=isQ n0 ops i && !Zq.contains i
def Qwp (Zq:List Nat) (n0:Nat) (ops:List Oper) (i:Nat) (o:Oper) (u:Nat):Bool:=((List.range n0).all fun k=>!Qcz ops k u ||(!Qql Zq n0 ops k && (match ops[k]? with |some ok=>(deps ok).contains i |none=>false))) ||(deps o).any fun k=>Nat.blt k n0 && Qcz ops k u
def Qki (Zq:List Nat) (n0:Nat) (ops:List Oper) (i:Nat) (o:Oper):Bool :=
 (o.op.operands.toList.all fun x=>match x with | .tmp u=>Qwp Zq n0 ops i o u |_=>true) && (match o.guard with |some (j,_)=>(deps o).contains j && Nat.blt j n0 |none=>true) && Qr9 o
def Qs9 (Zq:List Nat) (n0:Nat) (ops:List Oper) (T:List (List Nat)) (nx qd ed:List Nat):Bool :=
 (List.range n0).all fun i=>qd.contains i ||ed.contains i ||nx.contains i ||(QgE T i).any fun j=>!Qql Zq n0 ops j && !qd.contains j && !ed.contains j
def Qhz (Zq:List Nat) (n0:Nat) (ops:List Oper) (T:List (List Nat)):GK->Option (List Nat)->List Nat->List Nat->Bool
 | .done,nx,qd,ed=>nx.isNone && (List.range n0).all fun i=>qd.contains i ||ed.contains i
 | .q i r,nx,qd,ed=>nx.isNone && Nat.blt i n0 && (match ops[i]? with
  |some o=>Qql Zq n0 ops i && QdS o && !qd.contains i && ((deps o).all fun j=>qd.contains j ||ed.contains j) && Qki Zq n0 ops i o
  |none=>false) && Qhz Zq n0 ops T r none (i::qd) ed
 | .e i ag r,nx,qd,ed=>Nat.blt i n0 && (match ops[i]? with
  |some o=>!Qql Zq n0 ops i && !ed.contains i && ((deps o).all fun j=>qd.contains j ||ed.contains j) && Qki Zq n0 ops i o
  |none=>false) && Qs9 Zq n0 ops T (nx.getD [i]) qd ed && (qd.all fun j=>ag.contains j ||(QgE T i).contains j ||ed.any fun k=>(QgE T k).contains j) && Qhz Zq n0 ops T r none qd (i::ed)
 | .alt p q,nx,qd,ed=>Qhz Zq n0 ops T p (some (nx.getD (YU p++YU q))) qd ed && Qhz Zq n0 ops T q (some (nx.getD (YU p++YU q))) qd ed
structure CanonZ (Zq:List Nat) (P:Program) (n0:Nat) (ops:List Oper) (T:List (List Nat)) (K:Fr->World->Prop) (p:GK) (gk:Fr) (w:World) (qd ed:List Nat) (dn:Nat->Bool):Prop where
 ok:Qhz Zq n0 ops T p none qd ed=true
 dl:DL P ops K p gk w
 nq:∀i ∈ qd,i<n0∧Qql Zq n0 ops i=true∧∃o,ops[i]?=some o∧QdS o=true∧Qki Zq n0 ops i o=true∧∀j ∈ deps o,j ∈ qd∨j ∈ ed
 ne:∀i ∈ ed,i<n0∧Qql Zq n0 ops i=false
 ag:∀i ∈ qd,dn i=false->Jm P ops gk w i
section
variable {P:Program} {n0:Nat} {ops:List Oper} {T:List (List Nat)} {K:Fr->World->Prop} {gk:Fr} {w:World} {qd ed:List Nat}
end
section
variable {P:Program} {N:Nat} {Q:QbB} {f:Fr} {w:World}
end
end Go.Pw
/- -/
namespace Go.Pw
section
variable {P:Program} {ρ:Operand->Value} {o:Oper} {w:World} {K:Value->World->Prop} {T T' I:TypeId} {x y:Operand} {e:Option Int} {b:Int} {ms:Array (String×TypeId)}
def Qr2 (P:Program) (T:TypeId):Prop:=(P.info? T).map (·.comparable)=some true∧P.underlying T=some (.int .i64)
theorem QiY (w:World) (d:Nat) (hI:P.underlying I=some (.interface ms)) (hT:Qr2 P T) (e:Option Int) (b:Int) :
  (Op.equalIn (d+2) I (K8 T e) (K8 T (some b))).run P w= .ok (decide (e=some b)) w:=by
 obtain ⟨h1,h2⟩:=hT
 obtain ⟨i,hi,hc⟩:=Xp.1 h1
 cases e with
 |none=>simp [Op.equalIn,Xk hI,K8]
 | some a =>
  have hin:(Op.equalIn (d+1) T (.int .i64 a) (.int .i64 b)).run P w= .ok (a == b) w:=by
   simp [Op.equalIn,Xk h2]
  rw [Op.equalIn]
  simp [Xk hI,K8,typeInfo,hi,hc,hin,Result.andThen]
  by_cases c:a=b <;> simp [c]
theorem QmD (w:World) (op:BinOp) (I:TypeId) (x y:Operand) (e:Option Int) (b:Int):(eqGuard op I x y (K8 T e) (K8 T (some b))).run P w= .ok () w:=by
 cases op <;> cases e <;> simp [eqGuard,K8,go_sem]
theorem Qok (w:World) (hI:P.underlying I=some (.interface ms)) (hT:Qr2 P T) (e:Option Int) (b:Int):(binOp .eql I (K8 T e) (K8 T (some b))).run P w= .ok (.bool (decide (e=some b))) w:=by
 have h1:(Op.equal I (K8 T e) (K8 T (some b))).run P w= .ok (decide (e=some b)) w:=QiY w 9998 hI hT e b
 have h2:binOp .eql I (K8 T e) (K8 T (some b))=(do pure (.bool (<-Op.equal I (K8 T e) (K8 T (some b))))):=by cases e <;> rfl
 rw [h2,Xe,h1];rfl
theorem Qcp (hI:P.underlying I=some (.interface ms)) (hT:Qr2 P T) (ho:o.op= .binOp .eql I x y T') (hx:ρ x=K8 T e) (hy:ρ y=K8 T (some b)) (hk:K (.bool (decide (e=some b))) w):Exec P ρ o w K :=
 Qaa (op:= .eql) (a:=K8 T e) (b:=K8 T (some b)) ho hx hy (QmD w _ _ _ _ e b) (Qok w hI hT e b) hk
end
end Go.Pw
/- -/
namespace Go.Pw
abbrev Cs {α:Type} (P:Program) (n:FuncId) (args:Array Value) (w:World) (r:α) (Q:Value->World->α->Prop):Prop:=Calls P n args w fun e w'=>∃v,e= .returned v∧Q v w' r
abbrev Cv {α:Type} (P:Program) (n:FuncId) (args:Array Value) (w0 w:World) (s:Gc) (H:List Res) (r:α) (val:α->Value):Prop:=Calls P n args w fun e w'=>∃v,e= .returned v∧∃s',Gc.le s s'∧St w0 s' H w'∧v=val r
section
variable {P:Program} {N:Nat} {Q:Exit->Fr->World->Prop} {f:Fr} {w:World}
theorem Jn {S R:Type} {B:Nat->S->Option (Ctl S R)} {n id:Nat} {s0:S} {res:Ctl S R} {c:Code} (I:Nat->S->Fr->World->Prop) (hB:Jf B n 0 s0=some res) (h0:I 0 s0 f w)
    (hround:∀i s c' f w,i<n->I i s f w->B i s=some c'->((∀s',c'≠ .next s')->res=c')->W P N c (andThen (fun f w=>∃s',c'= .next s'∧I (i+1) s' f w) (QaB id (andThen (fun f w=>∃k s',(res= .next s'∨res= .brk s')∧I k s' f w) Q))) f w)
    (hend:∀s f w,I n s f w->res= .next s->W P N c (andThen (fun _ _=>False) (QaB id (andThen (fun f w=>∃k s',(res= .next s'∨res= .brk s')∧I k s' f w) Q))) f w)
    (h2:∀f w,(∃k s',(res= .next s'∨res= .brk s')∧I k s' f w)->Q .normal f w):W P N (.block id (.loop c)) Q f w :=
  QL _ (QaU (QwL I hB h0 hround hend)) h2
theorem QeQ {S R:Type} {B:S->Option (Ctl S R)} {id:Nat} {s0:S} {res:Ctl S R} {c:Code} (I:S->Fr->World->Prop) (hB:Yw B s0=some res) (h0:I s0 f w)
    (hround:∀s c' f w,I s f w->B s=some c'->((∀s',c'≠ .next s')->res=c')->W P N c (andThen (fun f w=>∃s',c'= .next s'∧I s' f w) (QaB id (andThen (fun f w=>∃s',(res= .next s'∨res= .brk s')∧I s' f w) Q))) f w)
    (h2:∀f w,(∃s',(res= .next s'∨res= .brk s')∧I s' f w)->Q .normal f w):W P N (.block id (.loop c)) Q f w :=
  QL _ (QaU (QuS I hB h0 hround)) h2
theorem QT {id n0:Nat} {ops:List Oper} (p:GK) (hm:P.follows .mixedOrders=true) (h:DL P ops (fun g w'=>WL P N ops.toArray Q (ops.drop n0) g w') p f w.drew) (hok:QcI N n0 ops=true:=by kernel_rfl) (hp:Qwg n0 ops p=true:=by kernel_rfl) :
    W P N (.region id ops.toArray true) Q f w:=Qy4 p hm hok hp h
end
section
variable {P:Program} {ρ:Operand->Value} {o:Oper} {w w0:World} {s:Gc} {H:List Res} {K:Value->World->Prop} {T:TypeId}
theorem Qt {Te n:Nat} {parts:List (Nat×Operand)} {pcs:List (Nat×List Value)} {cs:List Value} (hS:St w0 s H w) (ho:o.op= .buildSlice T n parts.toArray) (hps:Qem ρ parts pcs)
    (hk:∀b w',St w0 s (.box b Te cs::H) w'->K (.slice (some ⟨b,0,none⟩) n n) w') (hrun:∀w:World,(Instr.buildSlice T n (Qqp pcs).toArray).run P w= .ok (.slice (some ⟨w.heap.size,0,none⟩) n n) (w.alloc (.cells cs.toArray Te)):=by intro _;kernel_rfl):Exec P ρ o w K :=
  DU hS ho hps hrun hk
theorem Q2 {parts:List (Nat×Operand)} {pcs:List (Nat×List Value)} {v:Value} (ho:o.op= .build T parts.toArray) (hps:Qem ρ parts pcs) (hk:K v w)
    (hrun:∀w:World,(Instr.build T (Qqp pcs).toArray).run P w= .ok v w:=by intro _;kernel_rfl):Exec P ρ o w K:=DW ho hps hrun hk
def QxC:Op->Nat×Nat
  | .call { callee:= .value (.func f),args:=_,argTypes:=_ }=>(1,f)
  | .build T _=>(2,T)
  | .buildSlice T _ _=>(3,T)
  | .alloc T=>(4,T)
  | .makeSlice _ _ _=>(5,0)
  | .store T _ _=>(6,T)
  | .call _=>(7,0)
  |_=>(0,0)
theorem Qcg (k l:Nat) (ho:QxC o.op=(k,l)) (h:Exec P ρ o w K):Exec P ρ o w K:=h
end
section
variable {P:Program} {ops:List Oper} {f:Fr} {w:World} {ag:List Nat}
theorem agb (h:∀j ∈ ag,Jm P ops f w j:=by
    repeat (first
      |exact K7
      | (refine Qm ?_ ?_
         first
         |exact Qx1 rfl rfl rfl rfl
         | (refine Q8 rfl rfl ?_
            first
            |exact Xq rfl ⟨rfl,rfl⟩
            |exact Qmk rfl rfl rfl ⟨rfl,rfl⟩
            |exact Xlb rfl rfl (by apply Qmh;assumption;infer_instance;rfl) ⟨rfl,rfl⟩
            |exact QtP rfl rfl (by apply Qj0;assumption;infer_instance;rfl;rfl) ⟨rfl,rfl⟩
            |exact QtO rfl rfl (by assumption) ⟨rfl,rfl⟩
            |exact J3 rfl rfl rfl (by assumption) ⟨rfl,rfl⟩
            |exact Q2 rfl (Qb (Qd rfl rfl) Qg) ⟨rfl,rfl⟩
            |exact Q2 rfl (Qb (Qd rfl rfl) (Qb (Qd rfl rfl) Qg)) ⟨rfl,rfl⟩)))):∀j ∈ ag,Jm P ops f w j:=h
end
end Go.Pw
