/- -/
import GoSem.Dispatch
namespace Go.Pw
noncomputable section
/-! ### eight by eight -/
inductive D8 where
 |d0 |d1 |d2 |d3 |d4 |d5 |d6 |d7
structure N8E (α:Type) where
 c0:α
 c1:α
 c2:α
 c3:α
 c4:α
 c5:α
 c6:α
 c7:α
def D8.no (d:D8):Nat:=@D8.rec (fun _=>Nat) 0 1 2 3 4 5 6 7 d
def Yr:Nat->D8
 |0=> .d0 |1=> .d1 |2=> .d2 |3=> .d3 |4=> .d4 |5=> .d5 |6=> .d6 |_=> .d7
def D8.nx {T:Type} (d:D8) (ok:D8->T) (carry:T):T:=@D8.rec (fun _=>T) (ok .d1) (ok .d2) (ok .d3) (ok .d4) (ok .d5) (ok .d6) (ok .d7) carry d
namespace N8E
variable {α:Type}
def u0 (f:α->α) (t:N8E α):N8E α:=@N8E.rec α (fun _=>N8E α) (fun c0 c1 c2 c3 c4 c5 c6 c7=>⟨f c0,c1,c2,c3,c4,c5,c6,c7⟩) t
def u1 (f:α->α) (t:N8E α):N8E α:=@N8E.rec α (fun _=>N8E α) (fun c0 c1 c2 c3 c4 c5 c6 c7=>⟨c0,f c1,c2,c3,c4,c5,c6,c7⟩) t
def u2 (f:α->α) (t:N8E α):N8E α:=@N8E.rec α (fun _=>N8E α) (fun c0 c1 c2 c3 c4 c5 c6 c7=>⟨c0,c1,f c2,c3,c4,c5,c6,c7⟩) t
def u3 (f:α->α) (t:N8E α):N8E α:=@N8E.rec α (fun _=>N8E α) (fun c0 c1 c2 c3 c4 c5 c6 c7=>⟨c0,c1,c2,f c3,c4,c5,c6,c7⟩) t
def u4 (f:α->α) (t:N8E α):N8E α:=@N8E.rec α (fun _=>N8E α) (fun c0 c1 c2 c3 c4 c5 c6 c7=>⟨c0,c1,c2,c3,f c4,c5,c6,c7⟩) t
def u5 (f:α->α) (t:N8E α):N8E α:=@N8E.rec α (fun _=>N8E α) (fun c0 c1 c2 c3 c4 c5 c6 c7=>⟨c0,c1,c2,c3,c4,f c5,c6,c7⟩) t
def u6 (f:α->α) (t:N8E α):N8E α:=@N8E.rec α (fun _=>N8E α) (fun c0 c1 c2 c3 c4 c5 c6 c7=>⟨c0,c1,c2,c3,c4,c5,f c6,c7⟩) t
def u7 (f:α->α) (t:N8E α):N8E α:=@N8E.rec α (fun _=>N8E α) (fun c0 c1 c2 c3 c4 c5 c6 c7=>⟨c0,c1,c2,c3,c4,c5,c6,f c7⟩) t
def sel (d:D8):N8E α->α:=@D8.rec (fun _=>N8E α->α) c0 c1 c2 c3 c4 c5 c6 c7 d
def upd (d:D8):(α->α)->N8E α->N8E α:=@D8.rec (fun _=>(α->α)->N8E α->N8E α) u0 u1 u2 u3 u4 u5 u6 u7 d
def selC {R:Type} (d:D8) (k:(N8E α->α)->R):R:=@D8.rec (fun _=>R) (k c0) (k c1) (k c2) (k c3) (k c4) (k c5) (k c6) (k c7) d
def updC {R:Type} (d:D8) (k:((α->α)->N8E α->N8E α)->R):R:=@D8.rec (fun _=>R) (k u0) (k u1) (k u2) (k u3) (k u4) (k u5) (k u6) (k u7) d
def all (x:α):N8E α:=⟨x,x,x,x,x,x,x,x⟩
end N8E
structure Id where
 a:D8
 b:D8
 c:D8
 d:D8
 e:D8
inductive AV where
 |un
 |b (x:Bool)
 |n (x:Nat)
 |c (x:Nat)
 |i (k:IntKind) (n:Int)
 |s (l:List Nat)
 |pn
 |p (k:Id) (off:Nat)
 |sn
 |sl (k:Id) (off len sz:Nat) (cap:Option Nat)
 |mn
 |m (k:Id)
 |nf
 |fn (f:Nat) (a c:List AV)
 |nif
 |ifc (t:Nat) (v:AV)
 |agg (cs:List AV)
 |tup (cs:List AV)
structure Sl where
 k:Id
 off:Nat
 len:Nat
 sz:Nat
 cap:Option Nat
structure Fv where
 f:Nat
 a:List AV
 c:List AV
def QiS (v:AV):Option Bool:=@AV.rec (fun _=>Option Bool) (fun _=>Unit) none (fun x=>some x) (fun _=>none) (fun _=>none) (fun _ _=>none) (fun _=>none) none (fun _ _=>none) none (fun _ _ _ _ _=>none) none (fun _=>none) none (fun _ _ _ _ _=>none) none (fun _ _ _=>none) (fun _ _=>none) (fun _ _=>none) () (fun _ _ _ _=>()) v
def Qf5 (v:AV):Option Nat:=@AV.rec (fun _=>Option Nat) (fun _=>Unit) none (fun _=>none) (fun x=>some x) (fun _=>none) (fun _ _=>none) (fun _=>none) none (fun _ _=>none) none (fun _ _ _ _ _=>none) none (fun _=>none) none (fun _ _ _ _ _=>none) none (fun _ _ _=>none) (fun _ _=>none) (fun _ _=>none) () (fun _ _ _ _=>()) v
def Qqm (v:AV):Option Nat:=@AV.rec (fun _=>Option Nat) (fun _=>Unit) none (fun _=>none) (fun x=>some x) (fun x=>some x) (fun _ _=>none) (fun _=>none) none (fun _ _=>none) none (fun _ _ _ _ _=>none) none (fun _=>none) none (fun _ _ _ _ _=>none) none (fun _ _ _=>none) (fun _ _=>none) (fun _ _=>none) () (fun _ _ _ _=>()) v
def QkZ (v:AV):Option Nat:=@AV.rec (fun _=>Option Nat) (fun _=>Unit) none (fun _=>none) (fun _=>none) (fun x=>some x) (fun _ _=>none) (fun _=>none) none (fun _ _=>none) none (fun _ _ _ _ _=>none) none (fun _=>none) none (fun _ _ _ _ _=>none) none (fun _ _ _=>none) (fun _ _=>none) (fun _ _=>none) () (fun _ _ _ _=>()) v
def QtK (v:AV):Option (IntKind×Int):=@AV.rec (fun _=>Option (IntKind×Int)) (fun _=>Unit) none (fun _=>none) (fun x=>some (.i64, .ofNat x)) (fun x=>some (.u8, .ofNat x)) (fun k n=>some (k,n)) (fun _=>none) none (fun _ _=>none) none (fun _ _ _ _ _=>none) none (fun _=>none) none (fun _ _ _ _ _=>none) none (fun _ _ _=>none) (fun _ _=>none) (fun _ _=>none) () (fun _ _ _ _=>()) v
def Qc0 (v:AV):Option (List Nat):=@AV.rec (fun _=>Option (List Nat)) (fun _=>Unit) none (fun _=>none) (fun _=>none) (fun _=>none) (fun _ _=>none) (fun l=>some l) none (fun _ _=>none) none (fun _ _ _ _ _=>none) none (fun _=>none) none (fun _ _ _ _ _=>none) none (fun _ _ _=>none) (fun _ _=>none) (fun _ _=>none) () (fun _ _ _ _=>()) v
def Qg6 (v:AV):Option (Id×Nat):=@AV.rec (fun _=>Option (Id×Nat)) (fun _=>Unit) none (fun _=>none) (fun _=>none) (fun _=>none) (fun _ _=>none) (fun _=>none) none (fun k o=>some (k,o)) none (fun _ _ _ _ _=>none) none (fun _=>none) none (fun _ _ _ _ _=>none) none (fun _ _ _=>none) (fun _ _=>none) (fun _ _=>none) () (fun _ _ _ _=>()) v
def QcO (v:AV):Option Sl:=@AV.rec (fun _=>Option Sl) (fun _=>Unit) none (fun _=>none) (fun _=>none) (fun _=>none) (fun _ _=>none) (fun _=>none) none (fun _ _=>none) none (fun k o l z c=>some ⟨k,o,l,z,c⟩) none (fun _=>none) none (fun _ _ _ _ _=>none) none (fun _ _ _=>none) (fun _ _=>none) (fun _ _=>none) () (fun _ _ _ _=>()) v
def Qrv (v:AV):Option Id:=@AV.rec (fun _=>Option Id) (fun _=>Unit) none (fun _=>none) (fun _=>none) (fun _=>none) (fun _ _=>none) (fun _=>none) none (fun _ _=>none) none (fun _ _ _ _ _=>none) none (fun k=>some k) none (fun _ _ _ _ _=>none) none (fun _ _ _=>none) (fun _ _=>none) (fun _ _=>none) () (fun _ _ _ _=>()) v
def Qp0 (v:AV):Option Fv:=@AV.rec (fun _=>Option Fv) (fun _=>Unit) none (fun _=>none) (fun _=>none) (fun _=>none) (fun _ _=>none) (fun _=>none) none (fun _ _=>none) none (fun _ _ _ _ _=>none) none (fun _=>none) none (fun f a c _ _=>some ⟨f,a,c⟩) none (fun _ _ _=>none) (fun _ _=>none) (fun _ _=>none) () (fun _ _ _ _=>()) v
def QjS (v:AV):Option (List AV):=@AV.rec (fun _=>Option (List AV)) (fun _=>Unit) none (fun _=>none) (fun _=>none) (fun _=>none) (fun _ _=>none) (fun _=>none) none (fun _ _=>none) none (fun _ _ _ _ _=>none) none (fun _=>none) none (fun _ _ _ _ _=>none) none (fun _ _ _=>none) (fun l _=>some l) (fun _ _=>none) () (fun _ _ _ _=>()) v
def Qme (v:AV):Option (List AV):=@AV.rec (fun _=>Option (List AV)) (fun _=>Unit) none (fun _=>none) (fun _=>none) (fun _=>none) (fun _ _=>none) (fun _=>none) none (fun _ _=>none) none (fun _ _ _ _ _=>none) none (fun _=>none) none (fun _ _ _ _ _=>none) none (fun _ _ _=>none) (fun _ _=>none) (fun l _=>some l) () (fun _ _ _ _=>()) v
def QeM (v:AV):Bool:=@AV.rec (fun _=>Bool) (fun _=>Unit) false (fun _=>false) (fun _=>false) (fun _=>false) (fun _ _=>false) (fun _=>false) false (fun _ _=>false) true (fun _ _ _ _ _=>false) false (fun _=>false) false (fun _ _ _ _ _=>false) false (fun _ _ _=>false) (fun _ _=>false) (fun _ _=>false) () (fun _ _ _ _=>()) v
def QtI (v:AV):Bool:=@AV.rec (fun _=>Bool) (fun _=>Unit) false (fun _=>false) (fun _=>false) (fun _=>false) (fun _ _=>false) (fun _=>false) false (fun _ _=>false) false (fun _ _ _ _ _=>false) true (fun _=>false) false (fun _ _ _ _ _=>false) false (fun _ _ _=>false) (fun _ _=>false) (fun _ _=>false) () (fun _ _ _ _=>()) v
def Qlw (v:AV):Bool:=@AV.rec (fun _=>Bool) (fun _=>Unit) false (fun _=>false) (fun _=>false) (fun _=>false) (fun _ _=>false) (fun _=>false) false (fun _ _=>false) false (fun _ _ _ _ _=>false) false (fun _=>false) false (fun _ _ _ _ _=>false) true (fun _ _ _=>false) (fun _ _=>false) (fun _ _=>false) () (fun _ _ _ _=>()) v
def QrJ (v:AV):Bool:=@AV.rec (fun _=>Bool) (fun _=>Unit) false (fun _=>false) (fun _=>false) (fun _=>false) (fun _ _=>false) (fun _=>false) false (fun _ _=>false) false (fun _ _ _ _ _=>false) false (fun _=>false) false (fun _ _ _ _ _=>false) false (fun _ _ _=>true) (fun _ _=>false) (fun _ _=>false) () (fun _ _ _ _=>()) v
def Qrt (v:AV):Bool:=@AV.rec (fun _=>Bool) (fun _=>Unit) true (fun _=>false) (fun _=>false) (fun _=>false) (fun _ _=>false) (fun _=>false) false (fun _ _=>false) false (fun _ _ _ _ _=>false) false (fun _=>false) false (fun _ _ _ _ _=>false) false (fun _ _ _=>false) (fun _ _=>false) (fun _ _=>false) () (fun _ _ _ _=>()) v
def Qxj (v:AV):Option AV:=@AV.rec (fun _=>Option AV) (fun _=>Unit) none (fun _=>none) (fun _=>none) (fun _=>none) (fun _ _=>none) (fun _=>none) none (fun k o=>some (.p k o)) none (fun _ _ _ _ _=>none) none (fun _=>none) none (fun f a c _ _=>some (.fn f a c)) none (fun t v _=>some (.ifc t v)) (fun _ _=>none) (fun _ _=>none) () (fun _ _ _ _=>()) v
def QtE (v:AV):Bool:=@AV.rec (fun _=>Bool) (fun _=>Unit) false (fun _=>true) (fun _=>true) (fun _=>true) (fun _ _=>true) (fun _=>true) true (fun _ _=>true) true (fun _ _ _ _ _=>true) true (fun _=>true) true (fun _ _ _ _ _=>true) true (fun _ _ _=>true) (fun _ _=>false) (fun _ _=>false) () (fun _ _ _ _=>()) v
def QbQ (v:AV):Option (List AV):=@AV.rec (fun _=>Option (List AV)) (fun _=>Unit) none (fun x=>some [.b x]) (fun x=>some [.n x]) (fun x=>some [.c x]) (fun k n=>some [.i k n]) (fun l=>some [.s l]) (some [.pn]) (fun k o=>some [.p k o]) (some [.sn]) (fun k o l z c=>some [.sl k o l z c]) (some [.mn]) (fun k=>some [.m k]) (some [.nf]) (fun f a c _ _=>some [.fn f a c]) (some [.nif]) (fun t v _=>some [.ifc t v]) (fun l _=>some l) (fun _ _=>none) () (fun _ _ _ _=>()) v
def inc (k:Id):Id:=@Id.rec (fun _=>Id) (fun a b c d e=>D8.nx e (fun e=>⟨a,b,c,d,e⟩) (D8.nx d (fun d=>⟨a,b,c,d, .d0⟩) (D8.nx c (fun c=>⟨a,b,c, .d0, .d0⟩) (D8.nx b (fun b=>⟨a,b, .d0, .d0, .d0⟩) (D8.nx a (fun a=>⟨a, .d0, .d0, .d0, .d0⟩) k))))) k
def Yv (n:Nat) (k:Id):Id:=@Nat.rec (fun _=>Id) k (fun _ ih=>inc ih) n
def QgA (k:Id):Bool:=@D8.rec (fun _=>Bool) true true true true true true true false k.a
/-! ### lists -/
section
variable {α β:Type}
def hdO (l:List α):Option α:=@List.rec α (fun _=>Option α) none (fun x _ _=>some x) l
def tl (l:List α):List α:=@List.rec α (fun _=>List α) [] (fun _ t _=>t) l
def nth (n:Nat):List α->Option α:=@Nat.rec (fun _=>List α->Option α) hdO (fun _ ih l=>ih (tl l)) n
def QcP (n:Nat):List α->List α:=@Nat.rec (fun _=>List α->List α) (fun l=>l) (fun _ ih l=>ih (tl l)) n
def Qx9 (ih:List α->List α) (l:List α):List α:=@List.rec α (fun _=>List α) [] (fun x t _=>x::ih t) l
def Qbc (n:Nat):List α->List α:=@Nat.rec (fun _=>List α->List α) (fun _=>[]) (fun _ ih=>Qx9 ih) n
def geS (ih:List α->Bool) (l:List α):Bool:=@List.rec α (fun _=>Bool) false (fun _ t _=>ih t) l
def Qch (n:Nat):List α->Bool:=@Nat.rec (fun _=>List α->Bool) (fun _=>true) (fun _ ih=>geS ih) n
def Qlv (l:List α):Bool:=@List.rec α (fun _=>Bool) true (fun _ _ _=>false) l
def Qyu (ih:List α->Bool) (l:List α):Bool:=@List.rec α (fun _=>Bool) false (fun _ t _=>ih t) l
def QbY (n:Nat):List α->Bool:=@Nat.rec (fun _=>List α->Bool) Qlv (fun _ ih=>Qyu ih) n
def Qej (l:List α):Nat:=@List.rec α (fun _=>Nat) 0 (fun _ _ ih=>Nat.succ ih) l
def Qhq (l m:List α):List α:=@List.rec α (fun _=>List α) m (fun x _ ih=>x::ih) l
def QjE (vs:List α):List α->List α:=@List.rec α (fun _=>List α->List α) (fun cs=>cs) (fun v _ ih cs=>v::ih (tl cs)) vs
def QxB (ih:List α->List α) (l:List α):List α:=@List.rec α (fun _=>List α) [] (fun x t _=>x::ih t) l
def over (off:Nat) (vs:List α):List α->List α:=@Nat.rec (fun _=>List α->List α) (QjE vs) (fun _ ih=>QxB ih) off
def Qxm (f:α->Bool) (l:List α):Bool:=@List.rec α (fun _=>Bool) false (fun x _ ih=>@Bool.rec (fun _=>Bool) ih true (f x)) l
def QmW (f:α->Bool) (l:List α):Bool:=@List.rec α (fun _=>Bool) true (fun x _ ih=>@Bool.rec (fun _=>Bool) false ih (f x)) l
def Qrr (f:α->β) (l:List α):List β:=@List.rec α (fun _=>List β) [] (fun x _ ih=>f x::ih) l
def ob (o:Option α) (f:α->Option β):Option β:=@Option.rec α (fun _=>Option β) none f o
def orE (o:Option α) (d:Option β) (f:α->Option β):Option β:=@Option.rec α (fun _=>Option β) d f o
def Kk {T:Type} (b:Bool) (x y:T):T:=@Bool.rec (fun _=>T) y x b
end
def eqS (a:Nat) (ih:List Nat->Bool) (m:List Nat):Bool:=@List.rec Nat (fun _=>Bool) false (fun b t _=>@Bool.rec (fun _=>Bool) false (ih t) (Nat.beq a b)) m
def eqL (l:List Nat):List Nat->Bool:=@List.rec Nat (fun _=>List Nat->Bool) Qlv (fun a _ ih=>eqS a ih) l
def QbO (a b:Bool):Bool:=@Bool.rec (fun _=>Bool) false b a
def eqD (x y:D8):Bool:=Nat.beq x.no y.no
def QiT (x y:Id):Bool:=QbO (eqD x.e y.e) (QbO (eqD x.d y.d) (QbO (eqD x.c y.c) (QbO (eqD x.b y.b) (eqD x.a y.a))))
/-! ### memory -/
inductive AB where
 |cells (cs:List AV) (top:Bool) (al:List Id) (hy:Option TypeId)
 |map (es:List (AV×AV))
 |iter (s:List Nat) (pos:Nat)
structure CsE where
 cs:List AV
 top:Bool
 al:List Id
 hy:Option TypeId
abbrev HT:=N8E (N8E (N8E (N8E (N8E (Option AB)))))
structure AH where
 next:Id
 blk:HT
def hget (k:Id) (t:HT):Option AB:=@Id.rec (fun _=>Option AB) (fun a b c d e=>N8E.sel e (N8E.sel d (N8E.sel c (N8E.sel b (N8E.sel a t))))) k
def QlQ (x:Option AB) (k:Id) (t:HT):HT:=@Id.rec (fun _=>HT) (fun a b c d e=>N8E.upd a (N8E.upd b (N8E.upd c (N8E.upd d (N8E.upd e (fun _=>x))))) t) k
def Qwc:HT:=N8E.all (N8E.all (N8E.all (N8E.all (N8E.all none))))
abbrev Fr2:=N8E (N8E AV)
abbrev AF:=N8E Fr2
def Dp:AF:=N8E.all (N8E.all (N8E.all .un))
structure G3 where
 f1:AF->Fr2
 f2:Fr2->N8E AV
 f3:N8E AV->AV
structure U3 where
 u1:(Fr2->Fr2)->AF->AF
 u2:(N8E AV->N8E AV)->Fr2->Fr2
 u3:(AV->AV)->N8E AV->N8E AV
def g3 (n:Nat):G3:=N8E.selC (Yr (n / 64)) fun f1=>N8E.selC (Yr (n / 8 % 8)) fun f2=>N8E.selC (Yr (n % 8)) fun f3=>⟨f1,f2,f3⟩
def u3 (n:Nat):U3:=N8E.updC (Yr (n / 64)) fun u1=>N8E.updC (Yr (n / 8 % 8)) fun u2=>N8E.updC (Yr (n % 8)) fun u3=>⟨u1,u2,u3⟩
def AF.at (F:AF) (g:G3):AV:=@G3.rec (fun _=>AV) (fun f1 f2 f3=>f3 (f2 (f1 F))) g
def AF.set (F:AF) (u:U3) (v:AV):AF:=@U3.rec (fun _=>AF) (fun u1 u2 u3=>u1 (u2 (u3 fun _=>v)) F) u
def AF.put (F:AF) (d:Option U3) (v:AV):AF:=@Option.rec U3 (fun _=>AF) F (fun u=>AF.set F u v) d
def QrK (b:AB):Option CsE:=@AB.rec (fun _=>Option CsE) (fun cs t al hy=>some ⟨cs,t,al,hy⟩) (fun _=>none) (fun _ _=>none) b
def Qv2 (b:AB):Option (List (AV×AV)):=@AB.rec (fun _=>Option (List (AV×AV))) (fun _ _ _ _=>none) some (fun _ _=>none) b
def QxK (b:AB):Option (List Nat×Nat):=@AB.rec (fun _=>Option (List Nat×Nat)) (fun _ _ _ _=>none) (fun _=>none) (fun s p=>some (s,p)) b
def AH.put (h:AH) (k:Id) (b:AB):AH:=@AH.rec (fun _=>AH) (fun n t=>⟨n,QlQ (some b) k t⟩) h
def AH.kill (h:AH) (k:Id):AH:=@AH.rec (fun _=>AH) (fun n t=>⟨n,QlQ none k t⟩) h
def AH.add (h:AH) (b:AB):AH:=@AH.rec (fun _=>AH) (fun n t=>⟨inc n,QlQ (some b) n t⟩) h
def AH.kills (h:AH) (l:List Id):AH:=@List.rec Id (fun _=>AH->AH) (fun h=>h) (fun k _ ih h=>ih (AH.kill h k)) l h
def AH.cells (h:AH) (k:Id):Option CsE:=ob (hget k h.blk) QrK
inductive RS where
 |no
 |ok (v:AV) (h:AH)
inductive RF where
 |no
 |ok (F:AF) (h:AH)
inductive RC where
 |no
 |nor (F:AF) (h:AH)
 |ret (F:AF) (h:AH)
 |ext (i:Nat) (F:AF) (h:AH)
def RS.new (v:AV) (h:AH) (b:AB):RS:=@Bool.rec (fun _=>RS) .no (.ok v (h.add b)) (QgA h.next)
def Qnn (o:Option AV) (h:AH):RS:=@Option.rec AV (fun _=>RS) .no (fun v=> .ok v h) o
abbrev Jp:=Nat->List AV->AH->RS
abbrev QaD:=List AV->AH->Option AV
abbrev QdR:=List AV->Id->Option (AV×AB)
abbrev QaV:=Jp->List AV->AH->RS
def hd (l:List AV):AV:=@List.rec AV (fun _=>AV) .un (fun x _ _=>x) l
def hd2 (l:List AV):AV:=hd (tl l)
def hd3 (l:List AV):AV:=hd (tl (tl l))
/-! ### values -/
def Qr1 (z:Nat):Option AV:=@Bool.rec (fun _=>Option AV) (some (.i .i64 (IntKind.i64.wrap (.ofNat z)))) (some (.n z)) (Nat.ble z 9223372036854775807)
def mkI:IntKind->Int->AV
 | .i64, .ofNat x=> .n x
 | .u8, .ofNat x=> .c x
 |k,n=> .i k n
def eqI:Int->Int->Bool
 | .ofNat a, .ofNat b=>Nat.beq a b
 | .negSucc a, .negSucc b=>Nat.beq a b
 |_,_=>false
def leI:Int->Int->Bool
 | .ofNat a, .ofNat b=>Nat.ble a b
 | .negSucc a, .negSucc b=>Nat.ble b a
 | .negSucc _, .ofNat _=>true
 | .ofNat _, .negSucc _=>false
def kNo:IntKind->Nat
 | .i8=>0 | .i16=>1 | .i32=>2 | .i64=>3 | .u8=>4 | .u16=>5 | .u32=>6 | .u64=>7
def Qmd (op:BinOp) (k:IntKind) (a b:Int):Option AV:=match op with
 | .add=>some (mkI k (k.wrap (a+b)))
 | .sub=>some (mkI k (k.wrap (a - b)))
 | .mul=>some (mkI k (k.wrap (a * b)))
 | .eql=>some (.b (eqI a b))
 | .neq=>some (.b (!eqI a b))
 | .leq=>some (.b (leI a b))
 | .lss=>some (.b (!leI b a))
 | .geq=>some (.b (leI b a))
 | .gtr=>some (.b (!leI a b))
 |_=>none
def QrT (op:BinOp) (x y:List Nat):Option AV:=match op with
 | .eql=>some (.b (eqL x y))
 | .neq=>some (.b (!eqL x y))
 | .add=>Kk (Nat.blt (Qej x+Qej y) 9223372036854775808) (some (.s (Qhq x y))) none
 |_=>none
def QgS (op:BinOp) (x y:AV):Option AV :=
 orE (Qc0 x) (ob (QtK x) fun p=>ob (QtK y) fun q=>Kk (Nat.beq (kNo p.1) (kNo q.1)) (Qmd op p.1 p.2 q.2) none) fun l=>ob (Qc0 y) (QrT op l)
def Qwl (a:List AV) (_:AH):Option AV :=
 @Option.rec Nat (fun _=>Option AV) (QgS .add (hd a) (hd2 a)) (fun x=>@Option.rec Nat (fun _=>Option AV) none (fun y=>Qr1 (Nat.add x y)) (Qf5 (hd2 a))) (Qf5 (hd a))
def QmU (f:Nat->Nat->Bool) (op:BinOp) (a:List AV) (_:AH):Option AV :=
 @Option.rec Nat (fun _=>Option AV) (QgS op (hd a) (hd2 a)) (fun x=>@Option.rec Nat (fun _=>Option AV) (QgS op (hd a) (hd2 a)) (fun y=>some (.b (f x y))) (Qf5 (hd2 a))) (Qf5 (hd a))
def QtL (op:BinOp) (a:List AV) (_:AH):Option AV:=QgS op (hd a) (hd2 a)
def ltN (x y:Nat):Bool:=Bool.not (Nat.ble y x)
def geN (x y:Nat):Bool:=Nat.ble y x
def gtN (x y:Nat):Bool:=Bool.not (Nat.ble x y)
def neN (x y:Nat):Bool:=Bool.not (Nat.beq x y)
def Qna (x y:AV):Option Bool:=Kk (QeM y) (Kk (QeM x) (some true) (ob (QcO x) fun _=>some false)) none
def Qnf (x y:AV):Option Bool:=Kk (Qlw y) (Kk (Qlw x) (some true) (Kk (QrJ x) (some false) none)) none
def QiC (f:AV->AV->Option Bool) (neg:Bool) (a:List AV) (_:AH):Option AV:=ob (f (hd a) (hd2 a)) fun b=>some (.b (Kk neg (!b) b))
def ofV:Nat->Value->Option AV
 |0,_=>none
 | n+1,v=>match v with
  | .bool b=>some (.b b)
  | .int k i=>some (mkI k i)
  | .string s=>some (.s (s.data.toList.map UInt8.toNat))
  | .pointer none=>some .pn
  | .slice none l c=>bif Nat.beq l 0 && Nat.beq c 0 then some .sn else none
  | .map none=>some .mn
  | .nilFunc=>some .nf
  | .nilIface=>some .nif
  | .iface t v=>(ofV n v).map (.ifc t)
  | .agg cs=>match cs.toList.mapM (ofV n) with
   |some l=>bif l.all QtE then some (.agg l) else none
   |none=>none
  |_=>none
/-! ### what is known of types -/
variable (P:Program)
def QiF (T:TypeId):Option (Bool×Nat):=match P.underlying T,P.info? T with
 |some d,some i=>some ((match d with | .struct _ | .array _ _=>true |_=>false),i.size)
 |_,_=>none
def Qht (T:TypeId):Option Nat:=(P.info? T).map (·.size)
def Qey (T:TypeId):Option AV:=match P.info? T with
 |some i=>match i.zero with |some z=>ofV 8 z |none=>none
 |none=>none
def Qd1 (T:TypeId):Option (TypeId×Nat):=match P.underlying T with
 |some (.slice e)=>match Qht P e with
  |some n=>bif Nat.beq n 0 then none else some (e,n)
  |none=>none
 |_=>none
def Qen (T:TypeId) (k:Nat):Option (Nat×Nat×Bool):=match P.underlying T with
 | some (.struct fs)=>match fs.toList[k]? with
  |some f=>match QiF P f.type with
   |some (ag,sz)=>some (f.offset,sz,ag)
   |none=>none
  |none=>none
 |_=>none
def QtB (d:TypeDesc):Bool:=match d with | .slice _ | .string=>true |_=>false
def QgQ (e:TypeId):Bool:=match P.info? e with
 |some i=>Nat.ble i.bytes 65536
 |none=>false
def QjJ (e:TypeId) (sz:Nat):Bool:=match P.info? e with
 |some i=>match i.zero with
  |some z=>Nat.beq z.cells.size sz
  |none=>false
 |none=>false
/-! ### quiet operations -/
def part (off sz:Nat) (ag:Bool) (cs:List AV):Option AV :=
 @Bool.rec (fun _=>Option AV) (nth off cs) (Kk (Qch (Nat.add off sz) cs) (some (.agg (Qbc sz (QcP off cs)))) none) ag
def Qp2 (ps:List (Nat×Nat)):List AV->List AV->Option (List AV) :=
 @List.rec (Nat×Nat) (fun _=>List AV->List AV->Option (List AV)) (fun cells _=>some cells)
  (fun p _ ih cells vs=>ob (QbQ (hd vs)) fun cs=>Kk (QbY p.2 cs) (ih (over p.1 cs cells) (tl vs)) none) ps
def rep:Nat->List AV->List AV
 |0,_=>[]
 |n+1,z=>z++rep n z
def QfD (x:AV) (m:Nat):Option Nat:=ob (Qf5 x) fun n=>Kk (Nat.ble n m) (some n) none
def QrB (a:List AV) (_:AH):Option AV:=some (hd a)
def Qvm (a:List AV) (_:AH):Option AV:=ob (QiS (hd a)) fun c=>some (Kk c (hd2 a) (hd3 a))
def Qxh (a:List AV) (_:AH):Option AV:=ob (QiS (hd a)) fun b=>some (.b (Bool.not b))
def Qvn (a:List AV) (_:AH):Option AV:=Qxj (hd a)
def Qxg (fo:Nat) (a:List AV) (_:AH):Option AV:=ob (Qg6 (hd a)) fun q=>some (.p q.1 (Nat.add q.2 fo))
def Qsh (fo sz:Nat) (ag:Bool) (a:List AV) (_:AH):Option AV:=ob (QjS (hd a)) (part fo sz ag)
def Qvy (sz:Nat) (a:List AV) (_:AH):Option AV:=ob (QcO (hd a)) fun s=>ob (Qqm (hd2 a)) fun n =>
 Kk (Nat.beq s.sz sz) (Kk (ltN n s.len) (some (.p s.k (Nat.add s.off (Nat.mul n sz)))) none) none
def Qvz (len sz:Nat) (a:List AV) (_:AH):Option AV:=ob (Qg6 (hd a)) fun q=>ob (Qqm (hd2 a)) fun n=>Kk (ltN n len) (some (.p q.1 (Nat.add q.2 (Nat.mul n sz)))) none
def Qvx (a:List AV) (_:AH):Option AV:=ob (Qc0 (hd a)) fun l=>ob (Qqm (hd2 a)) fun n=>ob (nth n l) fun x=>some (.c x)
def Qv0 (len sz:Nat) (ag:Bool) (a:List AV) (_:AH):Option AV:=ob (QjS (hd a)) fun cs=>ob (Qqm (hd2 a)) fun n=>Kk (ltN n len) (part (Nat.mul n sz) sz ag cs) none
def Qpx (sz:Nat) (ag:Bool) (a:List AV) (h:AH):Option AV:=ob (Qg6 (hd a)) fun q=>ob (h.cells q.1) fun c=>part q.2 sz ag c.cs
def Qv5 (ix:Nat) (a:List AV) (_:AH):Option AV:=ob (Qme (hd a)) (nth ix)
def Qxr (t:Nat) (a:List AV) (_:AH):Option AV:=some (.ifc t (hd a))
def Qxt (f n:Nat) (a:List AV) (_:AH):Option AV:=some (.fn f (Qbc n a) (QcP n a))
def Qv8 (k:IntKind) (a:List AV) (_:AH):Option AV:=ob (QtK (hd a)) fun p=>some (mkI k (k.wrap p.2))
def Qmi (l:List AV):Option (List Nat):=@List.rec AV (fun _=>Option (List Nat)) (some []) (fun x _ ih=>ob (QkZ x) fun n=>Kk (Nat.ble n 255) (ob ih fun r=>some (n::r)) none) l
def QvY (a:List AV) (h:AH):Option AV:=Kk (QeM (hd a)) (some (.s [])) (ob (QcO (hd a)) fun s=>ob (h.cells s.k) fun c =>
 Kk (Qch (Nat.add s.off s.len) c.cs) (ob (Qmi (Qbc s.len (QcP s.off c.cs))) fun l=>some (.s l)) none)
def QtN (lo hi:Bool) (len:Nat) (a:List AV):Option (Nat×Nat) :=
 Kk hi (ob (QfD (Kk lo (hd2 a) (hd a)) len) fun y=>Kk lo (ob (QfD (hd a) y) fun x=>some (x,y)) (some (0,y)))
  (Kk lo (ob (QfD (hd a) len) fun x=>some (x,len)) (some (0,len)))
def Qsj (lo hi:Bool) (a:List AV) (_:AH):Option AV:=ob (Qc0 (hd a)) fun l=>ob (QtN lo hi (Qej l) (tl a)) fun q=>some (.s (QcP q.1 (Qbc q.2 l)))
def QwF (c:Option Nat) (n:Nat):Option Nat:=ob c fun d=>some (Nat.sub d n)
def Qsk (lo hi:Bool) (sz:Nat) (a:List AV) (_:AH):Option AV:=orE (QcO (hd a)) (Kk (QeM (hd a)) (ob (QtN lo hi 0 (tl a)) fun _=>some .sn) none) fun s =>
 Kk (Nat.beq s.sz sz) (ob (QtN lo hi s.len (tl a)) fun q=>some (.sl s.k (Nat.add s.off (Nat.mul q.1 sz)) (Nat.sub q.2 q.1) sz (QwF s.cap q.1))) none
def QjF (key:List Nat) (es:List (AV×AV)):Option AV:=@List.rec (AV×AV) (fun _=>Option AV) none (fun e _ ih=>ob (Qc0 e.1) fun l=>Kk (eqL key l) (some e.2) ih) es
def QiD (es:List (AV×AV)):Bool:=QmW (fun e=>@Option.rec (List Nat) (fun _=>Bool) false (fun _=>true) (Qc0 e.1)) es
def Qxv (x:AV) (h:AH):Option (List (AV×AV)):=orE (Qrv x) (Kk (QtI x) (some []) none) fun k=>ob (hget k h.blk) Qv2
def Qvu (z:AV) (ok:Bool) (a:List AV) (h:AH):Option AV:=ob (Qc0 (hd2 a)) fun key=>ob (Qxv (hd a) h) fun es=>Kk (QiD es)
 (orE (QjF key es) (some (Kk ok (.tup [z, .b false]) z)) fun v=>some (Kk ok (.tup [v, .b true]) v)) none
def QrY (a:List AV) (_:AH):Option AV:=ob (Qc0 (hd a)) fun l=>some (.n (Qej l))
def QrZ (a:List AV) (_:AH):Option AV:=orE (QcO (hd a)) (Kk (QeM (hd a)) (some (.n 0)) none) fun s=>some (.n s.len)
def Qxl (a:List AV) (_:AH):Option AV:=ob (Qf5 (hd a)) fun x=>ob (Qf5 (hd2 a)) fun y=>some (.n (Kk (Nat.ble x y) x y))
def Qmj (ps:List (Nat×Nat)) (z a:List AV) (_:AH):Option AV:=ob (Qp2 ps z a) fun cs=>some (.agg cs)
def QnB (x:Operand):Bool:=match x with | .const _=>true |_=>false
def Qrx (op:BinOp) (t:TypeId) (y:Operand):Option QaD:=match P.underlying t with
 |some (.int _)=>match op with
  | .add=>some Qwl
  | .eql=>some (QmU Nat.beq .eql)
  | .neq=>some (QmU neN .neq)
  | .lss=>some (QmU ltN .lss)
  | .leq=>some (QmU Nat.ble .leq)
  | .gtr=>some (QmU gtN .gtr)
  | .geq=>some (QmU geN .geq)
  |_=>some (QtL op)
 |some .string=>some (QtL op)
 |some (.slice _)=>match op with
  | .eql=>some (QiC Qna false)
  | .neq=>some (QiC Qna true)
  |_=>none
 | some (.interface _)=>bif QnB y then match op with
   | .eql=>some (QiC Qnf false)
   | .neq=>some (QiC Qnf true)
   |_=>none
  else none
 |_=>none
def QdB (t:TypeId) (k:Nat):Option QaD:=match Qen P t k with
 |some (fo,sz,_)=>bif Nat.beq sz 0 then none else some (Qxg fo)
 |none=>none
def QjT (t:TypeId) (k:Nat):Option QaD:=match Qen P t k with
 |some (fo,sz,ag)=>some (Qsh fo sz ag)
 |none=>none
def Qh1 (t:TypeId):Option QaD:=match P.underlying t with
 |some (.array len e)=>match Qht P e with
  |some sz=>some (Qvz len sz)
  |none=>none
 |_=>match Qd1 P t with
  |some (_,sz)=>some (Qvy sz)
  |none=>none
def QjR (t:TypeId):Option QaD:=match P.underlying t with
 |some .string=>some Qvx
 |some (.array len e)=>match QiF P e with
  |some (ag,sz)=>some (Qv0 len sz ag)
  |none=>none
 |_=>none
def QrG (t:TypeId):Option QaD:=match QiF P t with
 |some (ag,sz)=>some (Qpx sz ag)
 |none=>none
def Qru (t:TypeId):Option QaD:=match P.underlying t with
 |some (.interface _)=>none
 |some _=>some (Qxr t)
 |none=>none
def Qnj (s d:TypeId):Option QaD:=match P.underlying s,P.underlying d with
 |some (.int _),some (.int k)=>some (Qv8 k)
 |some (.slice e),some .string=>match P.underlying e with
  |some (.int .u8)=>some QvY
  |_=>none
 |_,_=>none
def QjM (t:TypeId) (lo hi:Bool):Option QaD:=match P.underlying t with
 |some .string=>some (Qsj lo hi)
 |_=>match Qd1 P t with
  |some (_,sz)=>some (Qsk lo hi sz)
  |none=>none
def QrF (t:TypeId) (ok:Bool):Option QaD:=match P.underlying t with
 |some (.map kt et)=>match P.underlying kt,Qey P et with
  |some .string,some z=>some (Qvu z ok)
  |_,_=>none
 |_=>none
def Qnk (c:Call):Option QaD:=match c.callee,c.args.toList,c.argTypes.toList with
 | .builtin .len,[_],t::_=>match P.underlying t with
  |some .string=>some QrY
  |some (.slice _)=>some QrZ
  |_=>none
 | .builtin .min,[_,_],_=>some Qxl
 |_,_,_=>none
def QjY (t:TypeId) (is:List Nat):Option QaD:=match Qey P t,P.underlying t with
 |some (.agg z),some (.struct fs)=>match is.mapM (Qen P t) with
  |some l=>bif (fs.toList.all fun f=>(P.info? f.type).isSome) && l.all (fun q=>Nat.ble (q.1+q.2.1) z.length) then some (Qmj (l.map fun q=>(q.1,q.2.1)) z) else none
  |none=>none
 |some (.agg z),some (.array _ e)=>match Qht P e with
  |some sz=>bif is.all (fun i=>Nat.ble (i * sz+sz) z.length) then some (Qmj (is.map fun i=>(i * sz,sz)) z) else none
  |none=>none
 |_,_=>none
def Qma (op:Op):Option QaD:=match op with
 | .move _ | .assign _=>some QrB
 | .pick _ _ _=>some Qvm
 | .nilCheck _=>some Qvn
 | .unOp .not _ _=>some Qxh
 | .binOp op t _ y _=>Qrx P op t y
 | .fieldAddr t _ k=>QdB P t k
 | .field t _ k=>QjT P t k
 | .indexAddr t _ _=>Qh1 P t
 | .index t _ _=>QjR P t
 | .load t _=>QrG P t
 | .extract _ ix=>some (Qv5 ix)
 | .makeInterface t _=>Qru P t
 | .makeFunc (.func f) fs _=>some (Qxt f fs.size)
 | .convert s d _=>Qnj P s d
 | .slice t _ lo hi none=>QjM P t lo.isSome hi.isSome
 | .lookup t _ _ ok=>QrF P t ok
 | .call c=>Qnk P c
 | .build t ps=>QjY P t (ps.toList.map (·.1))
 |_=>none
/-! ### operations that make a block -/
def Qxk (z _:List AV) (k:Id):Option (AV×AB):=some (.p k 0, .cells z true [] none)
def Qxy (a:List AV) (k:Id):Option (AV×AB):=ob (QbQ (hd a)) fun cs=>some (.p k 0, .cells cs true [] none)
def Qxn (_:List AV) (k:Id):Option (AV×AB):=some (.m k, .map [])
def Qxo (len sz:Nat) (ps:List (Nat×Nat)) (z a:List AV) (k:Id):Option (AV×AB):=ob (Qp2 ps z a) fun cs=>some (.sl k 0 len sz (some len), .cells cs true [] none)
def Qvt (e sz:Nat) (z a:List AV) (k:Id):Option (AV×AB):=ob (Qf5 (hd a)) fun l=>ob (Qf5 (hd2 a)) fun c =>
 Kk (Nat.ble l c) (Kk (Nat.ble c 65536) (some (.sl k 0 l sz (some c), .cells (rep c z) true [] (some e))) none) none
def Qv1 (a:List AV) (k:Id):Option (AV×AB):=ob (Qc0 (hd a)) fun l=>some (.p k 0, .iter l 0)
def Qxx (a:List AV) (k:Id):Option (AV×AB):=ob (Qc0 (hd a)) fun l=>some (.sl k 0 (Qej l) 1 none, .cells (Qrr AV.c l) false [] none)
def QoO (t:TypeId):Option QdR:=match Qey P t with
 |some z=>match QbQ z with
  |some cs=>some (Qxk cs)
  |none=>none
 |none=>none
def Qwd (t:TypeId) (len:Nat) (is:List Nat):Option QdR:=match Qd1 P t with
 | some (e,sz)=>match Qey P e with
  |some z=>match QbQ z with
   |some cs=>bif Nat.ble (len * sz) 16777216 && Nat.beq cs.length sz && is.all (fun i=>Nat.blt i len) then some (Qxo len sz (is.map fun i=>(i * sz,sz)) (rep len cs)) else none
   |none=>none
  |none=>none
 |none=>none
def QrE (t:TypeId):Option QdR:=match Qd1 P t with
 | some (e,sz)=>match Qey P e with
  |some z=>match QbQ z with
   |some cs=>bif Nat.beq cs.length sz && QgQ P e then some (Qvt e sz cs) else none
   |none=>none
  |none=>none
 |none=>none
def QrI (t:TypeId):Option QdR:=match P.underlying t with
 |some .string=>some Qv1
 |_=>none
def Qwi (s d:TypeId):Option QdR:=match P.underlying s,P.underlying d with
 |some .string,some (.slice e)=>match P.underlying e with
  |some (.int .u8)=>some Qxx
  |_=>none
 |_,_=>none
def QoP (op:Op):Option QdR:=match op with
 | .alloc t=>QoO P t
 | .box _ _=>some Qxy
 | .makeMap _ none=>some Qxn
 | .buildSlice t len ps=>Qwd P t len (ps.toList.map (·.1))
 | .makeSlice t _ _=>QrE P t
 | .range t _=>QrI P t
 | .convert s d _=>Qwi P s d
 |_=>none
/-! ### operations with an effect -/
def oH (o:Option AH) (f:AH->RS):RS:=@Option.rec AH (fun _=>RS) .no f o
def Qig (b:Id) (off:Nat) (vs:List AV) (h:AH):Option AH:=ob (h.cells b) fun c =>
 Kk c.top (Kk (Qch (Nat.add off (Qej vs)) c.cs) (some (AH.put (h.kills c.al) b (.cells (over off vs c.cs) true [] c.hy))) none) none
def Y7 (sz:Nat) (_:Jp) (a:List AV) (h:AH):RS:=oH (ob (Qg6 (hd a)) fun q=>ob (QbQ (hd2 a)) fun cs=>Kk (QbY sz cs) (Qig q.1 q.2 cs h) none) (RS.ok .un)
def QtA (sz:Nat) (x:AV) (h:AH):Option (List AV):=orE (Qc0 x) (orE (QcO x) (Kk (QeM x) (some []) none) fun s=>ob (h.cells s.k) fun c =>
 Kk (Nat.beq s.sz sz) (Kk (Qch (Nat.add s.off (Nat.mul s.len sz)) c.cs) (some (Qbc (Nat.mul s.len sz) (QcP s.off c.cs))) none) none) fun l=>Kk (Nat.beq sz 1) (some (Qrr AV.c l)) none
def Qwk (sz n cap:Nat) (s:Sl) (c:CsE) (new:List AV) (h:AH):RS :=
 Kk (Nat.ble (Nat.add s.len n) cap) (oH (Qig s.k (Nat.add s.off (Nat.mul s.len sz)) new h) (RS.ok (.sl s.k s.off (Nat.add s.len n) sz (some cap))))
  (Kk (Qch (Nat.add s.off (Nat.mul s.len sz)) c.cs) (RS.new (.sl h.next 0 (Nat.add s.len n) sz none) h (.cells (Qhq (Qbc (Nat.mul s.len sz) (QcP s.off c.cs)) new) true [] none)) .no)
def Qwj (sz n:Nat) (s:Sl) (c:CsE) (new:List AV) (h:AH):RS :=
 Kk c.top (Kk (QbY (Nat.add s.off (Nat.mul s.len sz)) c.cs)
   (RS.new (.sl h.next 0 (Nat.add s.len n) sz none) (AH.put h s.k (.cells c.cs false c.al none)) (.cells (Qhq (QcP s.off c.cs) new) true (s.k::c.al) none))
   (Kk (Qch (Nat.add s.off (Nat.mul s.len sz)) c.cs)
    (RS.new (.sl h.next 0 (Nat.add s.len n) sz none) (AH.put (AH.kills h c.al) s.k (.cells (Qbc (Nat.add s.off (Nat.mul s.len sz)) c.cs) false [] none))
     (.cells (Qhq (Qbc (Nat.mul s.len sz) (QcP s.off c.cs)) new) true [s.k] none)) .no)) .no
def oCs (o:Option CsE) (f:CsE->RS):RS:=@Option.rec CsE (fun _=>RS) .no f o
def QvB (sz n:Nat) (s:Sl) (new:List AV) (h:AH):RS:=Kk (Nat.beq s.sz sz) (oCs (h.cells s.k) fun c=>@Option.rec Nat (fun _=>RS) (Qwj sz n s c new h) (fun cap=>Qwk sz n cap s c new h) s.cap) .no
def Qx0 (sz n:Nat) (s:AV) (new:List AV) (h:AH):RS :=
 Kk (Nat.beq n 0) (Kk (QeM s) (.ok s h) (@Option.rec Sl (fun _=>RS) .no (fun _=> .ok s h) (QcO s)))
  (Kk (Nat.ble n 65536) (Kk (QeM s) (RS.new (.sl h.next 0 n sz none) h (.cells new true [] none)) (@Option.rec Sl (fun _=>RS) .no (fun t=>Kk (Nat.ble t.len 65536) (QvB sz n t new h) .no) (QcO s))) .no)
def QtH (x:AV):Option Nat:=orE (Qc0 x) (orE (QcO x) (Kk (QeM x) (some 0) none) fun s=>some s.len) fun l=>some (Qej l)
def Qqa (sz:Nat) (_:Jp) (a:List AV) (h:AH):RS:=@Option.rec Nat (fun _=>RS) .no (fun n=>@Option.rec (List AV) (fun _=>RS) .no (fun new=>Qx0 sz n (hd a) new h) (QtA sz (hd2 a) h)) (QtH (hd2 a))
def QtG (x y:Nat):Nat:=Kk (Nat.ble x y) x y
def Qv7 (sz:Nat) (_:Jp) (a:List AV) (h:AH):RS:=@Option.rec Sl (fun _=>RS) .no (fun s=>@Option.rec Nat (fun _=>RS) .no (fun m=>@Option.rec (List AV) (fun _=>RS) .no
 (fun new=>Kk (Nat.beq s.sz sz) (oH (Qig s.k s.off (Qbc (Nat.mul (QtG m s.len) sz) new) h) (RS.ok (.n (QtG m s.len)))) .no) (QtA sz (hd2 a) h)) (QtH (hd2 a))) (QcO (hd a))
def Qxs (e:Nat) (o:Option Nat):Bool:=@Option.rec Nat (fun _=>Bool) false (Nat.beq e) o
def Qvf (e:Nat) (_:Jp) (a:List AV) (h:AH):RS:=@Option.rec (AH×List Nat) (fun _=>RS) .no (fun q=> .ok (.s q.2) q.1)
 (ob (Qg6 (hd a)) fun q=>ob (Qf5 (hd2 a)) fun n=>ob (h.cells q.1) fun c=>Kk (QbO (Nat.beq q.2 0) (QbO c.top (Qxs e c.hy))) (Kk (QbO (Nat.ble 1 n) (Nat.ble n 65536)) (Kk (Qch n c.cs) (ob (Qmi (Qbc n c.cs)) fun l=>some (AH.kill (h.kills c.al) q.1,l)) none) none) none)
def QlP (key:List Nat) (v:AV) (es:List (AV×AV)):List (AV×AV):=@List.rec (AV×AV) (fun _=>List (AV×AV)) [(.s key,v)]
 (fun e t ih=>@Option.rec (List Nat) (fun _=>List (AV×AV)) (e::ih) (fun l=>Kk (eqL key l) ((.s key,v)::t) (e::ih)) (Qc0 e.1)) es
def Qvp (_:Jp) (a:List AV) (h:AH):RS:=oH (ob (Qrv (hd a)) fun k=>ob (Qc0 (hd2 a)) fun key=>ob (ob (hget k h.blk) Qv2) fun es=>Kk (QiD es) (some (AH.put h k (.map (QlP key (hd3 a) es)))) none) (RS.ok .un)
def Qvo (_:Jp) (a:List AV) (h:AH):RS:=@Option.rec (AV×AH) (fun _=>RS) .no (fun r=> .ok r.1 r.2)
 (ob (Qg6 (hd a)) fun q=>Kk (Nat.beq q.2 0) (ob (ob (hget q.1 h.blk) QxK) fun t=>orE (nth t.2 t.1) (some (.tup [.b false],h)) fun c =>
  Kk (Nat.ble c 127) (some (.tup [.b true, .n t.2, .i .i32 (.ofNat c)],AH.put h q.1 (.iter t.1 (Nat.succ t.2)))) none) none)
def QvA (f:Nat) (call:Jp) (a:List AV) (h:AH):RS:=call f (tl a) h
def Qv9 (call:Jp) (a:List AV) (h:AH):RS:=@Option.rec Fv (fun _=>RS) .no (fun v=>call v.f (Qhq v.a (Qhq (tl a) v.c)) h) (Qp0 (hd a))
def QgP (t:TypeId):Option QaV:=match Qht P t with
 |some sz=>some (Y7 sz)
 |none=>none
def QrA (t:TypeId):Option QaV:=match P.underlying t with
 |some (.map kt _)=>match P.underlying kt with
  |some .string=>some Qvp
  |_=>none
 |_=>none
def Qxz (c:Call):Option QaV:=match c.args.toList,c.argTypes.toList with
 |[_,_],[t,u]=>match Qd1 P t,P.underlying u with
  |some (e,sz),some d=>bif QgQ P e && QjJ P e sz && QtB d then some (Qqa sz) else none
  |_,_=>none
 |_,_=>none
def Qv6 (c:Call):Option QaV:=match c.args.toList,c.argTypes.toList with
 |[_,_],t::_=>match Qd1 P t with
  |some (_,sz)=>some (Qv7 sz)
  |none=>none
 |_,_=>none
def Qve (c:Call):Option QaV:=match c.args.toList,c.argTypes.toList with
 | [_,_],[t,_]=>match P.underlying t with
  |some (.pointer e)=>match P.underlying e with
   |some (.int .u8)=>bif Nat.beq (P.cellsOf e) 1 then some (Qvf e) else none
   |_=>none
  |_=>none
 |_,_=>none
def QrN (c:Call):Option QaV:=match c.callee with
 | .value (.func f)=>some (QvA f)
 | .value _=>some Qv9
 | .builtin .append=>Qxz P c
 | .builtin .copy=>Qv6 P c
 | .builtin .unsafeString=>Qve P c
 |_=>none
def Qm1 (op:Op):Option QaV:=match op with
 | .store t _ _=>QgP P t
 | .mapUpdate t _ _ _=>QrA P t
 | .next _ true=>some Qvo
 | .call c=>QrN P c
 |_=>none
/-! ### the text, put ready -/
inductive KA where
 |t (g:G3)
 |k (v:AV)
structure Ar where
 f:AF->List AV
inductive KG where
 |q (g:QaD)
 |a (g:QdR)
 |e (g:QaV)
inductive KO where
 |q (r:Ar) (d:U3) (g:QaD)
 |o (r:Ar) (d:Option U3) (gd:Option (G3×Bool)) (g:KG)
def ka (F:AF) (a:KA):AV:=@KA.rec (fun _=>AV) (fun g=>AF.at F g) (fun v=>v) a
def Qp3 (l:List KA) (F:AF):List AV:=@List.rec KA (fun _=>List AV) [] (fun a _ ih=>ka F a::ih) l
def ar1 (a:KA) (F:AF):List AV:=[ka F a]
def ar2 (a b:KA) (F:AF):List AV:=[ka F a,ka F b]
def QlT:List KA->Ar
 |[a]=>⟨ar1 a⟩
 |[a,b]=>⟨ar2 a b⟩
 |l=>⟨Qp3 l⟩
def Ye:Op->List Operand
 | .alloc _ | .makeMap _ none=>[]
 | .move x | .assign x | .box _ x | .load _ x | .nilCheck x | .unOp _ _ x | .convert _ _ x | .makeInterface _ x | .fieldAddr _ x _ | .field _ x _ | .range _ x | .next x _ | .extract x _=>[x]
 | .pick c a b=>[c,a,b]
 | .build _ ps=>ps.toList.map (·.2)
 | .buildSlice _ _ ps=>ps.toList.map (·.2)
 | .store _ a v | .binOp _ _ a v _ | .makeSlice _ a v | .indexAddr _ a v | .index _ a v | .lookup _ a v _=>[a,v]
 | .makeFunc _ a c=>a.toList++c.toList
 | .slice _ x lo hi none=>x::(lo.toList++hi.toList)
 | .mapUpdate _ m k v=>[m,k,v]
 | .call c=>match c.callee with
  | .value f=>f::c.args.toList
  | .invoke r _=>r::c.args.toList
  | .builtin _=>c.args.toList
 |_=>[]
def Qg5:Operand->Option KA
 | .tmp t=>bif Nat.blt t 512 then some (.t (g3 t)) else none
 | .const v=>(ofV 8 v).map .k
 | .global _=>none
 | .func f=>some (.k (.fn f [] []))
def Qf4 (op:Op):Option KG:=match Qma P op with
 |some g=>some (.q g)
 |none=>match QoP P op with
  |some g=>some (.a g)
  |none=>(Qm1 P op).map .e
def QjG:KG:= .q fun _ _=>none
def QrQ (l:List Operand):Option Ar:=(l.mapM Qg5).map QlT
def rOf (op:Op):Ar:=(QrQ (Ye op)).getD ⟨fun _=>[]⟩
def gOf (op:Op):KG:=match QrQ (Ye op) with
 |some _=>(Qf4 P op).getD QjG
 |none=>QjG
def QpP (r:Ar):KG->Option Nat->KO
 | .q g,some d=> .q r (u3 d) g
 |g,d=> .o r (d.map u3) none g
def Qjv (ops:List Oper) (r:Ar) (g:KG) (dst:Option Nat) (j:Nat) (b:Bool):Option KO:=match (ops[j]?).bind (·.dst) with
 |some d=>bif Nat.blt d 512 then some (.o r (dst.map u3) (some (g3 d,b)) g) else none
 |none=>none
def ltA (N:Nat):Option Nat->Bool
 |some d=>Nat.blt d N
 |none=>true
def Qj9 (N:Nat) (ops:List Oper) (o:Oper):Option KO:=bif ltA N o.dst then
  match o.guard with
  |none=>some (QpP (rOf o.op) (gOf P o.op) o.dst)
  |some (j,b)=>Qjv ops (rOf o.op) (gOf P o.op) o.dst j b
 else none
/-! ### the run -/
def Qwa (call:Jp) (g:KG) (a:List AV) (h:AH):RS :=
 @KG.rec (fun _=>RS) (fun q=>Qnn (q a h) h) (fun q=>@Option.rec (AV×AB) (fun _=>RS) .no (fun r=>RS.new r.1 h r.2) (q a h.next)) (fun e=>e call a h) g
def QcN (F:AF) (gd:Option (G3×Bool)):Option Bool:=@Option.rec (G3×Bool) (fun _=>Option Bool) (some true)
 (fun q=>orE (QiS (AF.at F q.1)) (Kk (Qrt (AF.at F q.1)) (some false) none) fun c=>some (Kk c q.2 (!q.2))) gd
def oRF (o:Option Bool) (y n:RF):RF:=@Option.rec Bool (fun _=>RF) .no (fun b=>Kk b y n) o
def rsF (r:RS) (f:AV->AH->RF):RF:=@RS.rec (fun _=>RF) .no f r
def QxA (r:Ar) (d:U3) (g:QaD) (_:Jp) (ih:AF->AH->RF) (F:AF) (h:AH):RF:=@Option.rec AV (fun _=>RF) .no (fun v=>ih (AF.set F d v) h) (g (Ar.f r F) h)
def Qr4 (r:Ar) (d:Option U3) (gd:Option (G3×Bool)) (g:KG) (call:Jp) (ih:AF->AH->RF) (F:AF) (h:AH):RF :=
 oRF (QcN F gd) (rsF (Qwa call g (Ar.f r F) h) fun v h'=>ih (AF.put F d v) h') (ih (AF.put F d .un) h)
def Qr5 (o:KO):Jp->(AF->AH->RF)->AF->AH->RF:=@KO.rec (fun _=>Jp->(AF->AH->RF)->AF->AH->RF) QxA Qr4 o
def QvZ (call:Jp) (l:List KO):AF->AH->RF:=@List.rec KO (fun _=>AF->AH->RF) RF.ok (fun o _ ih=>Qr5 o call ih) l
def QvG (r:RF):RC:=@RF.rec (fun _=>RC) .no .nor r
def RC.seq (r:RC) (k:AF->AH->RC):RC:=@RC.rec (fun _=>RC) .no k .ret .ext r
def RC.blk (id:Nat) (r:RC):RC:=@RC.rec (fun _=>RC) .no .nor .ret (fun i F h=>Kk (Nat.beq i id) (.nor F h) (.ext i F h)) r
def Qnc (body:AF->AH->RC) (n:Nat):AF->AH->RC:=@Nat.rec (fun _=>AF->AH->RC) (fun _ _=> .no) (fun _ ih F h=>RC.seq (body F h) ih) n
/-! ### regions that draw their order -/
def Qwf (a b:Option Nat):Bool:=@Option.rec Nat (fun _=>Bool) (@Option.rec Nat (fun _=>Bool) true (fun _=>false) b) (fun x=>@Option.rec Nat (fun _=>Bool) false (Nat.beq x) b) a
def oB {α:Type} (o:Option α) (f:α->Bool):Bool:=@Option.rec α (fun _=>Bool) false f o
def Qxp (v:AV):Bool:=@AV.rec (fun _=>Bool) (fun _=>Unit) false (fun _=>false) (fun _=>false) (fun _=>false) (fun _ _=>false) (fun _=>false) true (fun _ _=>false) false (fun _ _ _ _ _=>false) false (fun _=>false) false (fun _ _ _ _ _=>false) false (fun _ _ _=>false) (fun _ _=>false) (fun _ _=>false) () (fun _ _ _ _=>()) v
def Qxq (v:AV):Bool:=@AV.rec (fun _=>Bool) (fun _=>Unit) false (fun _=>false) (fun _=>false) (fun _=>false) (fun _ _=>false) (fun _=>false) false (fun _ _=>false) false (fun _ _ _ _ _=>false) false (fun _=>false) true (fun _ _ _ _ _=>false) false (fun _ _ _=>false) (fun _ _=>false) (fun _ _=>false) () (fun _ _ _ _=>()) v
def D5 (v:AV):Option (IntKind×Int):=@AV.rec (fun _=>Option (IntKind×Int)) (fun _=>Unit) none (fun _=>none) (fun _=>none) (fun _=>none) (fun k n=>some (k,n)) (fun _=>none) none (fun _ _=>none) none (fun _ _ _ _ _=>none) none (fun _=>none) none (fun _ _ _ _ _=>none) none (fun _ _ _=>none) (fun _ _=>none) (fun _ _=>none) () (fun _ _ _ _=>()) v
def QoL (v:AV):Option (Nat×AV):=@AV.rec (fun _=>Option (Nat×AV)) (fun _=>Unit) none (fun _=>none) (fun _=>none) (fun _=>none) (fun _ _=>none) (fun _=>none) none (fun _ _=>none) none (fun _ _ _ _ _=>none) none (fun _=>none) none (fun _ _ _ _ _=>none) none (fun t v _=>some (t,v)) (fun _ _=>none) (fun _ _=>none) () (fun _ _ _ _=>()) v
def Qrw (v:AV):AV->Bool:=@AV.rec (fun _=>AV->Bool) (fun _=>List AV->Bool) Qrt (fun x w=>oB (QiS w) fun y=>@Bool.rec (fun _=>Bool) (Bool.not y) y x) (fun x w=>oB (Qf5 w) (Nat.beq x)) (fun x w=>oB (QkZ w) (Nat.beq x)) (fun k n w=>oB (D5 w) fun q=>QbO (Nat.beq (kNo k) (kNo q.1)) (eqI n q.2)) (fun l w=>oB (Qc0 w) (eqL l)) Qxp (fun k o w=>oB (Qg6 w) fun q=>QbO (QiT k q.1) (Nat.beq o q.2)) QeM (fun k o l z c w=>oB (QcO w) fun q=>QbO (QiT k q.k) (QbO (Nat.beq o q.off) (QbO (Nat.beq l q.len) (QbO (Nat.beq z q.sz) (Qwf c q.cap))))) QtI (fun k w=>oB (Qrv w) (QiT k)) Qxq (fun f _ _ ia ic w=>oB (Qp0 w) fun q=>QbO (Nat.beq f q.f) (QbO (ia q.a) (ic q.c))) Qlw (fun t _ iv w=>oB (QoL w) fun q=>QbO (Nat.beq t q.1) (iv q.2)) (fun _ il w=>oB (QjS w) il) (fun _ il w=>oB (Qme w) il) Qlv (fun _ _ ix ir m=>@List.rec AV (fun _=>Bool) false (fun y s _=>QbO (ix y) (ir s)) m) v
def cls (op:Op) (g:KG):Nat:=match g with
 | .a _=>2
 | .e _=>3
 | .q _=>match op with
  | .load _ _ | .lookup _ _ _ _=>1
  | .convert s _ _=>match P.underlying s with |some (.slice _)=>1 |_=>0
  |_=>0
def Qe0 (o:Oper):List Nat:=(o.after.toList.filter (Region.binds .any)).map (·.on)
def YH (x:Nat) (l:List Nat):Bool:=Qxm (Nat.beq x) l
def Qrq (x:Id) (l:List Id):Bool:=Qxm (QiT x) l
def uni (a:List Nat):List Nat->List Nat
 |[]=>a
 |x::r=>bif YH x a then uni a r else uni (x::a) r
def Qlb:List Oper->List (List Nat)->List (List Nat)
 |[],T=>T
 |o::r,T=>Qlb r (T++[(Qe0 o).foldl (fun s j=>uni (uni s [j]) (T.getD j [])) []])
structure DS where
 i:Nat
 k:Nat
 span:Nat
def QtM (cl:List Nat) (T:List (List Nat)) (chain:List Nat) (stage:Nat) (done:List Nat):List Nat->List DS
 |[]=>[]
 |i::r=>bif YH i done then QtM cl T chain stage done r else
  { i,k:=cl.getD i 9,span:=stage - ((chain.filter fun e=>YH e (T.getD i [])).length) }::QtM cl T chain stage done r
def Qvl (cl:List Nat) (T:List (List Nat)) (chain:List Nat) (n:Nat) (late:Option Nat):List Nat->Nat->List Nat->List DS
 |[],stage,done=>QtM cl T chain stage (match late with |some l=>l::done |none=>done) (List.range n)++(match late with |some l=>[⟨l,4,0⟩] |none=>[])
 |e::r,stage,done =>
  let pre:=(List.range n).filter fun i=>YH i (T.getD e [])
  QtM cl T chain stage done pre++({ i:=e,k:=3,span:=0 }::Qvl cl T chain n late r (stage+1) (e::(pre++done)))
def QgU:List Oper->List Nat->Bool
 |[],_=>true
 |o::r,ds=>match o.dst with
  |some d=>!YH d ds && QgU r (d::ds)
  |none=>QgU r ds
def QpG (o:Oper):List Nat:=(Ye o.op).filterMap (fun x=>match x with | .tmp t=>some t |_=>none)
def QlU (ops:List Oper) (u:Nat):Option Nat:=ops.findIdx? fun o=>match o.dst with |some d=>Nat.beq d u |none=>false
def Qgj (ops:List Oper) (T:List (List Nat)):List Oper->Nat->Bool
 |[],_=>true
 | o::r,j=>(QpG o).all (fun u=>match QlU ops u with
   |none=>true
   |some i=>Nat.beq i j ||YH i (T.getD j []) ||YH j (T.getD i [])) &&
  (match o.guard with |some (g,_)=>YH g (Qe0 o) |none=>true) && (Qe0 o).all (fun i=>Nat.blt i j) && Qgj ops T r (j+1)
def Qjw (o:Oper):Bool:=match o.op with | .store _ _ _=>true |_=>false
def QeR (ops:List Oper) (cl:List Nat) (T:List (List Nat)):List DS->List Nat->List Nat->Bool
 |[],done,_=>(List.range ops.length).all fun i=>YH i done
 | s::r,done,ch=>!YH s.i done && Nat.blt s.i ops.length && (match ops[s.i]? with |some o=>(Qe0 o).all fun d=>YH d done |none=>false) &&
  (match s.k with
   |0=>Nat.beq (cl.getD s.i 9) 0
   |1=>Nat.ble (ch.filter fun e=>!YH e (T.getD s.i [])).length s.span
   |2=>true
   |3=>done.all fun d=>YH d (T.getD s.i [])
   |_=>true) && QeR ops cl T r (s.i::done) (bif Nat.beq s.k 3 then s.i::ch else ch)
def Qdy (ops:List Oper) (i:Nat):Bool:=match ops[i]? with |some o=>Qjw o |none=>false
def Qnd (ops:List Oper) (l:Nat) (lt conc:List Nat):List DS->Bool
 |[]=>true
 | s::r=>(match s.k with
   |0=>true
   |1=>YH s.i lt
   |2=>r.any fun t=>Nat.beq t.k 3 && YH t.i lt
   |3=>YH s.i lt ||(YH s.i conc && Qdy ops s.i)
   |4=>Qlv r && Nat.beq s.i l && Qdy ops s.i
   |_=>false) && Qnd ops l lt conc r
def Qvv (ops:List Oper) (T:List (List Nat)) (conc:List Nat) (steps:List DS):Option Nat->Bool
 |none=>steps.all fun s=>Nat.ble s.k 3
 |some l=>Qnd ops l (T.getD l []) conc steps
structure DPl where
 ok:Bool
 steps:List DS
 conc:List Nat
def YY (ops:List Oper) (cl:List Nat):DPl :=
 let n:=ops.length
 let T:=Qlb ops []
 let es:=(List.range n).filter fun i=>Nat.beq (cl.getD i 9) 3
 let l:=n - 1
 let late:=match ops[l]? with
  |some o=>bif Qjw o && es.any (fun e=>!Nat.beq e l && !YH e (T.getD l [])) then some l else none
  |none=>none
 let chain:=match late with |some l=>es.filter fun e=>!Nat.beq e l |none=>es
 let conc:=match late with |some l=>chain.filter fun e=>!YH e (T.getD l []) |none=>[]
 let steps:=Qvl cl T chain n late chain 0 []
 { ok:=QgU ops [] && Qgj ops T ops 0 && Qvv ops T conc steps late && QeR ops cl T steps [] [],steps,conc }
structure KS where
 r:Ar
 d:Option U3
 gd:Option (G3×Bool)
 g:KG
 i:Nat
 k:Nat
 span:Nat
 conc:Bool
inductive KR where
 |list (l:List KO)
 |drawn (n:Nat) (l:List KS)
def kgO:KO->KG
 | .q _ _ g=> .q g
 | .o _ _ _ g=>g
def QkY (o:KO) (s:DS) (conc:Bool):KS:=match o with
 | .q r d g=>{ r,d:=some d,gd:=none,g:= .q g,i:=s.i,k:=s.k,span:=s.span,conc }
 | .o r d gd g=>{ r,d,gd,g,i:=s.i,k:=s.k,span:=s.span,conc }
def Qdm (N:Nat) (ops:List Oper) (draw:Bool):Option KR:=match ops.mapM (Qj9 P N ops) with
 |none=>none
 | some ks=>match draw with
  |false=>some (.list ks)
  |true =>
   let pl:=YY ops ((ops.zip ks).map fun q=>cls P q.1.op (kgO q.2))
   bif pl.ok && Nat.ble ops.length 64 then (pl.steps.mapM fun (s:DS)=>(ks[s.i]?).map fun o=>QkY o s (YH s.i pl.conc)).map (.drawn ops.length) else none
def QoB (q:QaD) (a:List AV) (v:AV) (l:List AH):Bool:=QmW (fun h=>oB (q a h) (Qrw v)) l
def Qbd (a:List AV) (h:AH):Option (List Id):=ob (Qg6 (hd a)) fun q=>ob (h.cells q.1) fun c=>some (q.1::c.al)
abbrev Dk:=AF->AH->List AH->List Id->RF
def qOf (g:KG):Option QaD:=@KG.rec (fun _=>Option QaD) some (fun _=>none) (fun _=>none) g
def aOf (g:KG):Option QdR:=@KG.rec (fun _=>Option QdR) (fun _=>none) some (fun _=>none) g
def eOf (g:KG):Option QaV:=@KG.rec (fun _=>Option QaV) (fun _=>none) (fun _=>none) some g
def oF {α:Type} (o:Option α) (f:α->RF):RF:=@Option.rec α (fun _=>RF) .no f o
def QxO (s:KS) (ih:Dk) (F:AF) (h:AH) (hs:List AH) (tch:List Id):RF:=oF (qOf s.g) fun q=>oF (q (Ar.f s.r F) h) fun v=>ih (AF.put F s.d v) h hs tch
def QxQ (s:KS) (ih:Dk) (F:AF) (h:AH) (hs:List AH) (tch:List Id):RF:=oF (qOf s.g) fun q=>oF (hdO hs) fun h1=>oF (q (Ar.f s.r F) h1) fun v =>
 Kk (QoB q (Ar.f s.r F) v (Qbc s.span (tl hs))) (ih (AF.put F s.d v) h hs tch) .no
def QwD (base:Id) (s:KS) (ih:Dk) (F:AF) (h:AH) (hs:List AH) (tch:List Id):RF:=oF (aOf s.g) fun q=>oF (q (Ar.f s.r F) (Yv s.i base)) fun r =>
 ih (AF.put F s.d r.1) (AH.put h (Yv s.i base) r.2) hs tch
def Qyy (call:Jp) (s:KS) (ih:Dk) (F:AF) (h:AH) (hs:List AH) (tch:List Id):RF:=oF (eOf s.g) fun e=>rsF (e call (Ar.f s.r F) h) fun v h' =>
 Kk s.conc (oF (Qbd (Ar.f s.r F) h) fun t=>ih (AF.put F s.d v) h' (h'::hs) (Qhq t tch)) (ih (AF.put F s.d v) h' (h'::hs) tch)
def QxR (call:Jp) (s:KS) (ih:Dk) (F:AF) (h:AH) (hs:List AH) (tch:List Id):RF:=oF (eOf s.g) fun e=>oF (Qbd (Ar.f s.r F) h) fun t=>rsF (e call (Ar.f s.r F) h) fun v h' =>
 Kk (QmW (fun k=>Bool.not (Qrq k tch)) t) (ih (AF.put F s.d v) h' hs tch) .no
def Qxw (call:Jp) (base:Id) (s:KS):Dk->Dk:=match s.k with
 |0=>QxO s
 |1=>QxQ s
 |2=>QwD base s
 |3=>Qyy call s
 |_=>QxR call s
def QxP (s:KS) (ih:Dk) (F:AF) (h:AH) (hs:List AH) (tch:List Id):RF:=ih (AF.put F s.d .un) h (Kk (Nat.beq s.k 3) (h::hs) hs) tch
def Qp5 (call:Jp) (base:Id) (s:KS) (ih:Dk) (F:AF) (h:AH) (hs:List AH) (tch:List Id):RF :=
 oRF (QcN F s.gd) (Qxw call base s ih F h hs tch) (QxP s ih F h hs tch)
def Qnh (call:Jp) (base:Id) (l:List KS):Dk:=@List.rec KS (fun _=>Dk) (fun F h _ _=> .ok F h) (fun s _ ih=>Qp5 call base s ih) l
def Qku (call:Jp) (l:List KS) (F:AF) (base:Id) (h:AH):RF:=Qnh call base l F h [h] []
def Qm2 (call:Jp) (n:Nat) (l:List KS) (F:AF) (h:AH):RF:=Kk (QgA h.next) (Qku call l F h.next ⟨Yv n h.next,h.blk⟩) .no
def QlZ (call:Jp) (r:Option KR) (F:AF) (h:AH):RF:=oF r fun r=>@KR.rec (fun _=>RF) (fun l=>QvZ call l F h) (fun n l=>Qm2 call n l F h) r
/-! ### code and calls -/
def QrM (F:AF) (h:AH) (x y:AF->AH->RC) (c:Option KA):RC:=@Option.rec Bool (fun _=>RC) .no (fun b=>Kk b (x F h) (y F h)) (ob c fun a=>QiS (ka F a))
def QcM (call:Jp) (N n:Nat) (c:Code):AF->AH->RC :=
 @Code.rec (fun _=>AF->AH->RC) RC.nor
  (fun _ ops draw F h=>QvG (QlZ call (Qdm P N ops.toList draw) F h))
  (fun _ _ x y F h=>RC.seq (x F h) y)
  (fun c _ _ x y F h=>QrM F h x y (Qg5 c))
  (fun id _ x F h=>RC.blk id (x F h))
  (fun _ x=>Qnc x n)
  (fun _ _ _ _ _ _ _ _=> .no)
  (fun id F h=> .ext id F h)
  (fun _ _ _ _=> .no) (fun _ _ _=> .no) (fun _ _ _=> .no) RC.ret (fun _ _ _=> .no) c
inductive KV where
 |t (p:G3)
 |c (p:G3) (sz:Nat) (ag:Bool)
structure KF where
 N:Nat
 ps:List U3
 code:Code
 res:List KV
def Qrs:ResultVar->Option KV
 | .tmp t=>bif Nat.blt t 512 then some (.t (g3 t)) else none
 | .cell a t=>bif Nat.blt a 512 then (QiF P t).map fun q=> .c (g3 a) q.2 q.1 else none
def Qp1 (f:Nat):Option KF:=match P.funcs[f]? with
 | some fn=>match fn.body with
  |some c=>match fn.results.toList.mapM (Qrs P) with
   |some res=>bif fn.name == "runtime.NumGoroutine" ||!(Nat.ble fn.ntmps 512) ||!(Nat.ble (fn.params.size+fn.nfree) fn.ntmps) then none else some { N:=fn.ntmps,ps:=(List.range (fn.params.size+fn.nfree)).map u3,code:=c,res }
   |none=>none
  |none=>none
 |none=>none
def Qik (ps:List U3):List AV->AF->AF:=@List.rec U3 (fun _=>List AV->AF->AF) (fun _ F=>F) (fun p _ ih a F=>ih (tl a) (AF.set F p (hd a))) ps
def Qxc (F:AF) (h:AH) (v:KV):Option AV:=@KV.rec (fun _=>Option AV) (fun p=>some (AF.at F p)) (fun p sz ag=>Qpx sz ag [AF.at F p] h) v
def QtC (F:AF) (h:AH) (l:List KV):Option (List AV):=@List.rec KV (fun _=>Option (List AV)) (some []) (fun v _ ih=>ob (Qxc F h v) fun x=>ob ih fun r=>some (x::r)) l
def Qr8 (l:List AV):AV:=Kk (QbY 1 l) (hd l) (.tup l)
def Qro (l:List KV) (F:AF) (h:AH):RS:=Qnn (ob (QtC F h l) fun r=>some (Qr8 r)) h
def Qyt (r:RC) (l:List KV):RS:=@RC.rec (fun _=>RS) .no (Qro l) (Qro l) (fun _ _ _=> .no) r
def QrP (call:Jp) (n:Nat) (k:KF) (a:List AV) (h:AH):RS:=Kk (QbY (Qej k.ps) a) (Qyt (QcM P call k.N n k.code (Qik k.ps a Dp) h) k.res) .no
abbrev Ext:=Nat->Option (List AV->Option AV)
def QrO (X:Ext) (n:Nat) (call:Jp) (f:Nat) (a:List AV) (h:AH):RS :=
 @Option.rec (List AV->Option AV) (fun _=>RS) (@Option.rec KF (fun _=>RS) .no (fun k=>QrP P call n k a h) (Qp1 P f)) (fun g=>Qnn (g a) h) (X f)
def QjI (X:Ext) (n d:Nat):Jp:=@Nat.rec (fun _=>Jp) (fun _ _ _=> .no) (fun _ ih=>QrO P X n ih) d
def Dg:AH:=⟨⟨.d0, .d0, .d0, .d0, .d0⟩,Qwc⟩
/-! ### functions of one string that are reckoned once for each -/
def enc (l:List Nat):Nat:=@List.rec Nat (fun _=>Nat) 1 (fun x _ ih=>Nat.add (Nat.mul ih 256) x) l
def dec (n c:Nat):List Nat:=@Nat.rec (fun _=>Nat->List Nat) (fun _=>[]) (fun _ ih c=>Kk (Nat.ble c 1) [] (Nat.mod c 256::ih (Nat.div c 256))) n c
def QrL {T:Type} (n:Nat) (k:Nat->T):T:=@Nat.rec (fun _=>T) (k 0) (fun m _=>k (Nat.succ m)) n
def QlS (v:AV):Bool:=@AV.rec (fun _=>Bool) (fun _=>Bool) true (fun _=>true) (fun _=>true) (fun _=>true) (fun _ _=>true) (fun _=>true) true (fun _ _=>false) true (fun _ _ _ _ _=>false) true (fun _=>false) true (fun _ _ _ _ _=>false) true (fun _ _ iv=>iv) (fun _ il=>il) (fun _ il=>il) true (fun _ _ ix ir=>QbO ix ir) v
def QxL (r:RS):Option AV:=@RS.rec (fun _=>Option AV) none (fun v _=>Kk (QlS v) (some v) none) r
def Qvr (X:Ext) (n d f:Nat) (l:List Nat) (c:Nat):Option AV:=Kk (eqL (dec 64 c) l) (QxL (QjI P X n d f [.s (dec 64 c)] Dg)) none
def Qvs (X:Ext) (n d f:Nat) (a:List AV):Option AV:=Kk (QbY 1 a) (ob (Qc0 (hd a)) fun l=>QrL (enc l) (Qvr P X n d f l)) none
def QrC (X:Ext) (n d:Nat) (M:List Nat):Ext:=fun f=>Kk (YH f M) (some (Qvs P X n d f)) (X f)
/-! ### the two functions without a body -/
def Qng (c:Nat) (l:List Nat):Nat->Option Nat:=@List.rec Nat (fun _=>Nat->Option Nat) (fun _=>none) (fun x _ ih n=>Kk (Nat.beq x c) (some n) (ih (Nat.succ n))) l
def QjW (c:Nat) (l:List Nat):Nat->Nat:=@List.rec Nat (fun _=>Nat->Nat) (fun n=>n) (fun x _ ih n=>ih (Kk (Nat.beq x c) (Nat.succ n) n)) l
def ibK (a:List AV):Option AV:=Kk (QbY 2 a) (ob (Qc0 (hd a)) fun l=>ob (QkZ (hd2 a)) fun c=>Kk (Nat.ble c 255) (orE (Qng c l 0) (some (.i .i64 (.negSucc 0))) fun n=>some (.n n)) none) none
def ctK (a:List AV):Option AV:=Kk (QbY 2 a) (ob (Qc0 (hd a)) fun l=>ob (QkZ (hd2 a)) fun c=>Kk (Nat.ble c 255) (some (.n (QjW c l 0))) none) none
def Qwe (ib ct:Nat):Ext:=fun f=>Kk (Nat.beq f ib) (some ibK) (Kk (Nat.beq f ct) (some ctK) none)
end
end Go.Pw
