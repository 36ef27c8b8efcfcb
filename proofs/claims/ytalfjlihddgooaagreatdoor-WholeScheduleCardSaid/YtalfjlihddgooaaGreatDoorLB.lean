/- -/
import Derived.Test.YtalfjlihddgooaaGreatDoorBa
import Derived.Test.YtalfjlihddgooaaGreatDoorLA
set_option linter.unusedSimpArgs false
namespace Go.Pw
/-! ### closed facts on types, as functions that the kernel reckons -/
def Qam (P:Program) (T:TypeId):Option (Bool×Nat) :=
 match P.underlying T,P.info? T with
 |some d,some i=>some ((match d with | .struct _ | .array _ _=>true |_=>false),i.size)
 |_,_=>none
def JM (P:Program) (T:TypeId):Option (TypeId×Nat×Nat) :=
 match P.underlying T with
 |some (.slice e)=>(P.info? e).map fun i=>(e,i.size,i.bytes)
 |_=>none
def JW (P:Program) (T:TypeId):Option Value:=(P.info? T).bind (·.zero)
def Qhw (P:Program) (T:TypeId) (k:Nat):Option Nat :=
 match P.underlying T with
 | some (.struct fs)=>match fs[k]? with
  |some f=>match P.info? f.type with
   |some i=>if i.size=0 then none else some f.offset
   |none=>none
  |none=>none
 |_=>none
section
variable {P:Program} {T:TypeId} {w:World}
theorem Qea {b:Bool} {n:Nat} (h:Qam P T=some (b,n)):∃d i,P.underlying T=some d∧P.info? T=some i∧i.size=n∧(match d with | .struct _ | .array _ _=>true |_=>false)=b:=by
 unfold Qam at h
 split at h
 ·rename_i d i hd hi
  simp only [XI,Prod.mk.injEq] at h
  exact ⟨d,i,hd,hi,h.2,h.1⟩
 ·cases h
theorem J7 {e n b:Nat} (h:JM P T=some (e,n,b)):∃i,P.underlying T=some (.slice e)∧P.info? e=some i∧i.size=n∧i.bytes=b:=by
 unfold JM at h
 split at h
 ·rename_i e' hd
  obtain ⟨i,hi,hx⟩:=Xp.1 h
  simp only [Prod.mk.injEq] at hx
  obtain ⟨rfl,h1,h2⟩:=hx
  exact ⟨i,hd,hi,h1,h2⟩
 ·cases h
theorem Qdp {z:Value} (h:JW P T=some z):∃i,P.info? T=some i∧i.zero=some z:=by
 unfold JW at h
 exact Option.bind_eq_some_iff.1 h
theorem Qe8 {b:Bool} {n:Nat} (h:Qam P T=some (b,n)):(isAgg T).run P w= .ok b w:=by
 obtain ⟨d,i,hd,_,_,hb⟩:=Qea h
 simp only [isAgg,Xe,Xk hd,Xd]
 cases d <;> simp at hb <;> subst hb <;> rfl
theorem GN {b:Bool} {n:Nat} (h:Qam P T=some (b,n)):(sizeOf T).run P w= .ok n w:=by
 obtain ⟨d,i,_,hi,hs,_⟩:=Qea h
 simp [sizeOf,typeInfo,hi,hs]
theorem Qld {a:Addr} {v:Value} (h:w.cell? a=some v):(load a).run P w= .ok v w:=by
 simp [load,Sem.run,h]
theorem YX {a:Addr} {v:Value} {n:Nat} (hT:Qam P T=some (false,n)) (h:w.cell? a=some v):(loadVar T a).run P w= .ok v w:=by
 simp only [loadVar,Xe,Qe8 hT,Xd,Xf,if_false,Qld h]
theorem Yz {a:Addr} {cs:List Value} (hT:Qam P T=some (true,cs.length)) (h:∀j v,cs[j]?=some v->w.cell? (a.add j)=some v):(loadVar T a).run P w= .ok (.agg cs.toArray) w:=by
 simp only [loadVar,Xe,Qe8 hT,Xd,if_true,GN hT,run_loadCells_list w a cs h,Xg]
theorem Qff {b off:Nat} {v:Value} {cs:List Value} {cur:Array Value} {E:TypeId} {ag:Bool} (hT:Qam P T=some (ag,cs.length)) (hv:v.cells=cs.toArray) (h:w.heap[b]?=some (.cells cur E (0,0)))
  (hfit:off+cs.length<=cur.size) (h1:∀v ∈ cs,v.oneCell'=true) :
  (storeVar T ⟨b,off,none⟩ v).run P w= .ok () (w.setRow b (cur.toList.take off++cs++cur.toList.drop (off+cs.length)).toArray):=by
 have:=run_storeCells_at P b off E cs 0 cur w h (by simpa using hfit) h1
 simp only [Nat.add_zero] at this
 simp only [storeVar,Xe,GN hT,Xd,hv]
 simp [this]
end
def Sub {α β:Type} (E:Enc α) (off:Nat) (F:Enc β) (f:α->β):Prop:=∀s cells a,E.rep s cells a->F.rep s ((cells.drop off).take F.sz) (f a)
section
variable {α β γ:Type} {E:Enc α} {F:Enc β} {off:Nat}
theorem Sub.refl (E:Enc α):Sub E 0 E id:=fun s cells a h=>by
 have:=E.len h
 rw [List.drop_zero, <-this,List.take_length];exact h
theorem Sub.iso {f:γ->α} {g:α->β} (h:Sub E off F g):Sub (E.iso f) off F (fun c=>g (f c)):=fun s cells a hr=>h s cells (f a) hr
theorem Sub.fst {A:Enc α} {B:Enc γ} {g:α->β} (h:Sub A off F g):Sub (A.pair B) off F (fun p=>g p.1):=by
 rintro s cells p ⟨c1,c2,rfl,h1,h2⟩
 have hr:=h s c1 p.1 h1
 have hl:=F.len hr
 have:(c1.drop off).length ≥ F.sz:=by simp at hl ⊢;omega
 rw [List.drop_append_of_le_length (by simp at this;have:=F.pos;omega),List.take_append_of_le_length this]
 exact hr
theorem Sub.snd {A:Enc α} {B:Enc γ} {g:γ->β} {n:Nat} (h:Sub B off F g) (hn:A.sz+off=n):Sub (A.pair B) n F (fun p=>g p.2):=by
 rintro s cells p ⟨c1,c2,rfl,h1,h2⟩
 subst hn
 rw [<-A.len h1,List.drop_length_add_append]
 exact h s c2 p.2 h2
end
def At {α:Type} (s:Gc) (b off:Nat) (E:Enc α) (a:α):Prop:=∃c T fz,s b=some (.cells c T fz)∧E.rep s ((c.toList.drop off).take E.sz) a
theorem At.mono {α:Type} {s t:Gc} {b off:Nat} {E:Enc α} {a:α} (h:At s b off E a) (l:Gc.le s t):At t b off E a :=
 let ⟨c,T,fz,h1,h2⟩:=h;⟨c,T,fz,l _ _ h1,E.mono l h2⟩
theorem At.sub {α β:Type} {s:Gc} {b off n m:Nat} {E:Enc α} {F:Enc β} {f:α->β} {a:α} (h:At s b off E a) (hs:Sub E n F f) (hm:off+n=m):At s b m F (f a):=by
 obtain ⟨c,T,fz,h1,h2⟩:=h
 refine ⟨c,T,fz,h1,?_⟩
 have h3:=hs s _ a h2
 have hl:=F.len h3
 have hE:=E.len h2
 subst hm
 rw [List.drop_take,List.drop_drop] at h3
 rw [List.take_take] at h3
 have:min F.sz (E.sz - n)=F.sz:=by
  rcases Nat.le_total F.sz (E.sz - n) with h |h
  ·omega
  ·simp only [XF,List.length_drop] at hl
   omega
 rw [this] at h3
 exact h3
theorem Ga.shape {α:Type} {E:Enc α} {s:Gc} {v:Value} {xs:List α} (h:Ga E s v xs):∃a c,v= .slice a xs.length c:=by
 rcases h with ⟨rfl,rfl⟩ |⟨a,cap,rfl,rfl⟩ |⟨b,off,cap,c,T,fz,cells,rfl,_⟩ <;> exact ⟨_,_,rfl⟩
theorem Ga.one {α:Type} {E:Enc α} {s:Gc} {v:Value} {xs:List α} (h:Ga E s v xs):v.oneCell'=true:=by
 obtain ⟨a,c,rfl⟩:=h.shape;rfl
theorem Ga.nil {α:Type} (E:Enc α) (s:Gc):Ga E s (.slice none 0 0) []:= .inl ⟨rfl,rfl⟩
theorem Ga.le {α:Type} {E:Enc α} {s:Gc} {v:Value} {xs:List α} (h:Ga E s v xs):xs.length<=maxLen:=by
 rcases h with ⟨rfl,rfl⟩ |⟨a,cap,rfl,rfl⟩ |⟨b,off,cap,c,T,fz,cells,rfl,h1,h2,_⟩
 ·simp
 ·simp
 ·omega
theorem Ga.at {α:Type} {E:Enc α} {s:Gc} {v:Value} {xs:List α} {n:Int} {y:α} (h:Ga E s v xs) (hy:idx xs n=some y) :
  ∃b off c,v= .slice (some ⟨b,off,none⟩) xs.length c∧At s b (off+n.toNat * E.sz) E y:=by
 obtain ⟨_,hlt,hget⟩:=Qj hy
 rcases h with ⟨rfl,rfl⟩ |⟨a,cap,rfl,rfl⟩ |⟨b,off,cap,c,T,fz,cells,rfl,h1,h2,h3,h4,h5⟩
 ·simp at hget
 ·simp at hget
 ·obtain ⟨d,hd,hr⟩:=h5.get hget
  refine ⟨b,off,cap,Z,c,T,fz,h3,?_⟩
  have hlen:=h5.len
  have hin:n.toNat * E.sz+E.sz<=cells.length:=by
   rw [hlen, <-Nat.succ_mul]
   exact Nat.mul_le_mul_right _ (by omega)
  rw [<-h4,List.drop_take,List.drop_drop,List.take_take] at hr
  have:min E.sz (cells.length - n.toNat * E.sz)=E.sz:=by omega
  rw [this] at hr
  rw [hr];exact hd
section
variable {P:Program} {ρ:Operand->Value} {o:Oper} {w w0:World} {s:Gc} {H:List Res} {K:Value->World->Prop} {T:TypeId}
theorem Qa2 (hS:St w0 s H w) {b off:Nat} {c:Array Value} {Te:TypeId} {fz:Nat×Nat} (h:s b=some (.cells c Te fz)):w.cell? ⟨b,off,none⟩=c[off]?:=by
 simp [World.cell?,hS.stay _ _ h]
/-! ### what stays -/
theorem Zr {α:Type} {E:Enc α} {xs:List α} {x:Operand} {v:Value} {e n b:Nat} (hT:JM P T=some (e,n,b)) (ho:o.op= .call { callee:= .builtin .len,args:=#[x],argTypes:=#[T] }) (hx:ρ x=v) (h:Ga E s v xs)
  (hk:K (.int .i64 (xs.length:Int)) w):Exec P ρ o w K:=by
 obtain ⟨i,hu,_⟩:=J7 hT
 obtain ⟨a,c,rfl⟩:=h.shape
 exact QfX hu ho hx hk
theorem QfN {b off len cap:Nat} {k:IntKind} {n:Int} {e sz by_:Nat} (hT:JM P T=some (e,sz,by_)) (h0:0<=n) (h1:n<len) :
  (Instr.indexAt T (.slice (some ⟨b,off,none⟩) len cap) (.int k n)).run P w= .ok (.pointer (some ⟨b,off+n.toNat * sz,none⟩)) w:=by
 obtain ⟨i,hu,hi,hs,_⟩:=J7 hT
 simp [Instr.indexAt,asIntOf,Xk hu,h0,h1,sizeOf,typeInfo,hi,hs,Addr.add_lit]
theorem Qi {x i:Operand} {k:IntKind} {n:Int} {b off len cap e sz by_:Nat} (hT:JM P T=some (e,sz,by_)) (ho:o.op= .indexAddr T x i) (hx:ρ x= .slice (some ⟨b,off,none⟩) len cap) (hi:ρ i= .int k n)
  (h0:0<=n) (h1:n<len) (hk:K (.pointer (some ⟨b,off+n.toNat * sz,none⟩)) w):Exec P ρ o w K:=by
 refine .of_run ?_ hk
 unfold execOp
 simp only [ho,hx,hi,Xe,QfN hT h0 h1,Xd,Xg]
theorem QfY {α:Type} {E:Enc α} {xs:List α} {y:α} {x i:Operand} {v:Value} {k:IntKind} {n:Int} {e by_:Nat} (hT:JM P T=some (e,E.sz,by_)) (ho:o.op= .indexAddr T x i) (hx:ρ x=v) (hi:ρ i= .int k n)
  (h:Ga E s v xs) (hy:idx xs n=some y) (hk:∀b off,At s b off E y->K (.pointer (some ⟨b,off,none⟩)) w):Exec P ρ o w K:=by
 obtain ⟨h0,h1,_⟩:=Qj hy
 obtain ⟨b,off,c,rfl,hat⟩:=h.at hy
 exact Qi hT ho hx hi h0 h1 (hk _ _ hat)
theorem Zp {x:Operand} {k b off foff m:Nat} (hT:Qhw P T k=some foff) (ho:o.op= .fieldAddr T x k) (hx:ρ x= .pointer (some ⟨b,off,none⟩)) (hm:off+foff=m) (hk:K (.pointer (some ⟨b,m,none⟩)) w):Exec P ρ o w K:=by
 subst hm
 refine .of_run ?_ hk
 unfold Qhw at hT
 split at hT
 ·rename_i fs hu
  split at hT
  ·rename_i f hf
   split at hT
   ·rename_i i hi
    split at hT
    ·cases hT
    ·rename_i hsz
     have hoff:=Zu hT
     subst hoff
     simp [execOp,ho,hx,Instr.fieldAt,Xk hu,hf,Instr.sureAddr,fieldPlace,sizeOf,typeInfo,hi,hsz,Addr.add_lit,go_sem]
   ·cases hT
  ·cases hT
 ·cases hT
theorem Zw {α:Type} {E:Enc α} {y:α} {x:Operand} {b off n:Nat} (hS:St w0 s H w) (hT:Qam P T=some (E.agg,E.sz)) (ho:o.op= .load T x) (hx:ρ x= .pointer (some ⟨b,off,none⟩)) (hn:off=n)
  (h:At s b n E y) (hk:∀v,E.val s v y->K v w):Exec P ρ o w K:=by
 subst hn
 obtain ⟨c,Te,fz,h1,h2⟩:=h
 have hlen:=E.len h2
 have hcell:∀j v,((c.toList.drop off).take E.sz)[j]?=some v->w.cell? ((⟨b,off,none⟩:Addr).add j)=some v:=by
  intro j v hv
  rw [Addr.add_lit,Qa2 hS h1]
  rw [Xo] at hv
  split at hv
  ·rw [Xu] at hv
   simpa using hv
  ·cases hv
 cases hag:E.agg with
 | true =>
  have hrun:=Yz (P:=P) (w:=w) (a:=⟨b,off,none⟩) (cs:=(c.toList.drop off).take E.sz) (by rw [hlen, <-hag];exact hT) hcell
  refine .of_run (v:= .agg ((c.toList.drop off).take E.sz).toArray) ?_ (hk _ ?_)
  ·unfold execOp
   simp only [ho,hx,Instr.loadAt,Instr.sureAddr,Xe,Xg,Xd,hrun]
  ·unfold Enc.val
   rw [if_pos hag]
   exact ⟨_,Z,by simpa using h2⟩
 | false =>
  have h1':=E.single hag
  rw [h1'] at h2 hcell hlen
  obtain ⟨v,hv⟩:∃v,(c.toList.drop off).take 1=[v]:=by
   match hq:(c.toList.drop off).take 1,hlen with
   |[v],_=>exact ⟨v,rfl⟩
  rw [hv] at h2 hcell
  have hc0:=hcell 0 v rfl
  rw [Addr.add_zero'] at hc0
  rw [hag] at hT
  have hrun:=YX (P:=P) (w:=w) hT hc0
  refine .of_run (v:=v) ?_ (hk _ ?_)
  ·unfold execOp
   simp only [ho,hx,Instr.loadAt,Instr.sureAddr,Xe,Xg,Xd,hrun]
  ·unfold Enc.val
   rw [if_neg (by simp [hag])]
   exact h2
/-! ### boxes -/
theorem St.box_heap {b:Nat} {Tb:TypeId} {cs:List Value} (hS:St w0 s (.box b Tb cs::H) w):w.heap[b]?=some (.cells cs.toArray Tb (0,0)):=by
 obtain ⟨bs,hn,hs,b1,b2,e,h1,h2⟩:=hS.own
 exact h1.2
theorem DR {x:Operand} {v:Value} {cs:List Value} (hS:St w0 s H w) (ho:o.op= .box T x) (hx:ρ x=v) (hc:v.cells=cs.toArray) (hk:∀b w',St w0 s (.box b T cs::H) w'->K (.pointer (some ⟨b,0,none⟩)) w'):Exec P ρ o w K:=by
 refine .of_run (v:= .pointer (some ⟨w.heap.size,0,none⟩)) (w':=w.alloc (.cells cs.toArray T)) ?_ (hk _ _ (hS.alloc T cs))
 unfold execOp
 simp only [ho,hx,Instr.box,newVar,newRow,newObj,hc,Xe,Xg,Xd,Sem.run]
 rfl
theorem DT {z:Value} {cs:List Value} (hS:St w0 s H w) (hT:JW P T=some z) (ho:o.op= .alloc T) (hc:z.cells=cs.toArray) (hk:∀b w',St w0 s (.box b T cs::H) w'->K (.pointer (some ⟨b,0,none⟩)) w'):Exec P ρ o w K:=by
 obtain ⟨i,hi,hz⟩:=Qdp hT
 refine .of_run (v:= .pointer (some ⟨w.heap.size,0,none⟩)) (w':=w.alloc (.cells cs.toArray T)) ?_ (hk _ _ (hS.alloc T cs))
 unfold execOp
 simp only [ho,Instr.alloc,zeroValue,typeInfo,program,newVar,newRow,newObj,hc,Xe,Xg,Xd,Sem.run,hi,hz]
 rfl
theorem Zn {x:Operand} {b off n:Nat} {Tb:TypeId} {cs:List Value} {v:Value} (hS:St w0 s (.box b Tb cs::H) w) (hT:Qam P T=some (false,n)) (ho:o.op= .load T x) (hx:ρ x= .pointer (some ⟨b,off,none⟩)) (hv:cs[off]?=some v) (hk:K v w):Exec P ρ o w K:=by
 have hc:w.cell? ⟨b,off,none⟩=some v:=by simp [World.cell?,hS.box_heap,hv]
 refine .of_run ?_ hk
 unfold execOp
 simp only [ho,hx,Instr.loadAt,Instr.sureAddr,Xe,Xg,Xd,YX hT hc]
theorem Q4 {x:Operand} {b off:Nat} {Tb:TypeId} {cs ds:List Value} (hS:St w0 s (.box b Tb cs::H) w) (hT:Qam P T=some (true,ds.length)) (ho:o.op= .load T x) (hx:ρ x= .pointer (some ⟨b,off,none⟩)) (hv:(cs.drop off).take ds.length=ds) (hk:K (.agg ds.toArray) w):Exec P ρ o w K:=by
 have hc:∀j v,ds[j]?=some v->w.cell? ((⟨b,off,none⟩:Addr).add j)=some v:=by
  intro j v hj
  rw [<-hv,Xo] at hj
  split at hj
  ·rw [Xu] at hj
   rw [Addr.add_lit]
   simp [World.cell?,hS.box_heap,hj]
  ·cases hj
 refine .of_run ?_ hk
 unfold execOp
 simp only [ho,hx,Instr.loadAt,Instr.sureAddr,Xe,Xg,Xd,Yz hT hc]
theorem QcV (w:World) (g:Nat) (cs:Array Value):(w.setRow g cs).heap.size=w.heap.size:=by simp [World.setRow]
theorem St.box_set {b:Nat} {Tb:TypeId} {cs ds:List Value} (hS:St w0 s (.box b Tb cs::H) w):St w0 s (.box b Tb ds::H) (w.setRow b ds.toArray):=by
 refine hS.turn Z Z Z (Xi _) (by rw [QcV];exact Xi _) ?_
 rintro b1 ⟨rfl,hb⟩
 refine ⟨[b],⟨Z,setRow_heap w b _ _ _ _ hb⟩,by simp,fun x hx=> .inl hx,fun x _ hx=>setRow_other w b x _ (by simpa using hx)⟩
theorem Qu {x y:Operand} {b off:Nat} {Tb:TypeId} {cs ds es:List Value} {v:Value} {ag:Bool} (hS:St w0 s (.box b Tb cs::H) w) (hT:Qam P T=some (ag,ds.length)) (ho:o.op= .store T x y) (hx:ρ x= .pointer (some ⟨b,off,none⟩)) (hy:ρ y=v)
  (hc:v.cells=ds.toArray) (h1:∀v ∈ ds,v.oneCell'=true) (hfit:off+ds.length<=cs.length) (he:cs.take off++ds++cs.drop (off+ds.length)=es) (hk:∀w',St w0 s (.box b Tb es::H) w'->K undef w'):Exec P ρ o w K:=by
 subst he
 have hrun:=Qff (P:=P) (w:=w) hT hc hS.box_heap (by simpa using hfit) h1
 refine .of_skip (w':=w.setRow b (cs.take off++ds++cs.drop (off+ds.length)).toArray) ?_ (hk _ hS.box_set)
 unfold execOp
 simp only [ho,hx,hy,Instr.storeAt,Instr.sureAddr,Xe,Xg,Xd]
 simp only [List.toList_toArray] at hrun
 simp only [hrun,Xd,Xg]
/-! ### slices of the call's own -/
section
variable {α:Type} {E:Enc α} {Te:TypeId} {v:Value} {xs:List α}
theorem Qle {base n:Nat} {cells:List Value} {sz:Nat} (h:w.ownsRow base Te sz v n cells):∃a c,v= .slice a n c:=by
 rcases h.2 with ⟨rfl,rfl⟩ |⟨g,cap,cur,rfl,_⟩
 ·exact ⟨_,_,Z⟩
 ·exact ⟨_,_,Z⟩
theorem Qpo {bs:List Nat} (h:(Res.arr E Te v xs).p s w bs):∃a c,v= .slice a xs.length c:=by
 obtain ⟨cells,_,h2,_⟩:=h
 exact Qle h2
theorem St.arr_shape (hS:St w0 s (.arr E Te v xs::H) w):∃a c,v= .slice a xs.length c:=by
 obtain ⟨bs,hn,hs,b1,b2,e,h1,h2⟩:=hS.own
 exact Qpo h1
theorem St.arr_one (hS:St w0 s (.arr E Te v xs::H) w):v.oneCell'=true:=by
 obtain ⟨a,c,rfl⟩:=hS.arr_shape;rfl
theorem QuM {bs:List Nat} (h:(Res.arr E Te v xs).p s w bs):xs.length<=maxLen:=by
 obtain ⟨cells,h1,h2,_⟩:=h
 rcases h2.2 with ⟨_,h⟩ |⟨g,cap,cur,rfl,_,_,h3,h4,_⟩
 ·rw [h];exact X7 _
 ·omega
theorem St.arr_le (hS:St w0 s (.arr E Te v xs::H) w):xs.length<=maxLen:=by
 obtain ⟨bs,hn,hs,b1,b2,e,h1,h2⟩:=hS.own
 exact QuM h1
theorem QK {x:Operand} {e n b:Nat} (hS:St w0 s (.arr E Te v xs::H) w) (hT:JM P T=some (e,n,b)) (ho:o.op= .call { callee:= .builtin .len,args:=#[x],argTypes:=#[T] }) (hx:ρ x=v) (hk:K (.int .i64 (xs.length:Int)) w):Exec P ρ o w K:=by
 obtain ⟨i,hu,_⟩:=J7 hT
 obtain ⟨a,c,rfl⟩:=hS.arr_shape
 exact QfX hu ho hx hk
theorem QuN {bs:List Nat} {n:Int} {y:α} (h:(Res.arr E Te v xs).p s w bs) (hy:idx xs n=some y):∃g cap,v= .slice (some ⟨g,0,none⟩) xs.length cap:=by
 obtain ⟨_,hlt,hget⟩:=Qj hy
 obtain ⟨cells,h1,h2,_⟩:=h
 rcases h2.2 with ⟨_,h⟩ |⟨g,cap,cur,rfl,_⟩
 ·omega
 ·exact ⟨g,cap,Z⟩
theorem St.arr_at {n:Int} {y:α} (hS:St w0 s (.arr E Te v xs::H) w) (hy:idx xs n=some y):∃g cap,v= .slice (some ⟨g,0,none⟩) xs.length cap:=by
 obtain ⟨bs,hn,hs,b1,b2,e,h1,h2⟩:=hS.own
 exact QuN h1 hy
theorem QkF {bs:List Nat} {g cap:Nat} {n:Int} {y:α} (h:(Res.arr E Te (.slice (some ⟨g,0,none⟩) xs.length cap) xs).p s w bs) (hy:idx xs n=some y) :
  ∃cur,w.heap[g]?=some (.cells cur Te (0,0))∧E.rep s ((cur.toList.drop (n.toNat * E.sz)).take E.sz) y∧n.toNat * E.sz+E.sz<=cur.size:=by
 obtain ⟨h0,hlt,hget⟩:=Qj hy
 obtain ⟨cells,h1,h2,_⟩:=h
 rcases h2.2 with ⟨h,_⟩ |⟨g',cap',cur,hv,_,hg,hnc,_,hcs,htake⟩
 ·cases h
 ·cases hv
  obtain ⟨d,hd,hr⟩:=h1.get hget
  have hmul:n.toNat * E.sz+E.sz<=xs.length * E.sz:=by rw [<-Nat.succ_mul];exact Nat.mul_le_mul_right _ (by omega)
  refine ⟨cur,hg,?_,?_⟩
  ·rw [<-htake,List.drop_take,List.take_take] at hr
   have:min E.sz (xs.length * E.sz - n.toNat * E.sz)=E.sz:=by omega
   rw [this] at hr
   rw [hr];exact hd
  ·rw [hcs]
   exact X0 hmul (Nat.mul_le_mul_right _ hnc)
theorem Qpg {β:Type} {F:Enc β} {z:β} {x:Operand} {b off:Nat} {cur:Array Value} {Tb:TypeId} {fz:Nat×Nat} (hT:Qam P T=some (F.agg,F.sz)) (ho:o.op= .load T x) (hx:ρ x= .pointer (some ⟨b,off,none⟩))
  (hw:w.heap[b]?=some (.cells cur Tb fz)) (hr:F.rep s ((cur.toList.drop off).take F.sz) z) (hk:∀v,F.val s v z->K v w):Exec P ρ o w K:=by
 have hlen:=F.len hr
 have hcell:∀j v,((cur.toList.drop off).take F.sz)[j]?=some v->w.cell? ((⟨b,off,none⟩:Addr).add j)=some v:=by
  intro j v hv
  rw [Addr.add_lit]
  rw [Xo] at hv
  split at hv
  ·rw [Xu] at hv
   simp [World.cell?,hw]
   simpa using hv
  ·cases hv
 cases hag:F.agg with
 | true =>
  have hrun:=Yz (P:=P) (w:=w) (a:=⟨b,off,none⟩) (cs:=(cur.toList.drop off).take F.sz) (by rw [hlen, <-hag];exact hT) hcell
  refine .of_run (v:= .agg ((cur.toList.drop off).take F.sz).toArray) ?_ (hk _ ?_)
  ·unfold execOp
   simp only [ho,hx,Instr.loadAt,Instr.sureAddr,Xe,Xg,Xd,hrun]
  ·unfold Enc.val
   rw [if_pos hag]
   exact ⟨_,Z,by simpa using hr⟩
 | false =>
  have h1':=F.single hag
  rw [h1'] at hr hcell hlen
  obtain ⟨v,hv⟩:∃v,(cur.toList.drop off).take 1=[v]:=by
   match hq:(cur.toList.drop off).take 1,hlen with
   |[v],_=>exact ⟨v,rfl⟩
  rw [hv] at hr hcell
  have hc0:=hcell 0 v rfl
  rw [Addr.add_zero'] at hc0
  rw [hag] at hT
  have hrun:=YX (P:=P) (w:=w) hT hc0
  refine .of_run (v:=v) ?_ (hk _ ?_)
  ·unfold execOp
   simp only [ho,hx,Instr.loadAt,Instr.sureAddr,Xe,Xg,Xd,hrun]
  ·unfold Enc.val
   rw [if_neg (by simp [hag])]
   exact hr
theorem Qqz {β:Type} {F:Enc β} {f:α->β} {y:α} {off base:Nat} {l:List Value} (hs:Sub E off F f) (h:E.rep s ((l.drop base).take E.sz) y):F.rep s ((l.drop (base+off)).take F.sz) (f y):=by
 have h3:=hs s _ y h
 have hl:=F.len h3
 rw [List.drop_take,List.drop_drop,List.take_take] at h3
 have:min F.sz (E.sz - off)=F.sz:=by
  rcases Nat.le_total F.sz (E.sz - off) with h |h
  ·omega
  ·have:=F.pos
   simp only [XF,List.length_drop] at hl
   omega
 rw [this] at h3
 exact h3
theorem Qw {β:Type} {F:Enc β} {f:α->β} {y:α} {x:Operand} {g cap off m:Nat} {n:Int} (hS:St w0 s (.arr E Te v xs::H) w) (hv:v= .slice (some ⟨g,0,none⟩) xs.length cap) (hT:Qam P T=some (F.agg,F.sz)) (ho:o.op= .load T x)
  (hx:ρ x= .pointer (some ⟨g,m,none⟩)) (hm:m=0+n.toNat * E.sz+off) (hy:idx xs n=some y) (hs:Sub E off F f) (hk:∀v,F.val s v (f y)->K v w):Exec P ρ o w K:=by
 rw [Nat.zero_add] at hm
 subst hm
 subst hv
 obtain ⟨bs,hn,hss,b1,b2,e,h1,h2⟩:=hS.own
 obtain ⟨cur,hg,hr,_⟩:=QkF h1 hy
 exact Qpg hT ho hx hg (Qqz hs hr) hk
theorem Qfd {s:Gc} {v a:Value}:G4.val s v a↔v=a∧a.oneCell'=true:=by
 simp [Enc.val,G4]
theorem QhJ {bs:List Nat} {g cap:Nat} {n:Int} {y:α} {ds:List Value} (h:(Res.arr E Te (.slice (some ⟨g,0,none⟩) xs.length cap) xs).p s w bs) (_h0:0<=n) (hlt:n.toNat<xs.length) (hd:E.rep s ds y) :
  ∃cur,w.heap[g]?=some (.cells cur Te (0,0))∧n.toNat * E.sz+ds.length<=cur.size∧bs=[g] ∧
   (Res.arr E Te (.slice (some ⟨g,0,none⟩) xs.length cap) (xs.set n.toNat y)).p s (w.setRow g (cur.toList.take (n.toNat * E.sz)++ds++cur.toList.drop (n.toNat * E.sz+ds.length)).toArray) [g]:=by
 obtain ⟨cells,h1,h2,rfl⟩:=h
 rcases h2.2 with ⟨h,_⟩ |⟨g',cap',cur,hv,_,hg,hnc,hcm,hcs,htake⟩
 ·cases h
 ·cases hv
  have hmul:n.toNat * E.sz+E.sz<=xs.length * E.sz:=by rw [<-Nat.succ_mul];exact Nat.mul_le_mul_right _ (by omega)
  have hcur:xs.length * E.sz<=cur.size:=by rw [hcs];exact Nat.mul_le_mul_right _ hnc
  have hdl:=E.len hd
  have hset:=h1.set hlt hd
  refine ⟨cur,hg,by omega,by simp [Value.ownBlock],_,hset,⟨by rw [hset.len], .inr ⟨g,cap,_,by simp,X7 _,setRow_heap w g cur _ Te _ hg,by simpa using hnc,hcm,?_,?_⟩⟩,by simp [Value.ownBlock]⟩
  ·simp only [List.size_toArray,Xt,XF,List.length_drop,Array.length_toList]
   omega
  ·rw [List.length_set,hdl]
   rw [<-htake]
   have hA:(cur.toList.take (n.toNat * E.sz)).length=n.toNat * E.sz:=by simp;omega
   rw [List.toList_toArray,List.append_assoc,List.take_append,hA,List.take_append,hdl]
   rw [X9 (by rw [hA];omega),X9 (by omega:ds.length<=_)]
   rw [List.take_take,show min (n.toNat * E.sz) (xs.length * E.sz)=n.toNat * E.sz by omega,List.append_assoc,List.drop_take]
   congr 3
   omega
theorem JG {y:α} {x z:Operand} {u:Value} {g cap m:Nat} {n:Int} {zs:List α} (hS:St w0 s (.arr E Te v xs::H) w) (hv:v= .slice (some ⟨g,0,none⟩) xs.length cap) (hT:Qam P T=some (E.agg,E.sz)) (ho:o.op= .store T x z)
  (hx:ρ x= .pointer (some ⟨g,m,none⟩)) (hm:m=0+n.toNat * E.sz) (hz:ρ z=u) (hu:E.val s u y) (hset:QbN xs n y=some zs)
  (hk:∀w',St w0 s (.arr E Te v zs::H) w'->K undef w'):Exec P ρ o w K:=by
 rw [Nat.zero_add] at hm
 subst hm
 subst hv
 obtain ⟨h0,hlt,rfl⟩:=Qgn hset
 have hr:=Qeq hu
 have hkey:∀b1,(Res.arr E Te (.slice (some ⟨g,0,none⟩) xs.length cap) xs).p s w b1->∃cur,_:=fun b1 h1=>QhJ h1 h0 hlt hr
 obtain ⟨bs,hn,hss,b1,b2,e,h1,h2⟩:=hS.own
 obtain ⟨cur,hg,hfit,hb1,_⟩:=QhJ h1 h0 hlt hr
 have hlen:u.cells.toList.length=E.sz:=E.len hr
 have hrun:=Qff (P:=P) (w:=w) (T:=T) (v:=u) (cs:=u.cells.toList) (by rw [hlen];exact hT) (by simp) hg hfit (E.one hr)
 refine .of_skip (w':=_) ?_ (hk (w.setRow g (cur.toList.take (n.toNat * E.sz)++u.cells.toList++cur.toList.drop (n.toNat * E.sz+u.cells.toList.length)).toArray) ?_)
 ·unfold execOp
  simp only [ho,hx,hz,Instr.storeAt,Instr.sureAddr,Xe,Xg,Xd,hrun]
 ·refine hS.turn Z Z Z (Xi _) (by rw [QcV];exact Xi _) ?_
  intro c1 hc1
  obtain ⟨cur',hg',_,hc1',hnew⟩:=QhJ hc1 h0 hlt hr
  rw [hg] at hg'
  cases hg'
  exact ⟨[g],hnew,by simp,fun x hx=> .inl (by rw [hc1'];exact hx),fun x _ hx=>setRow_other w g x _ (by rw [hc1'] at hx;simpa using hx)⟩
end
theorem St.nilArr {α:Type} (hS:St w0 s H w) (E:Enc α) (Te:TypeId):St w0 s (.arr E Te (.slice none 0 0) []::H) w:=by
 obtain ⟨bs,hn,hs,hb⟩:=hS.own
 exact ⟨hS.os,hS.tape,hS.output,hS.drawn,hS.size,hS.stay,bs,hn,hs,[],bs,Z,⟨[],Z,World.ownsRow_nil _ _ _ _,Z⟩,hb⟩
theorem St.boxArr {α:Type} {E:Enc α} {b:Nat} {Te:TypeId} {cs:List Value} {xs:List α} (hS:St w0 s (.box b Te cs::H) w) (h:G7 E s cs xs) (hl:xs.length<=maxLen):St w0 s (.arr E Te (.slice (some ⟨b,0,none⟩) xs.length xs.length) xs::H) w:=by
 obtain ⟨bs,hn,hs,b1,b2,e,⟨rfl,h1⟩,h2⟩:=hS.own
 refine ⟨hS.os,hS.tape,hS.output,hS.drawn,hS.size,hS.stay,bs,hn,hs,[b],b2,e,⟨cs,h,⟨h.len, .inr ⟨b,xs.length,cs.toArray,Z,X7 _,h1,Xi _,hl,by simpa using h.len,?_⟩⟩,Z⟩,h2⟩
 rw [List.toList_toArray,X9 (by rw [h.len];exact Xi _)]
theorem St.freezeArr {α:Type} {E:Enc α} {Te:TypeId} {v:Value} {xs:List α} (hS:St w0 s (.arr E Te v xs::H) w):∃t,Gc.le s t∧St w0 t H w∧Ga E t v xs:=by
 obtain ⟨bs,t,hp,hle,hbs,hS'⟩:=hS.freezeWith
 obtain ⟨cells,h1,h2,rfl⟩:=hp
 refine ⟨t,hle,hS',?_⟩
 rcases h2.2 with ⟨rfl,h⟩ |⟨g,cap,cur,rfl,_,hg,hnc,hcm,hcs,htake⟩
 ·exact .inl ⟨Z,List.eq_nil_of_length_eq_zero h⟩
 ·refine .inr (.inr ⟨g,0,cap,cur,Te,(0,0),cells,Z,hnc,hcm,by rw [hbs g (by simp [Value.ownBlock]),hg],?_,h1.mono hle⟩)
  rw [List.drop_zero,h1.len,htake]
/-! ### append -/
theorem Qdc {α:Type} {E:Enc α} {Te:TypeId} {v:Value} {xs ys:List α} {t ty by_:Nat} {z:Value} (hS:St w0 s (.arr E Te v xs::H) w)
  (hT:JM P t=some (Te,E.sz,by_)) (hz:JW P Te=some z) (hzs:z.cells.size=E.sz)
  (ad:Addr) (c:Nat) (news:List Value) (hnews:∀j u,news[j]?=some u->w.cell? (ad.add j)=some u) (hr:G7 E s news ys) (hb:(xs.length+ys.length) * by_<=140737488355328) (hby:0<by_) :
  ∃v' w',(Builtin.append_ #[t,t] ty #[v, .slice (some ad) ys.length c]).run P w= .ok v' w'∧St w0 s (.arr E Te v' (xs++ys)::H) w':=by
 obtain ⟨i,hu,hi,hsz,hbs⟩:=J7 hT
 obtain ⟨i',hi',hz'⟩:=Qdp hz
 rw [hi] at hi'
 cases hi'
 have h63:xs.length+ys.length<=maxLen:=by
  have:xs.length+ys.length<=(xs.length+ys.length) * by_:=Nat.le_mul_of_pos_right _ hby
  simp only [maxLen];omega
 obtain ⟨bs,hn,hss,b1,b2,e,⟨cells,h1,h2,rfl⟩,h3⟩:=hS.own
 have hlen:=h1.len
 have close:∀(v':Value) (w':World),w'.ownsRow 0 Te E.sz v' (xs.length+ys.length) (cells++news)->w.grownBy w' v.ownBlock->(v'.ownBlock=v.ownBlock∨∀g,v'.ownBlock=some g->w.heap.size<=g)->w.drawn<=w'.drawn->St w0 s (.arr E Te v' (xs++ys)::H) w':=by
  intro v' w' hown hgrow hwhere hdr
  refine hS.turn hgrow.os hgrow.tape hgrow.output hdr hgrow.size ?_
  rintro c1 ⟨_,_,_,rfl⟩
  refine ⟨v'.ownBlock.toList,⟨cells++news,h1.append hr,by rw [Xt];exact hown,Z⟩,?_,?_,?_⟩
  ·cases v'.ownBlock <;> simp
  ·intro x hx
   rcases hwhere with h |h
   ·exact .inl (by rw [<-h];exact hx)
   ·exact .inr (h x (by simpa using hx))
  ·intro x hx hne
   refine hgrow.block x hx ?_
   intro e
   rw [<-e] at hne
   simp at hne
 rcases h2.2 with ⟨rfl,hx0⟩ |⟨g,cap,cur,rfl,hbg,hg,hnc,hcm,hcs,htake⟩
 ·have h2':w.ownsRow w.heap.size Te E.sz (.slice none 0 0) xs.length cells:=⟨h2.1, .inl ⟨rfl,hx0⟩⟩
  obtain ⟨v',w',hrun,hown,hgrow,_⟩:=run_append_own (P:=P) w w.heap.size t ty Te i z E.sz by_ hu hi hz' hsz hbs hzs E.pos _ xs.length cells h2' ad ys.length c news hr.len hnews (hr.one) h63 hb (Xi _)
  refine ⟨v',w',hrun,close v' w' ⟨hown.1,hown.2.imp (fun h=>h) (fun ⟨g,cap,cur,a1,_,a2⟩=>⟨g,cap,cur,a1,X7 _,a2⟩)⟩ hgrow (.inr fun g hg=>(hown.lt g hg).1) ?_⟩
  by_cases hm:ys.length=0
  ·have h0:news=[]:=List.eq_nil_of_length_eq_zero (by rw [hr.len,hm,Nat.zero_mul])
   have hf:=run_firstCells_some (P:=P) w i.size 0 ad 0 c [] (by simp) (by simp)
   have hrun0:(Builtin.append_ #[t,t] ty #[.slice none 0 0, .slice (some ad) 0 c]).run P w= .ok (.slice none 0 0) w:=by
    simp [Builtin.append_,Xk hu,sizeOf,typeInfo,hi,Builtin.lenOf,hf]
   rw [hm,hrun0] at hrun
   cases hrun
   exact Xi _
  ·have hrun0:=run_append_nil (P:=P) w t ty Te i z hu hi hz' ad ys.length c news (by rw [hr.len,hsz]) hnews (by omega) (by simp only [maxLen] at h63;omega) (by rw [hbs];rw [hx0,Nat.zero_add] at hb;omega)
   rw [hrun] at hrun0
   cases hrun0
   exact Nat.le_succ _
 ·by_cases hroom:xs.length+ys.length<=cap
  ·obtain ⟨w',hrun,hown,hgrow⟩:=run_append_fits (P:=P) w 0 t ty Te i E.sz hu hi hsz g xs.length cap cells h2 ad ys.length c news hr.len hnews hr.one hroom
   refine ⟨_,w',hrun,close _ w' hown hgrow (.inl Z) ?_⟩
   have hrun0:=run_append_room (P:=P) w t ty Te i hu hi g xs.length cap cur hg ad ys.length c news (by rw [hr.len,hsz]) hnews hr.one hroom (by rw [hr.len,hsz,hcs, <-Nat.add_mul];exact Nat.mul_le_mul_right _ hroom)
   rw [hrun] at hrun0
   cases hrun0
   exact Xi _
  ·have holds:=h2.cells (g:=g) rfl
   have hrun:=run_append_grow (P:=P) w t ty Te i z hu hi hz' ⟨g,0,none⟩ xs.length cap cells (by rw [hlen,hsz]) holds ad ys.length c news (by rw [hr.len,hsz]) hnews (by omega) (by simp only [maxLen] at h63;omega) (by rw [hbs];exact growslice_fits (by omega) hb)
   refine ⟨_,_,hrun,?_⟩
   refine close _ _ ?_ ?_ (.inr fun x hx=>?_) (show w.drawn<=w.drawn+1 from Nat.le_succ w.drawn)
   ·have hge:=grownCap_ge w (xs.length+ys.length) cap Te
    have hcm':=grownCap_le_maxLen w (xs.length+ys.length) cap Te h63
    refine ⟨by rw [Xt,hlen,hr.len,Nat.add_mul], .inr ⟨w.heap.size,_,_,Z,X7 _,heap_alloc_new w.drew _,hge,hcm',?_,?_⟩⟩
    ·simp only [Array.size_append,List.size_toArray,size_zeroCells,hzs,hlen,hr.len, <-Nat.add_mul]
     congr 1
     omega
    ·simp only [Array.toList_append,List.append_assoc]
     rw [<-List.append_assoc,Nat.add_mul, <-hlen, <-hr.len, <-Xt]
     exact List.take_left
   ·exact ⟨Z,Z,Z,by simp,fun k hk _=>Qac w.drew _ hk⟩
   ·simp [Value.ownBlock] at hx
    omega
theorem Qn {α:Type} {E:Enc α} {Te:TypeId} {v u z:Value} {xs ys zs:List α} {t by_ b n cap:Nat} {cs:List Value} {x y:Operand} (hS:St w0 s (.arr E Te v xs:: .box b Te cs::H) w)
  (hT:JM P t=some (Te,E.sz,by_)) (hz:JW P Te=some z) (hzs:z.cells.size=E.sz) (hby:0<by_) (ho:o.op= .call { callee:= .builtin .append,args:=#[x,y],argTypes:=#[t,t] }) (hx:ρ x=v) (hy:ρ y=u)
  (hu:u= .slice (some ⟨b,0,none⟩) n cap) (hr:G7 E s cs ys) (hn:n=ys.length) (ha:app by_ xs ys=some zs)
  (hk:∀v' w',St w0 s (.arr E Te v' zs::H) w'->K v' w'):Exec P ρ o w K:=by
 obtain ⟨hb,rfl⟩:=QhK ha
 subst hn
 have hbox:=(hS.perm (.swap _ _ _)).box_heap
 have hcell:∀j u,cs[j]?=some u->w.cell? ((⟨b,0,none⟩:Addr).add j)=some u:=by
  intro j u hj
  rw [Addr.add_lit]
  simp [World.cell?,hbox,hj]
 obtain ⟨v',w',hrun,hS'⟩:=Qdc (P:=P) (ty:=o.type) hS hT hz hzs ⟨b,0,none⟩ cap cs hcell hr hb hby
 refine .of_run (v:=v') (w':=w') ?_ (hk v' w' (hS'.perm (.swap _ _ _)).drop)
 unfold execOp
 simp only [ho,resolve,invoke,builtin,Xe,Xg,Xd,XB,Xv,XM,hx,hy,hu,hrun]
theorem Qho {α:Type} {E:Enc α} {Te:TypeId} {v:Value} {xs:List α} {t ty by_:Nat} (hS:St w0 s (.arr E Te v xs::H) w) (hT:JM P t=some (Te,E.sz,by_)) :
  (Builtin.append_ #[t,t] ty #[v, .slice none 0 0]).run P w= .ok v w:=by
 obtain ⟨i,hu,hi,hsz,hbs⟩:=J7 hT
 obtain ⟨bs,hn,hss,b1,b2,e,⟨cells,h1,h2,rfl⟩,h3⟩:=hS.own
 exact run_append_owned_none (P:=P) w 0 t ty Te i E.sz hu hi v xs.length cells h2
theorem JH {α:Type} {E:Enc α} {Te:TypeId} {v u z:Value} {xs ys zs:List α} {t by_:Nat} {x y:Operand} (hS:St w0 s (.arr E Te v xs::H) w)
  (hT:JM P t=some (Te,E.sz,by_)) (hz:JW P Te=some z) (hzs:z.cells.size=E.sz) (hby:0<by_) (ho:o.op= .call { callee:= .builtin .append,args:=#[x,y],argTypes:=#[t,t] }) (hx:ρ x=v) (hy:ρ y=u)
  (hu:Ga E s u ys) (ha:app by_ xs ys=some zs)
  (hk:∀v' w',St w0 s (.arr E Te v' zs::H) w'->K v' w'):Exec P ρ o w K:=by
 obtain ⟨hb,rfl⟩:=QhK ha
 rcases hu with ⟨rfl,rfl⟩ |⟨a,cap,rfl,rfl⟩ |⟨b,off,cap,c,T',fz,cells,rfl,h1,h2,h3,h4,h5⟩
 ·have hrun:=Qho (P:=P) (ty:=o.type) hS hT
  rw [List.append_nil] at hk
  refine .of_run (v:=v) (w':=w) ?_ (hk v w hS)
  unfold execOp
  simp only [ho,resolve,invoke,builtin,Xe,Xg,Xd,XB,Xv,XM,hx,hy,hrun]
 ·obtain ⟨v',w',hrun,hS'⟩:=Qdc (P:=P) (ty:=o.type) (ys:=[]) hS hT hz hzs a cap [] (fun j u hj=>by simp at hj) rfl hb hby
  refine .of_run (v:=v') (w':=w') ?_ (hk v' w' hS')
  unfold execOp
  rw [XC] at hrun
  simp only [ho,resolve,invoke,builtin,Xe,Xg,Xd,XB,Xv,XM,hx,hy,hrun]
 ·have hcell:∀j u,cells[j]?=some u->w.cell? ((⟨b,off,none⟩:Addr).add j)=some u:=by
   intro j u hj
   rw [Addr.add_lit,Qa2 hS h3]
   rw [<-h4,Xo] at hj
   split at hj
   ·rw [Xu] at hj;simpa using hj
   ·cases hj
  obtain ⟨v',w',hrun,hS'⟩:=Qdc (P:=P) (ty:=o.type) hS hT hz hzs ⟨b,off,none⟩ cap cells hcell h5 hb hby
  refine .of_run (v:=v') (w':=w') ?_ (hk v' w' hS')
  unfold execOp
  simp only [ho,resolve,invoke,builtin,Xe,Xg,Xd,XB,Xv,XM,hx,hy,hrun]
/-! ### make, literals -/
theorem QfT {α:Type} {E:Enc α} {c:List Value} {x:α} (h:E.rep s c x):∀n,G7 E s (List.replicate n c).flatten (List.replicate n x)
 |0=>rfl
 |n+1=>⟨c,_,by simp [List.replicate_succ],h,QfT h n⟩
theorem QmC {c:List Value} (hc:0<c.length) (n:Nat):(madeCells c.toArray (n * c.length)).toList=(List.replicate n c).flatten:=by
 apply List.ext_getElem?
 intro i
 have h1:(List.replicate n c).flatten.length=n * c.length:=by simp
 by_cases hi:i<n * c.length
 ·have hd:i / c.length<n:=Nat.div_lt_of_lt_mul (by rw [Nat.mul_comm];exact hi)
  have e2:∀(m i:Nat),i<m * c.length->(List.replicate m c).flatten[i]?=c[i % c.length]?:=by
   intro m
   induction m with
   |zero=>intro i h;simp at h
   |succ m ih =>
    intro i h
    rw [List.replicate_succ,List.flatten_cons]
    by_cases hlt:i<c.length
    ·rw [Xs hlt,Nat.mod_eq_of_lt hlt]
    ·rw [Xy (by omega),ih _ (by rw [Nat.add_mul] at h;omega),Nat.mod_eq_sub_mod (a:=i) (by omega)]
  rw [e2 n i hi]
  have hm:i % c.length<c.length:=Nat.mod_lt _ hc
  simp [madeCells,hi,hm]
 ·rw [X3 (by simp [madeCells];omega),X3 (by omega)]
theorem XO {α:Type} {E:Enc α} {Te:TypeId} {z:Value} {y:α} {zs:List α} {by_:Nat} {k k':IntKind} {l c:Operand} {n:Int} (hS:St w0 s H w) (hT:JM P T=some (Te,E.sz,by_)) (hz:JW P Te=some z) (hzr:E.rep s z.cells.toList y)
  (ho:o.op= .makeSlice T l c) (hl:ρ l= .int k n) (hc:ρ c= .int k' n) (hm:mk by_ y n=some zs) (hk:∀v w',St w0 s (.arr E Te v zs::H) w'->K v w'):Exec P ρ o w K:=by
 obtain ⟨h0,hb,h63,rfl⟩:=Quk hm
 obtain ⟨i,hu,hi,hsz,hbs⟩:=J7 hT
 obtain ⟨i',hi',hz'⟩:=Qdp hz
 rw [hi] at hi'
 cases hi'
 have hn63:n.toNat<=maxLen:=by simp only [maxLen];omega
 have hrun:=run_make (P:=P) w T Te i z hu hi hz' k k' n n h0 (Int.le_refl _) (by rw [hbs];have h:((by_ * n.toNat:Nat):Int)<=281474976710656:=(by omega);rw [Int.natCast_mul,Int.toNat_of_nonneg h0] at h;exact h) h63
 have hzl:=E.len hzr
 have hcells:(madeCells z.cells (n.toNat * i.size)).toList=(List.replicate n.toNat z.cells.toList).flatten:=by
  have:=QmC (c:=z.cells.toList) (by rw [hzl];exact E.pos) n.toNat
  rw [hzl] at this
  simpa [hsz] using this
 have hA:=hS.alloc Te (List.replicate n.toNat z.cells.toList).flatten
 have hB:=hA.boxArr (QfT hzr n.toNat) (by simpa using hn63)
 have hv:(madeCells z.cells (n.toNat * i.size))=(List.replicate n.toNat z.cells.toList).flatten.toArray:=by rw [<-hcells]
 rw [hv] at hrun
 simp only [List.length_replicate] at hB
 refine .of_run (v:=_) (w':=_) ?_ (hk _ _ hB)
 unfold execOp
 simp only [ho,hl,hc,Xe,Xg,Xd,hrun]
theorem Qs {v:Value} (h:v.oneCell'=true):v.cells=[v].toArray:=by
 cases v <;> simp_all [Value.cells,Value.oneCell']
theorem Qd {x v:Value} {c:List Value} (h:x=v) (hc:v.cells=c.toArray):x.cells=c.toArray:=by rw [h,hc]
def Qem (ρ:Operand->Value) (parts:List (Nat×Operand)) (pcs:List (Nat×List Value)):Prop:=List.map (fun (p:Nat×Operand)=>(p.1,(ρ p.2).cells)) parts=List.map (fun (q:Nat×List Value)=>(q.1,q.2.toArray)) pcs
theorem Qg:Qem ρ [] []:=rfl
theorem Qb {i:Nat} {x:Operand} {c:List Value} {l:List (Nat×Operand)} {ps:List (Nat×List Value)} (h:(ρ x).cells=c.toArray) (hl:Qem ρ l ps):Qem ρ ((i,x)::l) ((i,c)::ps):=by
 unfold Qem at *
 simp [h,hl]
def Qqp (pcs:List (Nat×List Value)):List (Nat×Value):=pcs.map fun q=>(q.1, .agg q.2.toArray)
theorem Qhc (place:Nat->Option (Nat×Nat)):∀(ps qs:List (Nat×Value)) (cells:Array Value),ps.map (fun p=>(p.1,p.2.cells))=qs.map (fun p=>(p.1,p.2.cells))->Instr.fill place cells ps=Instr.fill place cells qs
 |[],[],_,_=>rfl
 | (i,v)::ps,(j,u)::qs,cells,h=>by
  simp only [Xv,List.cons.injEq,Prod.mk.injEq] at h
  obtain ⟨⟨rfl,h2⟩,h3⟩:=h
  unfold Instr.fill
  rw [h2]
  cases place i with
  |none=>rfl
  |some y =>
   obtain ⟨off,size⟩:=y
   simp only []
   split
   ·rfl
   ·exact Qhc place ps qs _ h3
 |[],_::_,_,h=>by simp at h
 |_::_,[],_,h=>by simp at h
theorem QkG {parts:List (Nat×Operand)} {pcs:List (Nat×List Value)} (h:Qem ρ parts pcs):(List.map (fun (p:Nat×Operand)=>(p.1,ρ p.2)) parts).map (fun p=>(p.1,p.2.cells))=(Qqp pcs).map (fun p=>(p.1,p.2.cells)):=by
 unfold Qem at h
 unfold Qqp
 rw [List.map_map,List.map_map]
 exact h
theorem Qoy {ps qs:List (Nat×Value)} (h:ps.map (fun p=>(p.1,p.2.cells))=qs.map (fun p=>(p.1,p.2.cells))):(Instr.build T ps.toArray).run P w=(Instr.build T qs.toArray).run P w:=by
 have:=fun place cells=>Qhc place ps qs cells h
 unfold Instr.build
 simp only [this]
theorem Qi7 {n:Nat} {ps qs:List (Nat×Value)} (h:ps.map (fun p=>(p.1,p.2.cells))=qs.map (fun p=>(p.1,p.2.cells))):(Instr.buildSlice T n ps.toArray).run P w=(Instr.buildSlice T n qs.toArray).run P w:=by
 have:=fun place cells=>Qhc place ps qs cells h
 unfold Instr.buildSlice
 simp only [this]
theorem QM:∀v ∈ ([]:List Value),v.oneCell'=true:=by simp
theorem Zj {a:Value} {l:List Value} (h:a.oneCell'=true) (hl:∀v ∈ l,v.oneCell'=true):∀v ∈ a::l,v.oneCell'=true:=by
 intro v hv
 rcases Xr.1 hv with e |e
 ·rw [e];exact h
 ·exact hl v e
theorem Jh:List.map ρ []=[]:=rfl
theorem Zi {x:Operand} {v:Value} {l:List Operand} {vs:List Value} (h:ρ x=v) (hl:List.map ρ l=vs):List.map ρ (x::l)=v::vs:=by simp [h,hl]
theorem DU {Te n:Nat} {parts:List (Nat×Operand)} {pcs:List (Nat×List Value)} {cs:List Value} (hS:St w0 s H w) (ho:o.op= .buildSlice T n parts.toArray) (hps:Qem ρ parts pcs)
  (hrun:∀w:World,(Instr.buildSlice T n (Qqp pcs).toArray).run P w= .ok (.slice (some ⟨w.heap.size,0,none⟩) n n) (w.alloc (.cells cs.toArray Te))) (hk:∀b w',St w0 s (.box b Te cs::H) w'->K (.slice (some ⟨b,0,none⟩) n n) w'):Exec P ρ o w K:=by
 refine .of_run (v:=_) (w':=_) ?_ (hk _ _ (hS.alloc Te cs))
 unfold execOp
 simp only [ho,XB,Xe,Xg,Xd,Qi7 (QkG hps),hrun]
theorem DW {parts:List (Nat×Operand)} {pcs:List (Nat×List Value)} {v:Value} (ho:o.op= .build T parts.toArray) (hps:Qem ρ parts pcs)
  (hrun:∀w:World,(Instr.build T (Qqp pcs).toArray).run P w= .ok v w) (hk:K v w):Exec P ρ o w K:=by
 refine .of_run (v:=v) ?_ hk
 unfold execOp
 simp only [ho,XB,Xe,Xg,Xd,Qoy (QkG hps),hrun]
theorem QiP {x i:Operand} {u iv v:Value} (ho:o.op= .index T x i) (hx:ρ x=u) (hi:ρ i=iv) (hrun:(Instr.index T u iv).run P w= .ok v w) (hk:K v w):Exec P ρ o w K:=by
 refine .of_run (v:=v) ?_ hk
 unfold execOp
 simp only [ho,hx,hi,Xe,Xg,Xd,hrun]
end
end Go.Pw
/- -/
namespace Go.Pw
section
variable {w0 w:World} {s:Gc} {H:List Res} {α:Type} {E:Enc α} {Te:TypeId}
theorem GA.split:∀{hs:List Value} {xss:List (List α)} {bs:List Nat} {i:Nat} {h:Value} {xs:List α},GA E Te s w hs xss bs->hs[i]?=some h->xss[i]?=some xs ->
  ∃b1 b2,bs.Perm (b1++b2)∧(Res.arr E Te h xs).p s w b1∧GA E Te s w (hs.eraseIdx i) (xss.eraseIdx i) b2
 |[],_,_,_,_,_,_,hh,_=>by simp at hh
 |_::_,[],_,_,_,_,_,_,hx=>by simp at hx
 |a::hs,ys::xss,bs,0,h,xs,⟨b1,b2,e,h1,h2⟩,hh,hx=>by
  simp at hh hx
  subst hh;subst hx;subst e
  exact ⟨b1,b2, .refl _,h1,h2⟩
 |a::hs,ys::xss,bs,i+1,h,xs,⟨b1,b2,e,h1,h2⟩,hh,hx=>by
  simp at hh hx
  obtain ⟨c1,c2,hp,k1,k2⟩:=GA.split h2 hh hx
  subst e
  refine ⟨c1,b1++c2,?_,k1,b1,c2,Z,h1,k2⟩
  refine (List.Perm.append_left b1 hp).trans ?_
  rw [<-List.append_assoc, <-List.append_assoc]
  exact List.Perm.append_right _ List.perm_append_comm
theorem Qk4:∀{hs:List Value} {xss:List (List α)} {b1 b2:List Nat} {i:Nat} {h:Value} {xs:List α},i<hs.length->i<xss.length->(Res.arr E Te h xs).p s w b1->GA E Te s w (hs.eraseIdx i) (xss.eraseIdx i) b2 ->
  ∃bs,bs.Perm (b1++b2)∧GA E Te s w (hs.set i h) (xss.set i xs) bs
 |[],_,_,_,_,_,_,hi,_,_,_=>by simp at hi
 |_::_,[],_,_,_,_,_,_,hi,_,_=>by simp at hi
 |a::hs,ys::xss,b1,b2,0,h,xs,_,_,h1,h2=>⟨b1++b2, .refl _,b1,b2,rfl,h1,h2⟩
 |a::hs,ys::xss,b1,b2,i+1,h,xs,hi,hj,h1,⟨c1,c2,e,k1,k2⟩=>by
  obtain ⟨bs,hp,hr⟩:=Qk4 (by simpa using hi) (by simpa using hj) h1 k2
  subst e
  refine ⟨c1++bs,?_,c1,bs,Z,k1,hr⟩
  refine (List.Perm.append_left c1 hp).trans ?_
  rw [<-List.append_assoc, <-List.append_assoc]
  exact List.Perm.append_right _ List.perm_append_comm
theorem GA.push:∀{hs:List Value} {xss:List (List α)} {b1 b2:List Nat} {h:Value} {xs:List α},(Res.arr E Te h xs).p s w b1->GA E Te s w hs xss b2 ->
  ∃bs,bs.Perm (b1++b2)∧GA E Te s w (hs++[h]) (xss++[xs]) bs
 |[],[],b1,b2,h,xs,h1,h2=>by
  cases h2
  exact ⟨b1,by simp,b1,[],by simp,h1,Z⟩
 |a::hs,ys::xss,b1,b2,h,xs,h1,⟨c1,c2,e,k1,k2⟩=>by
  obtain ⟨bs,hp,hr⟩:=GA.push h1 k2
  subst e
  refine ⟨c1++bs,?_,c1,bs,Z,k1,hr⟩
  refine (List.Perm.append_left c1 hp).trans ?_
  rw [<-List.append_assoc, <-List.append_assoc]
  exact List.Perm.append_right _ List.perm_append_comm
 |[],_::_,_,_,_,_,_,h2=>h2.elim
 |_::_,[],_,_,_,_,_,h2=>h2.elim
theorem St.rows_len {hs:List Value} {xss:List (List α)} (hS:St w0 s (.rows E Te hs xss::H) w):hs.length=xss.length:=by
 obtain ⟨bs,hn,hss,b1,b2,e,h1,h2⟩:=hS.own
 exact GA.length h1
theorem St.rows_nil (hS:St w0 s H w) (E:Enc α) (Te:TypeId):St w0 s (.rows E Te [] []::H) w:=by
 obtain ⟨bs,hn,hs,hb⟩:=hS.own
 exact ⟨hS.os,hS.tape,hS.output,hS.drawn,hS.size,hS.stay,bs,hn,hs,[],bs,Z,Z,hb⟩
theorem St.rows_split {hs:List Value} {xss:List (List α)} {i:Nat} {h:Value} {xs:List α} (hS:St w0 s (.rows E Te hs xss::H) w) (hh:hs[i]?=some h) (hx:xss[i]?=some xs) :
  St w0 s (.arr E Te h xs:: .rows E Te (hs.eraseIdx i) (xss.eraseIdx i)::H) w:=by
 obtain ⟨bs,hn,hss,b1,b2,e,h1,h2⟩:=hS.own
 subst e
 obtain ⟨c1,c2,hp,k1,k2⟩:=GA.split h1 hh hx
 have hp':(b1++b2).Perm (c1++(c2++b2)):=by rw [<-List.append_assoc];exact List.Perm.append_right _ hp
 exact ⟨hS.os,hS.tape,hS.output,hS.drawn,hS.size,hS.stay,c1++(c2++b2),hp'.nodup_iff.1 hn,fun b hb=>hss b (hp'.mem_iff.2 hb),c1,c2++b2,Z,k1,c2,b2,Z,k2,h2⟩
theorem St.rows_join {hs:List Value} {xss:List (List α)} {i:Nat} {h:Value} {xs:List α} (hS:St w0 s (.arr E Te h xs:: .rows E Te (hs.eraseIdx i) (xss.eraseIdx i)::H) w) (hi:i<hs.length) (hj:i<xss.length) :
  St w0 s (.rows E Te (hs.set i h) (xss.set i xs)::H) w:=by
 obtain ⟨bs,hn,hss,b1,b2,e,h1,c1,c2,e2,k1,k2⟩:=hS.own
 subst e;subst e2
 obtain ⟨d,hp,hr⟩:=Qk4 hi hj h1 k1
 have hp':(b1++(c1++c2)).Perm (d++c2):=by rw [<-List.append_assoc];exact (List.Perm.append_right _ hp).symm
 exact ⟨hS.os,hS.tape,hS.output,hS.drawn,hS.size,hS.stay,d++c2,hp'.nodup_iff.1 hn,fun b hb=>hss b (hp'.mem_iff.2 hb),d,c2,Z,hr,k2⟩
theorem St.rows_back {hs:List Value} {xss:List (List α)} {i:Nat} {h:Value} {xs:List α} (hS:St w0 s (.arr E Te h xs:: .rows E Te (hs.eraseIdx i) (xss.eraseIdx i)::H) w) (hh:hs[i]?=some h) (hj:i<xss.length) :
  St w0 s (.rows E Te hs (xss.set i xs)::H) w:=by
 have hi:=(Xj.1 hh).1
 have:=hS.rows_join hi hj
 have e:hs.set i h=hs:=by
  have hv:hs[i]=h:=(Xj.1 hh).2
  rw [<-hv,List.set_getElem_self]
 rwa [e] at this
theorem St.rows_push {hs:List Value} {xss:List (List α)} {h:Value} {xs:List α} (hS:St w0 s (.arr E Te h xs:: .rows E Te hs xss::H) w):St w0 s (.rows E Te (hs++[h]) (xss++[xs])::H) w:=by
 obtain ⟨bs,hn,hss,b1,b2,e,h1,c1,c2,e2,k1,k2⟩:=hS.own
 subst e;subst e2
 obtain ⟨d,hp,hr⟩:=GA.push h1 k1
 have hp':(b1++(c1++c2)).Perm (d++c2):=by rw [<-List.append_assoc];exact (List.Perm.append_right _ hp).symm
 exact ⟨hS.os,hS.tape,hS.output,hS.drawn,hS.size,hS.stay,d++c2,hp'.nodup_iff.1 hn,fun b hb=>hss b (hp'.mem_iff.2 hb),d,c2,Z,hr,k2⟩
theorem St.rows_at {hs:List Value} {xss:List (List α)} {n:Int} {xs:List α} (hS:St w0 s (.rows E Te hs xss::H) w) (hx:idx xss n=some xs):∃h,idx hs n=some h∧hs[n.toNat]?=some h∧xss[n.toNat]?=some xs:=by
 obtain ⟨h0,hlt,hget⟩:=Qj hx
 have hl:=hS.rows_len
 have hlt':n.toNat<hs.length:=by omega
 refine ⟨hs[n.toNat],?_,by simp [hlt'],hget⟩
 simp [idx,h0,hlt']
theorem GA.rep {t:Gc} (hle:Gc.le s t):∀{hs:List Value} {xss:List (List α)} {bs:List Nat},GA E Te s w hs xss bs->(∀b ∈ bs,t b=w.heap[b]?)->G7 (Qk E) t hs xss
 |[],[],_,_,_=>rfl
 | h::hs,xs::xss,bs,⟨b1,b2,e,h1,h2⟩,ht=>by
  subst e
  refine ⟨[h],hs,Z,⟨h,Z,?_⟩,GA.rep hle h2 (fun b hb=>ht b (List.mem_append_right _ hb))⟩
  obtain ⟨cells,k1,k2,rfl⟩:=h1
  rcases k2.2 with ⟨rfl,hx⟩ |⟨g,cap,cur,rfl,_,hg,hnc,hcm,hcs,htake⟩
  ·exact .inl ⟨Z,List.eq_nil_of_length_eq_zero hx⟩
  ·refine .inr (.inr ⟨g,0,cap,cur,Te,(0,0),cells,Z,hnc,hcm,by rw [ht g (by simp [Value.ownBlock]),hg],?_,k1.mono hle⟩)
   rw [List.drop_zero,k1.len,htake]
 |[],_::_,_,h,_=>h.elim
 |_::_,[],_,h,_=>h.elim
end
/-! ### loops -/
section
variable {P:Program} {N:Nat} {Q:QbB} {f:Fr} {w:World}
theorem QO {S:Type} {B:Nat->S->Option S} {n:Nat} {s0 s1:S} {c:Code} (I:Nat->S->Fr->World->Prop) (hB:forS B n 0 s0=some s1) (h0:I 0 s0 f w)
  (hround:∀i s s' f w,i<n->I i s f w->B i s=some s'->W P N c (andThen (I (i+1) s') Q) f w)
  (hend:∀f w,I n s1 f w->W P N c (andThen (fun _ _=>False) Q) f w):W P N (.loop c) Q f w:=by
 refine QjZ (fun k f w=>∃i s,i+k=n∧I i s f w∧forS B k i s=some s1) ⟨n,0,s0,by omega,h0,hB⟩ ?_
 rintro k f w ⟨i,s,hik,hI,hs⟩
 cases k with
 |zero =>
  simp only [forS,XI] at hs
  subst hs
  have:i=n:=by omega
  subst this
  exact Qin (hend f w hI) (fun e f w h=>by cases e <;> first |exact h.elim |exact h)
 |succ k =>
  simp only [forS] at hs
  obtain ⟨s',h1,h2⟩:=Zg hs
  exact Qin (hround i s s' f w (by omega) hI h1) (fun e f w h=>by cases e <;> first |exact ⟨k,by omega,i+1,s',by omega,h,h2⟩ |exact h)
theorem QwL {S R:Type} {B:Nat->S->Option (Ctl S R)} {n:Nat} {s0:S} {res:Ctl S R} {c:Code} (I:Nat->S->Fr->World->Prop) (hB:Jf B n 0 s0=some res) (h0:I 0 s0 f w)
  (hround:∀i s c' f w,i<n->I i s f w->B i s=some c'->((∀s',c'≠ .next s')->res=c')->W P N c (andThen (fun f w=>∃s',c'= .next s'∧I (i+1) s' f w) Q) f w)
  (hend:∀s f w,I n s f w->res= .next s->W P N c (andThen (fun _ _=>False) Q) f w):W P N (.loop c) Q f w:=by
 refine QjZ (fun k f w=>∃i s,i+k=n∧I i s f w∧Jf B k i s=some res) ⟨n,0,s0,by omega,h0,hB⟩ ?_
 rintro k f w ⟨i,s,hik,hI,hs⟩
 cases k with
 |zero =>
  simp only [Jf,XI] at hs
  have:i=n:=by omega
  subst this
  exact Qin (hend s f w hI hs.symm) (fun e f w h=>by cases e <;> first |exact h.elim |exact h)
 | succ k =>
  simp only [Jf] at hs
  cases h1:B i s with
  |none=>rw [h1] at hs;cases hs
  | some c' =>
   rw [h1] at hs
   refine Qin (hround i s c' f w (by omega) hI h1 ?_) ?_
   ·intro hc
    cases c' with
    |next s'=>exact absurd rfl (hc s')
    |brk s'=>exact (Zu hs).symm
    |ret r=>exact (Zu hs).symm
   ·intro e f w h
    cases e <;> first
     |(obtain ⟨s',rfl,h2⟩:=h;exact ⟨k,by omega,i+1,s',by omega,h2,hs⟩)
     |exact h
theorem QuS {S R:Type} {B:S->Option (Ctl S R)} {s0:S} {res:Ctl S R} {c:Code} (I:S->Fr->World->Prop) (hB:Yw B s0=some res) (h0:I s0 f w)
  (hround:∀s c' f w,I s f w->B s=some c'->((∀s',c'≠ .next s')->res=c')->W P N c (andThen (fun f w=>∃s',c'= .next s'∧I s' f w) Q) f w):W P N (.loop c) Q f w:=by
 obtain ⟨k0,hk0⟩:=Qob hB
 refine QjZ (fun k f w=>∃s,I s f w∧QbZ B k s=some res) ⟨k0,s0,h0,hk0⟩ ?_
 rintro k f w ⟨s,hI,hs⟩
 cases k with
 |zero=>simp [QbZ] at hs
 | succ k =>
  simp only [QbZ] at hs
  cases h1:B s with
  |none=>rw [h1] at hs;cases hs
  | some c' =>
   rw [h1] at hs
   refine Qin (hround s c' f w hI h1 ?_) ?_
   ·intro hc
    cases c' with
    |next s'=>exact absurd rfl (hc s')
    |brk s'=>exact (Zu hs).symm
    |ret r=>exact (Zu hs).symm
   ·intro e f w h
    cases e <;> first
     |(obtain ⟨s',rfl,h2⟩:=h;exact ⟨k,by omega,s',h2,hs⟩)
     |exact h
end
/-! ### small helps of the printed walks -/
def GP (p:Nat->Oper->Prop):Nat->List Oper->Prop
 |_,[]=>True
 |i,o::os=>p i o∧GP p (i+1) os
theorem GP.spec {p:Nat->Oper->Prop}:∀{l:List Oper} {k:Nat},GP p k l->∀i o,l[i]?=some o->p (k+i) o
 |[],_,_,i,o,h=>by simp at h
 |a::l,k,⟨h1,h2⟩,0,o,h=>by simp at h;subst h;exact h1
 |a::l,k,⟨h1,h2⟩,i+1,o,h=>by
  have:=GP.spec h2 i o (by simpa using h)
  rwa [show k+1+i=k+(i+1) by omega] at this
theorem GP.head {p:Nat->Oper->Prop} {n0:Nat} {ops:List Oper} (h:GP p 0 (ops.take n0)):∀i o,i<n0->ops[i]?=some o->p i o:=by
 intro i o hi ho
 have:=h.spec i o (by rw [Xo,if_pos hi];exact ho)
 rwa [Nat.zero_add] at this
theorem GP.nil {p:Nat->Oper->Prop} {i:Nat}:GP p i []:=trivial
theorem GP.cons {p:Nat->Oper->Prop} {i:Nat} {o:Oper} {l:List Oper} (h:p i o) (hl:GP p (i+1) l):GP p i (o::l):=⟨h,hl⟩
theorem Qao {α:Type} {c:Prop} [Decidable c] {x y:Option α} {r:α} (h:(if c then x else y)=some r):(c∧x=some r)∨(¬c∧y=some r):=by
 split at h
 ·exact .inl ⟨‹_›,h⟩
 ·exact .inr ⟨‹_›,h⟩
section
variable {P:Program} {N:Nat} {Q:QbB} {f:Fr} {w:World} {K:Fr->World->Prop}
theorem Ze (h:K f w):andThen K Q .normal f w:=h
theorem Qsm (h:Q .ret f w):andThen K Q .ret f w:=h
theorem Qj2 {id:Nat} (h:Q (.exit id) f w):andThen K Q (.exit id) f w:=h
theorem QlA {id:Nat} (h:Q .normal f w):QaB id Q .normal f w:=h
theorem Qsc {id:Nat} (h:Q .ret f w):QaB id Q .ret f w:=h
theorem Qmw {id:Nat} (h:Q .normal f w):QaB id Q (.exit id) f w:=by simpa [QaB] using h
theorem QpU {id id':Nat} (hne:Nat.beq id' id=false) (h:Q (.exit id') f w):QaB id Q (.exit id') f w:=by simpa [QaB,hne] using h
theorem QL {c:Code} (M:Fr->World->Prop) (h1:W P N c (andThen M Q) f w) (h2:∀f w,M f w->Q .normal f w):W P N c Q f w :=
 Qin h1 fun e f w h=>by cases e <;> first |exact h2 f w h |exact h
theorem Zf {ops:Array Oper} {j d:Nat} {b:Bool} (hd:(ops[j]?).bind (·.dst)=some d) (hf:f d= .bool b):Jg ops f j=some b:=by simp [Jg,hd,hf]
theorem Zk {b:Bool} (h:¬b=true):b=false:=by simpa using h
theorem Qxd {a a' b b':Value} (h1:a=a') (h2:b=b'):Value.tuple #[a,b]= .tuple #[a',b']:=by rw [h1,h2]
end
section
variable {w0 w:World} {s:Gc} {H:List Res}
theorem St.f1 {R0 R1:Res} (h:St w0 s (R0::R1::H) w):St w0 s (R1::R0::H) w:=h.perm (List.perm_middle (l₁:=[R0]))
theorem St.f2 {R0 R1 R2:Res} (h:St w0 s (R0::R1::R2::H) w):St w0 s (R2::R0::R1::H) w:=h.perm (List.perm_middle (l₁:=[R0,R1]))
theorem St.f3 {R0 R1 R2 R3:Res} (h:St w0 s (R0::R1::R2::R3::H) w):St w0 s (R3::R0::R1::R2::H) w:=h.perm (List.perm_middle (l₁:=[R0,R1,R2]))
theorem St.f4 {R0 R1 R2 R3 R4:Res} (h:St w0 s (R0::R1::R2::R3::R4::H) w):St w0 s (R4::R0::R1::R2::R3::H) w:=h.perm (List.perm_middle (l₁:=[R0,R1,R2,R3]))
theorem St.f5 {R0 R1 R2 R3 R4 R5:Res} (h:St w0 s (R0::R1::R2::R3::R4::R5::H) w):St w0 s (R5::R0::R1::R2::R3::R4::H) w:=h.perm (List.perm_middle (l₁:=[R0,R1,R2,R3,R4]))
theorem St.f6 {R0 R1 R2 R3 R4 R5 R6:Res} (h:St w0 s (R0::R1::R2::R3::R4::R5::R6::H) w):St w0 s (R6::R0::R1::R2::R3::R4::R5::H) w:=h.perm (List.perm_middle (l₁:=[R0,R1,R2,R3,R4,R5]))
theorem St.f7 {R0 R1 R2 R3 R4 R5 R6 R7:Res} (h:St w0 s (R0::R1::R2::R3::R4::R5::R6::R7::H) w):St w0 s (R7::R0::R1::R2::R3::R4::R5::R6::H) w:=h.perm (List.perm_middle (l₁:=[R0,R1,R2,R3,R4,R5,R6]))
theorem St.f8 {R0 R1 R2 R3 R4 R5 R6 R7 R8:Res} (h:St w0 s (R0::R1::R2::R3::R4::R5::R6::R7::R8::H) w):St w0 s (R8::R0::R1::R2::R3::R4::R5::R6::R7::H) w:=h.perm (List.perm_middle (l₁:=[R0,R1,R2,R3,R4,R5,R6,R7]))
theorem St.f9 {R0 R1 R2 R3 R4 R5 R6 R7 R8 R9:Res} (h:St w0 s (R0::R1::R2::R3::R4::R5::R6::R7::R8::R9::H) w):St w0 s (R9::R0::R1::R2::R3::R4::R5::R6::R7::R8::H) w:=h.perm (List.perm_middle (l₁:=[R0,R1,R2,R3,R4,R5,R6,R7,R8]))
theorem St.f10 {R0 R1 R2 R3 R4 R5 R6 R7 R8 R9 R10:Res} (h:St w0 s (R0::R1::R2::R3::R4::R5::R6::R7::R8::R9::R10::H) w):St w0 s (R10::R0::R1::R2::R3::R4::R5::R6::R7::R8::R9::H) w:=h.perm (List.perm_middle (l₁:=[R0,R1,R2,R3,R4,R5,R6,R7,R8,R9]))
end
/-! ### draws -/
structure RP where
 p:Gc->Value->Prop
 mono:∀{s t v},Gc.le s t->p s v->p t v
def RP.any:RP:=⟨fun _ _=>True,fun _ _=>trivial⟩
def RP.eq (u:Value):RP:=⟨fun _ v=>v=u,fun _ h=>h⟩
def RP.val {α:Type} (E:Enc α) (a:α):RP:=⟨fun s v=>E.val s v a,fun l h=>Qfi h l⟩
def RP.sl {α:Type} (E:Enc α) (a:List α):RP:=⟨fun s v=>Ga E s v a,fun l h=>h.mono l⟩
def RP.at {α:Type} (E:Enc α) (a:α):RP:=⟨fun s v=>∃b off,v= .pointer (some ⟨b,off,none⟩)∧At s b off E a,fun l ⟨b,off,e,h⟩=>⟨b,off,e,h.mono l⟩⟩
section
variable {P:Program} {N:Nat} {Q:QbB} {f:Fr} {w w0:World} {s:Gc} {H:List Res}
theorem Zh {ops:Array Oper} {j d:Nat} (hd:(ops[j]?).bind (·.dst)=some d) (hf:f d=undef):Jg ops f j=none:=by simp [Jg,hd,hf,undef]
end
theorem QxU {p q:Bool} (h:p=true):(p && q)=q:=by rw [h];rfl
theorem wrap_i64 {n:Int} (h0: -9223372036854775808<=n) (h1:n<=9223372036854775807):IntKind.i64.wrap n=n:=IntWalk.i64_in n ⟨h0,h1⟩
theorem Jo {i n:Nat} (h:i<n) (hn:n<=maxLen):Value.int .i64 (IntKind.i64.wrap ((i:Int)+1))=Value.int .i64 ((i+1:Nat):Int):=by
 have:n<=9223372036854775807:=hn
 rw [wrap_i64 (by omega) (by omega)]
 simp
section
variable {P:Program} {ρ:Operand->Value} {o:Oper} {w:World} {K:Value->World->Prop} {T:TypeId} {s:Gc}
theorem QfZ {α:Type} {E:Enc α} {m:Nat} {hm:0<m} {xs:List α} {y:α} {x i:Operand} {u:Value} {k:IntKind} {n:Int} {e:TypeId} (hT:P.underlying T=some (.array m e)) (he:Qam P e=some (false,E.sz)) (hE:E.agg=false) (ho:o.op= .index T x i) (hx:ρ x=u)
  (hu:(QoM m hm E).val s u xs) (hi:ρ i= .int k n) (hy:idx xs n=some y) (hk:∀v,E.val s v y->K v w):Exec P ρ o w K:=by
 obtain ⟨h0,hlt,hget⟩:=Qj hy
 have hr:=Qeq hu
 have hag:u.cells=u.cells:=rfl
 unfold Enc.val at hu
 rw [if_pos (by rfl)] at hu
 obtain ⟨cs,rfl,hlen,hreps⟩:=hu
 obtain ⟨c,hc,hd⟩:=hreps.get hget
 have hs1:=E.single hE
 rw [hs1,Nat.mul_one] at hd
 obtain ⟨v,rfl⟩:∃v,c=[v]:=by
  have:=E.len hc
  rw [hs1] at this
  match c,this with
  |[v],_=>exact ⟨v,rfl⟩
 have hv:cs[n.toNat]?=some v:=by
  have:(cs.toList.drop n.toNat)[0]?=some v:=by
   have h2:((cs.toList.drop n.toNat).take 1)[0]?=some v:=by rw [hd];rfl
   rw [Xo] at h2
   simpa using h2
  simpa using this
 refine QiP (v:=v) ho hx hi ?_ (hk v ?_)
 ·simp only [Instr.index,asIntOf,Xe,Xg,Xd,Xk hT]
  rw [if_pos ⟨h0,by omega⟩]
  simp only [part,Xe,Qe8 he,GN he,Xd,hs1,Nat.mul_one,Xf,if_false,hv,Xg]
 ·unfold Enc.val
  rw [if_neg (by simp [hE])]
  exact hc
end
section
variable {P:Program} {ρ:Operand->Value} {o:Oper} {w w0:World} {K:Value->World->Prop} {T:TypeId} {s:Gc} {H:List Res}
theorem QiB {α β:Type} {E:Enc α} {Te:TypeId} {v u z:Value} {xs ys:List α} {xss zss:List (List β)} {x1:List β} {t by_ b n cap:Nat} {cs:List Value} {x y:Operand} (hS:St w0 s (.arr E Te v xs:: .box b Te cs::H) w)
  (hT:JM P t=some (Te,E.sz,by_)) (hz:JW P Te=some z) (hzs:z.cells.size=E.sz) (hby:0<by_) (ho:o.op= .call { callee:= .builtin .append,args:=#[x,y],argTypes:=#[t,t] }) (hx:ρ x=v) (hy:ρ y=u)
  (hu:u= .slice (some ⟨b,0,none⟩) n cap) (hr:G7 E s cs ys) (hn:n=ys.length) (h1:ys.length=1) (hl:xs.length=xss.length) (ha:app by_ xss [x1]=some zss)
  (hk:∀v' w',St w0 s (.arr E Te v' (xs++ys)::H) w'->K v' w'):Exec P ρ o w K:=by
 obtain ⟨hb,_⟩:=QhK ha
 refine Qn hS hT hz hzs hby ho hx hy hu hr hn (zs:=xs++ys) ?_ hk
 unfold app
 rw [if_pos (by rw [hl,h1];simpa using hb)]
theorem QgL {α β:Type} {E:Enc α} {F:Enc β} {Te Tr:TypeId} {v:Value} {hs:List α} {hs':List Value} {xss:List (List β)} {x:Operand} {e n b:Nat} (hS:St w0 s (.arr E Te v hs:: .rows F Tr hs' xss::H) w) (hl:hs.length=xss.length) (hT:JM P T=some (e,n,b)) (ho:o.op= .call { callee:= .builtin .len,args:=#[x],argTypes:=#[T] }) (hx:ρ x=v) (hk:K (.int .i64 (xss.length:Int)) w):Exec P ρ o w K:=by
 rw [<-hl] at hk
 exact QK hS hT ho hx hk
end
end Go.Pw
/- -/
namespace Go.Pw
section
variable {P:Program} {N:Nat} {Q:QbB}
def QcI (N n0:Nat) (ops:List Oper):Bool :=
 (Nat.ble n0 ops.length) && ((List.range ops.length).all fun t=>Nat.blt t n0 ||Qh6 ops t ||(Nat.blt n0 t && Qjl ops t (t - 1))) &&
 (ops.take n0).all (fun o=>Qb1 N o.dst) &&
 (ops.drop n0).all (fun o=>Qb1 N o.dst) &&
 decide (((ops.take n0).filterMap (·.dst)).Nodup) &&
 ((List.range ops.length).all fun t=>match ops[t]? with |some o=>o.after.all fun e=>!(Region.binds .any e) ||Nat.blt e.on t |none=>true)
theorem Qm5 {id n0:Nat} {ops:List Oper} {f:Fr} {w:World} (hm:P.follows .mixedOrders=true) (hok:QcI N n0 ops=true)
  (I:(Nat->Bool)->Fr->World->Prop) (hI:I (fun _=>false) f w.drew)
  (head:∀(i:Nat) (o:Oper) (dn:Nat->Bool) (g:Fr) (w:World),i<n0->ops[i]?=some o->dn i=false->(∀e ∈ o.after,Region.binds .any e=true->dn e.on=true) ->
   (∀e ∈ o.after,Region.binds .any e=true->e.on<i)->I dn g w ->
   (if Region.wanted o (Jg ops.toArray g) then Exec P (ev g) o w fun v w'=>I (fun j=>if j=i then true else dn j) (JU g o.dst v) w' else I (fun j=>if j=i then true else dn j) (JU g o.dst undef) w))
  (tail:∀(dn:Nat->Bool) (g:Fr) (w:World),(∀i,i<n0->dn i=true)->I dn g w->WL P N ops.toArray Q (ops.drop n0) g w) :
  W P N (.region id ops.toArray true) Q f w:=by
 simp only [QcI,Xl,Xz,List.all_eq_true,X4] at hok
 obtain ⟨⟨⟨⟨⟨hn0,hwait⟩,hdst⟩,_⟩,hnodup⟩,hback⟩:=hok
 have hn0':n0<=ops.length:=by simpa [Nat.ble_eq] using hn0
 have hdsti:∀(i:Nat) (o:Oper),i<n0->ops[i]?=some o->Qb1 N o.dst=true:=by
  intro i o hi ho
  exact hdst o (List.mem_of_getElem? (i:=i) (by rw [Xo,if_pos hi];exact ho))
 have hb:∀(i:Nat) (o:Oper) (e:Edge),ops[i]?=some o->e ∈ o.after->Region.binds .any e=true->e.on<i:=by
  intro i o e ho he hbi
  have hi:i<ops.length:=(Xj.1 ho).1
  have:=hback i (by simpa using hi)
  simp only [ho] at this
  have:=Array.all_eq_true'.1 this e he
  simpa [Nat.blt_eq,hbi] using this
 have both:∀(listed:Array Bool) (i:Nat),listed.size=ops.length->i<ops.length->listed.getD i true=listed.getD i false:=by
  intro listed i hl hi
  have:i<listed.size:=by omega
  simp [this]
 have tailrun:∀(l:List Oper) (k:Nat) (listed:Array Bool) (a:Act) (w:World),ops.drop k=l->n0<=k->listed.size=ops.length ->
   (∀i,i<k->listed.getD i false=true)->(∀i,k<=i->i<ops.length->listed.getD i false=false)->wpList P ops.toArray (QgO N Q) l a w->wpAny P .any ops.toArray (QgO N Q) l.length listed a w:=by
  intro l
  induction l with
  |nil =>
   intro k listed a w hl hk hls hdone hnot h
   have hkl:ops.length<=k:=by simpa [List.drop_eq_nil_iff] using hl
   refine ⟨?_,h⟩
   rw [List.eq_nil_iff_forall_not_mem]
   intro i hi
   obtain ⟨hun,oi,hoi,_⟩:=mem_ready.1 hi
   have hilt:i<ops.length:=by have:=(Array.getElem?_eq_some_iff.1 hoi).1;simpa using this
   rw [both listed i hls hilt,hdone i (by omega)] at hun
   cases hun
  | cons o l ih =>
   intro k listed a w hl hk hls hdone hnot h
   have hkl:k<ops.length:=by
    rcases Nat.lt_or_ge k ops.length with h |h
    ·exact h
    ·rw [List.drop_eq_nil_of_le h] at hl;cases hl
   have hok:ops[k]?=some o:=by
    have:=congrArg List.head? hl
    simpa [List.head?_drop] using this
   have hl':ops.drop (k+1)=l:=by
    have:=congrArg List.tail hl
    simpa [List.tail_drop] using this
   have hready:∀i,i ∈ Region.ready .any ops.toArray listed->i=k:=by
    intro i hi
    obtain ⟨hun,oi,hoi,hall⟩:=mem_ready.1 hi
    have hilt:i<ops.length:=by have:=(Array.getElem?_eq_some_iff.1 hoi).1;simpa using this
    rcases Nat.lt_trichotomy i k with hlt |heq |hgt
    ·rw [both listed i hls hilt,hdone i hlt] at hun;cases hun
    ·exact heq
    ·rcases hwait i (by simpa using hilt) with (hw |hw) |⟨_,hw⟩
     rotate_right
     ·have hoi':ops[i]?=some oi:=by simpa using hoi
      simp only [Qjl,hoi'] at hw
      obtain ⟨e,he,hbb⟩:=Array.any_eq_true'.1 hw
      simp only [Xl] at hbb
      have hon:e.on=i - 1:=Xh hbb.2
      have h2:=hall e he hbb.1
      rw [hon,hnot (i - 1) (by omega) (by omega)] at h2
      cases h2
     ·simp [Nat.blt_eq] at hw;omega
     ·have hoi':ops[i]?=some oi:=by simpa using hoi
      simp only [Qh6,hoi',List.all_eq_true,XG] at hw
      obtain ⟨e,he,hbb⟩:=Array.any_eq_true'.1 (hw k hgt)
      simp only [Xl] at hbb
      have hon:e.on=k:=Xh hbb.2
      have h2:=hall e he hbb.1
      rw [hon,hnot k (Xi _) hkl] at h2
      cases h2
   have hkready:k ∈ Region.ready .any ops.toArray listed :=
    mem_ready.2 ⟨by rw [both listed k hls hkl];exact hnot k (Xi _) hkl,o,by simpa using hok,fun e he q=>hdone e.on (hb k o e hok he q)⟩
   refine ⟨fun h0=>(by rw [h0] at hkready;cases hkready),fun i hi=>?_⟩
   have hik:=hready i hi
   subst hik
   have hnext:∀a w,wpList P ops.toArray (QgO N Q) l a w->wpAny P .any ops.toArray (QgO N Q) l.length (listed.setIfInBounds i true) a w:=fun a w hh =>
    ih (i+1) _ a w hl' (by omega) (by simpa using hls)
     (fun j hj=>by
      by_cases e:j=i
      ·subst e;simp [hls,hkl]
      ·rw [getD_set_ne false (Ne.symm e)];exact hdone j (by omega))
     (fun j hj hj'=>by rw [getD_set_ne false (by omega)];exact hnot j (by omega) hj') hh
   unfold wpOp
   have:ops.toArray[i]?=some o:=by simpa using hok
   simp only [this]
   simp only [wpList] at h
   split
   ·rename_i hw
    rw [if_pos hw] at h
    exact h.imp (Oper.wp_mono hnext) (fun h=>h)
   ·rename_i hw
    rw [if_neg hw] at h
    exact hnext _ _ h
 have headrun:∀(c:Nat) (listed:Array Bool) (a:Act) (w:World),(List.range n0).countP (fun i=>!listed.getD i false)=c ->
   (∃(g:Fr),Fits N a g∧I (fun i=>listed.getD i false) g w∧listed.size=ops.length ∧
    (∀i,n0<=i->i<ops.length->listed.getD i false=false)) ->
   wpAny P .any ops.toArray (QgO N Q) (c+(ops.drop n0).length) listed a w:=by
  intro c
  induction c with
  | zero =>
   intro listed a w hc ⟨g,hg,hIw,hls,hnot⟩
   rw [Nat.zero_add]
   have hdone:∀i,i<n0->listed.getD i false=true:=by
    intro i hi
    have:=List.countP_eq_zero.1 hc i (by simpa using hi)
    cases h:listed.getD i false with
    |true=>rfl
    |false=>rw [h] at this;simp at this
   exact tailrun (ops.drop n0) n0 listed a w Z (Xi _) hls hdone hnot (tail _ g w hdone hIw a hg)
  | succ c ih =>
   intro listed a w hc ⟨g,hg,hIw,hls,hnot⟩
   rw [Nat.add_right_comm]
   have hex:∃i,i<n0∧listed.getD i false=false∧∀j,j<i->listed.getD j false=true:=by
    have h1:∃i,i<n0∧listed.getD i false=false:=by
     have:0<(List.range n0).countP (fun i=>!listed.getD i false):=by omega
     obtain ⟨i,hi,hp⟩:=List.countP_pos_iff.1 this
     exact ⟨i,by simpa using hi,by simpa using hp⟩
    obtain ⟨i,hi,hu⟩:=h1
    induction i using Nat.strongRecOn with
    | _ i ihi =>
     by_cases hm:∃j,j<i∧listed.getD j false=false
     ·obtain ⟨j,hj,hju⟩:=hm
      exact ihi j hj (by omega) hju
     ·refine ⟨i,hi,hu,fun j hj=>?_⟩
      cases h:listed.getD j false with
      |true=>rfl
      |false=>exact absurd ⟨j,hj,h⟩ hm
   obtain ⟨k,hk,hku,hkleast⟩:=hex
   have hkl:k<ops.length:=by omega
   have hready:∀i,i ∈ Region.ready .any ops.toArray listed->i<n0:=by
    intro i hi
    obtain ⟨hun,oi,hoi,hall⟩:=mem_ready.1 hi
    have hilt:i<ops.length:=by have:=(Array.getElem?_eq_some_iff.1 hoi).1;simpa using this
    rcases hwait i (by simpa using hilt) with (hw |hw) |⟨hw0,hw⟩
    rotate_right
    ·have hn0i:n0<i:=by simpa [Nat.blt_eq] using hw0
     have hoi':ops[i]?=some oi:=by simpa using hoi
     simp only [Qjl,hoi'] at hw
     obtain ⟨e,he,hbb⟩:=Array.any_eq_true'.1 hw
     simp only [Xl] at hbb
     have hon:e.on=i - 1:=Xh hbb.2
     have h2:=hall e he hbb.1
     rw [hon,hnot (i - 1) (by omega) (by omega)] at h2
     cases h2
    ·simpa [Nat.blt_eq] using hw
    ·rcases Nat.lt_or_ge i n0 with h |h
     ·exact h
     ·have hoi':ops[i]?=some oi:=by simpa using hoi
      simp only [Qh6,hoi',List.all_eq_true,XG] at hw
      obtain ⟨e,he,hbb⟩:=Array.any_eq_true'.1 (hw k (by omega))
      simp only [Xl] at hbb
      have hon:e.on=k:=Xh hbb.2
      have h2:=hall e he hbb.1
      rw [hon,hku] at h2
      cases h2
   obtain ⟨ok,hok⟩:∃o,ops[k]?=some o:=⟨ops[k],by simp [hkl]⟩
   have hkready:k ∈ Region.ready .any ops.toArray listed :=
    mem_ready.2 ⟨by rw [both listed k hls hkl];exact hku,ok,by simpa using hok,fun e he q=>hkleast e.on (hb k ok e hok he q)⟩
   refine ⟨fun h0=>(by rw [h0] at hkready;cases hkready),fun i hi=>?_⟩
   have hin:=hready i hi
   obtain ⟨hun,o,hoi,hall⟩:=mem_ready.1 hi
   have ho:ops[i]?=some o:=by simpa using hoi
   have hilt:i<ops.length:=by omega
   rw [both listed i hls hilt] at hun
   have hdN:=hdsti i o hin ho
   have hset:(fun j=>(listed.setIfInBounds i true).getD j false)=fun j=>if j=i then true else listed.getD j false:=by
    funext j
    by_cases e:j=i
    ·subst e;simp [hls,hilt]
    ·rw [if_neg e,getD_set_ne false (Ne.symm e)]
   have hnext:∀(v:Value) (w':World),I (fun j=>if j=i then true else listed.getD j false) (JU g o.dst v) w' ->
     wpAny P .any ops.toArray (QgO N Q) (c+(ops.drop n0).length) (listed.setIfInBounds i true) (a.put o.dst v) w':=by
    intro v w' hIw'
    refine ih _ _ _ ?_ ⟨JU g o.dst v,hg.put hdN v,by rw [hset];exact hIw',by simpa using hls,?_⟩
    ·have:=Qpm (p:=fun j=>!listed.getD j false) (q:=fun j=>!(listed.setIfInBounds i true).getD j false) (i:=i) (by show (!listed.getD i false)=true;rw [hun];rfl)
      (by simp [hls,hilt]) (fun j hj=>by show (!listed.getD j false)=_;rw [getD_set_ne false (Ne.symm hj)]) n0 hin
     omega
    ·intro j hj hj'
     rw [getD_set_ne false (by omega)]
     exact hnot j hj hj'
   have hop:=head i o _ g w hin ho hun (fun e he hbe=>hall e he hbe) (fun e he q=>hb i o e ho he q) hIw
   unfold wpOp
   simp only [hoi]
   rw [<-QdZ hg] at hop
   split
   ·rename_i hw
    rw [if_pos hw] at hop
    refine .inl (QgV ?_)
    rw [hg.eval]
    exact hop.mono fun v w' h=>hnext v w' h
   ·rename_i hw
    rw [if_neg hw] at hop
    exact hnext undef w hop
 intro a ha
 refine wp_region_any hm ?_
 have hcount:(List.range n0).countP (fun i=>!(Array.replicate ops.toArray.size false).getD i false)=n0:=by
  rw [List.countP_eq_length.2]
  ·simp
  ·intro i hi
   have hi':i<n0:=by simpa using hi
   simp [show i<ops.length by omega]
 have:=headrun n0 (Array.replicate ops.toArray.size false) a w.drew hcount ⟨f,ha,by
  have e:(fun i=>(Array.replicate ops.toArray.size false).getD i false)=fun _=>false:=by
   funext i
   by_cases h:i<ops.length <;> simp [h]
  rw [e];exact hI,by simp,fun i _ hi=>by simp [hi]⟩
 have hlen:n0+(ops.drop n0).length=ops.toArray.size:=by simp;omega
 rw [hlen] at this
 exact this
end
structure RR where
 own:Bool
 p:Gc->Value->List Res->Prop
 mono:∀{s t v L},Gc.le s t->p s v L->p t v L
 nil:own=false->∀{s v L},p s v L->L=[]
def RR.of (R:RP):RR:=⟨false,fun s v L=>L=[]∧R.p s v,fun l h=>⟨h.1,R.mono l h.2⟩,fun _ _ _ _ h=>h.1⟩
def RR.arr {α:Type} (E:Enc α) (T:TypeId) (xs:List α):RR:=⟨true,fun _ v L=>L=[.arr E T v xs],fun _ h=>h,fun h=>by cases h⟩
def RR.lit {α:Type} (E:Enc α) (T:TypeId) (n:Nat) (xs:List α):RR:=⟨true,fun s v L=>∃b cs,v= .slice (some ⟨b,0,none⟩) n n∧L=[.box b T cs]∧G7 E s cs xs,fun l ⟨b,cs,h1,h2,h3⟩=>⟨b,cs,h1,h2,h3.mono l⟩,fun h=>by cases h⟩
def RR.box (T:TypeId) (cs:List Value):RR:=⟨true,fun _ v L=>∃b,v= .pointer (some ⟨b,0,none⟩)∧L=[.box b T cs],fun _ h=>h,fun h=>by cases h⟩
theorem Qnr {α:Type} [BEq α] [LawfulBEq α]:∀(C M:List α),C.Nodup->M.Nodup->(∀c ∈ C,c ∈ M)->∃M',M.Perm (C++M')∧M'.Nodup∧∀j,j ∈ M'↔j ∈ M∧j ∉ C
 |[],M,_,hM,_=>⟨M,List.Perm.refl _,hM,fun j=>by simp⟩
 |c::C,M,hC,hM,hs=>by
  have hc:=List.nodup_cons.1 hC
  obtain ⟨M',hp,hn,hm⟩:=Qnr C (M.erase c) hc.2 (hM.erase c) (fun x hx=>(hM.mem_erase_iff).2 ⟨fun e=>hc.1 (e ▸ hx),hs x (by simp [hx])⟩)
  refine ⟨M',((List.perm_cons_erase (hs c (by simp))).trans (hp.cons c)),hn,fun j=>?_⟩
  rw [hm,hM.mem_erase_iff]
  simp only [Xr,not_or]
  constructor
  ·rintro ⟨⟨h1,h2⟩,h3⟩;exact ⟨h2,h1,h3⟩
  ·rintro ⟨h1,h2,h3⟩;exact ⟨⟨h2,h1⟩,h3⟩
section
variable {P:Program} {N:Nat} {Q:QbB} {f:Fr} {w w0:World} {s:Gc} {H Hs:List Res}
end
end Go.Pw
namespace Go.Pw
section
variable {P:Program} {ρ:Operand->Value} {o:Oper} {w w0:World} {K:Value->World->Prop} {T:TypeId} {s:Gc} {H:List Res}
theorem Ke {x i:Operand} {k:IntKind} {n m sz b off:Nat} {ag:Bool} {e:TypeId} {j:Int} (hT:P.underlying T=some (.array n e)) (he:Qam P e=some (ag,sz)) (ho:o.op= .indexAddr T x i) (hx:ρ x= .pointer (some ⟨b,off,none⟩))
  (hi:ρ i= .int k j) (h:0<=j∧j<n) (hm:off+j.toNat * sz=m) (hk:K (.pointer (some ⟨b,m,none⟩)) w):Exec P ρ o w K:=by
 subst hm
 refine .of_run ?_ hk
 unfold execOp
 simp only [ho,hx,hi,Xe,Instr.indexAt,asIntOf,Xk hT,Instr.sureAddr,Xg,Xd]
 rw [if_pos h]
 simp only [Xe,GN he,Xd,Xg,Addr.add_lit]
theorem Ga.nilShape {α:Type} {E:Enc α} {v:Value} {xs:List α} (h:Ga E s v xs):∃(a:Option Addr) (n c:Nat),v= .slice a n c∧(a.isNone=true->xs=[]):=by
 rcases h with ⟨rfl,rfl⟩ |⟨a,cap,rfl,rfl⟩ |⟨b,off,cap,c,T,fz,cells,rfl,_⟩
 ·exact ⟨_,_,_,Z,fun _=>rfl⟩
 ·exact ⟨_,_,_,Z,fun _=>rfl⟩
 ·exact ⟨_,_,_,Z,fun h=>by cases h⟩
theorem St.nilShape {α:Type} {E:Enc α} {Te:TypeId} {v:Value} {xs:List α} (hS:St w0 s (.arr E Te v xs::H) w):∃(a:Option Addr) (n c:Nat),v= .slice a n c∧(a.isNone=true->xs=[]):=by
 obtain ⟨t,_,_,h⟩:=hS.freezeArr
 exact h.nilShape
end
end Go.Pw
