/- -/
import Derived.Test.YtalfjlihddgooaaGreatDoorBa
import Derived.Test.YtalfjlihddgooaaGreatDoorLB
import Derived.Test.YtalfjlihddgooaaGreatDoorLC
import Derived.Test.YtalfjlihddgooaaGreatDoorLE
import Derived.Laws.IdiomStrings
import Derived.Laws.CopyRow
import Derived.Lib.AppendZerosOnto
import Derived.Lib.Overlaps
import Derived.Lib.AppendZeros
set_option linter.unusedVariables false
namespace Go.Pw
def Upd {α β:Type} (E:Enc α) (off:Nat) (F:Enc β) (set:α->β->α):Prop:=∀s cells a fs b,E.rep s cells a->F.rep s fs b->off+F.sz<=E.sz∧E.rep s (cells.take off++fs++cells.drop (off+F.sz)) (set a b)
section
variable {α β γ:Type} {E:Enc α} {F:Enc β} {off:Nat}
theorem Upd.refl (E:Enc α):Upd E 0 E (fun _ b=>b):=fun s cells a fs b h k=>by
 have h1:=E.len h
 have h2:=E.len k
 refine ⟨by omega,?_⟩
 rw [List.take_zero,List.drop_of_length_le (by omega),List.nil_append,List.append_nil]
 exact k
theorem Upd.iso {f:γ->α} {g:α->β->α} {k:γ->β->γ} (h:Upd E off F g) (hf:∀c b,f (k c b)=g (f c) b):Upd (E.iso f) off F k:=fun s cells a fs b hr hk=>by
 obtain ⟨h1,h2⟩:=h s cells (f a) fs b hr hk
 refine ⟨h1,?_⟩
 show E.rep s _ (f (k a b))
 rw [hf]
 exact h2
theorem Upd.fst {A:Enc α} {B:Enc γ} {g:α->β->α} (h:Upd A off F g):Upd (A.pair B) off F (fun p b=>(g p.1 b,p.2)):=by
 rintro s cells p fs b ⟨c1,c2,rfl,h1,h2⟩ hk
 obtain ⟨h3,h4⟩:=h s c1 p.1 fs b h1 hk
 have hl:=A.len h1
 refine ⟨by show off+F.sz<=A.sz+B.sz;omega,_,c2,?_,h4,h2⟩
 rw [List.take_append_of_le_length (by omega),List.drop_append_of_le_length (by omega)]
 simp
theorem Upd.snd {A:Enc α} {B:Enc γ} {g:γ->β->γ} {n:Nat} (h:Upd B off F g) (hn:A.sz+off=n):Upd (A.pair B) n F (fun p b=>(p.1,g p.2 b)):=by
 rintro s cells p fs b ⟨c1,c2,rfl,h1,h2⟩ hk
 obtain ⟨h3,h4⟩:=h s c2 p.2 fs b h2 hk
 have hl:=A.len h1
 subst hn
 refine ⟨by show A.sz+off+F.sz<=A.sz+B.sz;omega,c1,_,?_,h1,h4⟩
 rw [<-hl,List.take_length_add_append,Nat.add_assoc,List.drop_length_add_append]
 simp
end
section
variable {P:Program} {ρ:Operand->Value} {o:Oper} {w w0:World} {K:Value->World->Prop} {s:Gc} {H:List Res} {T Te:TypeId} {α:Type} {E:Enc α} {v:Value} {xs:List α}
theorem Qhp {β:Type} {F:Enc β} {set:α->β->α} {y:α} {b:β} {x z:Operand} {u:Value} {g cap off m:Nat} {n:Int} {zs:List α} (hS:St w0 s (.arr E Te v xs::H) w) (hv:v= .slice (some ⟨g,0,none⟩) xs.length cap) (hT:Qam P T=some (F.agg,F.sz)) (ho:o.op= .store T x z)
  (hx:ρ x= .pointer (some ⟨g,m,none⟩)) (hm:m=0+n.toNat * E.sz+off) (hz:ρ z=u) (hu:F.val s u b) (hup:Upd E off F set) (hy:idx xs n=some y) (hset:QbN xs n (set y b)=some zs)
  (hk:∀w',St w0 s (.arr E Te v zs::H) w'->K undef w'):Exec P ρ o w K:=by
 rw [Nat.zero_add] at hm
 subst hm
 subst hv
 obtain ⟨h0,hlt,rfl⟩:=Qgn hset
 have hr:=Qeq hu
 have hlen:u.cells.toList.length=F.sz:=F.len hr
 have key:∀{bs:List Nat},(Res.arr E Te (.slice (some ⟨g,0,none⟩) xs.length cap) xs).p s w bs->∃cur:Array Value,w.heap[g]?=some (.cells cur Te (0,0))∧n.toNat * E.sz+off+u.cells.toList.length<=cur.size∧bs=[g] ∧
   (Res.arr E Te (.slice (some ⟨g,0,none⟩) xs.length cap) (xs.set n.toNat (set y b))).p s (w.setRow g (cur.toList.take (n.toNat * E.sz+off)++u.cells.toList++cur.toList.drop (n.toNat * E.sz+off+u.cells.toList.length)).toArray) [g]:=by
  intro bs h1
  obtain ⟨cur,hg,he,hb⟩:=QkF h1 hy
  obtain ⟨hoff,he2⟩:=hup s _ _ _ _ he hr
  obtain ⟨cur',hg',hfit,hbs,hnew⟩:=QhJ h1 h0 hlt he2
  rw [hg] at hg'
  cases hg'
  refine ⟨cur,hg,by omega,hbs,?_⟩
  have hel:=E.len he2
  rw [hel] at hnew
  have hc:cur.toList.length=cur.size:=by simp
  have hrow:cur.toList.take (n.toNat * E.sz+off)++u.cells.toList++cur.toList.drop (n.toNat * E.sz+off+u.cells.toList.length) =
    cur.toList.take (n.toNat * E.sz)++(((cur.toList.drop (n.toNat * E.sz)).take E.sz).take off++u.cells.toList++((cur.toList.drop (n.toNat * E.sz)).take E.sz).drop (off+F.sz))++cur.toList.drop (n.toNat * E.sz+E.sz):=by
   rw [List.take_take,Nat.min_eq_left (by omega),List.take_add,List.drop_take,List.drop_drop,hlen]
   have h3:cur.toList.drop (n.toNat * E.sz+E.sz)=(cur.toList.drop (n.toNat * E.sz+(off+F.sz))).drop (E.sz - (off+F.sz)):=by
    rw [List.drop_drop];congr 1;omega
   rw [h3]
   simp only [List.append_assoc,List.take_append_drop]
   rw [Nat.add_assoc]
  rw [hrow]
  exact hnew
 obtain ⟨bs,hn,hss,b1,b2,e,h1,h2⟩:=hS.own
 obtain ⟨cur,hg,hfit,hb1,_⟩:=key h1
 have hrun:=Qff (P:=P) (w:=w) (T:=T) (v:=u) (cs:=u.cells.toList) (by rw [hlen];exact hT) (by simp) hg hfit (F.one hr)
 refine .of_skip (w':=_) ?_ (hk (w.setRow g (cur.toList.take (n.toNat * E.sz+off)++u.cells.toList++cur.toList.drop (n.toNat * E.sz+off+u.cells.toList.length)).toArray) ?_)
 ·unfold execOp
  simp only [ho,hx,hz,Instr.storeAt,Instr.sureAddr,Xe,Xg,Xd,hrun]
 ·refine hS.turn Z Z Z (Xi _) (by rw [QcV];exact Xi _) ?_
  intro c1 hc1
  obtain ⟨cur',hg',_,hc1',hnew⟩:=key hc1
  rw [hg] at hg'
  cases hg'
  exact ⟨[g],hnew,by simp,fun x hx=> .inl (by rw [hc1'];exact hx),fun x _ hx=>setRow_other w g x _ (by rw [hc1'] at hx;simpa using hx)⟩
end
end Go.Pw
/- -/
set_option linter.unusedSimpArgs false
namespace Go.Pw
section
variable {P:Program} {ρ:Operand->Value} {o:Oper} {w w0:World} {s:Gc} {H:List Res} {K:Value->World->Prop} {T T2 Te:TypeId}
variable {S α δ:Type} {E:Enc α} {R:Enc δ} {at_:S->List α} {f:S->δ} {v:Value} {xs:List S}
end
end Go.Pw
/- -/
namespace Go.Pw
section
variable {P:Program} {ρ:Operand->Value} {o:Oper} {w w0:World} {s:Gc} {H:List Res} {K:Value->World->Prop} {T:TypeId}
end
section
variable {P:Program} {ρ:Operand->Value} {o:Oper} {w w0:World} {s:Gc} {H:List Res} {K:Value->World->Prop} {T T2 Te:TypeId}
variable {S α δ:Type} {E:Enc α} {R:Enc δ} {at_:S->List α} {f:S->δ} {v:Value} {xs:List S}
end
end Go.Pw
/- -/
namespace Go.Pw
def Dn (sz:Nat) (v u:Value) (l n:Nat):Prop:=(u=v∧l=0∧∃a c,v= .slice a n c)∨∃g cap len,v= .slice (some ⟨g,0,none⟩) len cap∧l+n<=len∧len<=cap∧u= .slice (some ⟨g,if cap=l then 0 else l * sz,none⟩) n (cap - l)
section
variable {P:Program} {ρ:Operand->Value} {o:Oper} {w w0:World} {s:Gc} {H:List Res} {K:Value->World->Prop} {T Te:TypeId} {α:Type} {E:Enc α} {xs:List α} {v u:Value}
theorem Dn.mk {g cap len l n sz:Nat} (h1:l+n<=len) (h2:len<=cap) :
  Dn sz (.slice (some ⟨g,0,none⟩) len cap) (.slice (if cap=l then some (⟨g,0,none⟩:Addr) else (some (⟨g,0,none⟩:Addr)).map (·.add (l * sz))) n (cap - l)) l n:=by
 refine .inr ⟨g,cap,len,Z,h1,h2,?_⟩
 by_cases h:cap=l
 ·rw [if_pos h,if_pos h]
 ·rw [if_neg h,if_neg h]
  simp [Addr.add_lit]
end
end Go.Pw
/- -/
namespace Go.Pw
section
variable {P:Program} {ρ:Operand->Value} {o:Oper} {w:World} {K:Value->World->Prop} {T T':TypeId} {x y:Operand}
end
end Go.Pw
/- -/
namespace Go.Pw
section
variable {P:Program} {ρ:Operand->Value} {o:Oper} {w w0:World} {s:Gc} {H:List Res} {K:Value->World->Prop} {T Te:TypeId} {α:Type} {E:Enc α} {xs:List α} {v u u1 u2:Value}
theorem Dn.head {g len cap m sz:Nat} (h:Dn sz (.slice (some ⟨g,0,none⟩) len cap) u 0 m):u= .slice (some ⟨g,0,none⟩) m cap∧(m<=len∨u= .slice (some ⟨g,0,none⟩) len cap):=by
 rcases h with ⟨rfl,_,a,c,hv⟩ |⟨g',cap',len',hv,a1,a2,rfl⟩
 ·cases hv
  exact ⟨Z, .inr Z⟩
 ·cases hv
  have hz:(if cap=0 then 0 else 0 * sz)=0:=by split <;> simp
  rw [hz]
  exact ⟨Z, .inl (by omega)⟩
theorem Dn.tail {g len cap j n sz:Nat} (h:Dn sz (.slice (some ⟨g,0,none⟩) len cap) u j n):∃off c,u= .slice (some ⟨g,off,none⟩) n c∧(n≠0->off=j * sz):=by
 rcases h with ⟨rfl,rfl,a,c,hv⟩ |⟨g',cap',len',hv,a1,a2,rfl⟩
 ·cases hv
  exact ⟨0,_,Z,fun _=>by simp⟩
 ·cases hv
  refine ⟨_,_,Z,fun hn=>?_⟩
  rw [if_neg (by omega)]
end
end Go.Pw
/- -/
namespace Go.Pw
section
variable {P:Program} {ρ:Operand->Value} {o:Oper} {w w0:World} {s:Gc} {H:List Res} {K:Value->World->Prop} {T Te:TypeId} {α:Type} {E:Enc α} {xs ys:List α} {v:Value} {g cap:Nat} {cs:List Value}
theorem St.arr_open (hS:St w0 s (.arr E Te v xs::H) w) (h:0<xs.length):∃(g cap:Nat) (cs:List Value),v= .slice (some ⟨g,0,none⟩) xs.length cap∧xs.length<=cap∧cap<=maxLen∧cs.length=cap * E.sz∧G7 E s (cs.take (xs.length * E.sz)) xs∧St w0 s (.box g Te cs::H) w:=by
 obtain ⟨bs,hn,hs,b1,b2,e,⟨cells,h1,h2,h3⟩,h4⟩:=hS.own
 rcases h2.2 with ⟨_,hx⟩ |⟨g,cap,cur,rfl,hbg,hg,hnc,hcm,hcs,htake⟩
 ·omega
 ·refine ⟨g,cap,cur.toList,Z,hnc,hcm,by simpa using hcs,by rw [htake];exact h1,hS.os,hS.tape,hS.output,hS.drawn,hS.size,hS.stay,bs,hn,hs,b1,b2,e,⟨by rw [h3];simp [Value.ownBlock],by simpa using hg⟩,h4⟩
theorem St.arr_close (hS:St w0 s (.box g Te cs::H) w) (h1:ys.length<=cap) (h2:cap<=maxLen) (h3:cs.length=cap * E.sz) (h4:G7 E s (cs.take (ys.length * E.sz)) ys):St w0 s (.arr E Te (.slice (some ⟨g,0,none⟩) ys.length cap) ys::H) w:=by
 obtain ⟨bs,hn,hs,b1,b2,e,⟨h5,h6⟩,h7⟩:=hS.own
 refine ⟨hS.os,hS.tape,hS.output,hS.drawn,hS.size,hS.stay,bs,hn,hs,b1,b2,e,⟨cs.take (ys.length * E.sz),h4,⟨h4.len, .inr ⟨g,cap,cs.toArray,Z,X7 _,h6,h1,h2,by simpa using h3,by simp⟩⟩,by rw [h5];simp [Value.ownBlock]⟩,h7⟩
theorem QwJ {g p:Nat}:(⟨g,0,none⟩:Addr).add p=⟨g,p,none⟩:=by rw [Addr.add_lit];simp
theorem QgJ {x hi:Operand} {k:IntKind} {h:Int} {len e sz by_:Nat} (hT:JM P T=some (e,sz,by_)) (ho:o.op= .slice T x none (some hi) none) (hx:ρ x= .slice (some ⟨g,0,none⟩) len cap) (hh:ρ hi= .int k h)
  (h0:0<=h) (h1:h<=(cap:Int)) (hk:K (.slice (some ⟨g,0,none⟩) h.toNat cap) w):Exec P ρ o w K:=by
 obtain ⟨q,hu,hi',hs,_⟩:=J7 hT
 refine .of_run (v:= .slice (some ⟨g,0,none⟩) h.toNat cap) (w':=w) ?_ hk
 have b1:∀cd,(Instr.sliceBound (.int k h) cap cd).run P w= .ok h.toNat w:=fun cd=>Qap h0 h1
 unfold execOp
 simp only [ho,hx,hh,Option.map_none,Option.map_some,Instr.sliceAt,Instr.slice,Instr.sliceBounds,Xe,Xk hu,Xd,Xg,b1]
 simp [sizeOf,typeInfo,hi',hs,Result.andThen,QwJ,b1]
theorem Qdt {x:Operand} {a:Option Addr} {len e sz by_:Nat} (hT:JM P T=some (e,sz,by_)) (ho:o.op= .call { callee:= .builtin .cap,args:=#[x],argTypes:=#[T] }) (hx:ρ x= .slice a len cap) (hk:K (.int .i64 (cap:Int)) w):Exec P ρ o w K:=by
 obtain ⟨q,hu,_⟩:=J7 hT
 refine .of_run (v:= .int .i64 (cap:Int)) (w':=w) ?_ hk
 simp [execOp,ho,hx,resolve,invoke,builtin,go_sem,Builtin.cap_,Xk hu,goInt]
theorem Qlo {x y:Operand} {T':TypeId} {p dLen dCap m c sz by_:Nat} {a:Addr} {news:List Value} (hS:St w0 s (.box g Te cs::H) w) (hT:JM P T=some (Te,sz,by_)) (ho:o.op= .call { callee:= .builtin .copy,args:=#[x,y],argTypes:=#[T,T'] })
  (hx:ρ x= .slice (some ⟨g,p,none⟩) dLen dCap) (hy:ρ y= .slice (some a) m c) (hn:news.length=Nat.min m dLen * sz) (hsrc:∀j u,news[j]?=some u->w.cell? (a.add j)=some u) (hfit:p+news.length<=cs.length) (h1:∀u ∈ news,u.oneCell'=true)
  (hk:∀w',St w0 s (.box g Te (cs.take p++news++cs.drop (p+news.length))::H) w'->K (.int .i64 ((Nat.min m dLen:Nat):Int)) w'):Exec P ρ o w K:=by
 obtain ⟨q,hu,hi,hs,_⟩:=J7 hT
 have hl:=run_loadCells_list (P:=P) w a news hsrc
 have hst:=run_storeCells_at P g p Te news 0 cs.toArray w hS.box_heap (by simpa using hfit) h1
 simp only [Nat.add_zero] at hst
 refine .of_run (v:= .int .i64 ((Nat.min m dLen:Nat):Int)) (w':=w.setRow g (cs.take p++news++cs.drop (p+news.length)).toArray) ?_ (hk _ hS.box_set)
 have hr:(Builtin.copy_ #[T,T'] o.type #[.slice (some ⟨g,p,none⟩) dLen dCap, .slice (some a) m c]).run P w= .ok (goInt (Nat.min m dLen)) (w.setRow g (cs.take p++news++cs.drop (p+news.length)).toArray):=by
  simp only [Builtin.copy_]
  simp [Xk hu,Builtin.lenOf,Builtin.firstCells,sizeOf,typeInfo,hi,hs, <-hn,hl,hst]
 simp [execOp,ho,hx,hy,resolve,invoke,builtin,go_sem,hr,goInt]
theorem Qq4 (hS:St w0 s H w) {u:Value} (h:Ga E s u ys) (h0:0<ys.length):∃(b off c:Nat) (A:Array Value) (T':TypeId) (fz:Nat×Nat) (news:List Value),u= .slice (some ⟨b,off,none⟩) ys.length c∧s b=some (.cells A T' fz)∧G7 E s news ys∧(∀j x,news[j]?=some x->w.cell? ((⟨b,off,none⟩:Addr).add j)=some x)∧0<A.size:=by
 rcases h with ⟨_,rfl⟩ |⟨_,_,_,rfl⟩ |⟨b,off,c,A,T',fz,cells,rfl,h1,h2,h3,h4,h5⟩
 ·simp at h0
 ·simp at h0
 ·have hl:=h5.len
  have hpos:0<cells.length:=by rw [hl];exact Nat.mul_pos h0 E.pos
  refine ⟨b,off,c,A,T',fz,cells,Z,h3,h5,fun j x hx=>?_,?_⟩
  ·rw [Addr.add_lit,Qa2 hS h3]
   rw [<-h4,Xo] at hx
   split at hx
   ·rw [Xu] at hx;simpa using hx
   ·cases hx
  ·have:cells.length<=A.size:=by rw [<-h4];simp only [XF,List.length_drop,Array.length_toList];omega
   omega
end
end Go.Pw
/- -/
namespace Go.Pw
def Qni {α:Type} (xs ys:List α):Option (List α):=if ys.length<=xs.length then some (ys++xs.drop ys.length) else none
def QgB (b:Nat) (n:Int):Option Unit:=if 0<=n∧n.toNat * b<=140737488355328 then some () else none
section
variable {P:Program} {ρ:Operand->Value} {o:Oper} {w w0:World} {s:Gc} {H:List Res} {K:Value->World->Prop} {T Te:TypeId} {α:Type} {E:Enc α} {xs ys zs:List α} {v u:Value} {g cap:Nat} {cs:List Value}
theorem Qnw:G7 E s [] ([]:List α):=rfl
theorem QbC {xss:List (List α)} (h:Ga E s v xs) (t:G7 (Qk E) s cs xss):G7 (Qk E) s (v::cs) (xs::xss):=⟨[v],cs,rfl,⟨v,rfl,h⟩,t⟩
theorem Qsp {n:Nat} {hn:0<n} (hl:xs.length=n) (h:G7 E s cs xs):(QoM n hn E).val s (.agg cs.toArray) xs:=by
 unfold Enc.val
 rw [if_pos (by rfl)]
 exact ⟨cs.toArray,Z,hl,by simpa using h⟩
theorem Qln {x y:Operand} {T':TypeId} {by_:Nat} (hS:St w0 s (.arr E Te v xs::H) w) (hT:JM P T=some (Te,E.sz,by_)) (ho:o.op= .call { callee:= .builtin .copy,args:=#[x,y],argTypes:=#[T,T'] })
  (hx:ρ x=v) (hy:ρ y=u) (hu:Ga E s u ys) (hq:Qni xs ys=some zs) (hk:∀w',St w0 s (.arr E Te v zs::H) w'->K (.int .i64 (ys.length:Int)) w'):Exec P ρ o w K:=by
 unfold Qni at hq
 split at hq
 case isFalse=>cases hq
 rename_i hle
 cases hq
 by_cases h0:0<ys.length
 ·obtain ⟨g,cap,cs,rfl,h1,h2,h3,h4,hB⟩:=hS.arr_open (by omega)
  obtain ⟨b,off,c,A,T2,fz,news,rfl,_,h5,h6,_⟩:=Qq4 hB hu h0
  have hl:=h5.len
  have hmul:ys.length * E.sz<=xs.length * E.sz:=Nat.mul_le_mul_right _ hle
  have hmul2:xs.length * E.sz<=cap * E.sz:=Nat.mul_le_mul_right _ h1
  have hmin:Nat.min ys.length xs.length=ys.length:=Nat.min_eq_left hle
  refine Qlo hB hT ho hx hy (news:=news) (by rw [hl,hmin]) h6 (by rw [hl,h3];omega) h5.one fun w' hS'=>?_
  rw [hmin]
  refine hk w' ?_
  have hlen:(ys++xs.drop ys.length).length=xs.length:=by simp;omega
  have hS2:=St.arr_close (E:=E) (ys:=ys++xs.drop ys.length) (cap:=cap) hS' (by rw [hlen];exact h1) h2 (by simp [hl,h3];omega) ?_
  ·rwa [hlen] at hS2
  ·rw [hlen,hl]
   have e1:(cs.take 0++news++cs.drop (0+ys.length * E.sz)).take (xs.length * E.sz)=news++(cs.take (xs.length * E.sz)).drop (ys.length * E.sz):=by
    rw [List.take_zero,List.nil_append,Nat.zero_add,List.take_append,hl,X9 (by omega),List.drop_take]
   rw [e1]
   exact h5.append (h4.drop _)
 ·have e:ys=[]:=List.eq_nil_of_length_eq_zero (by omega)
  subst e
  obtain ⟨a,c,rfl⟩:=hS.arr_shape
  obtain ⟨a',c',rfl⟩:=hu.shape
  obtain ⟨q,hu',hi,hs,_⟩:=J7 hT
  refine .of_run (v:= .int .i64 0) (w':=w) ?_ (hk w (by simpa using hS))
  have hl:∀(x:Addr),(loadCells x 0).run P w= .ok #[] w:=fun x=>by simpa using run_loadCells_list (P:=P) w x [] (by simp)
  have hr:(Builtin.copy_ #[T,T'] o.type #[.slice a xs.length c, .slice a' 0 c']).run P w= .ok (goInt 0) w:=by
   cases a <;> cases a' <;> simp [Builtin.copy_,Xk hu',Builtin.lenOf,Builtin.firstCells,sizeOf,typeInfo,hi,storeCells,hl]
  simp only [XC] at hy
  simp [execOp,ho,hx,hy,resolve,invoke,builtin,go_sem,hr,goInt]
theorem Qga {x y:Operand} {tn:TypeId} {kq kn:IntKind} {k sz by_:Nat} {z:Value} (hS:St w0 s H w) (hT:JM P T=some (Te,sz,by_)) (hz:JW P Te=some z) (hn:P.underlying tn=some (.int kn)) (hzs:z.cells.size=sz) (hsz:0<sz) (hby:0<by_)
  (ho:o.op= .call { callee:= .builtin .append,args:=#[x,y],argTypes:=#[T,tn] }) (hx:ρ x= .slice none 0 0) (hy:ρ y= .int kq (k:Int)) (h0:0<k) (hb:k * by_<=140737488355328)
  (hk:∀(b c:Nat) (cs:List Value) (w':World),k<=c->c<=maxLen->cs.length=c * sz->St w0 s (.box b Te cs::H) w'->K (.slice (some ⟨b,0,none⟩) k c) w'):Exec P ρ o w K:=by
 obtain ⟨q,hu,hi',hs,hbs⟩:=J7 hT
 obtain ⟨q',hq',hz'⟩:=Qdp hz
 rw [hi'] at hq';cases hq'
 subst hs hbs
 have hmax:k<=140737488355328:=X0 (Nat.le_mul_of_pos_right _ hby) hb
 have hge:=grownCap_ge w k 0 Te
 have hle:=grownCap_le_maxLen w k 0 Te (by unfold maxLen;omega)
 have hrun:=Lib.run_append_nil_zeros (P:=P) w T tn o.type Te q z kq kn hu hn hi' hz' k h0 hsz (by omega) (by omega)
 have hA:=hS.drew.alloc Te ((Builtin.zeroCells z.cells k).toList++(Builtin.zeroCells z.cells (grownCap w k 0 Te - k)).toList)
 refine .of_run (v:= .slice (some ⟨w.heap.size,0,none⟩) k (grownCap w k 0 Te)) (w':=_) ?_ (hk _ _ _ _ hge hle ?_ hA)
 ·unfold execOp
  simp only [ho,resolve,invoke,builtin,Xe,Xg,Xd,XB,Xv,XM,hx,hy,hrun]
  congr 4
  ·simp
 ·simp [Builtin.zeroCells,hzs]
  rw [<-Nat.add_mul]
  congr 1
  omega
theorem Qft {x hi:Operand} {k:IntKind} {e sz by_:Nat} (hT:JM P T=some (e,sz,by_)) (ho:o.op= .slice T x none (some hi) none) (hx:ρ x= .slice none 0 0) (hh:ρ hi= .int k 0) (hk:K (.slice none 0 0) w):Exec P ρ o w K:=by
 obtain ⟨q,hu,hi',hs,_⟩:=J7 hT
 refine .of_run (v:= .slice none 0 0) (w':=w) ?_ hk
 have b1:∀cd,(Instr.sliceBound (.int k 0) 0 cd).run P w= .ok 0 w:=fun cd=>by simpa using Qap (P:=P) (w:=w) (k:=k) (i:=0) (y:=0) (c:=cd) (by omega) (by omega)
 unfold execOp
 simp only [ho,hx,hh,Option.map_none,Option.map_some,Instr.sliceAt,Instr.slice,Instr.sliceBounds,Xe,Xk hu,Xd,Xg,b1]
 simp [sizeOf,typeInfo,hi',hs,Result.andThen,b1]
def Qnp (H:List Res):Prop:=∀s s' w bs,GU s w H bs->GU s' w H bs
theorem QqM:Qnp []:=fun _ _ _ _ h=>h
theorem QqN {b:Nat} (h:Qnp H):Qnp (.box b T cs::H):=fun s s' w bs ⟨b1,b2,e,h1,h2⟩=>⟨b1,b2,e,h1,h _ s' _ _ h2⟩
theorem St.lendArr (hS:St w0 s (.arr E Te v xs::H) w):∃t,Gc.le s t∧St w0 t H w∧Ga E t v xs∧∀{s2:Gc} {H2:List Res} {w2:World},Gc.le t s2->Qnp H2->St w0 s2 H2 w2->∃s3,Gc.le s s3∧St w0 s3 (.arr E Te v xs::H2) w2:=by
 classical
 obtain ⟨bs0,hn0,hs0,b1,b2,e0,hp0,_⟩:=id hS.own
 obtain ⟨bs,t,hp,hle,hbs,hSt⟩:=hS.freezeWith
 have hb1:b1=bs:=by
  obtain ⟨_,_,_,h⟩:=hp0
  obtain ⟨_,_,_,h'⟩:=hp
  rw [h,h']
 have hsn:∀b ∈ bs,s b=none:=fun b hb=>hs0 b (by rw [e0,hb1];exact List.mem_append_left _ hb)
 have hnd:bs.Nodup:=by rw [<-hb1];rw [e0] at hn0;exact (XA.1 hn0).1
 have hsome:∀b ∈ bs,∃o,w.heap[b]?=some o:=fun b hb=>⟨_,Array.getElem?_eq_getElem ((Res.arr E Te v xs).lt hp b hb)⟩
 refine ⟨t,hle,hSt,?_,?_⟩
 ·obtain ⟨cells,h1,h2,rfl⟩:=hp
  rcases h2.2 with ⟨rfl,h⟩ |⟨g,cap,cur,rfl,_,hg,hnc,hcm,hcs,htake⟩
  ·exact .inl ⟨Z,List.eq_nil_of_length_eq_zero h⟩
  ·refine .inr (.inr ⟨g,0,cap,cur,Te,(0,0),cells,Z,hnc,hcm,by rw [hbs g (by simp [Value.ownBlock]),hg],?_,h1.mono hle⟩)
   rw [List.drop_zero,h1.len,htake]
 intro s2 H2 w2 hle2 hfr h2
 let s3:Gc:=fun b=>if b ∈ bs then none else s2 b
 have hin:∀b ∈ bs,s2 b=w.heap[b]?:=fun b hb=>by
  obtain ⟨o,ho⟩:=hsome b hb
  rw [ho];exact hle2 b o (by rw [hbs b hb,ho])
 have hw2:∀b ∈ bs,w2.heap[b]?=w.heap[b]?:=fun b hb=>by
  obtain ⟨o,ho⟩:=hsome b hb
  rw [ho];exact h2.stay b o (by rw [hin b hb,ho])
 have hle3:Gc.le s s3:=by
  intro b o hb
  have:b ∉ bs:=fun hm=>by rw [hsn b hm] at hb;cases hb
  simp only [s3,if_neg this]
  exact hle2 b o (hle b o hb)
 obtain ⟨bs2,hn2,hs2,hsep⟩:=h2.own
 refine ⟨s3,hle3,h2.os,h2.tape,h2.output,h2.drawn,h2.size,?_,bs++bs2,?_,?_,bs,bs2,Z,(Res.arr E Te v xs).mono hle3 ((Res.arr E Te v xs).loc hp hw2),hfr _ _ _ _ hsep⟩
 ·intro b o hb
  simp only [s3] at hb
  split at hb
  ·cases hb
  ·exact h2.stay b o hb
 ·rw [XA]
  refine ⟨hnd,hn2,fun a ha b hb e=>?_⟩
  subst e
  have:=hs2 a hb
  rw [hin a ha] at this
  obtain ⟨o,ho⟩:=hsome a ha
  rw [ho] at this
  cases this
 ·intro b hb
  simp only [s3]
  split
  ·rfl
  ·rename_i hnb
   rcases Xn.1 hb with h |h
   ·exact absurd h hnb
   ·exact hs2 b h
end
end Go.Pw
