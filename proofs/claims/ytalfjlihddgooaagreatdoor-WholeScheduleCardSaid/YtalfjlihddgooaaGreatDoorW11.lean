/- -/
import Derived.Test.YtalfjlihddgooaaGreatDoorBa
import Derived.Test.YtalfjlihddgooaaGreatDoorLC
import Derived.OrdersIn
import Derived.Test.YtalfjlihddgooaaGreatDoorWl10
import Derived.Test.YtalfjlihddgooaaGreatDoorWlP
import Derived.Test.YtalfjlihddgooaaGreatDoorW3
import Derived.Test.YtalfjlihddgooaaGreatDoorLG
import Derived.RangeFuncWrites
import Derived.RangeFuncNested
import Derived.LoopIn
import Derived.Shelf.Abstract
import Derived.WalkKit
import Derived.OwnWalkIn
import Derived.TacticsInMore
import Derived.LoopNIn
import Derived.Sort.EveryDepth
import Derived.KernelRfl
import Derived.Test.YtalfjlihddgooaaGreatDoorLD
set_option linter.unusedSimpArgs false
set_option linter.unusedVariables false
namespace Go.Pw
section
variable {P:Program} {N:Nat} {Q:QbB}
variable {f:Fr} {w:World}
end
def Qil (o:Oper):Bool:=match o.op with
 | .move _ | .assign _ | .load _ _ | .store _ _ _ | .fieldAddr _ _ _ | .indexAddr _ _ _ | .binOp _ _ _ _ _=>true
 |_=>false
section
variable {F:Fence} {n:Nat} {P:Program} {Q:Exit->Act->World->Prop} {K:Act->World->Prop} {a:Act} {w:World}
theorem Qtl {ρ:Operand->Value} {o:Oper} {w w':World} {nx:Next} (hq:Qil o=true) (h:(execOp ρ o).run P w= .ok nx w'):Qne nx∨nx= .skip:=by
 obtain ⟨dst,op,type,pos,after,guard⟩:=o
 cases op <;> simp only [Qil] at hq <;> first |(cases hq;done) |skip
 case store T x y =>
  simp only [execOp,Xe] at h
  cases hs:(Instr.storeAt T (ρ x) (ρ y)).run P w with
  |ok b w1=>rw [hs] at h;simp only [Xd,Xg,Result.ok.injEq] at h;exact .inr h.1.symm
  |halt x w1=>rw [hs] at h;simp [Result.andThen] at h
 all_goals exact .inl (Ql3 (by rfl) h)
theorem Qpn {o:Oper} (hc:Qil o=true) {ρ:Operand->Value}:o.about P w ρ=none:=by
 obtain ⟨dst,op,type,pos,after,guard⟩:=o
 cases op <;> simp only [Qil] at hc <;> first |(cases hc;done) |skip
 all_goals simp [Oper.about]
end
section
variable {F:Fence} {n:Nat} {P:Program} {N:Nat} {a:Act} {f:Fr} {w:World}
end
end Go.Pw
/- -/
set_option maxRecDepth 100000
namespace Go.Pw
open Go.Proofs Go.RowKit Go.Sort
theorem Qky {s t:Gc} {w:World} {T:TypeId} {v:Value} {xs:List Launch} {bs:List Nat} (h:(Res.arr Gg T v xs).p s w bs):(Res.arr Gg T v xs).p t w bs:=by
 obtain ⟨cells,h1,h2,h3⟩:=h
 exact ⟨cells,by rw [Qjq (enc:=QaC) Qgx h1];exact Qgq (enc:=QaC) Qgx xs,h2,h3⟩
def Grow (W W':World):Prop:=∃s H,Gc.le (σH W) s∧St W s H W'
theorem Grow.same {W W':World} (h:Grow W W') {k:Nat} (hk:k<W.heap.size):W'.heap[k]?=W.heap[k]?:=by
 obtain ⟨s,H,l,hS⟩:=h
 have h1:W.heap[k]?=some W.heap[k]:=by simp [hk]
 rw [hS.stay _ _ (l k _ h1),h1]
section
variable {F:Fence} {n:Nat} {P:Program}
theorem Qpb {α:Type} {g:Operand} {ps:Array Tmp} {assign body:Code} {Q:Exit->Act->World->Prop} {a:Act} {w:World}
  (hro:F.round=none) (h1:1<=n) {gf:Nat} {lb:Array Value} (hg:a.eval g= .func (.func gf) #[] lb) (hFg:F.fn gf) (eg:∀args w,(callFunc gf args).run P w= .ok (.enter gf args) w)
  {encs:α->Array Value} (hps:∀x,(encs x).size=ps.size) (I:List α->World->Prop) (h0:∀o o',I [] ((w.alloc o).alloc o')) (QlQ:∀pre W o,I pre W->I pre (W.putObj (w.heap.size+1) o))
  (hgrow:∀pre W W',I pre W->w.heap.size+1<W.heap.size->Grow W W'->I pre W')
  (zs:List α) (hiter:∀(l:Nat) (J:List α->World->Prop) (W:World),(∀pre W',J pre W'->I pre W')->(∀pre W' W2,J pre W'->Grow W' W2->J pre W2) ->
   (∀pre x W1,J pre W1->pre++[x] <+:zs->YieldAt F (n - 1 - 1) P l (encs x) W1 fun e W'=>(e= .returned (.bool true)∧J (pre++[x]) W')∨(e= .returned (.bool false)∧False))->J [] W ->
   CallsIn F (n - 1) P gf (#[.func (.yield l) #[] #[]]++lb) W fun e W'=>(∃v,e= .returned v)∧J zs W')
  (A:α->Act->World->Prop) (hAput:∀x b W o,w.heap.size+1<W.heap.size->A x b W->A x b (W.putObj (w.heap.size+1) o))
  (hassign:∀(l:Nat) (pre:List α) (x:α) (W:World) (K:Act->World->Prop),I pre W->w.heap.size+1<W.heap.size->(∀b W',A x b W'->Grow W W'->K b W') ->
   assign.wpIn (F.inRound l) (n - 1 - 1) P (Exit.then K (fun _ _ _=>False)) { tmps:=(ps.zip (encs x)).foldl (fun t (p,v)=>t.setIfInBounds p v) a.tmps,defers:=[] } W)
  (hbody:∀(l:Nat) (pre:List α) (x:α) (b:Act) (W:World),I pre W->A x b W->w.heap.size+1<W.heap.size->pre++[x] <+:zs->body.wpIn (F.inRound l) (n - 1 - 1) P (fun e _ W'=>e= .normal∧KeepsFrom w.heap.size W W'∧I (pre++[x]) W') b W)
  (hdone:∀(W:World),I zs W->W.heap[w.heap.size]?=some (.deferred (some []))->Q .normal { a with defers:={ target:= .collected w.heap.size,args:=#[] }::a.defers } W) :
  (Code.rangeFunc g ps assign body).wpIn F n P Q a w:=by
 refine wpIn_rangeFunc ?_
 intro fn hfn
 rw [hro]
 generalize hrec:(fun (st:LoopState) (pe:Option Code)=>({ state:=st,pending:=pe,fn,tmps:=a.tmps,params:=ps,assign,body,defers:=w.heap.size }:Loop))=rec
 generalize hW1:(w.alloc (.deferred (some []))).alloc (.loop (rec .ready none))=W1
 have hL1:W1.heap[w.heap.size+1]?=some (.loop (rec .ready none)):=by
  rw [<-hW1]
  have:=World.alloc_heap_new (w.alloc (.deferred (some []))) (.loop (rec .ready none))
  rwa [World.size_alloc] at this
 have hK1:W1.heap[w.heap.size]?=some (.deferred (some [])):=by
  rw [<-hW1]
  exact (Go.RowKit.Below.heap_alloc _ _ _ (by simp)).trans (World.alloc_heap_new w _)
 have hI1:I [] W1:=by rw [<-hW1];exact h0 _ _
 have hlt0:∀{W:World} {o:Obj},W.heap[w.heap.size+1]?=some o->w.heap.size+1<W.heap.size:=fun h=>(Array.getElem?_eq_some_iff.1 h).1
 refine ⟨w.heap.size+1,[{ target:= .collected w.heap.size,args:=#[] }],W1,{ target:= .fn (.func gf) lb,args:=#[.func (.yield (w.heap.size+1)) #[] #[]] },W1,gf,
  #[.func (.yield (w.heap.size+1)) #[] #[]]++lb,W1,?_,?_,?_,?_,fun _=>h1,?_⟩
 ·rw [<-hW1, <-hrec];exact run_enterLoop_outer _ _ _ _ _
 ·simp only [resolve,hg]
  simp [go_sem]
 ·intro f' hf'
  simp [Target.leads] at hf'
  subst hf'
  exact hFg
 ·simp [invoke,go_sem,eg]
 ·refine (hiter (w.heap.size+1) (fun pre W=>I pre W∧W.heap[w.heap.size+1]?=some (.loop (rec .ready none))∧W.heap[w.heap.size]?=some (.deferred (some []))) W1 (fun _ _ h=>h.1) ?_ ?_ ⟨hI1,hL1,hK1⟩).mono ?_
  ·rintro pre W W2 ⟨hi,hl,hk⟩ hg
   exact ⟨hgrow _ _ _ hi (hlt0 hl) hg,(hg.same (hlt0 hl)).trans hl,(hg.same (by have:=hlt0 hl;omega)).trans hk⟩
  ·rintro pre x W ⟨hi,hl,hk⟩ hlen
   have hlt:=hlt0 hl
   have hy:=run_yield (P:=P) (args:=encs x) hl (by rw [<-hrec];exact hps x)
   rw [<-hrec] at hy
   refine ⟨fn,_,assign,body,hy,roundIn_of_wpIn hfn (hassign _ pre x W _ hi hlt fun b W' hA hg=>?_)⟩
   have hi':=hgrow _ _ _ hi hlt hg
   have hsame:∀k,k<W.heap.size->W'.heap[k]?=W.heap[k]?:=fun k hk=>hg.same hk
   have hl':W'.heap[w.heap.size+1]?=some (.loop (rec .ready none)):=(hsame _ hlt).trans hl
   have hk':W'.heap[w.heap.size]?=some (.deferred (some [])):=(hsame _ (by omega)).trans hk
   have hlt':=hlt0 hl'
   refine ⟨_,run_beginRound hl' (by rw [<-hrec]),?_⟩
   have hl2:(W'.putObj (w.heap.size+1) (.loop { rec .ready none with state:= .busy })).heap[w.heap.size+1]?=some (.loop { rec .ready none with state:= .busy }):=World.putObj_heap_same hlt'
   have hk2:(W'.putObj (w.heap.size+1) (.loop { rec .ready none with state:= .busy })).heap[w.heap.size]?=some (.deferred (some [])):=(World.putObj_heap_other (by omega)).trans hk'
   refine wpIn_mono (hbody _ pre x b _ (QlQ _ _ _ hi') (hAput _ _ _ _ hlt' hA) (hlt0 hl2) hlen) ?_
   rintro e a3 W3 ⟨rfl,hk3,hi3⟩
   have hl3:=hk3.same _ _ (by omega) hl2 rfl
   have hr:=run_endRound (P:=P) none hl3
   refine ⟨_,_,hr, .inl ⟨Z,QlQ _ _ _ hi3,?_,(World.putObj_heap_other (by omega)).trans (hk3.same _ _ (Xi _) hk2 Z)⟩⟩
   rw [World.putObj_heap_same (hlt0 hl3), <-hrec]
   rfl
  ·rintro e W2 ⟨⟨v,rfl⟩,hi,hl,hk⟩
   refine ⟨none,_,by have:=run_endLoop (P:=P) hl (by rw [<-hrec];simp);rw [<-hrec] at this;exact this,hdone _ (QlQ _ _ _ hi) ((World.putObj_heap_other (by omega)).trans hk)⟩
end
attribute [local go_sem] Oper.semAt_some
def QfC (o:Oper):Bool:=Qil o ||(match o.op with
 | .buildSlice _ _ _ | .alloc _=>true
 | .call { callee:= .builtin .append,args:=_,argTypes:=_ }=>true
 |_=>false)
theorem Qk9 {P:Program} {w:World} {o:Oper} (hc:QfC o=true) {ρ:Operand->Value}:o.about P w ρ=none:=by
 simp only [QfC,X4] at hc
 rcases hc with hc |hc
 ·exact Qpn hc
 ·obtain ⟨dst,op,type,pos,after,guard⟩:=o
  split at hc
  ·rename_i h;simp only at h;subst h;simp [Oper.about]
  ·rename_i h;simp only at h;subst h;simp [Oper.about]
  ·rename_i h;simp only at h;subst h;simp [Oper.about,resolve,Target.leads,Xg]
  ·cases hc
section
variable {F:Fence} {n:Nat} {P:Program} {Q:Exit->Act->World->Prop} {K:Act->World->Prop} {a:Act} {w:World}
theorem QsY {ρ:Operand->Value} {o:Oper} {w w':World} {nx:Next} (hc:QfC o=true) (h:(execOp ρ o).run P w= .ok nx w'):Qne nx∨nx= .skip:=by
 simp only [QfC,X4] at hc
 rcases hc with hc |hc
 ·exact Qtl hc h
 ·obtain ⟨dst,op,type,pos,after,guard⟩:=o
  split at hc
  ·rename_i e;simp only at e;subst e
   exact .inl (QlW h)
  ·rename_i e;simp only at e;subst e
   exact .inl (QlW h)
  ·rename_i e;simp only at e;subst e
   simp only [execOp,resolve,invoke,builtin,Xe,Xg,Xd] at h
   refine .inl ?_
   cases hs:(Builtin.append_ _ type (Array.map ρ _)).run P w with
   |ok v w1=>rw [hs] at h;simp only [Xd,Result.ok.injEq] at h;rw [<-h.1];trivial
   |halt x w1=>rw [hs] at h;simp [Result.andThen] at h
  ·cases hc
theorem Qu8 {o:Oper} (hc:QfC o=true) (h:o.wp P a w K Q):o.wpIn F n P a w K Q:=by
 refine ⟨fun f hf=>absurd hf (by rw [Qk9 hc];simp),?_⟩
 rw [Oper.semAt_eq _ _ _ (by
  intro c hcd
  simp [QfC,Qil,hcd] at hc)]
 unfold Oper.wp at h
 cases hr:(execOp a.eval o).run P w with
 | ok nx w' =>
  rw [hr] at h
  rcases QsY hc hr with hv |rfl
  ·cases nx with
   |value v=>exact h
   |_=>exact hv.elim
  ·exact h
 |halt x w' =>
  rw [hr] at h
  cases x with
  |panic v=>exact h
  |_=>exact h.elim
theorem Qus {ops:Array Oper} (hL:¬LetsOut Q):∀(l:List Oper),l.all QfC=true->∀(a:Act) (w:World),wpList P ops Q l a w->wpListIn F n P ops Q l a w:=by
 intro l
 induction l with
 |nil=>exact fun _ _ _ h=>h
 | cons o l ih =>
  intro hc a w h
  simp only [List.all_cons,Xl] at hc
  unfold wpList at h
  unfold wpListIn
  split
  ·rename_i hw
   rw [if_pos hw] at h
   rcases h with h |⟨_,h⟩
   ·exact Oper.wpIn_mono (fun a w=>ih hc.2 a w) (Qu8 hc.1 h)
   ·exact absurd h hL
  ·rename_i hw
   rw [if_neg hw] at h
   exact ⟨fun f hf=>absurd hf (by rw [Qk9 hc.1];simp),ih hc.2 _ _ h⟩
end
theorem Qqs {F:Fence} {n N:Nat} {P:Program} {a:Act} {f:Fr} {w:World} {id:Nat} {ops:List Oper} {Q:QbB} {Q':Exit->Act->World->Prop} (hc:ops.all QfC=true) (ha:Fits N a f)
  (hQ:∀e a' w',QgO N Q e a' w'->Q' e a' w') (hL:¬LetsOut (QgO N Q)) (h:WL P N ops.toArray Q ops f w):(Code.region id ops.toArray false).wpIn F n P Q' a w :=
 wpIn_mono (wpIn_region_lit (Qus hL ops hc a w (h a ha))) hQ
def QmT (w:World):Gc:=fun b=>if b<w.heap.size then w.heap[b]? else none
structure GS (w:World) (v:Value) (xs:List Launch) (W:World):Prop where
 st:St w (QmT w) [Res.arr Gg 43 v xs,Res.box w.heap.size 27 [v]] W
 far:∀g,v.ownBlock=some g->w.heap.size+3<=g
 size:w.heap.size+3<=W.heap.size
theorem GS.box {w W:World} {v:Value} {xs:List Launch} (h:GS w v xs W):W.heap[w.heap.size]?=some (.cells #[v] 27 (0,0)):=(h.st.perm (.swap _ _ _)).box_heap
theorem GS.old {w W:World} {v:Value} {xs:List Launch} (h:GS w v xs W) {b:Nat} (hb:b<w.heap.size):W.heap[b]?=w.heap[b]?:=by
 have:=h.st.stay b (w.heap[b]) (by unfold QmT;rw [if_pos hb];simp [hb])
 rw [this];simp [hb]
theorem GS.keep {w W W':World} {v:Value} {xs:List Launch} (h:GS w v xs W) (hos:W'.os=W.os) (htape:W'.tape=W.tape) (hout:W'.output=W.output) (hdr:W.drawn<=W'.drawn) (hsz:W.heap.size<=W'.heap.size)
  (hk:∀b,b<W.heap.size->(b<=w.heap.size∨w.heap.size+3<=b)->W'.heap[b]?=W.heap[b]?):GS w v xs W':=by
 have h0:=h.size
 obtain ⟨bs,hn,hs,b1,b2,rfl,hrow,hbx⟩:=h.st.own
 obtain ⟨b3,b4,rfl,⟨rfl,hb⟩,rfl⟩:=hbx
 obtain ⟨cells,q1,q2,rfl⟩:=hrow
 refine ⟨⟨hos.trans h.st.os,htape.trans h.st.tape,hout.trans h.st.output,X0 h.st.drawn hdr,X0 h.st.size hsz,fun b o hbo=>?_,_,hn,hs,_,_,Z,(Res.arr Gg 43 v xs).loc ⟨cells,q1,q2,Z⟩ fun b hb=>?_,_,_,Z,⟨Z,?_⟩,Z⟩,h.far,X0 h0 hsz⟩
 ·have hlt:b<w.heap.size:=by
   unfold QmT at hbo
   split at hbo
   ·assumption
   ·cases hbo
  rw [hk b (by omega) (.inl (by omega))]
  exact h.st.stay b o hbo
 ·have hg:v.ownBlock=some b:=by
   revert hb;cases v.ownBlock <;> simp
   exact fun h=>h.symm
  exact hk b ((Res.arr Gg 43 v xs).lt ⟨cells,q1,q2,Z⟩ b hb) (.inr (h.far b hg))
 ·rw [hk _ (by omega) (.inl (Xi _))]
  exact hb
theorem GS.alloc {w W:World} {v:Value} {xs:List Launch} (h:GS w v xs W) (o:Obj):GS w v xs (W.alloc o):=h.keep rfl rfl rfl (Xi _) (by simp) fun b hb _=>Qac W o hb
theorem GS.grow {w W W':World} {v:Value} {xs:List Launch} (h:GS w v xs W) (hg:Grow W W'):GS w v xs W':=by
 have hk:∀b,b<W.heap.size->W'.heap[b]?=W.heap[b]?:=fun b hb=>hg.same hb
 obtain ⟨_,_,_,hS⟩:=hg
 exact h.keep hS.os hS.tape hS.output hS.drawn hS.size fun b hb _=>hk b hb
theorem GS.putObj {w W:World} {v:Value} {xs:List Launch} (h:GS w v xs W) {l:Nat} (o:Obj) (h1:w.heap.size<l) (h2:l<w.heap.size+3):GS w v xs (W.putObj l o):=h.keep rfl rfl rfl (Xi _) (by simp [World.putObj]) fun b hb hc=>World.putObj_heap_other (by omega)
def QmS (w:World) (v:Value) (W:World):Gc:=fun b=>if b=w.heap.size∨v.ownBlock=some b then none else W.heap[b]?
theorem GS.inner {w W:World} {v:Value} {xs:List Launch} (h:GS w v xs W):St W (QmS w v W) [Res.arr Gg 43 v xs,Res.box w.heap.size 27 [v]] W:=by
 obtain ⟨bs,hn,hs,b1,b2,rfl,hrow,hbx⟩:=h.st.own
 obtain ⟨b3,b4,rfl,⟨rfl,hb⟩,rfl⟩:=hbx
 obtain ⟨cells,q1,q2,rfl⟩:=hrow
 refine ⟨Z,Z,Z,Xi _,Xi _,fun b o hb=>?_,_,hn,fun b hb=>?_,_,_,Z,Qky ⟨cells,q1,q2,Z⟩,_,_,Z,⟨Z,hb⟩,Z⟩
 ·unfold QmS at hb
  split at hb
  ·cases hb
  ·exact hb
 ·unfold QmS
  rw [if_pos]
  simp only [Xn,X8,List.append_nil] at hb
  rcases hb with hb |hb
  ·right
   revert hb;cases v.ownBlock <;> simp
   exact fun h=>h.symm
  ·exact .inl hb
theorem GS.back {w W W2:World} {v u:Value} {xs ys:List Launch} {t:Gc} (h:GS w v xs W) (hle:Gc.le (QmS w v W) t) (hS:St W t [Res.arr Gg 43 u ys,Res.box w.heap.size 27 [u]] W2) :
  GS w u ys W2∧KeepsFrom (w.heap.size+1) W W2:=by
 have h0:=h.size
 have hbox:=h.box
 have hS':=hS
 obtain ⟨bs,hn,hs,b1,b2,rfl,hrow,hbx⟩:=hS'.own
 obtain ⟨b3,b4,rfl,⟨rfl,hb⟩,rfl⟩:=hbx
 obtain ⟨cells,q1,q2,rfl⟩:=hrow
 have hcells:∀g,v.ownBlock=some g->∃o:Obj,W.heap[g]?=some o∧o.isCells=true:=by
  intro g hg
  obtain ⟨bs',_,_,c1,c2,_,hr,_⟩:=h.st.own
  obtain ⟨cells',_,r2,_⟩:=hr
  rcases r2.2 with ⟨rfl,_⟩ |⟨g',cap,cur,rfl,_,hgb,_⟩
  ·simp [Value.ownBlock] at hg
  ·have:g'=g:=by simpa [Value.ownBlock] using hg
   subst this
   exact ⟨_,hgb,Z⟩
 have hkeep:∀b o,b≠w.heap.size->v.ownBlock≠some b->W.heap[b]?=some o->W2.heap[b]?=some o:=by
  intro b o h1 h2 hb
  refine hS.stay b o (hle b o ?_)
  unfold QmS
  rw [if_neg (by simp [h1,h2])]
  exact hb
 refine ⟨⟨⟨hS.os.trans h.st.os,hS.tape.trans h.st.tape,hS.output.trans h.st.output,X0 h.st.drawn hS.drawn,X0 h.st.size hS.size,fun b o hbo=>?_,_,hn,fun b hm=>?_,_,_,Z,Qky ⟨cells,q1,q2,Z⟩,_,_,Z,⟨Z,hb⟩,Z⟩,fun g hg=>?_,X0 h0 hS.size⟩,⟨hS.size,fun k o hk ho hc=>?_⟩⟩
 ·have hlt:b<w.heap.size:=by
   unfold QmT at hbo
   split at hbo
   ·assumption
   ·cases hbo
  exact hkeep b o (by omega) (fun e=>by have:=h.far b e;omega) (h.st.stay b o hbo)
 ·cases hz:QmT w b with
  |none=>rfl
  | some o =>
   have hlt:b<w.heap.size:=by
    unfold QmT at hz
    split at hz
    ·assumption
    ·cases hz
   have h1:=hs b hm
   have h2:=hle b o (by unfold QmS;rw [if_neg];exact h.st.stay b o hz;rintro (e |e);omega;have:=h.far b e;omega)
   rw [h1] at h2;cases h2
 ·have hgm:g ∈ u.ownBlock.toList:=by rw [hg];simp
  have hne:g≠w.heap.size:=by
   rintro rfl
   have:=(XA.1 hn).2.2 _ hgm
   simp at this
  rcases Nat.lt_or_ge g W.heap.size with hlt |hge
  ·by_cases hv:v.ownBlock=some g
   ·exact h.far g hv
   ·exfalso
    have h1:=hs g (List.mem_append_left _ hgm)
    have h2:=hle g (W.heap[g]) (by unfold QmS;rw [if_neg (by simp [hne,hv])];simp [hlt])
    rw [h1] at h2;cases h2
  ·omega
 ·refine hkeep k o (by omega) (fun e=>?_) ho
  obtain ⟨o',h1,h2⟩:=hcells k e
  rw [ho] at h1;cases h1
  rw [hc] at h2;cases h2
theorem St.alloc_any {w0 w:World} {s:Gc} {H:List Res} (h:St w0 s H w) (o:Obj):St w0 s H (w.alloc o):=by
 obtain ⟨bs,hn,hs,hb⟩:=h.own
 refine ⟨h.os,h.tape,h.output,h.drawn,X0 h.size (by simp),fun b o' hbo=>?_,bs,hn,hs,hb.loc fun b hm=>Qac w _ (hb.lt b hm)⟩
 have:=h.stay b o' hbo
 rw [Qac w _ (Array.getElem?_eq_some_iff.1 this).1]
 exact this
theorem QuJ (w:World):St w (QmT w) [] w:=by
 refine ⟨Z,Z,Z,Xi _,Xi _,fun b o h=>?_,[],List.nodup_nil,by simp,Z⟩
 unfold QmT at h
 split at h
 ·exact h
 ·cases h
def Qxb:Value->Int | .int _ q=>q |_=>0
theorem Qx4:JM Tryz.prog 27=some (43,2,16):=by kernel_rfl
theorem Qy2:JW Tryz.prog 43=some (.agg #[.int .i64 0, .int .i64 0]):=by kernel_rfl
theorem Qx6:Qam Tryz.prog 27=some (false,1):=by kernel_rfl
theorem QyF:Qam Tryz.prog 43=some (true,2):=by kernel_rfl
set_option maxRecDepth 100000 in
set_option maxHeartbeats 2000000 in
theorem Qs3 (F:Fence) (n:Nat) (h8:F.fn 129) (hro:F.round=none) (hn:1<=n) (l Bs bo:Nat) (zs:List Launch) (hreach:zs.length * 16<=140737488351232) {s:Gc} (hAt:At s Bs bo (Qk Gg) zs) (J:List Launch->World->Prop)
  (hJ:∀pre W,J pre W->Gc.le s (σH W)) (hgrow:∀pre W W',J pre W->Grow W W'->J pre W')
  (hY:∀pre x W,J pre W->pre++[x] <+:zs->YieldAt F (n - 1) Tryz.prog l #[.agg (QaC x).toArray] W fun e W' =>
   (e= .returned (.bool true)∧J (pre++[x]) W')∨(e= .returned (.bool false)∧False))
  (W:World) (h0:J [] W) :
  CallsIn F n Tryz.prog 129 #[.func (.yield l) #[] #[], .pointer (some ⟨Bs,bo,none⟩)] W fun e W'=>(∃v,e= .returned v)∧J zs W':=by
 have hlen:∃av cap,W.cell? ⟨Bs,bo,none⟩=some (.slice av zs.length cap)∧Ga Gg s (.slice av zs.length cap) zs:=by
  obtain ⟨c,T,fz,hb,v,hv,hrep⟩:=hAt
  have h1:W.cell? ⟨Bs,bo,none⟩=c[bo]?:=Qa2 (St.start W) (hJ _ _ h0 _ _ hb)
  have h2:c[bo]?=some v:=by
   have h0:c.toList[bo]?=some v:=by
    have:=congrArg (fun l=>l[0]?) hv
    simpa [Qk] using this
   simpa using h0
  obtain ⟨av,cap,rfl⟩:∃av cap,v= .slice av zs.length cap:=by
   rcases hrep with ⟨rfl,rfl⟩ |⟨a,cap,rfl,rfl⟩ |⟨b',off,cap,c',T',fz',cells,rfl,h1,h2,h3,h4,h5⟩
   ·exact ⟨_,_,Z⟩
   ·exact ⟨_,_,Z⟩
   ·exact ⟨_,_,Z⟩
  exact ⟨av,cap,h1.trans h2,hrep⟩
 obtain ⟨av,cap,hBs,hrep⟩:=hlen
 refine callsIn_of_wp Tryz.func129 Z h8 ?_ hro
 simp only [Tryz.ntmps129,List.size_toArray,Xw,XC,Nat.reduceAdd,Nat.reduceSub,Array.replicate_succ,Array.replicate_zero,List.push_toArray,List.append_toArray,List.nil_append,List.cons_append]
 gi_wp2
 gi_loopw [7] (fun i wr=>∃k:Nat,k<=zs.length∧i= .int .i64 k∧J (zs.take k) wr)
  (fun i _=>zs.length - (Qxb i).toNat)
 case atStart=>exact ⟨0,X7 _,rfl,h0⟩
 case round =>
  obtain ⟨k,hk,rfl,hJs⟩:=hrel
  by_cases hlt:k<zs.length
  ·have hle:=hJ _ _ hJs
   have hi:idx zs (k:Int)=some zs[k]:=by simp [idx,hlt]
   obtain ⟨b,off,c,hav,hat⟩:=hrep.at hi
   obtain ⟨rfl,rfl⟩:av=some ⟨b,off,none⟩∧cap=c:=by simpa using hav
   have hx:=QfN (P:=Tryz.prog) (k:= .i64) (w:=wr) (b:=b) (off:=off) (len:=zs.length) (cap:=cap) (n:=(k:Int)) Qx4 (by omega) (by omega)
   obtain ⟨hc0,hc1⟩:wr.cell? ⟨b,off+k * 2,none⟩=some (.int .i64 zs[k].At)∧wr.cell? ⟨b,off+k * 2+1,none⟩=some (.int .i64 zs[k].Job):=by
    obtain ⟨c',T,fz,h1,h2⟩:=hat
    have h3:=(Qgx _ _ _).1 h2
    have e0:=congrArg (fun l=>l[0]?) h3
    have e1:=congrArg (fun l=>l[1]?) h3
    simp [QaC,Gg,Enc.iso,Enc.pair,Qc,Y8] at e0 e1
    exact ⟨(Qa2 (St.start wr) (hle _ _ h1)).trans (by simpa using e0),(Qa2 (St.start wr) (hle _ _ h1)).trans (by simpa using e1)⟩
   obtain ⟨fn,tmps,assign,body,hy,hR⟩:=hY _ zs[k] (wr.alloc (.cells (QaC zs[k]).toArray 43)) (hgrow _ _ _ hJs ⟨σH wr,[.box wr.heap.size 43 (QaC zs[k])],Zv _,(St.start wr).alloc 43 (QaC zs[k])⟩) (by rw [List.take_append_getElem hlt];exact List.take_prefix _ _)
   rw [List.take_append_getElem hlt] at hR
   change Sem.run Tryz.prog (Instr.yield l #[.agg #[.int .i64 zs[k].At, .int .i64 zs[k].Job]]) (wr.alloc (.cells #[.int .i64 zs[k].At, .int .i64 zs[k].Job] 43))=_ at hy
   generalize zs[k].At=y0 at hc0 hy
   generalize zs[k].Job=y1 at hc1 hy
   clear hBs hrep hat hi
   have hw:wrap64 ((k:Int)+1)=k+1:=by unfold wrap64;omega
   gi_wp2
   refine hR.mono ?_
   rintro e W3 (⟨rfl,hJ3⟩ |⟨_,h⟩)
   ·gi_wp2
    go_roundw
    case rel=>exact ⟨k+1,by omega,by simp [hw],hJ3⟩
    case measure=>simp [Qxb,hw];omega
   ·exact h.elim
  ·obtain rfl:k=zs.length:=by omega
   rw [List.take_length] at hJs
   gi_wp2
   go_end0
   exact ⟨⟨_,Z⟩,hJs⟩
theorem QsS {W:World} {c:Nat} {x:Launch} (h:W.heap[c]?=some (.cells (QaC x).toArray 43 (0,0))):(Instr.loadAt 43 (.pointer (some ⟨c,0,none⟩))).run Tryz.prog W= .ok (.agg (QaC x).toArray) W:=by
 have hc:∀j v,(QaC x)[j]?=some v->W.cell? ((⟨c,0,none⟩:Addr).add j)=some v:=by
  intro j v hv
  rw [Addr.add_lit]
  simpa [World.cell?,h] using hv
 simp only [Instr.loadAt,Instr.sureAddr,Xe,Xg,Xd,Yz (cs:=QaC x) QyF hc]
set_option maxRecDepth 100000 in
set_option maxHeartbeats 4000000 in
theorem Qpp (F:Fence) (n:Nat) (h0:F.fn 200) (h5:F.fn 129) (hro:F.round=none) (hn:3<=n) {B bo:Nat} {zs:List Launch} (hreach:zs.length * 16<=140737488351232) {w:World} {s:Gc} (hs:Gc.le s (σH w))
  (hAt:At s B bo (Qk Gg) zs) :
  CallsIn F n Tryz.prog 200 #[.slice none 0 0, .func (.func 129) #[] #[.pointer (some ⟨B,bo,none⟩)]] w fun e W'=>∃v,e= .returned v∧GS w v zs W':=by
 have h1:1<=n:=by omega
 refine callsIn_of_wp_marks Tryz.func200 Z h0 ?_ hro
 simp only [Tryz.ntmps200,List.size_toArray,Xw,XC,Nat.reduceAdd,Nat.reduceSub,Array.replicate_succ,Array.replicate_zero,List.push_toArray,List.append_toArray,List.nil_append,List.cons_append]
 gi_wp2
 refine Qpb hro h1 (gf:=129) (lb:=#[.pointer (some ⟨B,bo,none⟩)]) Z h5 (enters_of Tryz.func129 (by kernel_rfl) Z)
  (encs:=fun x:Launch=>#[.agg (QaC x).toArray]) (fun _=>rfl)
  (fun pre W=>∃v,GS w v pre W)
  ?start ?put ?kgrow zs ?iter
  (fun x b W=>∃c,w.heap.size+3<=c∧W.heap[c]?=some (.cells (QaC x).toArray 43 (0,0))∧b={ tmps:=#[.slice none 0 0, .func (.func 129) #[] #[.pointer (some ⟨B,bo,none⟩)], .pointer (some ⟨w.heap.size,0,none⟩),undef, .slice none 0 0, .pointer (some ⟨c,0,none⟩), .func (.func 129) #[] #[.pointer (some ⟨B,bo,none⟩)], .agg (QaC x).toArray,undef,undef,undef,undef,undef],defers:=[] }) ?kaput ?assign ?body ?done
 case start =>
  intro o o'
  exact ⟨.slice none 0 0,(((((QuJ w).alloc 27 [.slice none 0 0]).alloc_any o).alloc_any o').nilArr Gg 43),by simp [Value.ownBlock],by simp⟩
 case put =>
  rintro pre W o ⟨v,hW⟩
  exact ⟨v,hW.putObj o (by simp only [World.size_alloc];omega) (by simp only [World.size_alloc];omega)⟩
 case kgrow =>
  rintro pre W W' ⟨v,hW⟩ _ hg
  exact ⟨v,hW.grow hg⟩
 case iter =>
  intro l J W hJI hJg hY h0
  refine Qs3 F (n - 1) h5 hro (by omega) l B bo zs hreach hAt J (fun pre W' hJ b o hb=>?_) hJg hY W h0
  obtain ⟨v,hW⟩:=hJI pre W' hJ
  have h1:=hs b o hb
  exact (hW.old (Array.getElem?_eq_some_iff.1 h1).1).trans h1
 case kaput =>
  rintro x b W o hlt ⟨c,hc,hh,rfl⟩
  exact ⟨c,hc,(World.putObj_heap_other (by simp only [World.size_alloc];omega)).trans hh,Z⟩
 case assign =>
  rintro l pre ⟨x0,x1⟩ W K ⟨v,hW⟩ hlt hK
  have hsz:=hW.size
  have hK':=hK _ (W.alloc (.cells (QaC ⟨x0,x1⟩).toArray 43)) ⟨W.heap.size,hsz,World.alloc_heap_new _ _,rfl⟩ ⟨σH W,[.box W.heap.size 43 (QaC ⟨x0,x1⟩)],Zv _,(St.start W).alloc 43 _⟩
  clear hK hW hs hAt
  simp only [QaC] at hK' ⊢
  gi_wp2
  exact hK'
 case body =>
  rintro l pre x b W ⟨v,hW⟩ ⟨c,hc,hh,rfl⟩ hlt hpre
  have hlen:pre.length+1<=zs.length:=by
   have:=hpre.length_le
   simpa using this
  have happ:app 16 pre [x]=some (pre++[x]):=by
   unfold app
   rw [if_pos]
   simp only [Xw,XC];omega
  have hS:=hW.inner
  refine wpIn_block ?_
  refine Qqs (N:=13) (f:=fun n=>Array.getD _ n undef) (Q:=fun e f' W'=>e= .normal∧∃u t,Gc.le (QmS w v W) t∧St W t [Res.arr Gg 43 u (pre++[x]),Res.box w.heap.size 27 [u]] W') (by rfl) ⟨Z,Z,fun _=>rfl⟩ ?_ ?_ ?_
  ·rintro e a' W' ⟨f',hf',rfl,u,t,hle,hS'⟩
   obtain ⟨r1,r2⟩:=hW.back hle hS'
   exact ⟨Z,by simpa using r2,u,r1⟩
  ·rintro ⟨_,_,_,_,h,_⟩
   cases h
  ·refine Za Z Z (Zn hS.f1 Qx6 Z Z Z ?_)
   refine Za Z Z (QgK Z Z (QsS hh) ?_)
   refine Za Z Z (DU (Te:=43) (cs:=QaC x) hS Z (Qb (c:=QaC x) (Qd Z Z) Qg) (fun _=>by kernel_rfl) ?_)
   intro b w1 hS1
   refine Za Z Z (Qn (E:=Gg) (ys:=[x]) hS1.f1 Qx4 Qy2 Z (by decide) Z Z Z Z ⟨[_,_],_,Z,⟨[_],_,Z,Z,Z⟩,Z⟩ Z happ ?_)
   intro u w2 hS2
   refine Za Z Z (Qu (ds:=[u]) (es:=[u]) hS2.f1 Qx6 Z Z Z (Qs hS2.arr_one) (Zj hS2.arr_one QM) (Xc Z) Z ?_)
   intro w3 hS3
   refine Zb ?_
   exact ⟨Z,u,_,Zv _,hS3.f1⟩
 case done =>
  rintro W ⟨v,hW⟩ hK
  have hb:=hW.box
  have hcell:W.cell? ⟨w.heap.size,0,none⟩=some v:=by simp [World.cell?,hb]
  have hfz:W.frozen? ⟨w.heap.size,0,none⟩=false:=by simp [World.frozen?,hb]
  gi_wp2
  refine ⟨by simp, .inl ⟨_,_,Z,run_takeDeferred hK,?_⟩⟩
  exact ⟨_,results_tmp Z _ _ _,v,Z,hW.putObj _ (by simp) (by simp)⟩
set_option maxHeartbeats 1000000 in
theorem Qox (F:Fence) (n:Nat) (h:F.fn 128) (h0:F.fn 200) (h5:F.fn 129) (hro:F.round=none) (hn:4<=n) {B bo:Nat} {zs:List Launch} (hreach:zs.length * 16<=140737488351232) {w:World} {s:Gc} (hs:Gc.le s (σH w))
  (hAt:At s B bo (Qk Gg) zs) :
  CallsIn F n Tryz.prog 128 #[.func (.func 129) #[] #[.pointer (some ⟨B,bo,none⟩)]] w fun e W'=>∃v,e= .returned v∧GS w v zs W':=by
 have h1:1<=n:=by omega
 refine callsIn_of_wp Tryz.func128 Z h ?_ hro
 simp only [Tryz.ntmps128,List.size_toArray,Xw,XC,Nat.reduceAdd,Nat.reduceSub,Array.replicate_succ,Array.replicate_zero,List.push_toArray,List.append_toArray,List.nil_append,List.cons_append]
 gi_wp2_with (gi_at_call 200;refine (Qpp F (n - 1) h0 h5 hro (by omega) hreach hs hAt).mono ?_;rintro e w' ⟨v,rfl,hW⟩)
 go_ret
 exact ⟨v,Z,hW⟩
theorem Qod {w0 w:World} {s:Gc} {H:List Res} {v:Value} {xs:List Launch} (hS:St w0 s H w) (h:Ga Gg s v xs) :
  Calls Tryz.prog 93 #[v] w fun e w'=>∃u,e= .returned u∧∃s' b,Gc.le s s'∧St w0 s' H w'∧u= .func (.func 129) #[] #[.pointer (some ⟨b,0,none⟩)]∧At s' b 0 (Qk Gg) xs:=by
 have h1:v.cells=[v].toArray:=Qs h.one
 refine Qh Tryz.func93 Z Z ?_
 refine Zc ?_
 refine Zd ?_
 refine Za Z Z (DR (cs:=[v]) hS Z Z h1 ?_)
 intro b w1 hS1
 refine Za Z Z (Zo (v:= .nilFunc) Z Z ?_)
 refine Zb (Ze ?_)
 refine Zc ?_
 refine Zd ?_
 refine Za Z Z (DZ (vs:=[.pointer (some ⟨b,0,none⟩)]) Z Z ?_)
 refine Za Z Z (Zo (v:= .func (.func 129) #[] #[.pointer (some ⟨b,0,none⟩)]) Z Z ?_)
 refine Zb (Ze ?_)
 obtain ⟨t,hle,hS2,hat⟩:=hS1.freezeVar (E:=Qk Gg) (y:=xs) ⟨v,rfl,h⟩
 exact Qhv ⟨_,Qd0 Z,t,b,hle,hS2,Z,hat⟩
theorem QmJ {w0 w:World} {s:Gc} {H:List Res} {b bo:Nat} {xs:List Launch} (hr:xs.length * 16<=140737488351232) (hS:St w0 s H w) (h:At s b bo (Qk Gg) xs) :
  Calls Tryz.prog 128 #[.func (.func 129) #[] #[.pointer (some ⟨b,bo,none⟩)]] w fun e w'=>∃u,e= .returned u∧St w0 s (Res.arr Gg 43 u xs::H) w':=by
 refine (calls_of_every_depth (L:=[128,200,129]) (n:=4) fun D=>Qox (Fence.list [128,200,129] (some D)) 4 (by simp [Fence.list]) (by simp [Fence.list]) (by simp [Fence.list]) Z (Xi _) hr hS.stay h).mono ?_
 rintro e W ⟨u,rfl,hW⟩
 refine ⟨_,Z,?_⟩
 refine (hS.nilArr Gg 43).turn hW.st.os hW.st.tape hW.st.output hW.st.drawn (by have:=hW.size;omega) ?_
 intro c1 hc1
 obtain ⟨bs,hn,hs,b1,b2,rfl,hrow,hbx⟩:=hW.st.own
 have hc1:c1=[]:=by
  obtain ⟨_,_,_,e1⟩:=hc1
  rw [e1];rfl
 subst hc1
 have hrow2:=hrow
 obtain ⟨cells,q1,q2,rfl⟩:=hrow
 refine ⟨_,Qky hrow2,(XA.1 hn).1,fun g hg=> .inr ?_,fun b hb _=>hW.old hb⟩
 have hg':u.ownBlock=some g:=by
  revert hg;cases u.ownBlock <;> simp
  exact fun h=>h.symm
 have:=hW.far g hg'
 omega
theorem QiW {w0 w:World} {s:Gc} {H:List Res} {b:Nat} {xs:List Launch} (hr:xs.length * 16<=140737488351232) (hS:St w0 s H w) (h:At s b 0 (Qk Gg) xs) :
  Calls Tryz.prog 92 #[.func (.func 129) #[] #[.pointer (some ⟨b,0,none⟩)], .func (.func 94) #[] #[]] w fun e w'=>∃u,e= .returned u∧St w0 s (Res.arr Gg 43 u (xs.mergeSort fun x y=>!decide (Qf6 y x<0))::H) w':=by
 refine Qh Tryz.func92 Z Z ?_
 refine Zc (Zd (Za Z Z (Zo (v:= .slice none 0 0) Z Z (Zb (Ze ?_)))))
 refine Zc (Zd (Za Z Z (Zm (v:= .func (.func 129) #[] #[.pointer (some ⟨b,0,none⟩)]) Z Z (Za Z Z (Tc Z Z Z Z (QmJ hr hS h).r ?_)))))
 rintro v w1 hS1
 refine Za Z Z (Zo (v:=v) Z Z (Zb (Ze ?_)))
 refine Zc (Zd (Za Z Z (Zm (v:=v) Z Z (Za Z Z (Zm (v:= .func (.func 94) #[] #[]) Z Z (Za Z Z (Tc (Q:=fun u w'=>u= .tuple #[]∧St w0 s (Res.arr Gg 43 v (xs.mergeSort fun x y=>!decide (Qf6 y x<0))::H) w') Z Z Z Z ((Ql1 (enters_of Tryz.func94 (by kernel_rfl) Z) (fun W x y=>Qf3 (show Qb8 x y=some (Qf6 x y) from QpH x y) (St.start W)) (by omega) hS1).mono fun e w' h=>⟨_,h.1,Z,h.2⟩) ?_)))))))
 rintro _ w2 ⟨rfl,hS2⟩
 refine Zb (Ze ?_)
 refine Zc (Zd (Za Z Z (Zm (v:=v) Z Z (Za Z Z (Zo (v:=v) Z Z (Zb (Ze ?_)))))))
 exact Qhv ⟨_,Qd0 Z,hS2⟩
theorem Qoi {w0 w:World} {s:Gc} {H:List Res} {xs:List Launch} {v:Value} {r:List Launch} (hm:Qdx xs=some r) (hS:St w0 s H w) (hv:Ga Gg s v xs) :
  Calls Tryz.prog 42 #[v] w fun e w'=>∃u,e= .returned u∧∃(s':Gc),Gc.le s s'∧St w0 s' (Res.arr Gg 43 u r::H) w':=by
 unfold Qdx at hm
 split at hm
 ·rename_i hr
  cases hm
  refine Qh Tryz.func42 Z Z ?_
  refine Zc (Zd (Za Z Z (Zo (v:= .slice none 0 0) Z Z (Zb (Ze ?_)))))
  refine Zc (Zd (Za Z Z (Zm (v:=v) Z Z (Za Z Z (Tc Z Z Z Z (Qod hS hv).r ?_)))))
  rintro _ w1 ⟨t,b,hle,hS1,rfl,hat⟩
  refine Za Z Z (Tc Z Z Z Z (QiW hr hS1 hat).r ?_)
  rintro u w2 hS2
  refine Za Z Z (Zo (v:=u) Z Z (Zb (Ze ?_)))
  exact Qhv ⟨_,Qd0 Z,t,hle,hS2⟩
 ·cases hm
end Go.Pw
/- -/
set_option maxRecDepth 100000
set_option maxHeartbeats 4000000
namespace Go.Pw
open Go.Proofs
variable {w0 w:World} {s:Gc} {H:List Res}
attribute [local irreducible] Exec WL W andThen QaB DL Jm
theorem QyC:Qiv Tryz.prog 43 2=true:=by kernel_rfl
theorem QdF {d:(List Launch)} {a:Launch} {j:Value} {r:Int} (hm:Yf d a=some r) (hS:St w0 s (H) w) (l:Ga Gg s j d) :
  Cv Tryz.prog 95 #[j,Value.agg #[O (a.At),O (a.Job)]] w0 w s H r fun ap=>O ap:=by
 unfold Yf at hm
 refine Qh Tryz.func95 Z Z (G ?_)
 refine JV Z Z fun m _ _=>?_
 refine Q6 hm fun _ y ai ag ad=>g ?_
 refine Zc (Zc (Zd (g ?_)))
 refine Jn (fun k' s' f' w'=>(fun (_:Unit)=>∃p,Gc.le s p∧St w0 p (Res.box m 43 [O (a.At),O (a.Job)]::H) w'∧Fx f' [(8,O (k':Int)),(0,j),(3,Vq m),(7,O ((d.length:Int)))]) s') y ?_ ?_ ?_ ?_
 ·exact fq
 ·intro _ _ x _ _ af z b aj
  obtain ⟨q,i,c,_,rfl⟩:=z
  refine G ?_
  refine QT (n0:=6) (qs 0 6 .done) JQ (G ?_)
  refine Q4 (ds:=[O (a.At),O (a.Job)]) (c.drew) A43.h Z Z Z ⟨Z,Qa b fun t am b=>G ?_⟩
  refine Qy S27.h Z Z Z (l.mono i) am fun _ _ u _=>?_
  refine ⟨Z,G ?_⟩
  refine Zw (E:=Gg) c.drew A43.h Z Z Z u ?_
  intro _ an
  obtain rfl:=QH.1 an
  refine ⟨Z,G ?_⟩
  refine Qlm (xs:=[a.At,a.Job]) (ys:=[t.At,t.Job]) QyC Z Z Z Z Z Z Z ⟨Z,G ?_⟩
  refine Qe b (fun ae b=>?_) fun ae b=>?_
  ·cases b
   have ah:=ai _ (aj (by intro _ h;cases h))
   cases ah
   refine G ?_
   exact ⟨_,Qd0 Z,⟨q,i,(c.drew).drop,Z⟩⟩
  have aq:=Zu b
  subst x
  refine G ?_
  refine ⟨_,Z,?_⟩;exact ⟨q,i,c.drew,(Fx.mk (FxL.cons (Jo af (Ga.le l)) fxl))⟩
 ·intro _ _ _ aa ak
  obtain ⟨ao,al,ac,_,rfl⟩:=aa
  refine G ?_
  refine ⟨d.length,_, .inl ak,?_⟩;exact ⟨ao,al,ac,(Fx.mk)⟩
 rintro _ _ ⟨_,_,n,ab⟩
 have hm:=n.elim (ag _) (ad _)
 clear n
 obtain ⟨_,_,_,_,rfl⟩:=ab
 cases hm
 refine G ?_
 exact fr
theorem QcY {c:(List Launch)} {a:Launch} {d:Value} {r:Bool} (hm:JR c a=some r) (hS:St w0 s (H) w) (f:Ga Gg s d c) :
  Cv Tryz.prog 43 #[d,Value.agg #[O (a.At),O (a.Job)]] w0 w s H r fun i=>Value.bool (i):=by
 unfold JR at hm
 refine Qh Tryz.func43 Z Z (G ?_)
 refine JV Z Z fun _ _ g=>?_
 refine Qa hm fun _ h hm=>G ?_
 refine Tc Z Z Z Z (QdF h g f).r ?_
 rintro _ _ ⟨_,_,_,rfl⟩
 cases hm
 refine G ?_
 exact fr
instance F108_4:FTy Tryz.prog 108 4 7:=⟨by kernel_rfl⟩
instance F108_3:FTy Tryz.prog 108 3 6:=⟨by kernel_rfl⟩
instance F108_0:FTy Tryz.prog 108 0 0:=⟨by kernel_rfl⟩
instance F108_2:FTy Tryz.prog 108 2 5:=⟨by kernel_rfl⟩
theorem QeK {a:GT} {n:Nat} {i j l m d g am:Value} {r:(List Int)×(List Int)} (hm:KX a=some r) (hS:St w0 s (Res.box n 108 [i,j,l,m,d,O (a.last),g,am]::Res.arr (Qc .i64) 3 d a.first::Res.arr (Qc .i64) 3 g a.left::Res.arr (Qc .i64) 3 am a.out::H) w) (aL:Ga (Qc .i64) s i a.t.Vars) (aM:Ga (Qc .i64) s j a.t.Init) (aN:Ga Gd s l a.t.Goal) (aq:Ga Gw s m a.t.Jobs) :
  Cs Tryz.prog 44 #[Value.pointer (some ⟨n,0,none⟩)] w r fun v w'=>J5 fun (a6 a7:List Int)=>∃ak an,Gc.le s ak∧St w0 ak (Res.box n 108 [i,j,l,m,d,O (a.last),g,an]::Res.arr (Qc .i64) 3 d a.first::Res.arr (Qc .i64) 3 g a6::Res.arr (Qc .i64) 3 an a7::H) w'∧v=Value.tuple #[]:=by
 unfold KX at hm
 refine Qh Tryz.func44 Z Z (G ?_)
 refine QT (n0:=14) (qs 0 12 (.e 12 [0,1,2,3,4] (.e 13 [0] .done))) JQ (G ?_)
 refine Zn (hS.drew) A22.h Z Z Z ⟨Z,G ?_⟩
 refine Zn (hS.drew) A24.h Z Z Z ⟨Z,G ?_⟩
 refine Qt (Te:=3) (cs:=[O (IntKind.i64.wrap (2 * (a.t.Jobs.length:Int)))]) hS.drew Z (Qb (Qd Z Z) Qg) fun _ _ aw=>?_
 refine ⟨Yd,Qa hm fun _ aA hm=>G ?_⟩
 refine Qn (E:=(Qc .i64)) (ys:=[IntKind.i64.wrap (2 * (a.t.Jobs.length:Int))]) aw.f4 S22.h Z3 Z (by decide) Z Z Z Z ⟨[_],_,Z,Z,Z⟩ Z aA fun ad _ x=>?_
 refine ⟨Yd,G ?_⟩
 refine Qu (ds:=[ad]) (es:=[i,j,l,m,d,O (a.last),g,ad]) x.f1 A22.h Z Z Z (Qs ((x.f1).f1).arr_one) (Zj ((x.f1).f1).arr_one QM) (Xc Z) Z fun _ ax=>?_
 refine Qa hm fun aJ ar hm=>G ?_
 refine QO (fun k' s' f' w'=>(J5 fun (ab ac:List Int)=>∃al u,Gc.le s al∧St w0 al (Res.box n 108 [i,j,l,m,d,O (a.last),g,u]::Res.arr (Qc .i64) 3 d a.first::Res.arr (Qc .i64) 3 g ab::Res.arr (Qc .i64) 3 u ac::H) w'∧Fx f' [(25,O (k':Int)),(0,Vq n),(24,O ((a.t.Jobs.length:Int)))]) s') ar ?_ ?_ ?_
 ·have ay:=ax.f1
  exact ⟨s,ad,(Zv _),((ay.f3).f3).f3,(Fx.mk)⟩
 ·intro _ aK _ _ _ a5 au b
  obtain ⟨ab,ac⟩:=aK
  replace b:=QC b
  obtain ⟨aH,u,a8,az,_,rfl⟩:=au
  refine G ?_
  refine QT (n0:=22) (qs 0 20 (.e 20 [0,1,2,3,4] (.e 21 [0] .done))) JQ ?_
  have o:=az.drew
  refine Qa b fun ao q b=>?_
  obtain ⟨_,_,ag⟩:=(o.f1).arr_at q
  refine G ?_
  refine Qi S22.h Z ag Z (Qj q).1 (Qj q).2.1 ⟨Z,G ?_⟩
  refine Qw (F:=(Qc .i64)) (o.f1) ag A3.h Z Z Z q (Sub.refl _) ?_
  intro _ aB
  obtain rfl:=Qo.1 aB
  refine ⟨Z,Qa b fun ap c b=>?_⟩
  obtain ⟨_,_,ah⟩:=(o.f2).arr_at c
  refine G ?_
  refine Qi S22.h Z ah Z (Qj c).1 (Qj c).2.1 ⟨Z,G ?_⟩
  refine Qw (F:=(Qc .i64)) (o.f2) ah A3.h Z Z Z c (Sub.refl _) ?_
  intro _ aC
  obtain rfl:=Qo.1 aC
  refine ⟨Z,G ?_⟩
  refine Qt (Te:=3) (cs:=[O (IntKind.i64.wrap (ao+ap))]) o Z (Qb (Qd Z Z) Qg) fun _ _ a0=>?_
  refine ⟨Yd,Qa b fun _ aD b=>G ?_⟩
  refine Qn (E:=(Qc .i64)) (ys:=[IntKind.i64.wrap (ao+ap)]) a0.f4 S22.h Z3 Z (by decide) Z Z Z Z ⟨[_],_,Z,Z,Z⟩ Z aD fun ae _ y=>?_
  refine ⟨Yd,G ?_⟩
  refine Qu (ds:=[ae]) (es:=[i,j,l,m,d,O (a.last),g,ae]) y.f1 A22.h Z Z Z (Qs ((y.f1).f1).arr_one) (Zj ((y.f1).f1).arr_one QM) (Xc Z) Z fun _ a1=>?_
  refine G ?_
  refine QT (n0:=14) (qs 0 14 .done) JQ ?_
  have p:=a1.drew
  obtain ⟨_,_,ai⟩:=(p.f3).arr_at c
  refine G ?_
  refine Qi S22.h Z ai Z (Qj c).1 (Qj c).2.1 ⟨Z,G ?_⟩
  refine Qw (F:=(Qc .i64)) (p.f3) ai A3.h Z Z Z c (Sub.refl _) ?_
  intro _ aE
  obtain rfl:=Qo.1 aE
  refine ⟨Z,G ?_⟩
  refine Qg1 Z Z Z ⟨Z,?_⟩
  obtain ⟨_,_,aj⟩:=(p.f3).arr_at c
  refine G ?_
  refine Qi S22.h Z aj Z (Qj c).1 (Qj c).2.1 (Qa b fun _ aF b=>G ?_)
  refine JG p.f3 aj A3.h Z Z Z Z (Qo.2 Z) aF ?_
  intro _ a2
  cases b
  refine G ?_
  exact ⟨aH,ae,a8,(((a2.f2).f1).f3).f3,(Fx.mk (FxL.cons (Jo a5 (Ga.le aq)) fxl))⟩
 intro _ _ av
 obtain ⟨ab,ac⟩:=aJ
 replace hm:=QC hm
 obtain ⟨aI,u,a9,z,_,rfl⟩:=av
 refine G ?_
 refine QT (n0:=11) (qs 0 9 (.e 9 [0,1,2,3,4] (.e 10 [0] .done))) JQ (G ?_)
 refine Zn (z.drew) A22.h Z Z Z ⟨Z,G ?_⟩
 refine Zn (z.drew) A3.h Z Z Z ⟨Z,G ?_⟩
 refine Qt (Te:=3) (cs:=[O (a.last)]) z.drew Z (Qb (Qd Z Z) Qg) fun _ _ a3=>?_
 refine ⟨Yd,Qa hm fun _ aG hm=>G ?_⟩
 refine Qn (E:=(Qc .i64)) (ys:=[a.last]) a3.f4 S22.h Z3 Z (by decide) Z Z Z Z ⟨[_],_,Z,Z,Z⟩ Z aG fun af _ aa=>?_
 refine ⟨Yd,G ?_⟩
 refine Qu (ds:=[af]) (es:=[i,j,l,m,d,O (a.last),g,af]) aa.f1 A22.h Z Z Z (Qs ((aa.f1).f1).arr_one) (Zj ((aa.f1).f1).arr_one QM) (Xc Z) Z ?_
 intro _ a4
 cases hm
 refine G ?_
 exact ⟨_,Qlt Z,⟨aI,af,a9,(((a4.f1).f3).f3).f3,Z⟩⟩
theorem QeD {ae:Ge} {aN:(List Launch)} {b d i a ab:Value} {r:(List Int)×(Option Int)} (hm:Yj ae aN=some r) (hS:St w0 s (H) w) (bc:Ga (Qc .i64) s b ae.Vars) (bd:Ga (Qc .i64) s d ae.Init) (be:Ga Gd s i ae.Goal) (aD:Ga Gw s a ae.Jobs) (bf:Ga Gg s ab aN) :
  Cs Tryz.prog 11 #[Value.agg #[b,d,i,a],ab] w r fun v w'=>J5 fun (cD:List Int) (cE:Option Int)=>∃a7 aZ,Gc.le s a7∧St w0 a7 (H) w'∧v=Value.tuple #[aZ,K8 63 (cE)]∧Ga (Qc .i64) a7 aZ cD:=by
 unfold Yj at hm
 refine Qh Tryz.func11 Z Z (G ?_)
 refine JV Z Z fun n _ bw=>?_
 refine Qa hm fun c1 bZ hm=>?_
 obtain ⟨u,_⟩:=c1
 replace hm:=QC hm
 refine G ?_
 refine Tc Z Z Z Z (Km bZ bw bc bd be aD bf).r ?_
 rintro _ _ ⟨_,bQ,bx,rfl⟩
 refine G ?_
 refine Qv (T:=63) Tryz.underlying30 Z Z Z (G ?_)
 refine Qe hm (fun bH hm=>?_) fun bH hm=>?_
 ·refine G ?_
  cases hm
 refine Qa hm fun c2 ca hm=>?_
 obtain ⟨_,x⟩:=c2
 replace hm:=QC hm
 refine G ?_
 refine Tc Z Z Z Z (Y6 ca bx rq rq rq rq).r ?_
 rintro _ _ ⟨cr,_,_,_,_,bR,bz,rfl,_,_,_,_⟩
 refine G ?_
 refine DT (cs:=[Vn,Vn,Vn,Vn]) bz Z49 Z Z fun _ _ _=>?_
 refine G ?_
 refine Xst Z Z Z fun _ al=>?_
 refine G ?_
 refine Qv (T:=63) Tryz.underlying30 Z Z Z (G ?_)
 refine Qe hm (fun bI hm=>?_) fun bI hm=>?_
 ·refine G ?_
  cases hm
 refine G ?_
 refine Qe hm (fun bJ hm=>?_) fun bJ hm=>?_
 ·refine G ?_
  cases hm
 refine G ?_
 refine QT (n0:=11) (qs 0 8 (.e 8 [0,1,2,3,4] (.q 9 (.e 10 [] .done)))) JQ (G ?_)
 refine Q4 (ds:=[b,d,i,a]) ((al.drew).f1) A26.h Z Z Z ⟨Z,G ?_⟩
 refine Zn (al.drew) A47.h Z Z Z ⟨Z,G ?_⟩
 refine Zn ((al.drew).f1) A24.h Z Z Z ⟨Z,Qa hm fun bS cb hm=>G ?_⟩
 refine XO (E:=(Qc .i64)) al.drew S22.h Z3 Z Z Z Z cb fun j _ aG=>?_
 refine ⟨Yd,G ?_⟩
 refine Q2 Z (Qb (Qd Z Z) (Qb (Qd Z Z) (Qb (c:=[j]) (Qd Z (Qs aG.arr_one)) Qg))) (v:=Value.agg #[b,d,i,a,Vn,O (IntKind.i64.wrap ((x.Ops.length:Int) - 1)),j,Vn]) ⟨Z,G ?_⟩
 refine DR (cs:=[b,d,i,a,Vn,O (IntKind.i64.wrap ((x.Ops.length:Int) - 1)),j,Vn]) aG Z Z Z fun m _ b0=>?_
 refine ⟨Yd,Qa hm fun c3 bj hm=>G ?_⟩
 refine QO (fun k' s' f' w'=>(J5 fun (aj:Int) (ac:List Int)=>∃aO l,Gc.le cr aO∧St w0 aO (Res.box n 26 [b,d,i,a]::Res.box m 108 [b,d,i,a,l,O (IntKind.i64.wrap ((x.Ops.length:Int) - 1)),j,Vn]::Res.arr (Qc .i64) 3 l ac::Res.arr (Qc .i64) 3 j bS::H) w'∧Fx f' [(67,O (k':Int)),(1,ab),(2,Vq n),(6,O u),(9,Vq m),(10,O aj),(65,a),(66,O ((ae.Jobs.length:Int)))]) s') bj ?_ ?_ ?_
 ·have cJ:=b0.nilArr (Qc .i64) 3
  exact fq
 ·intro _ c4 _ _ _ bM bn af
  obtain ⟨aj,ac⟩:=c4
  replace af:=QC af
  obtain ⟨ct,l,bT,aH,_,rfl⟩:=bn
  refine Qa af fun _ cc af=>G ?_
  refine Jv Z Z Z cc fun _ _ bg=>?_
  refine G ?_
  refine Zw (E:=Gw) aH A85.h Z Z Z bg ?_
  intro _ cd
  obtain ⟨_,_,_,_,_,rfl,_,_,_,_,_⟩:=K9.1 cd
  refine G ?_
  refine DT (cs:=[Value.string (⟨#[]⟩),O 0,Vn,Vn,Vn,Vn,Vn]) aH Z85 Z Z fun _ _ _=>?_
  refine G ?_
  refine Xst Z Z Z fun _ b1=>?_
  refine G ?_
  refine Qt (Te:=3) (cs:=[O aj]) b1 Z (Qb (Qd Z Z) Qg) fun _ _ b2=>?_
  refine Qa af fun _ ce af=>G ?_
  refine Qn (E:=(Qc .i64)) (ys:=[aj]) b2.f4 S22.h Z3 Z (by decide) Z Z Z Z ⟨[_],_,Z,Z,Z⟩ Z ce fun a9 _ aw=>?_
  refine G ?_
  refine Qu (ds:=[a9]) (es:=[b,d,i,a,a9,O (IntKind.i64.wrap ((x.Ops.length:Int) - 1)),j,Vn]) aw.f3 A22.h Z Z Z (Qs ((aw.f3).f1).arr_one) (Zj ((aw.f3).f1).arr_one QM) (Xc Z) Z ?_
  intro _ b3
  cases af
  refine G ?_
  exact ⟨ct,a9,bT,(((((b3.f2).drop).f3).f2).f2).f3,(Fx.mk (FxL.cons (Jo bM (Ga.le rq)) fxl))⟩
 intro _ _ bo
 obtain ⟨aj,ac⟩:=c3
 replace hm:=QC hm
 obtain ⟨_,l,bU,b4,_,rfl⟩:=bo
 refine Qa hm fun ad cf hm=>G ?_
 refine Tc Z Z Z Z (Qoi cf b4 rq).r ?_
 rintro o _ ⟨cu,bV,b5⟩
 refine Qa hm fun _ cg hm=>Qa hm fun c5 bk hm=>G ?_
 refine QO (fun k' s' f' w'=>(J5 fun (aC ak:List Int)=>∃aP aq,Gc.le cu aP∧St w0 aP (Res.box n 26 [b,d,i,a]::Res.box m 108 [b,d,i,a,l,O (IntKind.i64.wrap ((x.Ops.length:Int) - 1)),j,aq]::Res.arr Gg 43 o ad::Res.arr (Qc .i64) 3 l ac::Res.arr (Qc .i64) 3 j ak::Res.arr (Qc .i64) 3 aq aC::H) w'∧Fx f' [(91,O (k':Int)),(1,ab),(2,Vq n),(6,O u),(9,Vq m),(13,o),(90,O (IntKind.i64.wrap (u+1)))]) s') bk ?_ ?_ ?_
 ·have cK:=b5.nilArr (Qc .i64) 3
  exact fq
 ·intro y c6 cv _ _ bN bp p
  obtain ⟨aC,ak⟩:=c6
  replace p:=QC p
  obtain ⟨cw,aq,bW,b6,_,rfl⟩:=bp
  refine Qa p fun a3 bl p=>G ?_
  refine QO (fun k' s' f' w'=>(fun (a3:List Int)=>∃aQ ar,Gc.le cw aQ∧St w0 aQ (Res.box n 26 [b,d,i,a]::Res.box m 108 [b,d,i,a,l,O (IntKind.i64.wrap ((x.Ops.length:Int) - 1)),j,ar]::Res.arr Gg 43 o ad::Res.arr (Qc .i64) 3 l ac::Res.arr (Qc .i64) 3 j ak::Res.arr (Qc .i64) 3 ar a3::H) w'∧Fx f' [(97,O (k':Int)),(1,ab),(2,Vq n),(6,O u),(9,Vq m),(13,o),(14,O ((y:Int))),(90,O (IntKind.i64.wrap (u+1))),(91,O ((y:Int))),(95,a),(96,O ((ae.Jobs.length:Int)))]) s') bl ?_ ?_ ?_
  ·have cL:=b6.f5
   exact fq
  ·intro an a3 _ _ _ _ bq ag
   obtain ⟨_,ar,_,aI,_,rfl⟩:=bq
   refine Qa ag fun cB ch ag=>G ?_
   refine Jv Z Z Z ch fun _ _ bh=>?_
   refine G ?_
   refine Zw (E:=Gw) aI A85.h Z Z Z bh ?_
   intro _ ci
   obtain ⟨_,_,_,_,_,rfl,_,_,_,_,_⟩:=K9.1 ci
   refine G ?_
   refine DT (cs:=[Value.string (⟨#[]⟩),O 0,Vn,Vn,Vn,Vn,Vn]) aI Z85 Z Z fun _ _ _=>?_
   refine G ?_
   refine Xst Z Z Z fun _ b7=>?_
   refine G ?_
   refine Q2 Z (Qb (Qd Z Z) (Qb (Qd Z Z) Qg)) (v:=Value.agg #[O (IntKind.i64.wrap ((y:Int) - cB.Duration)),O ((an:Int))]) (Qa ag fun _ cj ag=>G ?_)
   refine Tc Z Z Z Z (QcY cj b7 rq).r ?_
   rintro _ _ ⟨aR,_,b8,rfl⟩
   refine Qa ag fun ao ah ag=>g ?_
   refine QL (M:=fun f' w'=>(fun (ao:List Int)=>∃aS aA,Gc.le aR aS∧St w0 aS (Res.box n 26 [b,d,i,a]::Res.box m 108 [b,d,i,a,l,O (IntKind.i64.wrap ((x.Ops.length:Int) - 1)),j,aA]::Res.arr Gg 43 o ad::Res.arr (Qc .i64) 3 l ac::Res.arr (Qc .i64) 3 j ak::Res.arr (Qc .i64) 3 aA ao::H) w'∧Fx f' [(1,ab),(2,Vq n),(6,O u),(9,Vq m),(13,o),(14,O ((y:Int))),(90,O (IntKind.i64.wrap (u+1))),(91,O ((y:Int))),(95,a),(96,O ((ae.Jobs.length:Int))),(97,O ((an:Int)))]) ao) ?_ ?_
   ·refine Qd4 ah (fun a2 ah=>?_) fun a2 ah=>?_
    ·refine G ?_
     refine Qt (Te:=3) (cs:=[O (IntKind.i64.wrap ((IntKind.i64.wrap (2 * (an:Int)))+1))]) b8 Z (Qb (Qd Z Z) Qg) fun _ _ b9=>?_
     refine Qa ah fun _ ck ah=>G ?_
     refine Qn (E:=(Qc .i64)) (ys:=[IntKind.i64.wrap ((IntKind.i64.wrap (2 * (an:Int)))+1)]) b9.f7 S22.h Z3 Z (by decide) Z Z Z Z ⟨[_],_,Z,Z,Z⟩ Z ck fun aB _ ax=>?_
     refine G ?_
     refine Qu (ds:=[aB]) (es:=[b,d,i,a,l,O (IntKind.i64.wrap ((x.Ops.length:Int) - 1)),j,aB]) ax.f3 A22.h Z Z Z (Qs ((ax.f3).f1).arr_one) (Zj ((ax.f3).f1).arr_one QM) (Xc Z) Z ?_
     intro _ bA
     have cF:=Zu ah
     subst ao
     refine G ?_
     exact ⟨aR,aB,(Zv _),(((((((bA.f2).drop).f1).f5).f5).f5).f4).f5,(Fx.mk)⟩
    replace a2:=Zk a2
    cases ah
    refine G ?_
    exact fq
   rintro _ _ ⟨_,aA,_,_,_,rfl⟩
   cases ag
   refine G ?_
   exact fq
  rintro _ _ ⟨cx,ar,bX,ay,_,rfl⟩
  refine G ?_
  refine QK (ay.f2) S27.h Z Z (Qa p fun c7 bm p=>G ?_)
  refine QO (fun k' s' f' w'=>(J5 fun (a4 a5:List Int)=>∃aT ai,Gc.le cx aT∧St w0 aT (Res.box n 26 [b,d,i,a]::Res.box m 108 [b,d,i,a,l,O (IntKind.i64.wrap ((x.Ops.length:Int) - 1)),j,ai]::Res.arr Gg 43 o ad::Res.arr (Qc .i64) 3 l ac::Res.arr (Qc .i64) 3 j a4::Res.arr (Qc .i64) 3 ai a5::H) w'∧Fx f' [(125,O (k':Int)),(1,ab),(2,Vq n),(6,O u),(9,Vq m),(13,o),(14,O ((y:Int))),(90,O (IntKind.i64.wrap (u+1))),(91,O ((y:Int))),(123,o),(124,O ((ad.length:Int)))]) s') bm ?_ ?_ ?_
  ·have cM:=ay.f5
   exact fq
  ·intro bP c8 cy _ _ bO br z
   obtain ⟨a4,a5⟩:=c8
   replace z:=QC z
   obtain ⟨aU,ai,bY,az,_,rfl⟩:=br
   refine Qa z fun bb ap z=>?_
   obtain ⟨_,_,aE⟩:=(az.f2).arr_at ap
   refine G ?_
   refine Qi S27.h Z aE Z (Qj ap).1 (Qj ap).2.1 (G ?_)
   refine Qw (F:=Gg) (az.f2) aE A43.h Z Z Z ap (Sub.refl _) ?_
   intro _ cl
   obtain rfl:=QH.1 cl
   refine G ?_
   refine DT (cs:=[O 0,O 0]) az Z43 Z Z fun _ _ _=>?_
   refine G ?_
   refine Xst Z Z Z fun _ am=>?_
   refine Qa z fun aY t z=>g ?_
   refine Zc (Zd (g ?_))
   refine QL (M:=fun f' w'=>(J5 fun (aJ aK:List Int)=>∃aV au,Gc.le aU aV∧St w0 aV (Res.box n 26 [b,d,i,a]::Res.box m 108 [b,d,i,a,l,O (IntKind.i64.wrap ((x.Ops.length:Int) - 1)),j,au]::Res.arr Gg 43 o ad::Res.arr (Qc .i64) 3 l ac::Res.arr (Qc .i64) 3 j aJ::Res.arr (Qc .i64) 3 au aK::H) w'∧Fx f' [(1,ab),(2,Vq n),(6,O u),(9,Vq m),(13,o),(14,O ((y:Int))),(90,O (IntKind.i64.wrap (u+1))),(91,O ((y:Int))),(123,o),(124,O ((ad.length:Int))),(125,O ((bP:Int)))]) aY) ?_ ?_
   ·refine Qe t (fun bK t=>?_) fun bK t=>?_
    ·refine G ?_
     refine QT (n0:=10) (qs 0 8 (.e 8 [0,1,2,3,4] (.e 9 [0] .done))) JQ (G ?_)
     refine Zn ((am.drew).f2) A22.h Z Z Z ⟨Z,G ?_⟩
     refine Zn (am.drew) A3.h Z Z Z ⟨Z,G ?_⟩
     refine Qt (Te:=3) (cs:=[O (IntKind.i64.wrap (2 * bb.Job))]) am.drew Z (Qb (Qd Z Z) Qg) fun _ _ bB=>?_
     refine ⟨Yd,Qa t fun _ cm t=>G ?_⟩
     refine Qn (E:=(Qc .i64)) (ys:=[IntKind.i64.wrap (2 * bb.Job)]) bB.f7 S22.h Z3 Z (by decide) Z Z Z Z ⟨[_],_,Z,Z,Z⟩ Z cm fun ba _ a0=>?_
     refine ⟨(Qm (Q8 Z Z (Zm (v:=Vq m) Z Z ⟨Z,Z⟩)) K7),G ?_⟩
     refine Qu (ds:=[ba]) (es:=[b,d,i,a,l,O (IntKind.i64.wrap ((x.Ops.length:Int) - 1)),j,ba]) a0.f3 A22.h Z Z Z (Qs ((a0.f3).f1).arr_one) (Zj ((a0.f3).f1).arr_one QM) (Xc Z) Z fun _ bC=>?_
     refine G ?_
     refine QT (n0:=13) (qs 0 13 .done) JQ ?_
     have a1:=bC.drew
     refine Qa t fun cC cn t=>G ?_
     refine Qy S24.h Z Z Z (aD.mono (Zt (Zt (Zt (Zt (Zt (Zt bQ bR) bU) bV) bW) bX) bY)) cn fun _ _ bi _=>?_
     refine ⟨Z,G ?_⟩
     refine Zw (E:=(Qc .i64)) a1 A3.h Z Z Z (bi.sub (Sub.iso (Sub.snd (Sub.fst (Sub.refl _)) Z)) Z) ?_
     intro cA co
     obtain rfl:cA=O (cC.Duration):=Qo.1 co
     refine ⟨Z,Qa t fun _ a6 t=>?_⟩
     obtain ⟨_,_,aF⟩:=(a1.f6).arr_at a6
     refine G ?_
     refine Qi S22.h Z aF Z (Qj a6).1 (Qj a6).2.1 (Qa t fun _ cp t=>G ?_)
     refine JG a1.f6 aF A3.h Z Z Z Z (Qo.2 Z) cp ?_
     intro _ _
     cases t
     refine G ?_
     exact fq
    cases t
    refine G ?_
    exact ⟨aU,ai,(Zv _),((((((am.drop).f5).f5).f5).f5).f5).f5,(Fx.mk)⟩
   intro _ _ bu
   obtain ⟨aJ,aK⟩:=aY
   replace z:=QC z
   obtain ⟨cz,au,_,bD,_,rfl⟩:=bu
   have cG:=Zu z
   subst cy
   refine G ?_
   exact ⟨cz,au,lq,(((((bD.f5).f5).f5).f5).f5).f5,(Fx.mk (FxL.cons (Jo bO (ay.f2).arr_le) fxl))⟩
  intro _ _ bs
  obtain ⟨a4,a5⟩:=c7
  replace p:=QC p
  obtain ⟨aW,ai,_,bE,_,rfl⟩:=bs
  refine Qa p fun a8 aa p=>Zc (Zd (g ?_))
  refine Zc (QaT (Zx (decide_eq_false (by omega))) (QoQ (Qj2 (Qj2 (Qmw (Ze (Zc (Zd (g ?_)))))))))
  refine QL (M:=fun f' w'=>(J5 fun (aL aM:List Int)=>∃aX av,Gc.le aW aX∧St w0 aX (Res.box n 26 [b,d,i,a]::Res.box m 108 [b,d,i,a,l,O (IntKind.i64.wrap ((x.Ops.length:Int) - 1)),j,av]::Res.arr Gg 43 o ad::Res.arr (Qc .i64) 3 l ac::Res.arr (Qc .i64) 3 j aL::Res.arr (Qc .i64) 3 av aM::H) w'∧Fx f' [(1,ab),(2,Vq n),(6,O u),(9,Vq m),(13,o),(90,O (IntKind.i64.wrap (u+1))),(91,O ((y:Int)))]) a8) ?_ ?_
  ·refine Qe aa (fun bL aa=>?_) fun bL aa=>?_
   ·refine Qa aa fun c9 cq aa=>?_
    obtain ⟨_,_⟩:=c9
    replace aa:=QC aa
    refine G ?_
    refine Tc Z Z Z Z (QeK cq hq rq rq rq rq).r ?_
    rintro _ _ ⟨_,_,_,_,rfl⟩
    cases aa
    refine G ?_
    exact fq
   have cH:=Zu aa
   subst a8
   refine G ?_
   exact ⟨aW,ai,(Zv _),(((((bE.f5).f5).f5).f5).f5).f5,(Fx.mk)⟩
  intro _ _ bv
  obtain ⟨aL,aM⟩:=a8
  replace p:=QC p
  obtain ⟨c0,av,_,bF,_,rfl⟩:=bv
  have cI:=Zu p
  subst cv
  refine G ?_
  exact ⟨c0,av,lq,(((((bF.f5).f5).f5).f5).f5).f5,(Fx.mk (FxL.cons (Jo bN (by have h:=Qbn cg;simp at h;simp only [maxLen];omega)) fxl))⟩
 intro _ _ bt
 obtain ⟨aC,ak⟩:=c5
 replace hm:=QC hm
 obtain ⟨_,aq,_,bG,_,rfl⟩:=bt
 cases hm
 refine G ?_
 refine ⟨_,Qcw Z,?_⟩
 obtain ⟨_,_,_,_⟩:=bG.f5.freezeArr
 exact fq
theorem QkL {d:GD} {ai:(List Int)} {c:Int} {q t u x i:Value} {r:(List Int)×(Option Int)} (hm:Qbp d ai c=some r) (hS:St w0 s (H) w) (aH:Ga (Qc .i64) s q d.Vars) (aI:Ga (Qc .i64) s t d.Init) (aJ:Ga Gd s u d.Goal) (aK:Ga GC s x d.Ops) (aL:Ga (Qc .i64) s i ai) :
  Cs Tryz.prog 96 #[Value.agg #[q,t,u,x],i,O c] w r fun v w'=>J5 fun (aF:List Int) (aG:Option Int)=>∃p aj,Gc.le s p∧St w0 p (H) w'∧v=Value.tuple #[aj,K8 63 (aG)]∧Ga (Qc .i64) p aj aF:=by
 unfold Qbp at hm
 refine Qh Tryz.func96 Z Z (G ?_)
 refine JV Z Z fun y _ _=>?_
 refine g ?_
 refine Zc (QaU (Zc (QL (M:=fun f' w'=>∃af,Gc.le s af∧St w0 af (Res.box y 49 [q,t,u,x]::H) w'∧Fx f' [(1,i),(2,O c),(3,Vq y),(11,Vb (((decide (c<0)) ||decide ((d.Ops.length:Int)<=c))))]) ?_ ?_)))
 ·refine G ?_
  rcases tf (decide (c<0)) with aw |aw
  ·refine G ?_
   exact fq
  refine G ?_
  exact fq
 rintro _ _ ⟨_,_,aq,_,rfl⟩
 refine G ?_
 refine Qe hm (fun ax hm=>?_) fun ax hm=>?_
 ·refine G ?_
  cases hm
 refine Qa hm fun _ a2 hm=>G ?_
 refine Tc Z Z Z Z (QbL a2 aq rq rq).r ?_
 rintro _ _ ⟨_,_,aa,rfl⟩
 refine G ?_
 refine Qe hm (fun ay hm=>?_) fun ay hm=>?_
 ·refine G ?_
  cases hm
 refine Qa hm fun l ae hm=>G ?_
 refine Jv Z Z Z ae fun _ _ al=>?_
 refine G ?_
 refine Zw (E:=(Qk Gd)) aa A23.h Z Z Z (al.sub (Sub.iso (Sub.snd (Sub.snd (Sub.fst (Sub.refl _)) Z) Z)) Z) ?_
 intro _ a3
 have aB:Ga _ _ _ (l.Pre):=Q5.1 a3
 refine Qa hm fun _ a4 hm=>G ?_
 refine Tc Z Z Z Z (YK a4 aa aB rq).r ?_
 rintro _ _ ⟨_,_,ar,rfl⟩
 refine G ?_
 refine Qe hm (fun az hm=>?_) fun az hm=>?_
 ·refine G ?_
  cases hm
 refine Qa hm fun _ a5 hm=>G ?_
 refine Tc Z Z Z Z (JC a5 ar rq).r ?_
 rintro j _ ⟨aD,_,_,ab,rfl⟩
 refine G ?_
 refine Jv Z Z Z ae fun _ _ am=>?_
 refine G ?_
 refine Zw (E:=(Qk Gm)) ab A97.h Z Z Z (am.sub (Sub.iso (Sub.snd (Sub.snd (Sub.snd (Sub.refl _) Z) Z) Z)) Z) ?_
 intro ak a6
 have aN:Ga _ _ _ (l.Effs):=Q5.1 a6
 refine Qa hm fun m ao hm=>G ?_
 refine QO (fun k' s' f' w'=>(fun (m:List Int)=>∃ag,Gc.le aD ag∧St w0 ag (Res.arr (Qc .i64) 3 j m::H) w'∧Fx f' [(49,O (k':Int)),(1,i),(8,j),(47,ak),(48,O ((l.Effs.length:Int)))]) s') ao ?_ ?_ ?_
 ·have aM:=(ab.f1).drop
  exact fq
 ·intro a1 m _ _ _ _ ap b
  obtain ⟨_,_,ac,_,rfl⟩:=ap
  refine Qa b fun _ a7 b=>G ?_
  refine Jv Z Z Z a7 fun _ _ an=>?_
  refine G ?_
  refine Zw (E:=Gm) ac A102.h Z Z Z an ?_
  intro _ a8
  obtain ⟨_,rfl,aC⟩:=Qeo.1 a8
  refine G ?_
  refine DT (cs:=[Vn,O 0,O 0]) ac Qhr Z Z fun _ _ _=>?_
  refine G ?_
  refine Xst Z Z Z fun _ au=>?_
  refine Qa b fun _ a9 b=>G ?_
  refine Tc Z Z Z Z (YK a9 au aC rq).r ?_
  rintro _ _ ⟨aE,_,ad,rfl⟩
  refine Qa b fun n a b=>g ?_
  refine QL (M:=fun f' w'=>(fun (n:List Int)=>∃ah,Gc.le aE ah∧St w0 ah (Res.arr (Qc .i64) 3 j n::H) w'∧Fx f' [(1,i),(8,j),(47,ak),(48,O ((l.Effs.length:Int))),(49,O ((a1:Int)))]) n) ?_ ?_
  ·refine Qe a (fun a0 a=>?_) fun a0 a=>?_
   ·refine Qa a fun _ o a=>?_
    obtain ⟨_,_,z⟩:=(ad.f1).arr_at o
    refine G ?_
    refine Qi S22.h Z z Z (Qj o).1 (Qj o).2.1 (Qa a fun _ aA a=>G ?_)
    refine JG ad.f1 z A3.h Z Z Z Z (Qo.2 Z) aA ?_
    intro _ _
    cases a
    refine G ?_
    exact fq
   cases a
   refine G ?_
   exact fq
  rintro _ _ ⟨_,_,_,_,rfl⟩
  cases b
  refine G ?_
  exact fq
 rintro _ _ ⟨_,_,av,_,rfl⟩
 cases hm
 refine G ?_
 refine ⟨_,Qcw Z,?_⟩
 obtain ⟨_,_,_,_⟩:=av.freezeArr
 exact fq
theorem Qm7 {b:GD} {ac:(List Int)} {d:(List Int)} {p q t u ad x:Value} {r:(List Int)×Int×(Option Int)} (hm:Qd8 b ac d=some r) (hS:St w0 s (H) w) (af:Ga (Qc .i64) s p b.Vars) (ag:Ga (Qc .i64) s q b.Init) (ah:Ga Gd s t b.Goal) (y:Ga GC s u b.Ops) (aV:Ga (Qc .i64) s ad ac) (aW:Ga (Qc .i64) s x d) :
  Cs Tryz.prog 45 #[Value.agg #[p,q,t,u],ad,x] w r fun v w'=>un3 fun (aS:List Int) (aT:Int) (aU:Option Int)=>∃m ae,Gc.le s m∧St w0 m (H) w'∧v=Value.tuple #[ae,O aT,K8 63 (aU)]∧Ga (Qc .i64) m ae aS:=by
 unfold Qd8 at hm
 refine Qh Tryz.func45 Z Z (G ?_)
 refine JV Z Z fun z _ ao=>?_
 refine Qa hm fun _ a9 hm=>G ?_
 refine Tc Z Z Z Z (QfS a9 ao af ag ah y).r ?_
 rintro _ _ ⟨_,a3,ap,rfl⟩
 refine G ?_
 refine Qv (T:=63) Tryz.underlying30 Z Z Z (G ?_)
 refine Qe hm (fun aw hm=>?_) fun aw hm=>?_
 ·refine G ?_
  cases hm
 refine Qa hm fun _ aA hm=>G ?_
 refine Tc Z Z Z Z (QbL aA ap rq rq).r ?_
 rintro _ _ ⟨_,a4,aq,rfl⟩
 refine G ?_
 refine Qe hm (fun ax hm=>?_) fun ax hm=>?_
 ·refine G ?_
  cases hm
 refine G ?_
 refine Qe hm (fun ay hm=>?_) fun ay hm=>?_
 ·refine G ?_
  cases hm
 refine Qa hm fun _ aB hm=>G ?_
 refine Tc Z Z Z Z (JC aB aq rq).r ?_
 rintro _ _ ⟨aI,_,a5,ar,rfl⟩
 refine Q6 hm fun _ ak _ a1 av=>g ?_
 refine Zc (Zc (Zd (g ?_)))
 refine Jn (fun k' s' f' w'=>(J5 fun (o:List Int) (i:Int)=>∃n c,Gc.le aI n∧St w0 n (Res.box z 49 [p,q,t,u]::H) w'∧Fx f' [(34,O (k':Int)),(1,c),(3,Vq z),(10,O i),(32,x),(33,O ((d.length:Int)))]∧Ga (Qc .i64) n c o) s') ak ?_ ?_ ?_ ?_
 ·obtain ⟨_,_,_,_⟩:=ar.freezeArr
  exact fq
 ·intro _ aL _ _ _ a0 al a _
  obtain ⟨o,i⟩:=aL
  replace a:=QC a
  obtain ⟨_,c,a6,aa,⟨_,rfl⟩,l⟩:=al
  refine Qa a fun _ aC a=>G ?_
  refine Jv Z Z Z aC fun _ _ ai=>?_
  refine G ?_
  refine Zw (E:=(Qc .i64)) aa A3.h Z Z Z ai ?_
  intro _ aD
  obtain rfl:=Qo.1 aD
  refine Qa a fun aM aE a=>?_
  obtain ⟨_,_⟩:=aM
  replace a:=QC a
  refine G ?_
  refine Tc Z Z Z Z (QkL aE aa rq rq rq rq l).r ?_
  rintro _ _ ⟨aJ,aP,a7,j,rfl,aH⟩
  refine G ?_
  refine Qv (T:=63) Tryz.underlying30 Z Z Z (G ?_)
  refine Qe a (fun az a=>?_) fun az a=>?_
  ·refine G ?_
   cases a
  refine G ?_
  refine QT (n0:=10) (qs 0 10 .done) JQ (G ?_)
  refine Zn (j.drew) A47.h Z Z Z ⟨Z,Qa a fun aR aF a=>G ?_⟩
  refine Qy S47.h Z Z Z (y.mono (Zt (Zt (Zt (Zt a3 a4) a5) a6) a7)) aF fun _ _ aj _=>?_
  refine ⟨Z,G ?_⟩
  refine Zw (E:=(Qc .i64)) j.drew A3.h Z Z Z (aj.sub (Sub.iso (Sub.snd (Sub.fst (Sub.refl _)) Z)) Z) ?_
  intro aQ aG
  obtain rfl:aQ=O (aR.Cost):=Qo.1 aG
  refine ⟨Z,?_⟩
  cases a
  refine G ?_
  refine ⟨_,Z,?_⟩;exact ⟨aJ,aP,lq,j.drew,(Fx.mk (FxL.cons (Jo a0 (Ga.le rq)) fxl)),aH⟩
 ·intro aN _ _ am a2
  obtain ⟨o,i⟩:=aN
  obtain ⟨aK,c,a8,au,⟨_,rfl⟩,l⟩:=am
  refine G ?_
  refine ⟨d.length,_, .inl a2,?_⟩;exact ⟨aK,c,a8,au,(Fx.mk),l⟩
 rintro _ _ ⟨_,aO,ab,an⟩
 have hm:=ab.elim (a1 _) (av _)
 clear ab
 obtain ⟨_,_⟩:=aO
 replace hm:=QC hm
 obtain ⟨_,_,_,_,⟨_,rfl⟩,_⟩:=an
 cases hm
 refine G ?_
 exact ⟨_,Qys Z,fq⟩
theorem Qfr {a:GD} {c:(List Int)} {f g h i j:Value} {r:Int×(Option Int)} (hm:YD a c=some r) (hS:St w0 s (H) w) (k:Ga (Qc .i64) s f a.Vars) (b:Ga (Qc .i64) s g a.Init) (l:Ga Gd s h a.Goal) (m:Ga GC s i a.Ops) (n:Ga (Qc .i64) s j c) :
  Cs Tryz.prog 12 #[Value.agg #[f,g,h,i],j] w r fun v w'=>J5 fun (aa:Int) (ab:Option Int)=>∃d,Gc.le s d∧St w0 d (H) w'∧v=Value.tuple #[O aa,K8 63 (ab)]:=by
 unfold YD at hm
 refine Qh Tryz.func12 Z Z (G ?_)
 refine JV Z Z fun _ _ o=>?_
 refine Qa hm fun z u hm=>?_
 obtain ⟨_,_,_⟩:=z
 replace hm:=QlX hm
 refine G ?_
 refine Tc Z Z Z Z (Qm7 u o k b l m b n).r ?_
 rintro _ _ ⟨_,_,_,p,rfl,y⟩
 refine G ?_
 refine Qv (T:=63) Tryz.underlying30 Z Z Z (G ?_)
 refine Qe hm (fun q hm=>?_) fun q hm=>?_
 ·refine G ?_
  cases hm
 refine Qa hm fun _ x hm=>G ?_
 refine Tc Z Z Z Z (YK x p rq y).r ?_
 rintro _ _ ⟨_,_,_,rfl⟩
 refine G ?_
 refine Qe hm (fun t hm=>?_) fun t hm=>?_
 ·refine G ?_
  cases hm
 cases hm
 refine G ?_
 exact ⟨_,Qcw Z,fq⟩
theorem QcB (hHF:Qnp H) {t1:Ge} {list10:(List Launch)} {which13:Int} {v2 v4 v6 v8 v11:Value} {r:Bool} (hm:Kv t1 list10 which13=some r) (hS:St w0 s (H) w) (a3:Ga (Qc .i64) s v2 t1.Vars) (a5:Ga (Qc .i64) s v4 t1.Init) (a7:Ga Gd s v6 t1.Goal) (a9:Ga Gw s v8 t1.Jobs) (a12:Ga Gg s v11 list10) :
  Cv Tryz.prog 3 #[Value.agg #[v2,v4,v6,v8],v11,Value.int .u8 (which13)] w0 w s H r fun y15=>Value.bool (y15):=by
 unfold Kv at hm
 refine Qh Tryz.func3 Z Z (G ?_)
 refine JV Z Z fun a _ bk=>?_
 refine Qa hm fun am l hm=>g ?_
 refine Zc (Zc (QL (M:=fun f' w'=>(fun (am:Bool)=>∃aH,Gc.le s aH∧St w0 aH (Res.box a 26 [v2,v4,v6,v8]::H) w'∧Fx f' [(1,v11),(2,Value.int .u8 (which13)),(3,Vq a),(43,Vb am)]) am) ?_ ?_))
 ·refine G ?_
  refine Qe l (fun bF l=>?_) fun bF l=>?_
  ·cases l
   refine G ?_
   exact fq
  refine G ?_
  refine Qe l (fun bG l=>?_) fun bG l=>?_
  ·cases l
   refine G ?_
   exact fq
  refine G ?_
  refine Qe l (fun bH l=>?_) fun bH l=>?_
  ·cases l
   refine G ?_
   exact fq
  refine Qa l fun _ cu l=>G ?_
  refine Tc Z Z Z Jh (QlI cu bk).r ?_
  rintro _ _ ⟨_,_,_,rfl⟩
  cases l
  refine G ?_
  exact fq
 rintro _ _ ⟨_,_,a4,_,rfl⟩
 refine G ?_
 refine Qe hm (fun bI hm=>?_) fun bI hm=>?_
 ·refine Qa hm fun _ cv hm=>G ?_
  refine Tc Z Z Z Jh (QlI cv a4).r ?_
  rintro _ _ ⟨_,_,_,rfl⟩
  cases hm
  refine G ?_
  exact fr
 refine Qa hm fun dp cw hm=>?_
 obtain ⟨ab,aU⟩:=dp
 replace hm:=QC hm
 refine G ?_
 refine Tc Z Z Z Z (Km cw a4 rq rq rq rq rq).r ?_
 rintro _ _ ⟨dc,_,_,rfl⟩
 refine g ?_
 refine Zc (Zc (QL (M:=fun f' w'=>∃aI,Gc.le dc aI∧St w0 aI (Res.box a 26 [v2,v4,v6,v8]::H) w'∧Fx f' [(1,v11),(2,Value.int .u8 (which13)),(3,Vq a),(7,O ab),(56,Vb ((aU.isSome ||decide (200<ab))))]) ?_ ?_))
 ·refine G ?_
  refine Qv (T:=63) Tryz.underlying30 Z Z Z (G ?_)
  rcases tf (aU.isSome) with bJ |bJ
  ·refine G ?_
   exact fq
  refine G ?_
  exact fq
 rintro _ _ ⟨_,_,bl,_,rfl⟩
 refine G ?_
 refine Qe hm (fun bK hm=>?_) fun bK hm=>?_
 ·cases hm
  refine G ?_
  exact fr
 refine Qa hm fun dq cx hm=>?_
 obtain ⟨ac,aV⟩:=dq
 replace hm:=QC hm
 refine G ?_
 refine Tc Z Z Z Z (Qhl cx bl rq rq rq rq rq).r ?_
 rintro _ _ ⟨dd,q,_,bm,rfl⟩
 refine g ?_
 refine Zc (Zc (QL (M:=fun f' w'=>∃aJ,Gc.le dd aJ∧St w0 aJ (Res.box a 26 [v2,v4,v6,v8]::Res.arr Gg 43 q ac::H) w'∧Fx f' [(2,Value.int .u8 (which13)),(3,Vq a),(7,O ab),(9,q),(71,Vb ((aV.isSome ||!decide ((ac.length:Int)=(list10.length:Int)))))]) ?_ ?_))
 ·refine G ?_
  refine Qv (T:=63) Tryz.underlying30 Z Z Z (G ?_)
  rcases tf (aV.isSome) with bL |bL
  ·refine G ?_
   exact fq
  refine G ?_
  refine QK (bm) S27.h Z Z (G ?_)
  exact fq
 rintro _ _ ⟨_,_,bn,_,rfl⟩
 refine G ?_
 refine Qe hm (fun bM hm=>?_) fun bM hm=>?_
 ·refine G ?_
  cases hm
 refine G ?_
 obtain ⟨_,_,bo,aE,be⟩:=bn.f1.lendArr
 refine Qa hm fun dr cy hm=>?_
 obtain ⟨m,aW⟩:=dr
 replace hm:=QC hm
 refine G ?_
 refine Tc Z Z Z Z (Km cy bo rq rq rq rq aE).r ?_
 rintro _ _ ⟨_,_,bp,rfl⟩
 refine Qa hm fun ds cz hm=>?_
 obtain ⟨aX,al⟩:=ds
 replace hm:=QC hm
 refine G ?_
 refine Tc Z Z Z Z (Qi6 cz bp rq rq rq rq rq).r ?_
 rintro _ _ ⟨de,_,_,_,_,bq,rfl,_,_,_⟩
 refine G ?_
 refine DT (cs:=[Vn,Vn,Vn,O 0]) bq Z39 Z Z fun _ _ _=>?_
 refine G ?_
 refine Xst Z Z Z fun _ _=>?_
 refine g ?_
 refine Zc (Zc (QL (M:=fun f' w'=>∃aK,Gc.le de aK∧St w0 aK (Res.box a 26 [v2,v4,v6,v8]::H) w'∧Fx f' [(2,Value.int .u8 (which13)),(3,Vq a),(9,q),(10,O m),(106,Vb ((aW.isSome ||(aX.isSome ||((decide (ab<m)) ||((decide (0<(al.Problems.length:Int))) ||!decide (al.Makespan=m)))))))]) ?_ ?_))
 ·refine G ?_
  refine Qv (T:=63) Tryz.underlying30 Z Z Z (G ?_)
  rcases tf (aW.isSome) with bN |bN
  ·refine G ?_
   exact fq
  refine G ?_
  refine Qv (T:=63) Tryz.underlying30 Z Z Z (G ?_)
  rcases tf (aX.isSome) with bO |bO
  ·refine G ?_
   exact fq
  refine G ?_
  rcases tf (decide (ab<m)) with bP |bP
  ·refine G ?_
   exact fq
  refine G ?_
  rcases tf (decide (0<(al.Problems.length:Int))) with bQ |bQ
  ·refine G ?_
   exact fq
  refine G ?_
  exact fq
 rintro _ _ ⟨_,_,br,_,rfl⟩
 refine G ?_
 refine Qe hm (fun bR hm=>?_) fun bR hm=>?_
 ·refine G ?_
  cases hm
 refine G ?_
 obtain ⟨df,_,a6⟩:=be lq (QqN hHF) br
 clear aE
 refine G ?_
 refine Qa hm fun y bf hm=>G ?_
 refine QO (fun k' s' f' w'=>(fun (y:List Launch)=>∃aL,Gc.le df aL∧St w0 aL (Res.box a 26 [v2,v4,v6,v8]::Res.arr Gg 43 q y::H) w'∧Fx f' [(109,O (k':Int)),(2,Value.int .u8 (which13)),(3,Vq a),(9,q),(10,O m),(108,O ((ac.length:Int)))]) s') bf ?_ ?_ ?_
 ·have dH:=a6.f1
  exact fq
 ·intro aD y _ _ _ co bh aa
  obtain ⟨dg,_,bs,_,rfl⟩:=bh
  refine Q6 aa fun _ bg _ cp bE=>Zc (Zd (g ?_))
  refine Zc (QbR (Zx (decide_eq_true (by omega))) (Yx (Ze (Zc (QaU (Zc (Zd (g ?_))))))))
  refine Zc (Zd (g ?_))
  refine QeQ (fun s' f' w'=>(J5 fun (ae:Int) (af:List Launch)=>∃aM,Gc.le dg aM∧St w0 aM (Res.box a 26 [v2,v4,v6,v8]::Res.arr Gg 43 q af::H) w'∧Fx f' [(2,Value.int .u8 (which13)),(3,Vq a),(9,q),(10,O m),(14,O ae),(108,O ((ac.length:Int))),(109,O ((aD:Int)))]) s') bg ?_ ?_ ?_
  ·have dI:=bs.f1
   exact fq
  ·intro dt _ _ _ bi d cq
   obtain ⟨ae,af⟩:=dt
   replace d:=QC d
   obtain ⟨dh,_,bt,_,rfl⟩:=bi
   refine Qa d fun an j d=>Zc (Zc (QL (M:=fun f' w'=>(fun (an:Bool)=>∃aN,Gc.le dh aN∧St w0 aN (Res.box a 26 [v2,v4,v6,v8]::Res.arr Gg 43 q af::H) w'∧Fx f' [(2,Value.int .u8 (which13)),(3,Vq a),(9,q),(10,O m),(14,O ae),(108,O ((ac.length:Int))),(109,O ((aD:Int))),(156,Vb an)]) an) ?_ ?_))
   ·refine QT (n0:=44) (qs 0 44 .done) JQ ?_
    have n:=bt.drew
    refine G ?_
    refine Qe j (fun bS j=>?_) fun bS j=>?_
    ·refine Qa j fun ai o j=>?_
     obtain ⟨_,_,ap⟩:=(n.f1).arr_at o
     refine G ?_
     refine Qi S27.h Z ap Z (Qj o).1 (Qj o).2.1 ⟨Z,G ?_⟩
     refine Qw (F:=(Qc .i64)) (n.f1) ap A3.h Z Z Z o (Sub.iso (Sub.fst (Sub.refl _))) ?_
     intro d5 c0
     obtain rfl:d5=O (ai.At):=Qo.1 c0
     refine ⟨Z,Qa j fun aj p j=>?_⟩
     obtain ⟨_,_,aq⟩:=(n.f1).arr_at p
     refine G ?_
     refine Qi S27.h Z aq Z (Qj p).1 (Qj p).2.1 ⟨Z,G ?_⟩
     refine Qw (F:=(Qc .i64)) (n.f1) aq A3.h Z Z Z p (Sub.iso (Sub.fst (Sub.refl _))) ?_
     intro d6 c1
     obtain rfl:d6=O (aj.At):=Qo.1 c1
     refine ⟨Z,G ?_⟩
     refine Qe j (fun bT j=>?_) fun bT j=>?_
     ·cases j
      refine G ?_
      exact fq
     obtain ⟨_,_,ar⟩:=(n.f1).arr_at o
     refine G ?_
     refine Qi S27.h Z ar Z (Qj o).1 (Qj o).2.1 ⟨Z,G ?_⟩
     refine Qw (F:=(Qc .i64)) (n.f1) ar A3.h Z Z Z o (Sub.iso (Sub.fst (Sub.refl _))) ?_
     intro d7 c2
     obtain rfl:d7=O (ai.At):=Qo.1 c2
     refine ⟨Z,?_⟩
     obtain ⟨_,_,au⟩:=(n.f1).arr_at p
     refine G ?_
     refine Qi S27.h Z au Z (Qj p).1 (Qj p).2.1 ⟨Z,G ?_⟩
     refine Qw (F:=(Qc .i64)) (n.f1) au A3.h Z Z Z p (Sub.iso (Sub.fst (Sub.refl _))) ?_
     intro d8 c3
     obtain rfl:d8=O (aj.At):=Qo.1 c3
     refine ⟨Z,G ?_⟩
     refine Qe j (fun bU j=>?_) fun bU j=>?_
     ·obtain ⟨_,_,av⟩:=(n.f1).arr_at o
      refine G ?_
      refine Qi S27.h Z av Z (Qj o).1 (Qj o).2.1 ⟨Z,G ?_⟩
      refine Qw (F:=(Qc .i64)) (n.f1) av A3.h Z Z Z o (Sub.iso (Sub.snd (Sub.refl _) Z)) ?_
      intro d9 c4
      obtain rfl:d9=O (ai.Job):=Qo.1 c4
      refine ⟨Z,?_⟩
      obtain ⟨_,_,aw⟩:=(n.f1).arr_at p
      refine G ?_
      refine Qi S27.h Z aw Z (Qj p).1 (Qj p).2.1 ⟨Z,G ?_⟩
      refine Qw (F:=(Qc .i64)) (n.f1) aw A3.h Z Z Z p (Sub.iso (Sub.snd (Sub.refl _) Z)) ?_
      intro dA c5
      obtain rfl:dA=O (aj.Job):=Qo.1 c5
      refine ⟨Z,?_⟩
      cases j
      refine G ?_
      exact fq
     cases j
     refine G ?_
     exact fq
    cases j
    refine G ?_
    exact fq
   rintro _ _ ⟨_,_,x,_,rfl⟩
   refine G ?_
   refine Qe d (fun bV d=>?_) fun bV d=>?_
   ·refine G ?_
    refine QT (n0:=16) (qs 0 15 (.e 15 [2,3,4] .done)) JQ (Qa d fun _ ad d=>?_)
    obtain ⟨_,_,ax⟩:=((x.drew).f1).arr_at ad
    refine G ?_
    refine Qi S27.h Z ax Z (Qj ad).1 (Qj ad).2.1 ⟨Z,G ?_⟩
    refine Qw (F:=Gg) ((x.drew).f1) ax A43.h Z Z Z ad (Sub.refl _) ?_
    intro _ c6
    obtain rfl:=QH.1 c6
    refine ⟨Z,Qa d fun _ u d=>?_⟩
    obtain ⟨_,_,ay⟩:=((x.drew).f1).arr_at u
    refine G ?_
    refine Qi S27.h Z ay Z (Qj u).1 (Qj u).2.1 ⟨Z,G ?_⟩
    refine Qw (F:=Gg) ((x.drew).f1) ay A43.h Z Z Z u (Sub.refl _) ?_
    intro _ c7
    obtain rfl:=QH.1 c7
    refine ⟨Z,?_⟩
    obtain ⟨_,_,az⟩:=((x.drew).f1).arr_at u
    refine G ?_
    refine Qi S27.h Z az Z (Qj u).1 (Qj u).2.1 ⟨Z,Qa d fun _ c8 d=>G ?_⟩
    refine JG (x.drew).f1 az A43.h Z Z Z Z (QH.2 Z) c8 fun _ a8=>?_
    refine ⟨Yd,Qa d fun _ ag d=>?_⟩
    obtain ⟨_,_,a0⟩:=a8.arr_at ag
    refine G ?_
    refine Qi S27.h Z a0 Z (Qj ag).1 (Qj ag).2.1 (Qa d fun _ c9 d=>G ?_)
    refine JG a8 a0 A43.h Z Z Z Z (QH.2 Z) c9 ?_
    intro _ _
    cases d
    refine G ?_
    exact ⟨_,Z,fq⟩
   cases d
   refine G ?_
   exact ⟨_, .inr (cq (by intro _ h;cases h)),fq⟩
  rintro _ _ ⟨du,aC,bj⟩
  have aa:=aC.elim (cp _) (bE _)
  clear aC
  obtain ⟨_,_⟩:=du
  replace aa:=QC aa
  obtain ⟨di,_,bu,_,rfl⟩:=bj
  cases aa
  refine G ?_
  exact ⟨di,lq,(bu.f1).f1,(Fx.mk (FxL.cons (Jo co a6.arr_le) fxl))⟩
 rintro _ _ ⟨_,_,bv,_,rfl⟩
 refine G ?_
 obtain ⟨_,_,bw,aF⟩:=bv.f1.freezeArr
 refine Qa hm fun dv cA hm=>?_
 obtain ⟨dE,aY⟩:=dv
 replace hm:=QC hm
 refine G ?_
 refine Tc Z Z Z Z (Qhk cA bw rq rq rq rq aF).r ?_
 rintro _ _ ⟨dj,dB,_,_,rfl,cS⟩
 refine g ?_
 refine Zc (Zc (QL (M:=fun f' w'=>∃aO,Gc.le dj aO∧St w0 aO (Res.box a 26 [v2,v4,v6,v8]::H) w'∧Fx f' [(2,Value.int .u8 (which13)),(3,Vq a),(9,q),(10,O m),(15,dB),(190,Vb ((aY.isSome ||!decide ((dE.length:Int)=(y.length:Int)))))]) ?_ ?_))
 ·refine G ?_
  refine Qv (T:=63) Tryz.underlying30 Z Z Z (G ?_)
  rcases tf (aY.isSome) with bW |bW
  ·refine G ?_
   exact fq
  refine G ?_
  exact fq
 rintro _ _ ⟨dk,cr,aA,_,rfl⟩
 refine G ?_
 refine Qe hm (fun bX hm=>?_) fun bX hm=>?_
 ·refine G ?_
  cases hm
 refine G ?_
 refine Qe hm (fun bY hm=>?_) fun bY hm=>?_
 ·refine G ?_
  refine QeE (by rw [Tryz.underlying5];rfl) Tryz.underlying3 Z Z (Qa hm fun _ cB hm=>G ?_)
  refine DJ Z Z Z (by simpa using Qbn cB) (G ?_)
  refine Qt (Te:=43) (cs:=[]) aA Z Qg fun _ _ bx=>?_
  refine G ?_
  have bz:=St.boxArr (E:=Gg) (xs:=[]) bx rfl (by simp [maxLen])
  refine Qa hm fun _ cC hm=>G ?_
  refine JH (E:=Gg) (ys:=y) bz S27.h Z43 Z (by decide) Z Z Z (aF.mono lq) cC fun aT _ z=>?_
  refine G ?_
  refine QT (n0:=10) (qs 0 10 .done) JQ (Qa hm fun dD t hm=>?_)
  obtain ⟨_,_,a1⟩:=(z.drew).arr_at t
  refine G ?_
  refine Qi S27.h Z a1 Z (Qj t).1 (Qj t).2.1 ⟨Z,G ?_⟩
  refine Qw (F:=(Qc .i64)) (z.drew) a1 A3.h Z Z Z t (Sub.iso (Sub.fst (Sub.refl _))) ?_
  intro dC cD
  obtain rfl:dC=O (dD.At):=Qo.1 cD
  refine ⟨Z,Qa hm fun ak ah hm=>G ?_⟩
  refine Qy S22.h Z Z Z (cS.mono cr) ah fun _ _ bb _=>?_
  refine ⟨Z,G ?_⟩
  refine Zw (E:=(Qc .i64)) z.drew A3.h Z Z Z bb ?_
  intro _ cE
  obtain rfl:=Qo.1 cE
  refine ⟨Z,?_⟩
  obtain ⟨_,_,a2⟩:=(z.drew).arr_at t
  refine G ?_
  refine Qi S27.h Z a2 Z (Qj t).1 (Qj t).2.1 (Qa hm fun ct cF hm=>G ?_)
  refine Qhp (set:=(fun (c:Launch) b=>{ c with At:=b })) z.drew a2 A3.h Z Z Z Z (Qo.2 Z) (Upd.iso (k:=(fun (c:Launch) b=>{ c with At:=b })) (Upd.fst (Upd.refl _)) (fun _ _=>rfl)) t cF fun _ aB=>?_
  refine g ?_
  refine Zc (Zc (QL (M:=fun f' w'=>∃aP,Gc.le dk aP∧St w0 aP (Res.box a 26 [v2,v4,v6,v8]::Res.arr Gg 43 aT ct::H) w'∧Fx f' [(3,Vq a),(9,q),(10,O m),(16,O ((IntKind.i64.wrap which13).tmod (y.length:Int))),(17,aT),(226,Vb (((decide (ak<0)) ||decide (m<ak))))]) ?_ ?_))
  ·refine G ?_
   refine Jv Z Z Z ah fun _ _ bc=>?_
   refine G ?_
   refine Zw (E:=(Qc .i64)) aB A3.h Z Z Z bc ?_
   intro _ cG
   obtain rfl:=Qo.1 cG
   refine G ?_
   rcases tf (decide (ak<0)) with bZ |bZ
   ·refine G ?_
    exact fq
   refine G ?_
   refine Jv Z Z Z ah fun _ _ bd=>?_
   refine G ?_
   refine Zw (E:=(Qc .i64)) aB A3.h Z Z Z bd ?_
   intro _ cH
   obtain rfl:=Qo.1 cH
   refine G ?_
   exact fq
  rintro _ _ ⟨_,_,b0,_,rfl⟩
  refine G ?_
  refine Qe hm (fun ca hm=>?_) fun ca hm=>?_
  ·refine G ?_
   cases hm
  refine G ?_
  obtain ⟨_,_,b1,cT⟩:=b0.f1.freezeArr
  refine Qa hm fun dw cI hm=>?_
  obtain ⟨_,_⟩:=dw
  replace hm:=QC hm
  refine G ?_
  refine Tc Z Z Z Z (Km cI b1 rq rq rq rq cT).r ?_
  rintro _ _ ⟨dl,_,b2,rfl⟩
  refine Qa hm fun ao i hm=>g ?_
  refine Zc (QL (M:=fun f' w'=>(fun (ao:Bool)=>∃aQ,Gc.le dl aQ∧St w0 aQ (Res.box a 26 [v2,v4,v6,v8]::H) w'∧Fx f' [(3,Vq a),(9,q),(10,O m),(249,Vb ao)]) ao) ?_ ?_)
  ·refine G ?_
   refine Qv (T:=63) Tryz.underlying30 Z Z Z (G ?_)
   refine Qe i (fun cb i=>?_) fun cb i=>?_
   ·refine Qa i fun _ cJ i=>G ?_
    refine Tc Z Z Z Z (Qfl cJ b2 rq rq rq rq rq).r ?_
    rintro _ _ ⟨_,_,_,rfl⟩
    refine G ?_
    refine Qe i (fun cc i=>?_) fun cc i=>?_
    ·cases i
     refine G ?_
     exact fq
    refine G ?_
    refine Qbv (T:=63) Tryz.underlying30 Z Z Z (G ?_)
    refine Qe i (fun cd i=>?_) fun cd i=>?_
    ·cases i
     refine G ?_
     exact fq
    cases i
    refine G ?_
    exact fq
   refine G ?_
   refine Qbv (T:=63) Tryz.underlying30 Z Z Z (G ?_)
   refine Qe i (fun ce i=>?_) fun ce i=>?_
   ·cases i
    refine G ?_
    exact fq
   cases i
   refine G ?_
   exact fq
  rintro _ _ ⟨_,_,b3,_,rfl⟩
  refine G ?_
  refine Qe hm (fun cf hm=>?_) fun cf hm=>?_
  ·refine G ?_
   cases hm
  refine Qa hm fun dx cK hm=>?_
  obtain ⟨_,_⟩:=dx
  replace hm:=QC hm
  refine G ?_
  refine Tc Z Z Z Z (Y6 cK b3 rq rq rq rq).r ?_
  rintro _ _ ⟨_,_,_,_,_,_,b4,rfl,_,_,_,_⟩
  refine G ?_
  refine DT (cs:=[Vn,Vn,Vn,Vn]) b4 Z49 Z Z fun _ _ _=>?_
  refine G ?_
  refine Xst Z Z Z fun _ b5=>?_
  refine G ?_
  refine Qv (T:=63) Tryz.underlying30 Z Z Z (G ?_)
  refine Qe hm (fun cg hm=>?_) fun cg hm=>?_
  ·cases hm
   refine G ?_
   exact fr
  refine Qa hm fun dy cL hm=>?_
  obtain ⟨_,_⟩:=dy
  replace hm:=QC hm
  refine G ?_
  refine Tc Z Z Z Z (QeD cL b5 rq rq rq rq rq).r ?_
  rintro _ _ ⟨_,_,_,b6,rfl,_⟩
  refine G ?_
  refine Qv (T:=63) Tryz.underlying30 Z Z Z (G ?_)
  refine Qe hm (fun ch hm=>?_) fun ch hm=>?_
  ·refine G ?_
   cases hm
  refine Qa hm fun dz cM hm=>?_
  obtain ⟨_,_⟩:=dz
  replace hm:=QC hm
  refine G ?_
  refine Tc Z Z Z Z (Y6 cM b6 rq rq rq rq).r ?_
  rintro _ _ ⟨_,_,_,_,_,_,b7,rfl,cU,cV,cW,cX⟩
  refine G ?_
  refine DT (cs:=[Vn,Vn,Vn,Vn]) b7 Z49 Z Z fun _ _ _=>?_
  refine G ?_
  refine Xst Z Z Z fun _ b8=>?_
  refine G ?_
  refine Qv (T:=63) Tryz.underlying30 Z Z Z (G ?_)
  refine Qe hm (fun ci hm=>?_) fun ci hm=>?_
  ·refine G ?_
   cases hm
  refine Qa hm fun d0 cN hm=>?_
  obtain ⟨dF,aZ⟩:=d0
  replace hm:=QC hm
  refine G ?_
  refine Tc Z Z Z Z (Qfr cN b8 cU cV cW cX rq).r ?_
  rintro _ _ ⟨dm,_,_,rfl⟩
  refine g ?_
  refine Zc (QL (M:=fun f' w'=>∃aR,Gc.le dm aR∧St w0 aR (H) w'∧Fx f' [(6,Vb ((aZ.isNone && decide (dF=m))))]) ?_ ?_)
  ·refine G ?_
   refine Qbv (T:=63) Tryz.underlying30 Z Z Z (G ?_)
   rcases tf (aZ.isNone) with cj |cj
   ·refine G ?_
    exact fq
   refine G ?_
   exact fq
  rintro _ _ ⟨_,_,_,_,rfl⟩
  cases hm
  refine G ?_
  exact fr
 refine Qa hm fun d1 cO hm=>?_
 obtain ⟨_,_⟩:=d1
 replace hm:=QC hm
 refine G ?_
 refine Tc Z Z Z Z (Y6 cO aA rq rq rq rq).r ?_
 rintro _ _ ⟨_,_,_,_,_,_,b9,rfl,_,_,_,_⟩
 refine G ?_
 refine DT (cs:=[Vn,Vn,Vn,Vn]) b9 Z49 Z Z fun _ _ _=>?_
 refine G ?_
 refine Xst Z Z Z fun _ bA=>?_
 refine G ?_
 refine Qv (T:=63) Tryz.underlying30 Z Z Z (G ?_)
 refine Qe hm (fun ck hm=>?_) fun ck hm=>?_
 ·cases hm
  refine G ?_
  exact fr
 refine Qa hm fun d2 cP hm=>?_
 obtain ⟨_,_⟩:=d2
 replace hm:=QC hm
 refine G ?_
 refine Tc Z Z Z Z (QeD cP bA rq rq rq rq rq).r ?_
 rintro _ _ ⟨_,_,_,bB,rfl,_⟩
 refine G ?_
 refine Qv (T:=63) Tryz.underlying30 Z Z Z (G ?_)
 refine Qe hm (fun cl hm=>?_) fun cl hm=>?_
 ·refine G ?_
  cases hm
 refine Qa hm fun d3 cQ hm=>?_
 obtain ⟨_,_⟩:=d3
 replace hm:=QC hm
 refine G ?_
 refine Tc Z Z Z Z (Y6 cQ bB rq rq rq rq).r ?_
 rintro _ _ ⟨_,_,_,_,_,_,bC,rfl,cY,cZ,da,db⟩
 refine G ?_
 refine DT (cs:=[Vn,Vn,Vn,Vn]) bC Z49 Z Z fun _ _ _=>?_
 refine G ?_
 refine Xst Z Z Z fun _ bD=>?_
 refine G ?_
 refine Qv (T:=63) Tryz.underlying30 Z Z Z (G ?_)
 refine Qe hm (fun cm hm=>?_) fun cm hm=>?_
 ·refine G ?_
  cases hm
 refine Qa hm fun d4 cR hm=>?_
 obtain ⟨dG,ba⟩:=d4
 replace hm:=QC hm
 refine G ?_
 refine Tc Z Z Z Z (Qfr cR bD cY cZ da db rq).r ?_
 rintro _ _ ⟨dn,_,_,rfl⟩
 refine g ?_
 refine Zc (QL (M:=fun f' w'=>∃aS,Gc.le dn aS∧St w0 aS (H) w'∧Fx f' [(6,Vb ((ba.isNone && decide (dG=m))))]) ?_ ?_)
 ·refine G ?_
  refine Qbv (T:=63) Tryz.underlying30 Z Z Z (G ?_)
  rcases tf (ba.isNone) with cn |cn
  ·refine G ?_
   exact fq
  refine G ?_
  exact fq
 rintro _ _ ⟨_,_,_,_,rfl⟩
 cases hm
 refine G ?_
 exact fr
end Go.Pw
