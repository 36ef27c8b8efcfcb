/- -/
import Derived.Test.YtalfjlihddgooaaGreatDoorBa
import Derived.Test.YtalfjlihddgooaaGreatDoorLB
import Derived.ProofKit
import Derived.OpenShut
import Derived.Test.YtalfjlihddgooaaGreatDoorLC
import Derived.Test.YtalfjlihddgooaaGreatDoorLE
import Derived.Shelf.SlSortCmp.NoneTotal
import Derived.Shelf.Sort.Plain
import Derived.Shelf.Slices.In.SortNone
import Derived.KernelRfl
import Derived.Test.YtalfjlihddgooaaGreatDoorProg
namespace Go.Pw
open Go.ChangeShapes Go.WideShapes Go.ChangeAt Go.RowKit
def σH (w:World):Gc:=fun b=>w.heap[b]?
theorem St.start (w:World):St w (σH w) [] w:=⟨rfl,rfl,rfl,Xi _,Xi _,fun _ _ h=>h,[],List.nodup_nil,by simp,rfl⟩
def G5 (P:Program) (T:TypeId) {α:Type} (E:Enc α) (WF:α->Prop):Prop :=
 ∀{H:Type} (enc:TypeId×Value->H) (w:World) (base:Nat) (spare:Nat->Bool) (held:Bool) (fuel:Nat) (cs:List Value) (x:DataW H×List MemPlace),
  DataW.trod enc P w base spare held fuel T cs=some x->∃a,E.rep (σH w) cs a∧WF a
section
variable {P:Program} {T e:TypeId}
theorem G5.int {k:IntKind} (hT:P.underlying T=some (.int k)):G5 P T (Qc k) (fun n=>(Lit.int k n).wf=true):=by
 intro H enc w base spare held fuel cs x h
 obtain ⟨n,rfl,_,hw⟩:=DataW.trod_int hT h
 exact ⟨n,Z,hw⟩
theorem G5.bool (hT:P.underlying T=some .bool):G5 P T GL (fun _=>True):=by
 intro H enc w base spare held fuel cs x h
 obtain ⟨n,rfl,_⟩:=DataW.trod_bool hT h
 exact ⟨n,Z,trivial⟩
theorem Qrc (hT:P.underlying T=some .string):G5 P T encStr (fun s=>s.size<=maxLen):=by
 intro H enc w base spare held fuel cs x h
 obtain ⟨n,rfl,_,hw⟩:=DataW.trod_string hT h
 exact ⟨n,Z,hw⟩
theorem G5.mono {α:Type} {E:Enc α} {WF WF':α->Prop} (h:G5 P T E WF) (k:∀a,WF a->WF' a):G5 P T E WF':=by
 intro H enc w base spare held fuel cs x hx
 obtain ⟨a,h1,h2⟩:=h enc w base spare held fuel cs x hx
 exact ⟨a,h1,k a h2⟩
theorem Qis {α:Type} {E:Enc α} {WF:α->Prop} {s:Gc} {l:List Value}:∀(len off:Nat),(∀i,i<len->∃x,E.rep s ((l.drop (off+i * E.sz)).take E.sz) x∧WF x) ->
  ∃xs,xs.length=len∧G7 E s ((l.drop off).take (len * E.sz)) xs∧∀x ∈ xs,WF x
 |0,off,_=>⟨[],rfl,by simp [G7],by simp⟩
 | len+1,off,h=>by
  obtain ⟨x,hx,hw⟩:=h 0 (by omega)
  obtain ⟨xs,h1,h2,h3⟩:=Qis len (off+E.sz) (fun i hi=>by
   have:=h (i+1) (by omega)
   rwa [Nat.add_mul,Nat.one_mul,Nat.add_comm (i * E.sz), <-Nat.add_assoc] at this)
  rw [Nat.zero_mul,Nat.add_zero] at hx
  refine ⟨x::xs,by simp [h1],⟨(l.drop off).take E.sz,(l.drop (off+E.sz)).take (len * E.sz),?_,hx,h2⟩,?_⟩
  ·rw [Nat.add_mul,Nat.one_mul,Nat.add_comm (len * E.sz),List.take_add,List.drop_drop]
  ·intro y hy
   rcases Xr.1 hy with rfl |hy
   ·exact hw
   ·exact h3 y hy
theorem QlH {w:World} {base:Nat} {a:Addr} {n:Nat} {cs:List Value} (hs:a.spot=none) (h:w.cells? base a n=some cs) (hn:0<n) :
  ∃c Te fz,w.heap[a.block]?=some (.cells c Te fz)∧cs=(c.toList.drop a.off).take n:=by
 obtain ⟨_,hl,hc⟩:=World.cells?_some h
 have h0:=hc 0 hn
 have hcs0:∃v,cs[0]?=some v:=⟨cs[0],by simp [hl,hn]⟩
 obtain ⟨v,hv⟩:=hcs0
 obtain ⟨b,off,spot⟩:=a
 simp only at hs
 subst hs
 have hcell:∀i,i<n->w.cell? ⟨b,off+i,none⟩=cs[i]?:=by
  intro i hi
  have:=hc i hi
  rwa [Addr.add_lit] at this
 have h0:=hcell 0 hn
 rw [hv] at h0
 unfold World.cell? at h0
 simp only at h0
 split at h0
 ·rename_i c Te fz hb
  refine ⟨c,Te,fz,hb,List.ext_getElem? fun i=>?_⟩
  by_cases hi:i<n
  ·have:=hcell i hi
   unfold World.cell? at this
   simp only [hb] at this
   rw [Xo,if_pos hi,Xu, <-this]
   simp
  ·rw [X3 (by omega),Xo,if_neg hi]
 ·cases h0
theorem G5.slice {α:Type} {E:Enc α} {WF:α->Prop} (hT:P.underlying T=some (.slice e)) (hc:P.cellsOf e=E.sz) (h:G5 P e E WF):G5 P T (Qk E) (fun xs=>xs.length<=maxLen∧∀x ∈ xs,WF x):=by
 intro H enc w base spare held fuel cs x hx
 rcases DataW.trod_slice hT hx with ⟨rfl,_⟩ |⟨a,len,cap,elems,rest,n,_,rfl,_,_,hlc,hcm,hlen,hel,_⟩
 ·exact ⟨[],⟨_,Z, .inl ⟨Z,Z⟩⟩,by simp,by simp⟩
 rw [hc] at hel
 by_cases hl0:len=0
 ·subst hl0
  exact ⟨[],⟨_,Z, .inr (.inl ⟨a,cap,Z,Z⟩)⟩,by simp,by simp⟩
 have each:∀i,i<len->∃cs' y,w.cells? base (a.add (i * E.sz)) E.sz=some cs'∧DataW.trod enc P w base spare held n e cs'=some y:=by
  intro i hi
  have:=hel i hi
  have he:∃y,elems[i]?=some y:=⟨elems[i],by simp [hlen,hi]⟩
  obtain ⟨y,hy⟩:=he
  rw [hy] at this
  obtain ⟨cs',h1,h2⟩:=Option.bind_eq_some_iff.1 this
  exact ⟨cs',y,h1,h2⟩
 have hsp:a.spot=none:=by
  obtain ⟨cs',y,h1,_⟩:=each 0 (by omega)
  rw [Nat.zero_mul] at h1
  obtain ⟨_,hl,hc⟩:=World.cells?_some h1
  have:=hc 0 E.pos
  have hv:∃v,cs'[0]?=some v:=⟨cs'[0]'(by have:=E.pos;omega),by simp⟩
  obtain ⟨v,hv⟩:=hv
  rw [hv] at this
  have ha:(a.add 0).add 0=a:=by simp [Addr.add]
  rw [ha] at this
  unfold World.cell? at this
  split at this
  ·split at this
   ·cases this
   ·rename_i q;simpa using q
  ·cases this
 obtain ⟨b,off,spot⟩:=a
 simp only at hsp
 subst hsp
 obtain ⟨c,Te,fz,hb⟩:∃c Te fz,w.heap[b]?=some (.cells c Te fz):=by
  obtain ⟨cs',y,h1,_⟩:=each 0 (by omega)
  rw [Addr.add_lit] at h1
  obtain ⟨c,Te,fz,h2,_⟩:=QlH rfl h1 E.pos
  exact ⟨c,Te,fz,h2⟩
 obtain ⟨xs,hxl,hxr,hxw⟩:=Qis (E:=E) (WF:=WF) (s:=σH w) (l:=c.toList) len off (fun i hi=>by
  obtain ⟨cs',y,h1,h2⟩:=each i hi
  rw [Addr.add_lit] at h1
  obtain ⟨c',Te',fz',h3,h4⟩:=QlH rfl h1 E.pos
  simp only at h3 h4
  rw [hb] at h3
  cases h3
  obtain ⟨x,hx1,hx2⟩:=h enc w base spare held n cs' y h2
  rw [h4] at hx1
  exact ⟨x,hx1,hx2⟩)
 subst hxl
 refine ⟨xs,⟨_,Z, .inr (.inr ⟨b,off,cap,c,Te,fz,_,Z,hlc,hcm,hb,?_,hxr⟩)⟩,by omega,hxw⟩
 rw [hxr.len]
def GB (P:Program) (fs:List Field) (off:Nat) {α:Type} (E:Enc α) (WF:α->Prop):Prop :=
 ∀{H:Type} (enc:TypeId×Value->H) (w:World) (base:Nat) (spare:Nat->Bool) (held:Bool) (n:Nat) (cs:List Value),
  (∀f ∈ fs,∃y,DataW.trod enc P w base spare held n f.type ((cs.drop f.offset).take (P.cellsOf f.type))=some y)->cs.length=off+E.sz->∃a,E.rep (σH w) (cs.drop off) a∧WF a
theorem GB.one {α:Type} {E:Enc α} {WF:α->Prop} {f:Field} {off:Nat} (ho:f.offset=off) (hc:P.cellsOf f.type=E.sz) (h:G5 P f.type E WF):GB P [f] off E WF:=by
 intro H enc w base spare held n cs hy hl
 obtain ⟨y,hy⟩:=hy f (by simp)
 rw [ho,hc,X9 (by simp;omega)] at hy
 exact h enc w base spare held n _ y hy
theorem GB.cons {α β:Type} {A:Enc α} {B:Enc β} {WA:α->Prop} {WB:β->Prop} {f:Field} {fs:List Field} {off m:Nat} (ho:f.offset=off) (hc:P.cellsOf f.type=A.sz) (h:G5 P f.type A WA) (hm:off+A.sz=m) (hs:GB P fs m B WB) :
  GB P (f::fs) off (A.pair B) (fun p=>WA p.1∧WB p.2):=by
 intro H enc w base spare held n cs hy hl
 subst hm
 obtain ⟨y,hy1⟩:=hy f (by simp)
 rw [ho,hc] at hy1
 obtain ⟨a,ha,hwa⟩:=h enc w base spare held n _ y hy1
 obtain ⟨b,hb,hwb⟩:=hs enc w base spare held n cs (fun g hg=>hy g (by simp [hg])) (by rw [hl];exact (Nat.add_assoc _ _ _).symm)
 refine ⟨(a,b),⟨_,_,?_,ha,hb⟩,hwa,hwb⟩
 rw [<-List.drop_drop,List.take_append_drop]
theorem G5.struct {α β:Type} {E:Enc α} {WF:α->Prop} {fs:Array Field} {f:β->α} (g:α->β) (hT:P.underlying T=some (.struct fs)) (hc:P.cellsOf T=E.sz) (hfg:∀a,f (g a)=a) (h:GB P fs.toList 0 E WF) :
  G5 P T (Enc.iso E f) (fun b=>WF (f b)):=by
 intro H enc w base spare held fuel cs x hx
 obtain ⟨xs,n,_,_,hl,hxl,hf⟩:=DataW.trod_struct hT hx
 obtain ⟨a,h1,h2⟩:=h enc w base spare held n cs (fun fd hfd=>by
  obtain ⟨i,hi⟩:=List.mem_iff_getElem?.1 hfd
  have hi':fs[i]?=some fd:=by simpa using hi
  have hlt:i<xs.length:=by rw [hxl];exact (Array.getElem?_eq_some_iff.1 hi').1
  exact ⟨xs[i],by rw [hf i fd hi'];simp [hlt]⟩) (by rw [hl,hc,Nat.zero_add])
 refine ⟨g a,?_,by show WF (f (g a));rw [hfg];exact h2⟩
 show E.rep (σH w) cs (f (g a))
 rw [hfg]
 simpa using h1
theorem G5.arr {α:Type} {E:Enc α} {WF:α->Prop} {n:Nat} {hn:0<n} (hT:P.underlying T=some (.array n e)) (hc:P.cellsOf e=E.sz) (hcT:P.cellsOf T=n * E.sz) (h:G5 P e E WF):G5 P T (QoM n hn E) (fun xs=>xs.length=n∧∀x ∈ xs,WF x):=by
 intro H enc w base spare held fuel cs x hx
 obtain ⟨ys,m,_,_,hl,hyl,hf⟩:=DataW.trod_array hT hx
 obtain ⟨xs,h1,h2,h3⟩:=Qis (E:=E) (WF:=WF) (s:=σH w) (l:=cs) n 0 (fun i hi=>by
  have:=hf i hi
  have hy:ys[i]?=some (ys[i]'(by omega)):=by simp
  rw [hy,hc] at this
  rw [Nat.zero_add]
  exact h enc w base spare held m _ _ this)
 rw [List.drop_zero,X9 (by rw [hl,hcT];exact Xi _)] at h2
 exact ⟨xs,⟨h1,h2⟩,h1,h3⟩
/-! ### arguments -/
theorem Qx7 {n:Int} (h:(Lit.int .u8 n).wf=true):0<=n∧n<256:=by
 simp [Lit.wf,IntKind.min,IntKind.max,IntKind.bits,IntKind.signed] at h
 omega
theorem QmA {r:Reach} {w:World} {b0:Nat} {v:Value} (h:Value.okWide P w r b0 T v) (hs:∀fs,P.underlying T≠some (.struct fs)) (ha:∀n e,P.underlying T≠some (.array n e)):v.cells=#[v]:=by
 cases v with
 | agg cs =>
  exfalso
  unfold Value.okWide at h
  split at h
  ·rename_i fs hu;exact hs _ hu
  ·rename_i n e hu;exact ha _ _ hu
  ·unfold Cell.okWide at h
   split at h <;> simp_all
   unfold Cell.ok at h
   split at h <;> simp_all
 |_=>rfl
theorem Qpd {r:Reach} {w:World} {b0:Nat} {v:Value} (h:Value.okWide P w r b0 T v) (hT:(∃fs,P.underlying T=some (.struct fs))∨∃n e,P.underlying T=some (.array n e)):∃cs,v= .agg cs:=by
 unfold Value.okWide at h
 split at h
 ·exact ⟨_,h.choose_spec.1⟩
 ·exact ⟨_,h.choose_spec.1⟩
 ·rename_i h1 h2
  rcases hT with ⟨fs,hu⟩ |⟨n,e,hu⟩
  ·exact absurd hu (h1 fs)
  ·exact absurd hu (h2 n e)
section
variable {H:Type} {enc:TypeId×Value->H} {w:World} {base b0:Nat} {spare:Nat->Bool} {held:Bool} {r:Reach} {v:Value} {d:DataW H} {ps:List MemPlace} {α:Type} {E:Enc α} {WF:α->Prop}
theorem QpY (h:G5 P T E WF) (hs:∀fs,P.underlying T≠some (.struct fs)) (ha:∀n e,P.underlying T≠some (.array n e)) (hE:E.agg=false) (hok:Value.okWide P w r b0 T v) (ht:DataW.Trod enc P w base spare held T v d ps):∃a,E.val (σH w) v a∧WF a:=by
 obtain ⟨fuel,hf⟩:=ht
 obtain ⟨a,h1,h2⟩:=h enc w base spare held fuel _ _ hf
 rw [QmA hok hs ha] at h1
 refine ⟨a,?_,h2⟩
 unfold Enc.val
 rw [if_neg (by simp [hE])]
 exact h1
theorem QuP (h:G5 P T E WF) (hT:(∃fs,P.underlying T=some (.struct fs))∨∃n e,P.underlying T=some (.array n e)) (hE:E.agg=true) (hok:Value.okWide P w r b0 T v) (ht:DataW.Trod enc P w base spare held T v d ps):∃a,E.val (σH w) v a∧WF a:=by
 obtain ⟨fuel,hf⟩:=ht
 obtain ⟨a,h1,h2⟩:=h enc w base spare held fuel _ _ hf
 obtain ⟨cs,rfl⟩:=Qpd hok hT
 refine ⟨a,?_,h2⟩
 unfold Enc.val
 rw [if_pos hE]
 exact ⟨cs,Z,h1⟩
theorem QuO {k:IntKind} (hT:P.underlying T=some (.int k)) (hok:Value.okWide P w r b0 T v) (ht:DataW.Trod enc P w base spare held T v d ps):∃n,v= .int k n∧(Lit.int k n).wf=true:=by
 obtain ⟨a,h1,h2⟩:=QpY (G5.int hT) (by rw [hT];simp) (by rw [hT];simp) rfl hok ht
 exact ⟨a,Qo.1 h1,h2⟩
theorem QqY {e:TypeId} (hT:P.underlying T=some (.slice e)) (hc:P.cellsOf e=E.sz) (h:G5 P e E WF) (hok:Value.okWide P w r b0 T v) (ht:DataW.Trod enc P w base spare held T v d ps):∃xs,Ga E (σH w) v xs∧xs.length<=maxLen∧∀x ∈ xs,WF x:=by
 obtain ⟨a,h1,h2⟩:=QpY (G5.slice hT hc h) (by rw [hT];simp) (by rw [hT];simp) rfl hok ht
 exact ⟨a,Q5.1 h1,h2⟩
theorem Qo0 {W W':World} {s:Gc} {X:List Res} (hS:St W s X W') (hle:Gc.le (σH W) s):Below W.heap.size W W' where
 os:=hS.os
 tape:=hS.tape
 output:=hS.output
 size:=hS.size
 block k hk:=by
  have e:W.heap[k]?=some W.heap[k]:=by simp [hk]
  rw [e]
  exact hS.stay k _ (hle k _ e)
end
end
end Go.Pw
/- -/
set_option linter.unusedSimpArgs false
set_option linter.unusedSectionVars false
namespace Go.Pw
open Go.Proofs Go.Shelf Go.RowKit Go.Lib Go.Sort
section
variable {α:Type} [Inhabited α] {E:Enc α} {enc:α->List Value} {k:Nat}
theorem Qgq {s:Gc} (hrep:∀s cs x,E.rep s cs x↔cs=enc x):∀xs:List α,G7 E s (xs.map enc).flatten xs
 |[]=>rfl
 |x::xs=>⟨enc x,_,by simp,(hrep _ _ _).2 rfl,Qgq hrep xs⟩
theorem Qjq {s:Gc} (hrep:∀s cs x,E.rep s cs x↔cs=enc x):∀{xs:List α} {cells:List Value},G7 E s cells xs->cells=(xs.map enc).flatten
 |[],_,h=>h
 |x::xs,_,⟨c,r,e,h1,h2⟩=>by rw [e,(hrep _ _ _).1 h1,Qjq hrep h2];simp
theorem Qkq (hk:∀x,(enc x).length=k):∀xs:List α,(xs.map enc).flatten.length=xs.length * k
 |[]=>by simp
 |x::xs=>by simp only [Xv,List.flatten_cons,Xt,hk,Qkq hk xs,Xw,Nat.add_mul];omega
theorem Qkr (hk:∀x,(enc x).length=k):∀(xs:List α) (t:Nat),t<xs.length * k->((xs.map enc).flatten)[t]?=some ((enc (xs[t / k]!))[t % k]!)
 |[],t,h=>by simp at h
 | x::xs,t,h=>by
  have hk0:0<k:=Nat.pos_of_ne_zero (by rintro rfl;simp at h)
  rw [Xv,List.flatten_cons]
  by_cases hlt:t<k
  ·rw [Xs (by rw [hk];exact hlt),Nat.div_eq_of_lt hlt,Nat.mod_eq_of_lt hlt]
   have:t<(enc x).length:=by rw [hk];exact hlt
   simp [this]
  ·have hge:k<=t:=by omega
   rw [Xy (by rw [hk];exact hge),hk,Qkr hk xs (t - k) (by rw [Xw,Nat.add_mul] at h;omega)]
   have e1:t / k=(t - k) / k+1:=by rw [<-Nat.sub_add_cancel hge,Nat.add_div_right _ hk0,Nat.add_sub_cancel]
   have e2:t % k=(t - k) % k:=by rw [Nat.mod_eq_sub_mod hge]
   rw [e1,e2]
   simp
end
theorem Qpj {W w':World} {s':Gc} (hle:Gc.le (σH W) s') (hS:St W s' [] w'):∃q os',w'=grow (W.drewN q) os':=by
 refine ⟨w'.drawn - W.drawn,w'.heap.extract W.heap.size w'.heap.size,?_⟩
 have hh:w'.heap=W.heap++w'.heap.extract W.heap.size w'.heap.size:=by
  apply Array.ext_getElem?
  intro b
  have hsz:=hS.size
  by_cases hb:b<W.heap.size
  ·rw [Array.getElem?_append_left hb]
   obtain ⟨o,ho⟩:∃o,W.heap[b]?=some o:=⟨W.heap[b],by simp [hb]⟩
   rw [ho]
   exact hS.stay b o (hle b o ho)
  ·rw [Array.getElem?_append_right (by omega)]
   by_cases hb2:b<w'.heap.size
   ·rw [Array.getElem?_extract]
    rw [if_pos (by omega)]
    congr 1
    omega
   ·rw [Array.getElem?_eq_none (by omega),Array.getElem?_eq_none (by simp;omega)]
 obtain ⟨h1,h2,h3,h4,h5⟩:=w'
 have e1:=hS.os
 have e2:=hS.tape
 have e3:=hS.output
 have e4:=hS.drawn
 simp only at e1 e2 e3 e4 hh
 unfold grow World.drewN
 simp only [World.mk.injEq]
 exact ⟨hh,e2,by omega,e1,e3⟩
section
variable {P:Program} {ρ:Ren} {α:Type} [Inhabited α] {E:Enc α} {enc:α->List Value} {k:Nat} {w w0:World} {s:Gc} {H:List Res} {Te:TypeId} {v:Value} {xs:List α}
theorem Qnt (L:SlLaysF0.n6 P ρ) (aE:∀w,(isAgg (ρ.t 24)).run P w= .ok true w) (zE:∀w,(Go.sizeOf (ρ.t 24)).run P w= .ok k w) (_hk0:0<k) (hk:∀x,(enc x).length=k) (h1:∀x,∀v ∈ enc x,v.oneCell'=true) (hrep:∀s cs x,E.rep s cs x↔cs=enc x) (hE:E.sz=k)
  (cf:α->α->Int) (hO:SWO (ltOf cf)) (g:Nat) (eg:∀args w,(callFunc g args).run P w= .ok (.enter g args) w)
  (hcmp:∀(W:World) (x y:α),Calls P g #[.agg (enc x).toArray, .agg (enc y).toArray] W fun e w'=>∃v,e= .returned v∧∃s',Gc.le (σH W) s'∧St W s' [] w'∧v= .int .i64 (cf x y))
  (hlen:xs.length<4611686018427387904) (hS:St w0 s (.arr E Te v xs::H) w) :
  Calls P (ρ.f 6) #[v, .func (.func g) #[] #[]] w fun e w'=>e= .returned (.tuple #[])∧St w0 s (.arr E Te v (QkX (ltOf cf) xs)::H) w':=by
 have hS0:=hS
 obtain ⟨bs,hn,hs,b1,b2,e,⟨cells,h2,h3,rfl⟩,h4⟩:=hS.own
 rcases h3.2 with ⟨rfl,hx⟩ |⟨gb,cap,cur,rfl,_,hg,hnc,hcm,hcs,htake⟩
 ·have hx0:xs=[]:=List.eq_nil_of_length_eq_zero hx
  subst hx0
  refine (AnyF.slices_SortFunc_none L none 0 _ w).mono ?_
  rintro e w' ⟨rfl,rfl⟩
  exact ⟨Z,by rw [List.perm_nil.1 (Qit hO ([]:List α))];exact hS0⟩
 ·have hcells:=Qjq hrep h2
  have hsz:cur.size=cap * k:=by rw [hcs,hE]
  have hle:xs.length * k<=cur.size:=by rw [hsz];exact Nat.mul_le_mul_right _ hnc
  have hblk:gb<w.heap.size:=(Array.getElem?_eq_some_iff.1 hg).1
  have hH:HoldsK enc k w gb 0 xs.toArray:=by
   intro j hj
   have hj':j<xs.length * k:=by simpa using hj
   refine ⟨?_,by simp [World.frozen?,hg]⟩
   rw [hE] at htake
   have h5:(cur.toList.take (xs.length * k))[j]?=cells[j]?:=by rw [htake]
   rw [List.getElem?_take_of_lt hj',hcells,Qkr hk xs j hj'] at h5
   simp only [World.cell?,hg,Nat.zero_add,Option.isSome_none,Xf,if_false]
   rw [<-Array.getElem?_toList,h5,get_flatK enc k xs.toArray j (by simpa using hj')]
   simp
  have hlays:CmpLays P g #[] enc k cf gb 0 xs.toArray.size w:=by
   intro m os dk _ x y
   refine (hcmp _ x y).mono ?_
   rintro e w' ⟨v,rfl,s',hle,hSt,rfl⟩
   exact ⟨Z,Qpj hle hSt⟩
  have hcon:=AnyQ.slices_SortFunc_eq L k aE zE enc hk h1 cf hO g #[] gb 0 cap xs.toArray w eg hlays hH hblk (by simpa using hlen)
  have harg:xs.toArray.size=xs.length:=by simp
  rw [harg] at hcon
  refine hcon.mono ?_
  rintro e w' ⟨rfl,n,os,hw⟩
  refine ⟨Z,?_⟩
  have hyl:(QkX (ltOf cf) xs).length=xs.length:=(Qit hO xs).length_eq
  have hys:Sort.pdq (ltOf cf) xs.toArray 0 xs.length (Lib.bitLen xs.length) true true=(QkX (ltOf cf) xs).toArray:=rfl
  rw [hys] at hw
  generalize QkX (ltOf cf) xs=ys at hw hyl
  have hheap:w'.heap[gb]?=some (.cells (putCells id 0 (flatK enc k ys.toArray) cur) Te (0,0)):=by
   rw [hw]
   unfold sortWorldK putRowK
   rw [heap_grow_old _ _ (by simpa using hblk)]
   simp [putRow,mapBlock,Sort.ahead,Array.getElem?_modify,hg,onCells]
  have hother:∀b,b<w.heap.size->b≠gb->w'.heap[b]?=w.heap[b]?:=by
   intro b hb hne
   rw [hw]
   unfold sortWorldK putRowK
   rw [heap_grow_old _ _ (by simpa using hb)]
   simp [putRow,mapBlock,Sort.ahead,Array.getElem?_modify,Ne.symm hne]
  have hsize:w.heap.size<=w'.heap.size:=by rw [hw];unfold sortWorldK putRowK grow;simp [Sort.ahead]
  refine hS0.turn (by rw [hw];rfl) (by rw [hw];rfl) (by rw [hw];rfl) (by rw [hw];unfold sortWorldK putRowK grow;simp [Sort.ahead,putRow,mapBlock]) hsize ?_
  rintro c1 ⟨_,_,_,rfl⟩
  refine ⟨[gb],⟨(ys.map enc).flatten,Qgq hrep ys,⟨by rw [hE];exact Qkq hk ys, .inr ⟨gb,cap,putCells id 0 (flatK enc k ys.toArray) cur,by rw [hyl],X7 _,hheap,by rw [hyl];exact hnc,hcm,by simp [putCells,hcs],?_⟩⟩,by simp [Value.ownBlock]⟩,by simp,fun x hx=> .inl (by simpa [Value.ownBlock] using hx),fun x hx hne=>hother x hx (by simpa [Value.ownBlock] using hne)⟩
  rw [hE]
  apply List.ext_getElem?
  intro j
  by_cases hj:j<ys.length * k
  ·rw [List.getElem?_take_of_lt hj,Array.getElem?_toList,Qkr hk ys j hj]
   have hj2:j<cur.size:=by rw [hyl] at hj;omega
   simp only [putCells,Array.getElem?_mapIdx,X7,Nat.zero_add,size_flatK,List.size_toArray,true_and]
   simp only [hj2,Array.getElem?_eq_getElem,Option.map_some,hj,if_true,Nat.sub_zero,id]
   rw [get_flatK enc k ys.toArray j (by simpa using hj)]
   simp
  ·rw [List.getElem?_take_eq_none (by omega),X3 (by rw [Qkq hk];omega)]
theorem Qnu (L:SlLaysF0.n6 P ρ) (aE:∀w,(isAgg (ρ.t 24)).run P w= .ok true w) (zE:∀w,(Go.sizeOf (ρ.t 24)).run P w= .ok k w) (_hk0:0<k) (hk:∀x,(enc x).length=k) (h1:∀x,∀v ∈ enc x,v.oneCell'=true) (hrep:∀s cs x,E.rep s cs x↔cs=enc x) (hE:E.sz=k)
  (cf:α->α->Int) (hO:SWO (ltOf cf)) (g:Nat) (eg:∀args w,(callFunc g args).run P w= .ok (.enter g args) w)
  (hcmp:∀(W:World) (x y:α),Calls P g #[.agg (enc x).toArray, .agg (enc y).toArray] W fun e w'=>∃v,e= .returned v∧∃s',Gc.le (σH W) s'∧St W s' [] w'∧v= .int .i64 (cf x y))
  (hT:∀x y,(ltOf cf) x y=false->(ltOf cf) y x=false->x=y) (hlen:xs.length<4611686018427387904) (hS:St w0 s (.arr E Te v xs::H) w) :
  Calls P (ρ.f 6) #[v, .func (.func g) #[] #[]] w fun e w'=>e= .returned (.tuple #[])∧St w0 s (.arr E Te v (xs.mergeSort fun x y=>!(ltOf cf) y x)::H) w':=by
 have h:=pdq_sorts (ltOf cf) hO xs.toArray 0 xs.toArray.size (Lib.bitLen xs.length) true true (X7 _) (Xi _) (Or.inl rfl)
 have e:QkX (ltOf cf) xs=xs.mergeSort fun x y=>!(ltOf cf) y x:=by simpa [QkX] using sorted_unique_holds hO hT xs.toArray _ h.1 h.2
 rw [<-e]
 exact Qnt L aE zE _hk0 hk h1 hrep hE cf hO g eg hcmp hlen hS
end
end Go.Pw
/- -/
set_option linter.unusedVariables false
namespace Go.Pw
open Go.Proofs Go.Shelf Go.RowKit Go.Lib Go.Sort
section
variable {P:Program} {ρ:Ren} {w w0:World} {s:Gc} {H:List Res} {Te:TypeId} {v:Value} {xs:List Int}
theorem Qq2 (L:Lays.n189 P ρ) (hlen:xs.length<4611686018427387904) (hS:St w0 s (.arr (Qc .i64) Te v xs::H) w) :
  Calls P (ρ.f 189) #[v] w fun e w'=>e= .returned (.tuple #[])∧St w0 s (.arr (Qc .i64) Te v (xs.mergeSort fun x y=>decide (x<=y))::H) w':=by
 have hS0:=hS
 have hrep:∀(s:Gc) (cs:List Value) (x:Int),(Qc .i64).rep s cs x↔cs=[Value.int .i64 x]:=fun s cs x=>Iff.rfl
 have hk:∀x:Int,([Value.int .i64 x]:List Value).length=1:=fun _=>rfl
 have hflat:∀l:List Int,(l.map fun x=>([Value.int .i64 x]:List Value)).flatten=l.map (Value.int .i64):=by
  intro l
  induction l with
  |nil=>rfl
  |cons x l ih=>simp [ih]
 obtain ⟨bs,hn,hs,b1,b2,e,⟨cells,h2,h3,rfl⟩,h4⟩:=hS.own
 rcases h3.2 with ⟨rfl,hx⟩ |⟨gb,cap,cur,rfl,_,hg,hnc,hcm,hcs,htake⟩
 ·have hx0:xs=[]:=List.eq_nil_of_length_eq_zero hx
  subst hx0
  refine (Any.slices_Sort_int_none L none 0 w).mono ?_
  rintro e w' ⟨rfl,rfl⟩
  exact ⟨Z,by simpa using hS0⟩
 ·have hcells:=Qjq (enc:=fun x=>[Value.int .i64 x]) hrep h2
  rw [hflat] at hcells
  have hE:(Qc .i64).sz=1:=rfl
  rw [hE,Nat.mul_one] at hcs htake
  have hle:xs.length<=cur.size:=by omega
  have hblk:gb<w.heap.size:=(Array.getElem?_eq_some_iff.1 hg).1
  have hH:Holds (Value.int .i64) w gb 0 xs.toArray:=by
   intro j hj
   have hj':j<xs.length:=by simpa using hj
   refine ⟨?_,by simp [World.frozen?,hg]⟩
   have h5:(cur.toList.take xs.length)[j]?=cells[j]?:=by rw [htake]
   rw [List.getElem?_take_of_lt hj',hcells] at h5
   simp only [World.cell?,hg,Nat.zero_add,Option.isSome_none,Xf,if_false]
   rw [<-Array.getElem?_toList,h5]
   simp [hj']
  refine (Any.slices_Sort_int L gb 0 cap xs w hH hblk hlen).mono ?_
  rintro e w' ⟨rfl,n,os,hw⟩
  refine ⟨Z,?_⟩
  generalize hys:(xs.mergeSort fun x y=>decide (x<=y))=ys at hw ⊢
  have hyl:ys.length=xs.length:=by rw [<-hys,List.length_mergeSort]
  have hheap:w'.heap[gb]?=some (.cells (putCells (Value.int .i64) 0 ys.toArray cur) Te (0,0)):=by
   rw [hw]
   rw [heap_grow_old _ _ (by simpa [putRow,mapBlock,Sort.ahead] using hblk)]
   simp [putRow,mapBlock,Sort.ahead,Array.getElem?_modify,hg,onCells]
  have hother:∀b,b<w.heap.size->b≠gb->w'.heap[b]?=w.heap[b]?:=by
   intro b hb hne
   rw [hw]
   rw [heap_grow_old _ _ (by simpa [putRow,mapBlock,Sort.ahead] using hb)]
   simp [putRow,mapBlock,Sort.ahead,Array.getElem?_modify,Ne.symm hne]
  have hsize:w.heap.size<=w'.heap.size:=by rw [hw];unfold grow;simp [Sort.ahead,putRow,mapBlock]
  refine hS0.turn (by rw [hw];rfl) (by rw [hw];rfl) (by rw [hw];rfl) (by rw [hw];unfold grow;simp [Sort.ahead,putRow,mapBlock]) hsize ?_
  rintro c1 ⟨_,_,_,rfl⟩
  refine ⟨[gb],⟨ys.map (Value.int .i64),by rw [<-hflat];exact Qgq (enc:=fun x=>[Value.int .i64 x]) hrep ys,⟨by rw [hE];simp, .inr ⟨gb,cap,putCells (Value.int .i64) 0 ys.toArray cur,by rw [hyl],X7 _,hheap,by rw [hyl];exact hnc,hcm,by simp [putCells,hcs,hE],?_⟩⟩,by simp [Value.ownBlock]⟩,by simp,fun x hx=> .inl (by simpa [Value.ownBlock] using hx),fun x hx hne=>hother x hx (by simpa [Value.ownBlock] using hne)⟩
  rw [hE,Nat.mul_one]
  apply List.ext_getElem?
  intro j
  by_cases hj:j<ys.length
  ·rw [List.getElem?_take_of_lt hj,Array.getElem?_toList]
   have hj2:j<cur.size:=by omega
   simp only [putCells,Array.getElem?_mapIdx,X7,Nat.zero_add,List.size_toArray,true_and]
   simp only [hj2,Array.getElem?_eq_getElem,Option.map_some,hj,if_true,Nat.sub_zero]
   simp [hj]
  ·rw [List.getElem?_take_eq_none (by omega),X3 (by simp;omega)]
end
end Go.Pw
/- -/
namespace Go.Pw
open Go.Proofs Go.Shelf Go.RowKit Go.Lib Go.Sort
def Qxi (P:Program) (i:Nat):String:=((P.funcs[i]?).map Func.name).getD ""
theorem Qmg {P:Program} {i:Nat} {Q:String->Prop} {mk:String->Func} (h:P.funcs[i]?=some (mk (Qxi P i))) (h2:Q (Qxi P i)):∃n,Q n∧P.funcs[i]?=some (mk n):=⟨_,h2,h⟩
def QqC:Go.Shelf.Ren:=⟨fun |189=>48 |125=>105 |257=>104 |128=>166 |129=>167 |294=>157 |295=>158 |296=>159 |297=>160 |298=>161 |299=>162 |216=>163 |300=>164 |301=>165 |328=>245 |329=>246 |330=>247 |331=>248 |332=>249 |215=>109 |343=>371 |n=>n,fun |28=>22 |3=>3 |46=>212 |0=>0 |51=>289 |53=>291 |4=>4 |183=>281 |182=>280 |131=>286 |5=>5 |9=>9 |218=>374 |222=>378 |228=>495 |229=>496 |n=>n,fun |n=>n⟩
theorem QxI:Lays.n189 Tryz.prog QqC:=by
 constructor <;> first |(intro _;kernel_rfl) |kernel_rfl |exact Qmg (by kernel_rfl) (by decide +kernel)
def Ql9:Go.Shelf.Ren:=⟨fun |6=>54 |15=>105 |14=>108 |28=>166 |29=>167 |20=>170 |21=>171 |22=>172 |23=>173 |24=>174 |25=>175 |26=>176 |27=>177 |46=>250 |47=>246 |48=>247 |49=>251 |50=>252 |57=>372 |n=>n,fun |22=>27 |24=>43 |25=>132 |3=>3 |39=>212 |0=>0 |53=>289 |55=>291 |4=>4 |46=>281 |45=>280 |50=>286 |5=>5 |9=>9 |66=>374 |70=>378 |76=>495 |77=>496 |n=>n,fun |n=>n⟩
theorem QxH:SlLaysF0.n6 Tryz.prog Ql9:=by
 constructor <;> first |(intro _;kernel_rfl) |kernel_rfl |exact Qmg (by kernel_rfl) (by decide +kernel)
def Ql8:Go.Shelf.Ren:=⟨fun |6=>62 |15=>105 |14=>114 |28=>166 |29=>167 |20=>181 |21=>182 |22=>183 |23=>184 |24=>185 |25=>186 |26=>187 |27=>188 |46=>255 |47=>246 |48=>247 |49=>256 |50=>257 |57=>373 |n=>n,fun |22=>35 |24=>78 |25=>141 |3=>3 |39=>212 |0=>0 |53=>289 |55=>291 |4=>4 |46=>281 |45=>280 |50=>286 |5=>5 |9=>9 |66=>374 |70=>378 |76=>495 |77=>496 |n=>n,fun |n=>n⟩
theorem QxG:SlLaysF0.n6 Tryz.prog Ql8:=by
 constructor <;> first |(intro _;kernel_rfl) |kernel_rfl |exact Qmg (by kernel_rfl) (by decide +kernel)
def Ql7:Go.Shelf.Ren:=⟨fun |6=>86 |15=>105 |14=>125 |28=>166 |29=>167 |20=>191 |21=>192 |22=>193 |23=>194 |24=>195 |25=>196 |26=>197 |27=>198 |46=>259 |47=>246 |48=>247 |49=>260 |50=>261 |57=>375 |n=>n,fun |22=>23 |24=>82 |25=>170 |3=>3 |39=>212 |0=>0 |53=>289 |55=>291 |4=>4 |46=>281 |45=>280 |50=>286 |5=>5 |9=>9 |66=>374 |70=>378 |76=>495 |77=>496 |n=>n,fun |n=>n⟩
theorem QxF:SlLaysF0.n6 Tryz.prog Ql7:=by
 constructor <;> first |(intro _;kernel_rfl) |kernel_rfl |exact Qmg (by kernel_rfl) (by decide +kernel)
end Go.Pw
