/- -/
import Derived.Test.YtalfjlihddgooaaGreatDoorBa
import GoSem.Core.Value
import Derived.IntWalk
import Derived.WalkKit
namespace Go.Pw
universe u
theorem Z.{zu} {α:Sort zu} {a:α}:a=a:=rfl
abbrev Vs:Option Addr->Nat->Nat->Value:=Value.slice
abbrev Vb:Bool->Value:=Value.bool
abbrev Vp:Option Addr->Value:=Value.pointer
abbrev Vq (b:Nat):Value:=Value.pointer (some ⟨b,0,none⟩)
abbrev Vn:Value:=Value.slice none 0 0
theorem Zu {α:Type} {a b:α} (h:some a=some b):a=b:=Option.some.inj h
theorem Zx {a b:Bool} (h:a=b):Value.bool a=Value.bool b:=congrArg Value.bool h
abbrev O:Int->Value:=Value.int IntKind.i64
def idx {α:Type} (xs:List α) (n:Int):Option α:=if 0<=n then xs[n.toNat]? else none
def QbN {α:Type} (xs:List α) (n:Int) (y:α):Option (List α):=if 0<=n∧n.toNat<xs.length then some (xs.set n.toNat y) else none
def app {α:Type} (b:Nat) (xs ys:List α):Option (List α):=if (xs.length+ys.length) * b<=140737488355328 then some (xs++ys) else none
def mk {α:Type} (b:Nat) (z:α) (n:Int):Option (List α):=if 0<=n∧b * n.toNat<=281474976710656∧n<=9223372036854775807 then some (List.replicate n.toNat z) else none
def cut {α:Type} (xs:List α) (l h:Int):Option (List α):=if 0<=l∧l<=h∧h<=xs.length then some ((xs.take h.toNat).drop l.toNat) else none
def must (b:Bool):Option Unit:=if b then some () else none
inductive Ctl (S R:Type) where
 |next (s:S)
 |brk (s:S)
 |ret (r:R)
def Jf {S R:Type} (B:Nat->S->Option (Ctl S R)):Nat->Nat->S->Option (Ctl S R)
 |0,_,s=>some (.next s)
 |k+1,i,s=>match B i s with
  |some (.next s')=>Jf B k (i+1) s'
  |r=>r
def forS {S:Type} (B:Nat->S->Option S):Nat->Nat->S->Option S
 |0,_,s=>some s
 |k+1,i,s=>(B i s).bind fun s'=>forS B k (i+1) s'
def QbZ {S R:Type} (B:S->Option (Ctl S R)):Nat->S->Option (Ctl S R)
 |0,_=>none
 |k+1,s=>match B s with
  |some (.next s')=>QbZ B k s'
  |r=>r
open Classical in
noncomputable def Yw {S R:Type} (B:S->Option (Ctl S R)) (s:S):Option (Ctl S R) :=
 if h:∃k c,QbZ B k s=some c then some h.choose_spec.choose else none
section
variable {S R:Type} {B:S->Option (Ctl S R)}
theorem Qha:∀{k:Nat} {s:S} {c:Ctl S R},QbZ B k s=some c->∀j,QbZ B (k+j) s=some c
 |0,_,_,h,_=>by simp [QbZ] at h
 |k+1,s,c,h,j=>by
  rw [Nat.add_right_comm]
  simp only [QbZ] at h ⊢
  split at h
  ·exact Qha h j
  ·exact h
theorem QqG {j k:Nat} {s:S} {c d:Ctl S R} (h:QbZ B j s=some c) (h':QbZ B k s=some d):c=d:=by
 have h1:=Qha h k
 have h2:=Qha h' j
 rw [Nat.add_comm] at h2
 rw [h1] at h2
 exact Zu h2
theorem Qip {k:Nat} {s:S} {c:Ctl S R} (h:QbZ B k s=some c):Yw B s=some c:=by
 have hex:∃k c,QbZ B k s=some c:=⟨k,c,h⟩
 unfold Yw
 rw [dif_pos hex]
 exact congrArg some (QqG hex.choose_spec.choose_spec h)
theorem Qob {s:S} {c:Ctl S R} (h:Yw B s=some c):∃k,QbZ B k s=some c:=by
 unfold Yw at h
 split at h
 ·rename_i hex
  have:=Zu h
  exact ⟨hex.choose,by rw [hex.choose_spec.choose_spec,this]⟩
 ·cases h
theorem Qoc {s s':S} (h:B s=some (.next s')):Yw B s=Yw B s':=by
 by_cases hex:∃k c,QbZ B k s'=some c
 ·obtain ⟨k,c,hk⟩:=hex
  rw [Qip hk]
  exact Qip (k:=k+1) (by simp only [QbZ,h];exact hk)
 ·have:¬∃k c,QbZ B k s=some c:=by
   rintro ⟨k,c,hk⟩
   cases k with
   |zero=>simp [QbZ] at hk
   |succ k=>simp only [QbZ,h] at hk;exact hex ⟨k,c,hk⟩
  unfold Yw
  rw [dif_neg hex,dif_neg this]
theorem QfK {s:S} {c:Ctl S R} (h:B s=some c) (hc:∀s',c≠ .next s'):Yw B s=some c :=
 Qip (k:=1) (by simp only [QbZ,h];cases c <;> first |rfl |exact absurd rfl (hc _))
end
theorem Zg {α β:Type} {x:Option α} {f:α->Option β} {r:β} (h:x.bind f=some r):∃a,x=some a∧f a=some r:=by
 cases x with
 |none=>cases h
 |some a=>exact ⟨a,rfl,h⟩
theorem Qbn {b:Bool} {u:Unit} (h:must b=some u):b=true:=by
 unfold must at h;split at h <;> simp_all
theorem QhK {α:Type} {b:Nat} {xs ys zs:List α} (h:app b xs ys=some zs):(xs.length+ys.length) * b<=140737488355328∧zs=xs++ys:=by
 unfold app at h;split at h
 ·rename_i hb;exact ⟨hb,(Zu h).symm⟩
 ·cases h
theorem Quk {α:Type} {b:Nat} {z:α} {n:Int} {zs:List α} (h:mk b z n=some zs):0<=n∧b * n.toNat<=281474976710656∧n<=9223372036854775807∧zs=List.replicate n.toNat z:=by
 unfold mk at h;split at h
 ·rename_i hb;exact ⟨hb.1,hb.2.1,hb.2.2,(Zu h).symm⟩
 ·cases h
theorem Qj {α:Type} {xs:List α} {n:Int} {y:α} (h:idx xs n=some y):0<=n∧n<xs.length∧xs[n.toNat]?=some y:=by
 unfold idx at h;split at h
 ·rename_i h0
  have:=(Xj.1 h).1
  exact ⟨h0,by omega,h⟩
 ·cases h
theorem Qgn {α:Type} {xs zs:List α} {n:Int} {y:α} (h:QbN xs n y=some zs):0<=n∧n.toNat<xs.length∧zs=xs.set n.toNat y:=by
 unfold QbN at h;split at h
 ·rename_i h0;exact ⟨h0.1,h0.2,(Zu h).symm⟩
 ·cases h
theorem QnP {α:Type} {xs zs:List α} {l r:Int} (h:cut xs l r=some zs):0<=l∧l<=r∧r<=xs.length∧zs=(xs.take r.toNat).drop l.toNat:=by
 unfold cut at h;split at h
 ·rename_i h0;exact ⟨h0.1,h0.2.1,h0.2.2,(Zu h).symm⟩
 ·cases h
abbrev J5 {α1 α2:Type} {δ:Sort u} (f:α1->α2->δ) (t:α1×α2):δ:=f t.1 t.2
theorem QC {α1 α2:Type} {δ:Sort u} {f:α1->α2->δ} {a1:α1} {a2:α2} {r:δ} (h:J5 f (a1,a2)=r):f a1 a2=r:=h
abbrev un3 {α1 α2 α3:Type} {δ:Sort u} (f:α1->α2->α3->δ) (t:α1×α2×α3):δ:=f t.1 t.2.1 t.2.2
theorem QlX {α1 α2 α3:Type} {δ:Sort u} {f:α1->α2->α3->δ} {a1:α1} {a2:α2} {a3:α3} {r:δ} (h:un3 f (a1,a2,a3)=r):f a1 a2 a3=r:=h
abbrev un4 {α1 α2 α3 α4:Type} {δ:Sort u} (f:α1->α2->α3->α4->δ) (t:α1×α2×α3×α4):δ:=f t.1 t.2.1 t.2.2.1 t.2.2.2
theorem QrS {α1 α2 α3 α4:Type} {δ:Sort u} {f:α1->α2->α3->α4->δ} {a1:α1} {a2:α2} {a3:α3} {a4:α4} {r:δ} (h:un4 f (a1,a2,a3,a4)=r):f a1 a2 a3 a4=r:=h
def ctl {S R β:Type} (x:Option (Ctl S R)) (kr:R->Option β) (k:S->Option β):Option β:=x.bind fun c=>match c with | .ret r=>kr r | .next s=>k s | .brk s=>k s
theorem Qkw {S R β:Type} {x:Option (Ctl S R)} {kr:R->Option β} {k:S->Option β} {r:β} (h:ctl x kr k=some r) :
  ∃c,x=some c∧(∀q,c= .ret q->kr q=some r)∧(∀s,c= .next s->k s=some r)∧(∀s,c= .brk s->k s=some r):=by
 obtain ⟨c,h1,h2⟩:=Zg h
 refine ⟨c,h1,?_,?_,?_⟩ <;> (rintro _ rfl;exact h2)
def Qrp {α β:Type} (o:Option α) (kn:Option β) (ks:α->Option β):Option β:=match o with |none=>kn |some d=>ks d
end Go.Pw
/- -/
namespace Go.Pw
abbrev Fr:=Nat->Value
theorem Qep {m n:Nat}:Nat.beq m n=false↔m≠n:=by
 cases h:Nat.beq m n with
 |true=>simp [Xh h]
 |false=>simp;exact Nat.ne_of_beq_eq_false h
def upd (f:Fr) (n:Nat) (v:Value):Fr:=fun m=>bif Nat.beq m n then v else f m
def JU (f:Fr) (d:Option Nat) (v:Value):Fr:=match d with |some n=>upd f n v |none=>f
theorem QfE (f:Fr) (n:Nat) (v:Value):upd f n v n=v:=by simp [upd]
theorem Qek (f:Fr) {n m:Nat} (v:Value) (h:m≠n):upd f n v m=f m:=by
 have:Nat.beq m n=false:=Qep.2 h
 simp [upd,this]
def ev (f:Fr):Operand->Value
 | .tmp t=>f t
 | .const v=>v
 | .global g=> .pointer (some ⟨g,0,none⟩)
 | .func k=> .func (.func k) #[] #[]
structure Fits (N:Nat) (a:Act) (f:Fr):Prop where
 nodefer:a.defers=[]
 size:a.tmps.size=N
 get:∀n,a.tmps.getD n undef=f n
theorem Fits.eval {N:Nat} {a:Act} {f:Fr} (h:Fits N a f):a.eval=ev f:=by
 funext x
 cases x with
 |tmp t=>exact h.get t
 |_=>rfl
def Qb1 (N:Nat):Option Nat->Bool |some d=>Nat.blt d N |none=>true
theorem Fits.put {N:Nat} {a:Act} {f:Fr} (h:Fits N a f) {d:Option Nat} (hd:Qb1 N d=true) (v:Value):Fits N (a.put d v) (JU f d v):=by
 cases d with
 |none=>exact h
 | some d =>
  have hlt:d<N:=by simpa [Qb1,Nat.blt_eq] using hd
  refine ⟨h.nodefer,by simpa [Act.put] using h.size,fun n=>?_⟩
  by_cases e:n=d
  ·subst e
   simp [Act.put,JU,upd,h.size,hlt]
  ·have:=h.get n
   simp only [JU,Qek _ _ e]
   rw [<-this]
   simp [Act.put,Array.getElem?_setIfInBounds_ne (Ne.symm e)]
abbrev QbB:=Exit->Fr->World->Prop
def QgO (N:Nat) (Q:QbB):Exit->Act->World->Prop:=fun e a w=>∃f,Fits N a f∧Q e f w
def W (P:Program) (N:Nat) (c:Code) (Q:QbB) (f:Fr) (w:World):Prop:=∀a,Fits N a f->c.wp P (QgO N Q) a w
def Exec (P:Program) (ρ:Operand->Value) (o:Oper) (w:World) (K:Value->World->Prop):Prop :=
 match (execOp ρ o).run P w with
 | .ok (.value v) w'=>K v w'
 | .ok .skip w'=>K undef w'
 | .ok (.enter f args) w'=>Calls P f args w' (fun e w''=>∃v,e= .returned v∧K v w'')
 |_=>False
theorem Exec.mono {P:Program} {ρ:Operand->Value} {o:Oper} {w:World} {K K':Value->World->Prop} (h:Exec P ρ o w K) (hk:∀v w',K v w'->K' v w'):Exec P ρ o w K':=by
 unfold Exec at *
 split at h <;> first
  |exact hk _ _ h
  |exact h.mono fun e w'' ⟨v,he,hv⟩=>⟨v,he,hk _ _ hv⟩
  |exact h.elim
theorem Exec.of_run {P:Program} {ρ:Operand->Value} {o:Oper} {w w':World} {K:Value->World->Prop} {v:Value} (h:(execOp ρ o).run P w= .ok (.value v) w') (hk:K v w'):Exec P ρ o w K:=by
 unfold Exec;rw [h];exact hk
theorem Exec.of_skip {P:Program} {ρ:Operand->Value} {o:Oper} {w w':World} {K:Value->World->Prop} (h:(execOp ρ o).run P w= .ok .skip w') (hk:K undef w'):Exec P ρ o w K:=by
 unfold Exec;rw [h];exact hk
theorem QgV {P:Program} {o:Oper} {a:Act} {w:World} {K:Act->World->Prop} {Q:Exit->Act->World->Prop} (h:Exec P a.eval o w fun v w'=>K (a.put o.dst v) w'):o.wp P a w K Q:=by
 unfold Exec at h
 unfold Oper.wp
 generalize (execOp a.eval o).run P w=r at *
 split at h
 ·exact h
 ·exact h
 ·exact h.mono fun e w'' ⟨v,he,hv⟩=>by subst he;exact hv
 ·exact h.elim
def Jg (ops:Array Oper) (f:Fr) (j:Nat):Option Bool :=
 match (ops[j]?).bind (·.dst) with
 |some d=>(match f d with | .bool b=>some b |_=>none)
 |none=>none
theorem QdZ {N:Nat} {a:Act} {f:Fr} (h:Fits N a f) (ops:Array Oper):yielded ops a.tmps=Jg ops f:=by
 funext j
 unfold yielded Jg
 cases hd:(ops[j]?).bind (·.dst) with
 |none=>rfl
 | some d =>
  simp only [Xa]
  have hg:=h.get d
  rcases Nat.lt_or_ge d a.tmps.size with hlt |hge
  ·simp [hlt] at hg
   simp [hlt,hg]
   split <;> simp_all
  ·simp [Array.getElem?_eq_none hge] at hg ⊢
   rw [<-hg];rfl
def WL (P:Program) (N:Nat) (ops:Array Oper) (Q:QbB) (l:List Oper) (f:Fr) (w:World):Prop:=∀a,Fits N a f->wpList P ops (QgO N Q) l a w
section
variable {P:Program} {N:Nat} {ops:Array Oper} {Q:QbB} {f:Fr} {w:World} {o:Oper} {rest:List Oper}
theorem Zb (h:Q .normal f w):WL P N ops Q [] f w:=fun _ hf=>wpList_nil ⟨f,hf,h⟩
theorem Za (hg:o.guard=none) (hd:Qb1 N o.dst=true) (h:Exec P (ev f) o w fun v w'=>WL P N ops Q rest (JU f o.dst v) w'):WL P N ops Q (o::rest) f w:=by
 intro a hf
 refine wpList_plain hg fun K hK=>QgV ?_
 rw [hf.eval]
 exact h.mono fun v w' hv=>hK _ _ (hv _ (hf.put hd v))
theorem Qsw {j:Nat} {b:Bool} (hg:o.guard=some (j,b)) (hy:Jg ops f j=some b) (hd:Qb1 N o.dst=true)
  (h:Exec P (ev f) o w fun v w'=>WL P N ops Q rest (JU f o.dst v) w'):WL P N ops Q (o::rest) f w:=by
 intro a hf
 refine wpList_step fun K hK=>?_
 have hw:Region.wanted o (yielded ops a.tmps)=true:=by simp [Region.wanted,hg,QdZ hf,hy]
 rw [if_pos hw]
 refine QgV ?_
 rw [hf.eval]
 exact h.mono fun v w' hv=>hK _ _ (hv _ (hf.put hd v))
theorem Zl {j:Nat} {b c:Bool} (hg:o.guard=some (j,b)) (hy:Jg ops f j=some c) (hbc:(c == b)=false) (hd:Qb1 N o.dst=true)
  (h:WL P N ops Q rest (JU f o.dst undef) w):WL P N ops Q (o::rest) f w:=by
 intro a hf
 refine wpList_step fun K hK=>?_
 have hw:¬(Region.wanted o (yielded ops a.tmps)=true):=by
  simp only [Region.wanted,hg,QdZ hf,hy]
  cases b <;> cases c <;> simp at *
 rw [if_neg hw]
 exact hK _ _ (h _ (hf.put hd undef))
theorem QhW {j:Nat} {b:Bool} (hg:o.guard=some (j,b)) (hy:Jg ops f j=none) (hd:Qb1 N o.dst=true)
  (h:WL P N ops Q rest (JU f o.dst undef) w):WL P N ops Q (o::rest) f w:=by
 intro a hf
 refine wpList_step fun K hK=>?_
 have hw:¬(Region.wanted o (yielded ops a.tmps)=true):=by
  simp [Region.wanted,hg,QdZ hf,hy]
 rw [if_neg hw]
 exact hK _ _ (h _ (hf.put hd undef))
end
section
variable {P:Program} {N:Nat} {Q:QbB} {f:Fr} {w:World}
theorem Qin {c:Code} {Q':QbB} (h:W P N c Q f w) (hq:∀e f w,Q e f w->Q' e f w):W P N c Q' f w :=
 fun a ha=>wp_mono (h a ha) fun _ _ _ ⟨g,hg,hQ⟩=>⟨g,hg,hq _ _ _ hQ⟩
theorem Zd {id:Nat} {l:List Oper} (h:WL P N l.toArray Q l f w):W P N (.region id l.toArray false) Q f w :=
 fun a ha=>wp_region_lit (h a ha)
def andThen (K:Fr->World->Prop) (Q:QbB):QbB
 | .normal,f,w=>K f w
 |e,f,w=>Q e f w
theorem Zc {x y:Code} (h:W P N x (andThen (W P N y Q) Q) f w):W P N (.seq x y) Q f w:=by
 intro a ha
 refine wp_seq (wp_mono (h a ha) ?_)
 rintro e a' w' ⟨g,hg,hQ⟩
 cases e <;> first |exact hQ _ hg |exact ⟨g,hg,hQ⟩
theorem Yx (h:Q .normal f w):W P N .skip Q f w:=fun _ ha=>wp_skip ⟨f,ha,h⟩
theorem Qhv (h:Q .ret f w):W P N .ret Q f w:=fun _ ha=>wp_ret ⟨f,ha,h⟩
theorem QoQ {id:Nat} (h:Q (.exit id) f w):W P N (.exit id) Q f w:=fun _ ha=>wp_exit ⟨f,ha,h⟩
theorem QbR {c:Operand} {x y:Code} (hc:ev f c= .bool true) (h:W P N x Q f w):W P N (.cond c x y) Q f w :=
 fun a ha=>wp_cond_true (by rw [ha.eval];exact hc) (h a ha)
theorem QaT {c:Operand} {x y:Code} (hc:ev f c= .bool false) (h:W P N y Q f w):W P N (.cond c x y) Q f w :=
 fun a ha=>wp_cond_false (by rw [ha.eval];exact hc) (h a ha)
def QaB (id:Nat) (Q:QbB):QbB
 | .exit id',f,w=>bif Nat.beq id' id then Q .normal f w else Q (.exit id') f w
 |e,f,w=>Q e f w
theorem QaU {id:Nat} {c:Code} (h:W P N c (QaB id Q) f w):W P N (.block id c) Q f w:=by
 intro a ha
 refine wp_block (wp_mono (h a ha) ?_)
 rintro e a' w' ⟨g,hg,hQ⟩
 cases e with
 | exit id' =>
  simp only [QaB] at hQ
  simp only [Exit.inBlock]
  by_cases e:id'=id
  ·subst e
   simp at hQ ⊢
   exact ⟨g,hg,hQ⟩
  ·have:Nat.beq id' id=false:=Qep.2 e
   simp [this] at hQ
   rw [if_neg e]
   exact ⟨g,hg,hQ⟩
 |_=>exact ⟨g,hg,hQ⟩
theorem QjZ {c:Code} (J:Nat->Fr->World->Prop) (h0:∃k,J k f w)
  (round:∀k f w,J k f w->W P N c (andThen (fun f' w'=>∃k',k'<k∧J k' f' w') Q) f w):W P N (.loop c) Q f w:=by
 intro a ha
 classical
 let I:Act->World->Prop:=fun a w=>∃k f,Fits N a f∧J k f w
 have hdec:∀a w,I a w->∃k,(∃f,Fits N a f∧J k f w)∧∀j,(∃f,Fits N a f∧J j f w)->k<=j:=by
  intro a w ⟨k,hk⟩
  induction k using Nat.strongRecOn with
  | _ k ih =>
   by_cases hm:∃j,j<k∧∃f,Fits N a f∧J j f w
   ·obtain ⟨j,hj,hf⟩:=hm
    exact ih j hj hf
   ·exact ⟨k,hk,fun j hj=>Nat.le_of_not_lt fun hlt=>hm ⟨j,hlt,hj⟩⟩
 let μ:Act->World->Nat:=fun a w=>if h:I a w then (hdec a w h).choose else 0
 obtain ⟨k0,hk0⟩:=h0
 refine wp_loop I μ ⟨k0,f,ha,hk0⟩ ?_
 intro a' w' hI
 have hspec:=(hdec a' w' hI).choose_spec
 have hμ:μ a' w'=(hdec a' w' hI).choose:=by simp [μ,hI]
 obtain ⟨⟨g,hg,hJ⟩,hmin⟩:=hspec
 refine wp_mono (round _ g w' hJ a' hg) ?_
 rintro e a'' w'' ⟨g',hg',hQ⟩
 cases e with
 |normal =>
  obtain ⟨k',hlt,hJ'⟩:=hQ
  have hI':I a'' w'':=⟨k',g',hg',hJ'⟩
  refine ⟨hI',?_⟩
  have hμ':μ a'' w''=(hdec a'' w'' hI').choose:=by simp [μ,hI']
  rw [hμ,hμ']
  exact Nat.lt_of_le_of_lt ((hdec a'' w'' hI').choose_spec.2 k' ⟨g',hg',hJ'⟩) hlt
 |_=>exact ⟨g',hg',hQ⟩
/-! ### A function's entry and return -/
def entry (args:Array Value):Fr:=fun n=>args.getD n undef
def Qdj (P:Program) (fn:Func) (f:Fr) (w:World) (v:Value):Prop:=∀a,Fits fn.ntmps a f->(results fn a.tmps).run P w= .ok v w
def Qse (P:Program) (fn:Func) (R:Value->World->Prop):QbB
 | .normal,f,w | .ret,f,w=>∃v,Qdj P fn f w v∧R v w
 |_,_,_=>False
theorem Qh {k:FuncId} {fn:Func} {c:Code} {args:Array Value} {R:Value->World->Prop} (hf:P.funcs[k]?=some fn) (hb:fn.body=some c)
  (hn:Nat.ble args.size fn.ntmps=true) (h:W P fn.ntmps c (Qse P fn R) (entry args) w):Calls P k args w fun e w'=>∃v,e= .returned v∧R v w':=by
 have hsz:args.size<=fn.ntmps:=by simpa [Nat.ble_eq] using hn
 refine calls_of_wp hf hb ?_
 have hfit:Fits fn.ntmps { tmps:=args++Array.replicate (fn.ntmps - args.size) undef,defers:=[] } (entry args):=by
  refine ⟨Z,by simp;omega,fun n=>?_⟩
  unfold entry
  rcases Nat.lt_or_ge n args.size with h1 |h1
  ·simp [h1,Array.getElem?_append]
  ·simp only [Array.getD_eq_getD_getElem?,Array.getElem?_append,Nat.not_lt.2 h1,if_false,Array.getElem?_eq_none h1,Option.getD_none]
   rcases Nat.lt_or_ge (n - args.size) (fn.ntmps - args.size) with h2 |h2
   ·simp [h2]
   ·simp [h2]
 refine wp_mono (h _ hfit) ?_
 rintro e a w' ⟨g,hg,hQ⟩
 cases e with
 |normal=>obtain ⟨v,hr,hR⟩:=hQ;exact ⟨hg.nodefer,v,hr a hg,v,rfl,hR⟩
 |ret=>obtain ⟨v,hr,hR⟩:=hQ;exact ⟨hg.nodefer,v,hr a hg,v,rfl,hR⟩
 |exit id=>exact hQ.elim
 |goto l=>exact hQ.elim
 |panic ch=>exact hQ.elim
 |outgrown=>exact hQ.elim
theorem Qd0 {fn:Func} {t:Nat} (h:fn.results=#[.tmp t]):Qdj P fn f w (f t):=by
 intro a ha;rw [results_tmp h];rw [ha.get]
theorem Qcw {fn:Func} {t u:Nat} (h:fn.results=#[.tmp t, .tmp u]):Qdj P fn f w (.tuple #[f t,f u]):=by
 intro a ha;rw [results_tmp2 h];rw [ha.get,ha.get]
theorem Qys {fn:Func} {t u s:Nat} (h:fn.results=#[.tmp t, .tmp u, .tmp s]):Qdj P fn f w (.tuple #[f t,f u,f s]):=by
 intro a ha;rw [results_tmp3 h];rw [ha.get,ha.get,ha.get]
end
theorem Qpm {p q:Nat->Bool} {i:Nat} (hp:p i=true) (hq:q i=false) (hpq:∀j,j≠i->p j=q j):∀n,i<n->(List.range n).countP p=(List.range n).countP q+1:=by
 have same:∀n,n<=i->(List.range n).countP p=(List.range n).countP q:=by
  intro n
  induction n with
  |zero=>intro _;rfl
  |succ n ih =>
   intro h
   rw [List.range_succ,List.countP_append,List.countP_append,ih (by omega)]
   simp [hpq n (by omega)]
 intro n
 induction n with
 |zero=>intro h;omega
 | succ n ih =>
  intro h
  rw [List.range_succ,List.countP_append,List.countP_append]
  by_cases e:n=i
  ·subst e
   rw [same n (Xi _)]
   simp [hp,hq]
  ·rw [ih (by omega)]
   simp only [List.countP_cons,List.countP_nil]
   rw [hpq n e]
   omega
/-! ### A region that draws its order: the head (the first n0 operations) in any order, the tail (each waits for all ahead of it) in the text's. -/
section
variable {P:Program} {N:Nat} {Q:QbB}
def Qh6 (ops:List Oper) (t:Nat):Bool :=
 match ops[t]? with
 |some o=>(List.range t).all fun j=>o.after.any fun e=>Region.binds .any e && Nat.beq e.on j
 |none=>true
def Qjl (ops:List Oper) (t j:Nat):Bool :=
 match ops[t]? with
 |some o=>o.after.any fun e=>Region.binds .any e && Nat.beq e.on j
 |none=>true
def drawOK (N n0:Nat) (ops:List Oper):Bool :=
 (Nat.ble n0 ops.length) && ((List.range ops.length).all fun t=>Nat.blt t n0 ||Qh6 ops t ||(Nat.blt n0 t && Qjl ops t (t - 1))) &&
 (ops.take n0).all (fun o=>(match o.dst with |some d=>Nat.blt d N |none=>false)) &&
 (ops.drop n0).all (fun o=>Qb1 N o.dst) &&
 decide (((ops.take n0).map (·.dst)).Nodup) &&
 ((List.range ops.length).all fun t=>match ops[t]? with |some o=>o.after.all fun e=>!(Region.binds .any e) ||Nat.blt e.on t |none=>true)
def Qde (ops:List Oper) (i:Nat):Nat:=((ops[i]?).bind (·.dst)).getD 0
end
end Go.Pw
/- -/
namespace Go.Pw
/-! ### The heap that stays -/
abbrev Gc:=Nat->Option Obj
def Gc.le (s t:Gc):Prop:=∀b o,s b=some o->t b=some o
theorem Zv (s:Gc):Gc.le s s:=fun _ _ h=>h
theorem Gc.le.trans {s t u:Gc} (h:Gc.le s t) (k:Gc.le t u):Gc.le s u:=fun b o hb=>k b o (h b o hb)
theorem Zt {s t u:Gc} (h:Gc.le s t) (k:Gc.le t u):Gc.le s u:=h.trans k
/-! ### How data lie in cells -/
structure Enc (α:Type) where
 agg:Bool
 sz:Nat
 pos:0<sz
 rep:Gc->List Value->α->Prop
 len:∀{s cs a},rep s cs a->cs.length=sz
 one:∀{s cs a},rep s cs a->∀v ∈ cs,v.oneCell'=true
 mono:∀{s t cs a},Gc.le s t->rep s cs a->rep t cs a
 single:agg=false->sz=1
def Enc.val {α:Type} (E:Enc α) (s:Gc) (v:Value) (a:α):Prop:=if E.agg then ∃cs,v= .agg cs∧E.rep s cs.toList a else E.rep s [v] a
theorem Qfi {α:Type} {E:Enc α} {s t:Gc} {v:Value} {a:α} (h:E.val s v a) (l:Gc.le s t):E.val t v a:=by
 unfold Enc.val at *
 split
 ·rename_i hg;rw [if_pos hg] at h;exact let ⟨cs,hv,hr⟩:=h;⟨cs,hv,E.mono l hr⟩
 ·rename_i hg;rw [if_neg hg] at h;exact E.mono l h
theorem Qeq {α:Type} {E:Enc α} {s:Gc} {v:Value} {a:α} (h:E.val s v a):E.rep s v.cells.toList a:=by
 unfold Enc.val at h
 split at h
 ·obtain ⟨cs,rfl,hr⟩:=h;exact hr
 ·rename_i hg
  have h1:=E.one h v (by simp)
  have:v.cells=#[v]:=by cases v <;> simp_all [Value.cells,Value.oneCell']
  rw [this];exact h
def Y8 {α:Type} (f:α->Value) (h:∀a,(f a).oneCell'=true):Enc α where
 agg:=false
 sz:=1
 pos:=by decide
 rep:=fun _ cs a=>cs=[f a]
 len:=by rintro s cs a rfl;rfl
 one:=by rintro s cs a rfl v hv;simp at hv;subst hv;exact h a
 mono:=fun _ h=>h
 single:=fun _=>rfl
def Qc (k:IntKind):Enc Int:=Y8 (.int k) (fun _=>rfl)
def GL:Enc Bool:=Y8 .bool (fun _=>rfl)
def encStr:Enc ByteArray:=Y8 .string (fun _=>rfl)
def K8 (T:TypeId):Option Int->Value
 |none=> .nilIface
 |some n=> .iface T (.int .i64 n)
def G4:Enc Value where
 agg:=false
 sz:=1
 pos:=by decide
 rep:=fun _ cs a=>cs=[a]∧a.oneCell'=true
 len:=by rintro s cs a ⟨rfl,_⟩;rfl
 one:=by rintro s cs a ⟨rfl,h⟩ v hv;simp at hv;subst hv;exact h
 mono:=fun _ h=>h
 single:=fun _=>rfl
theorem QiJ {α:Type} {f:α->Value} {h:∀a,(f a).oneCell'=true} {s:Gc} {v:Value} {a:α}:(Y8 f h).val s v a↔v=f a:=by
 simp [Enc.val,Y8]
theorem Qo {k:IntKind} {s:Gc} {v:Value} {a:Int}:(Qc k).val s v a↔v= .int k a:=QiJ
theorem Qov {s:Gc} {v:Value} {a:Bool}:GL.val s v a↔v= .bool a:=QiJ
def Enc.pair {α β:Type} (A:Enc α) (B:Enc β):Enc (α×β) where
 agg:=true
 sz:=A.sz+B.sz
 pos:=Nat.add_pos_left A.pos _
 rep:=fun s cs p=>∃c1 c2,cs=c1++c2∧A.rep s c1 p.1∧B.rep s c2 p.2
 len:=by rintro s cs p ⟨c1,c2,rfl,h1,h2⟩;simp [A.len h1,B.len h2]
 one:=by rintro s cs p ⟨c1,c2,rfl,h1,h2⟩ v hv;rcases Xn.1 hv with h |h;exact A.one h1 v h;exact B.one h2 v h
 mono:=fun l ⟨c1,c2,e,h1,h2⟩=>⟨c1,c2,e,A.mono l h1,B.mono l h2⟩
 single:=by intro h;cases h
def Enc.iso {α β:Type} (A:Enc α) (f:β->α):Enc β where
 agg:=true
 sz:=A.sz
 pos:=A.pos
 rep:=fun s cs b=>A.rep s cs (f b)
 len:=A.len
 one:=A.one
 mono:=A.mono
 single:=by intro h;cases h
/-! ### Rows of data -/
def G7 {α:Type} (E:Enc α) (s:Gc):List Value->List α->Prop
 |cs,[]=>cs=[]
 |cs,x::xs=>∃c r,cs=c++r∧E.rep s c x∧G7 E s r xs
section
variable {α:Type} {E:Enc α} {s t:Gc}
theorem G7.mono (l:Gc.le s t):∀{xs:List α} {cs:List Value},G7 E s cs xs->G7 E t cs xs
 |[],_,h=>h
 |_::_,_,⟨c,r,e,h1,h2⟩=>⟨c,r,e,E.mono l h1,G7.mono l h2⟩
theorem G7.len:∀{xs:List α} {cs:List Value},G7 E s cs xs->cs.length=xs.length * E.sz
 |[],_,h=>by cases h;simp
 |x::xs,_,⟨c,r,e,h1,h2⟩=>by
  subst e
  simp only [Xt,Xw,E.len h1,G7.len h2,Nat.add_mul,Nat.one_mul]
  omega
theorem G7.one:∀{xs:List α} {cs:List Value},G7 E s cs xs->∀v ∈ cs,v.oneCell'=true
 |[],_,h=>by cases h;simp
 |x::xs,_,⟨c,r,e,h1,h2⟩=>by
  subst e
  intro v hv
  rcases Xn.1 hv with h |h
  ·exact E.one h1 v h
  ·exact G7.one h2 v h
theorem G7.append:∀{xs ys:List α} {cs ds:List Value},G7 E s cs xs->G7 E s ds ys->G7 E s (cs++ds) (xs++ys)
 |[],_,_,_,h,k=>by cases h;exact k
 |x::xs,_,_,_,⟨c,r,e,h1,h2⟩,k=>⟨c,r++_,by rw [e,List.append_assoc],h1,G7.append h2 k⟩
theorem G7.get:∀{xs:List α} {cs:List Value} {i:Nat} {x:α},G7 E s cs xs->xs[i]?=some x->∃c,E.rep s c x∧(cs.drop (i * E.sz)).take E.sz=c
 |[],_,_,_,_,hx=>by simp at hx
 |y::ys,_,0,x,⟨c,r,e,h1,h2⟩,hx=>by
  simp at hx
  subst hx;subst e
  exact ⟨c,h1,by rw [Nat.zero_mul,List.drop_zero, <-E.len h1,List.take_left]⟩
 |y::ys,_,i+1,x,⟨c,r,e,h1,h2⟩,hx=>by
  simp at hx
  obtain ⟨d,hd,hr⟩:=G7.get h2 hx
  subst e
  refine ⟨d,hd,?_⟩
  rw [<-hr,Nat.add_mul,Nat.one_mul,Nat.add_comm (i * E.sz), <-List.drop_drop, <-E.len h1,List.drop_left]
theorem G7.set:∀{xs:List α} {cs:List Value} {i:Nat} {c:List Value} {x:α},G7 E s cs xs->i<xs.length->E.rep s c x ->
  G7 E s (cs.take (i * E.sz)++c++cs.drop (i * E.sz+E.sz)) (xs.set i x)
 |[],_,_,_,_,_,hi,_=>by simp at hi
 |y::ys,_,0,c,x,⟨c1,r,e,h1,h2⟩,_,hc=>by
  subst e
  refine ⟨c,r,?_,hc,h2⟩
  simp only [Nat.zero_mul,List.take_zero,List.nil_append,Nat.zero_add]
  rw [<-E.len h1,List.drop_left]
 |y::ys,_,i+1,c,x,⟨c1,r,e,h1,h2⟩,hi,hc=>by
  subst e
  refine ⟨c1,_,?_,h1,G7.set h2 (by simpa using hi) hc⟩
  rw [show (i+1) * E.sz=c1.length+i * E.sz by rw [E.len h1,Nat.add_mul];omega,Nat.add_assoc,List.take_length_add_append,List.drop_length_add_append,List.append_assoc,List.append_assoc,List.append_assoc]
theorem G7.take:∀{xs:List α} {cs:List Value} (n:Nat),G7 E s cs xs->G7 E s (cs.take (n * E.sz)) (xs.take n)
 |[],_,n,h=>by cases h;simp [G7]
 |x::xs,_,0,_=>by simp [G7]
 |x::xs,_,n+1,⟨c,r,e,h1,h2⟩=>by
  subst e
  refine ⟨c,r.take (n * E.sz),?_,h1,G7.take n h2⟩
  rw [show (n+1) * E.sz=c.length+n * E.sz by rw [E.len h1,Nat.add_mul];omega,List.take_length_add_append]
theorem G7.drop:∀{xs:List α} {cs:List Value} (n:Nat),G7 E s cs xs->G7 E s (cs.drop (n * E.sz)) (xs.drop n)
 |[],_,n,h=>by cases h;simp [G7]
 |x::xs,_,0,h=>by simpa using h
 |x::xs,_,n+1,⟨c,r,e,h1,h2⟩=>by
  subst e
  rw [show (n+1) * E.sz=c.length+n * E.sz by rw [E.len h1,Nat.add_mul];omega,List.drop_length_add_append]
  exact G7.drop n h2
theorem QsC {c:List Value} {x:α} (h:E.rep s c x):G7 E s c [x]:=⟨c,[],by simp,h,rfl⟩
end
def Ga {α:Type} (E:Enc α) (s:Gc) (v:Value) (xs:List α):Prop :=
 (v= .slice none 0 0∧xs=[])∨(∃(a:Addr) (cap:Nat),v= .slice (some a) 0 cap∧xs=[]) ∨
 ∃(b off cap:Nat) (c:Array Value) (T:TypeId) (fz:Nat×Nat) (cells:List Value),v= .slice (some ⟨b,off,none⟩) xs.length cap∧xs.length<=cap∧cap<=maxLen ∧
  s b=some (.cells c T fz)∧(c.toList.drop off).take cells.length=cells∧G7 E s cells xs
theorem Ga.mono {α:Type} {E:Enc α} {s t:Gc} {v:Value} {xs:List α} (l:Gc.le s t) (h:Ga E s v xs):Ga E t v xs:=by
 rcases h with h |h |⟨b,off,cap,c,T,fz,cells,hv,h1,h2,h3,h4,h5⟩
 ·exact .inl h
 ·exact .inr (.inl h)
 ·exact .inr (.inr ⟨b,off,cap,c,T,fz,cells,hv,h1,h2,l _ _ h3,h4,h5.mono l⟩)
def Qk {α:Type} (E:Enc α):Enc (List α) where
 agg:=false
 sz:=1
 pos:=by decide
 rep:=fun s cs xs=>∃v,cs=[v]∧Ga E s v xs
 len:=by rintro s cs xs ⟨v,rfl,_⟩;rfl
 one:=by
  rintro s cs xs ⟨v,rfl,h⟩ u hu
  simp at hu;subst hu
  rcases h with ⟨rfl,_⟩ |⟨a,cap,rfl,_⟩ |⟨b,off,cap,c,T,fz,cells,rfl,_⟩ <;> rfl
 mono:=fun l ⟨v,e,h⟩=>⟨v,e,h.mono l⟩
 single:=fun _=>rfl
theorem Q5 {α:Type} {E:Enc α} {s:Gc} {v:Value} {xs:List α}:(Qk E).val s v xs↔Ga E s v xs:=by
 simp [Enc.val,Qk]
def QoM {α:Type} (n:Nat) (hn:0<n) (E:Enc α):Enc (List α) where
 agg:=true
 sz:=n * E.sz
 pos:=Nat.mul_pos hn E.pos
 rep:=fun s cs xs=>xs.length=n∧G7 E s cs xs
 len:=by rintro s cs xs ⟨rfl,h⟩;exact h.len
 one:=fun ⟨_,h⟩=>h.one
 mono:=fun l ⟨e,h⟩=>⟨e,h.mono l⟩
 single:=by intro h;cases h
/-! ### What the call owns -/
structure Res where
 p:Gc->World->List Nat->Prop
 loc:∀{s w w' bs},p s w bs->(∀b ∈ bs,w'.heap[b]?=w.heap[b]?)->p s w' bs
 mono:∀{s t w bs},Gc.le s t->p s w bs->p t w bs
 lt:∀{s w bs},p s w bs->∀b ∈ bs,b<w.heap.size
def Res.box (b:Nat) (T:TypeId) (cs:List Value):Res where
 p:=fun _ w bs=>bs=[b]∧w.heap[b]?=some (.cells cs.toArray T (0,0))
 loc:=by rintro s w w' bs ⟨rfl,h⟩ hw;exact ⟨rfl,by rw [hw b (by simp)];exact h⟩
 mono:=fun _ h=>h
 lt:=by rintro s w bs ⟨rfl,h⟩ b' hb;simp at hb;subst hb;exact (Array.getElem?_eq_some_iff.1 h).1
def Res.arr {α:Type} (E:Enc α) (T:TypeId) (v:Value) (xs:List α):Res where
 p:=fun s w bs=>∃cells,G7 E s cells xs∧w.ownsRow 0 T E.sz v xs.length cells∧bs=v.ownBlock.toList
 loc:=by
  rintro s w w' bs ⟨cells,h1,⟨h2,h3⟩,rfl⟩ hw
  refine ⟨cells,h1,⟨h2,?_⟩,Z⟩
  rcases h3 with h |⟨g,cap,cur,rfl,hb,hg,r⟩
  ·exact .inl h
  ·exact .inr ⟨g,cap,cur,Z,hb,by rw [hw g (by simp [Value.ownBlock])];exact hg,r⟩
 mono:=fun l ⟨cells,h1,h⟩=>⟨cells,h1.mono l,h⟩
 lt:=by
  rintro s w bs ⟨cells,h1,h2,rfl⟩ b hb
  exact (h2.lt b (by simpa using hb)).2
def GA {α:Type} (E:Enc α) (T:TypeId) (s:Gc) (w:World):List Value->List (List α)->List Nat->Prop
 |[],[],bs=>bs=[]
 |h::hs,xs::xss,bs=>∃b1 b2,bs=b1++b2∧(Res.arr E T h xs).p s w b1∧GA E T s w hs xss b2
 |_,_,_=>False
theorem GA.loc {α:Type} {E:Enc α} {T:TypeId} {s:Gc} {w w':World}:∀{hs:List Value} {xss:List (List α)} {bs:List Nat},GA E T s w hs xss bs->(∀b ∈ bs,w'.heap[b]?=w.heap[b]?)->GA E T s w' hs xss bs
 |[],[],_,h,_=>h
 |_::_,_::_,_,⟨b1,b2,e,h1,h2⟩,hw=>by
  subst e
  exact ⟨b1,b2,Z,(Res.arr E T _ _).loc h1 (fun b hb=>hw b (List.mem_append_left _ hb)),GA.loc h2 (fun b hb=>hw b (List.mem_append_right _ hb))⟩
 |[],_::_,_,h,_=>h.elim
 |_::_,[],_,h,_=>h.elim
theorem GA.mono {α:Type} {E:Enc α} {T:TypeId} {s t:Gc} {w:World} (l:Gc.le s t):∀{hs:List Value} {xss:List (List α)} {bs:List Nat},GA E T s w hs xss bs->GA E T t w hs xss bs
 |[],[],_,h=>h
 |_::_,_::_,_,⟨b1,b2,e,h1,h2⟩=>⟨b1,b2,e,(Res.arr E T _ _).mono l h1,GA.mono l h2⟩
 |[],_::_,_,h=>h.elim
 |_::_,[],_,h=>h.elim
theorem GA.lt {α:Type} {E:Enc α} {T:TypeId} {s:Gc} {w:World}:∀{hs:List Value} {xss:List (List α)} {bs:List Nat},GA E T s w hs xss bs->∀b ∈ bs,b<w.heap.size
 |[],[],_,h,b,hb=>by cases h;simp at hb
 |_::_,_::_,_,⟨b1,b2,e,h1,h2⟩,b,hb=>by
  subst e
  rcases Xn.1 hb with h |h
  ·exact (Res.arr E T _ _).lt h1 b h
  ·exact GA.lt h2 b h
 |[],_::_,_,h,_,_=>h.elim
 |_::_,[],_,h,_,_=>h.elim
theorem GA.length {α:Type} {E:Enc α} {T:TypeId} {s:Gc} {w:World}:∀{hs:List Value} {xss:List (List α)} {bs:List Nat},GA E T s w hs xss bs->hs.length=xss.length
 |[],[],_,_=>rfl
 |_::_,_::_,_,⟨_,_,_,_,h2⟩=>by simp [GA.length h2]
 |[],_::_,_,h=>h.elim
 |_::_,[],_,h=>h.elim
def Res.rows {α:Type} (E:Enc α) (T:TypeId) (hs:List Value) (xss:List (List α)):Res where
 p:=fun s w bs=>GA E T s w hs xss bs
 loc:=GA.loc
 mono:=fun l h=>GA.mono l h
 lt:=GA.lt
def GU (s:Gc) (w:World):List Res->List Nat->Prop
 |[],bs=>bs=[]
 |R::H,bs=>∃b1 b2,bs=b1++b2∧R.p s w b1∧GU s w H b2
theorem GU.loc {s:Gc} {w w':World}:∀{H:List Res} {bs:List Nat},GU s w H bs->(∀b ∈ bs,w'.heap[b]?=w.heap[b]?)->GU s w' H bs
 |[],_,h,_=>h
 |R::_,_,⟨b1,b2,e,h1,h2⟩,hw=>by
  subst e
  exact ⟨b1,b2,Z,R.loc h1 (fun b hb=>hw b (List.mem_append_left _ hb)),GU.loc h2 (fun b hb=>hw b (List.mem_append_right _ hb))⟩
theorem GU.mono {s t:Gc} {w:World} (l:Gc.le s t):∀{H:List Res} {bs:List Nat},GU s w H bs->GU t w H bs
 |[],_,h=>h
 |R::_,_,⟨b1,b2,e,h1,h2⟩=>⟨b1,b2,e,R.mono l h1,GU.mono l h2⟩
theorem GU.lt {s:Gc} {w:World}:∀{H:List Res} {bs:List Nat},GU s w H bs->∀b ∈ bs,b<w.heap.size
 |[],_,h,b,hb=>by cases h;simp at hb
 |R::_,_,⟨b1,b2,e,h1,h2⟩,b,hb=>by
  subst e
  rcases Xn.1 hb with h |h
  ·exact R.lt h1 b h
  ·exact GU.lt h2 b h
theorem GU.perm {s:Gc} {w:World} {H H':List Res} (hp:H.Perm H'):∀{bs:List Nat},GU s w H bs->∃bs',bs.Perm bs'∧GU s w H' bs':=by
 induction hp with
 |nil=>exact fun h=>⟨_, .refl _,h⟩
 |cons R _ ih =>
  rintro bs ⟨b1,b2,e,h1,h2⟩
  obtain ⟨b2',hp',h2'⟩:=ih h2
  subst e
  exact ⟨b1++b2',List.Perm.append_left _ hp',b1,b2',Z,h1,h2'⟩
 |swap R R' H =>
  rintro bs ⟨b1,b2,e,h1,c1,c2,e2,h2,h3⟩
  subst e;subst e2
  refine ⟨c1++(b1++c2),?_,c1,b1++c2,Z,h2,b1,c2,Z,h1,h3⟩
  rw [<-List.append_assoc, <-List.append_assoc]
  exact List.Perm.append_right _ List.perm_append_comm
 |trans _ _ ih1 ih2 =>
  intro bs h
  obtain ⟨bs1,p1,h1⟩:=ih1 h
  obtain ⟨bs2,p2,h2⟩:=ih2 h1
  exact ⟨bs2,p1.trans p2,h2⟩
structure St (w0:World) (s:Gc) (H:List Res) (w:World):Prop where
 os:w.os=w0.os
 tape:w.tape=w0.tape
 output:w.output=w0.output
 drawn:w0.drawn<=w.drawn
 size:w0.heap.size<=w.heap.size
 stay:∀b o,s b=some o->w.heap[b]?=some o
 own:∃bs,bs.Nodup∧(∀b ∈ bs,s b=none)∧GU s w H bs
section
variable {w0 w w':World} {s t:Gc} {H H':List Res} {R:Res}
theorem St.perm (h:St w0 s H w) (hp:H.Perm H'):St w0 s H' w:=by
 obtain ⟨bs,hn,hs,hb⟩:=h.own
 obtain ⟨bs',p',h'⟩:=hb.perm hp
 exact ⟨h.os,h.tape,h.output,h.drawn,h.size,h.stay,bs',p'.nodup_iff.1 hn,fun b hm=>hs b (p'.mem_iff.2 hm),h'⟩
theorem St.drop (h:St w0 s (R::H) w):St w0 s H w:=by
 obtain ⟨bs,hn,hs,b1,b2,e,h1,h2⟩:=h.own
 subst e
 exact ⟨h.os,h.tape,h.output,h.drawn,h.size,h.stay,b2,(XA.1 hn).2.1,fun b hm=>hs b (List.mem_append_right _ hm),h2⟩
theorem St.drew (h:St w0 s H w):St w0 s H w.drew :=
 ⟨h.os,h.tape,h.output,Nat.le_succ_of_le h.drawn,h.size,h.stay,let ⟨bs,hn,hs,hb⟩:=h.own;⟨bs,hn,hs,hb.loc fun _ _=>rfl⟩⟩
theorem St.new (h:St w0 s H w):s w.heap.size=none:=by
 cases e:s w.heap.size with
 |none=>rfl
 |some o=>have:=h.stay _ _ e;simp at this
theorem Qac (w:World) (o:Obj) {b:Nat} (h:b<w.heap.size):(w.alloc o).heap[b]?=w.heap[b]?:=heap_alloc_old w o h
theorem St.alloc (h:St w0 s H w) (T:TypeId) (cs:List Value):St w0 s (.box w.heap.size T cs::H) (w.alloc (.cells cs.toArray T)):=by
 obtain ⟨bs,hn,hs,hb⟩:=h.own
 have hlt:=hb.lt
 refine ⟨h.os,h.tape,h.output,h.drawn,X0 h.size (by simp),fun b o hbo=>?_,w.heap.size::bs,List.nodup_cons.2 ⟨fun hm=>Nat.lt_irrefl _ (hlt _ hm),hn⟩,?_,[w.heap.size],bs,Z,⟨Z,heap_alloc_new w _⟩,hb.loc fun b hm=>Qac w _ (hlt b hm)⟩
 ·have:=h.stay b o hbo
  rw [Qac w _ (Array.getElem?_eq_some_iff.1 this).1]
  exact this
 ·intro b hm
  rcases Xr.1 hm with e |hm
  ·subst e;exact h.new
  ·exact hs b hm
theorem St.turn {R':Res} (h:St w0 s (R::H) w) (hos:w'.os=w.os) (htape:w'.tape=w.tape) (hout:w'.output=w.output) (hdr:w.drawn<=w'.drawn) (hsize:w.heap.size<=w'.heap.size)
  (hk:∀b1,R.p s w b1->∃b1',R'.p s w' b1'∧b1'.Nodup∧(∀b ∈ b1',b ∈ b1∨w.heap.size<=b)∧∀b,b<w.heap.size->b ∉ b1->w'.heap[b]?=w.heap[b]?):St w0 s (R'::H) w':=by
 obtain ⟨bs,hn,hs,b1,b2,e,h1,h2⟩:=h.own
 subst e
 obtain ⟨b1',r1,r2,r3,r4⟩:=hk b1 h1
 have hlt2:=h2.lt
 obtain ⟨n1,n2,n3⟩:=XA.1 hn
 refine ⟨hos.trans h.os,htape.trans h.tape,hout.trans h.output,X0 h.drawn hdr,X0 h.size hsize,fun b o hbo=>?_,b1'++b2,XA.2 ⟨r2,n2,?_⟩,?_,b1',b2,Z,r1,h2.loc fun b hm=>?_⟩
 ·have hw:=h.stay b o hbo
  rw [r4 b (Array.getElem?_eq_some_iff.1 hw).1 (fun hm=>by have:=hs b (List.mem_append_left _ hm);rw [this] at hbo;cases hbo)]
  exact hw
 ·intro a ha b hb e
  subst e
  rcases r3 a ha with hm |hm
  ·exact n3 a hm a hb Z
  ·have:=hlt2 a hb;omega
 ·intro b hm
  rcases Xn.1 hm with hm |hm
  ·rcases r3 b hm with hm |hm
   ·exact hs b (List.mem_append_left _ hm)
   ·cases e:s b with
    |none=>rfl
    |some o=>have:=(Array.getElem?_eq_some_iff.1 (h.stay _ _ e)).1;omega
  ·exact hs b (List.mem_append_right _ hm)
 ·exact r4 b (hlt2 b hm) (fun hm'=>n3 b hm' b hm Z)
theorem St.freezeWith (h:St w0 s (R::H) w):∃(bs:List Nat) (t:Gc),R.p s w bs∧Gc.le s t∧(∀b ∈ bs,t b=w.heap[b]?)∧St w0 t H w:=by
 classical
 obtain ⟨bs,hn,hs,b1,b2,e,h1,h2⟩:=h.own
 subst e
 obtain ⟨n1,n2,n3⟩:=XA.1 hn
 let t:Gc:=fun b=>if b ∈ b1 then w.heap[b]? else s b
 have hle:Gc.le s t:=by
  intro b o hb
  have:b ∉ b1:=fun hm=>by have:=hs b (List.mem_append_left _ hm);rw [this] at hb;cases hb
  simp [t,this,hb]
 refine ⟨b1,t,h1,hle,fun b hb=>by simp [t,hb],h.os,h.tape,h.output,h.drawn,h.size,?_,b2,n2,?_,h2.mono hle⟩
 ·intro b o hb
  simp only [t] at hb
  split at hb
  ·exact hb
  ·exact h.stay b o hb
 ·intro b hb
  have:b ∉ b1:=fun hm=>n3 b hm b hb rfl
  simp only [t,if_neg this]
  exact hs b (List.mem_append_right _ hb)
end
end Go.Pw
/- -/
set_option linter.unusedSimpArgs false
namespace Go.Pw
section
variable {P:Program} {ρ:Operand->Value} {o:Oper} {w:World} {K:Value->World->Prop}
theorem Zm {x:Operand} {v:Value} (ho:o.op= .move x) (hv:ρ x=v) (hk:K v w):Exec P ρ o w K :=
 .of_run (v:=v) (by simp [execOp,ho,hv,go_sem]) hk
theorem Zo {x:Operand} {v:Value} (ho:o.op= .assign x) (hv:ρ x=v) (hk:K v w):Exec P ρ o w K :=
 .of_run (v:=v) (by simp [execOp,ho,hv,go_sem]) hk
theorem Zs {c a b:Operand} {v:Value} (ho:o.op= .pick c a b) (hc:ρ c= .bool true) (hv:ρ a=v) (hk:K v w):Exec P ρ o w K :=
 .of_run (v:=v) (by simp [execOp,ho,hc,hv,go_sem,asBool]) hk
theorem QiO {c a b:Operand} {v:Value} (ho:o.op= .pick c a b) (hc:ρ c= .bool false) (hv:ρ b=v) (hk:K v w):Exec P ρ o w K :=
 .of_run (v:=v) (by simp [execOp,ho,hc,hv,go_sem,asBool]) hk
theorem Qaa {op:BinOp} {T T':TypeId} {x y:Operand} {a b v:Value} (ho:o.op= .binOp op T x y T') (hx:ρ x=a) (hy:ρ y=b) (hg:(eqGuard op T x y a b).run P w= .ok () w) (h:(binOp op T a b).run P w= .ok v w) (hk:K v w):Exec P ρ o w K:=by
 refine .of_run (v:=v) ?_ hk
 unfold execOp
 simp only [ho,hx,hy,Xe,hg,Xd,h,Xg]
theorem Qjy (a b:Int):(a == b)=decide (a=b):=by
 by_cases h:a=b
 ·subst h;simp
 ·simp [h]
section ints
variable {T T':TypeId} {x y:Operand} {k:IntKind} {a b:Int}
theorem QcF {op:BinOp} {v:Value} (ho:o.op= .binOp op T x y T') (hx:ρ x= .int k a) (hy:ρ y= .int k b) (h:(binOp op T (.int k a) (.int k b)).run P w= .ok v w):(execOp ρ o).run P w= .ok (.value v) w:=by
 have hg:(eqGuard op T x y (.int k a) (.int k b)).run P w= .ok () w:=by cases op <;> simp [eqGuard,go_sem]
 unfold execOp
 simp only [ho,hx,hy,Xe,hg,Xd,h,Xg]
theorem Zq (ho:o.op= .binOp .lss T x y T') (hx:ρ x= .int k a) (hy:ρ y= .int k b) (hk:K (.bool (decide (a<b))) w):Exec P ρ o w K :=
 .of_run (QcF ho hx hy (by simp [binOp,go_sem])) hk
theorem DB (ho:o.op= .binOp .leq T x y T') (hx:ρ x= .int k a) (hy:ρ y= .int k b) (hk:K (.bool (decide (a<=b))) w):Exec P ρ o w K :=
 .of_run (QcF ho hx hy (by simp [binOp,go_sem])) hk
theorem DC (ho:o.op= .binOp .gtr T x y T') (hx:ρ x= .int k a) (hy:ρ y= .int k b) (hk:K (.bool (decide (b<a))) w):Exec P ρ o w K :=
 .of_run (QcF ho hx hy (by simp [binOp,go_sem])) hk
theorem DD (ho:o.op= .binOp .geq T x y T') (hx:ρ x= .int k a) (hy:ρ y= .int k b) (hk:K (.bool (decide (b<=a))) w):Exec P ρ o w K :=
 .of_run (QcF ho hx hy (by simp [binOp,go_sem])) hk
theorem DE (ho:o.op= .binOp .eql T x y T') (hx:ρ x= .int k a) (hy:ρ y= .int k b) (hk:K (.bool (decide (a=b))) w):Exec P ρ o w K :=
 .of_run (QcF ho hx hy (by simp [binOp,go_sem];exact Qjy a b)) hk
theorem DF (ho:o.op= .binOp .neq T x y T') (hx:ρ x= .int k a) (hy:ρ y= .int k b) (hk:K (.bool (!decide (a=b))) w):Exec P ρ o w K :=
 .of_run (QcF ho hx hy (by simp [binOp,go_sem];show (!(a == b))=_;rw [Qjy])) hk
theorem DG (ho:o.op= .binOp .add T x y T') (hx:ρ x= .int k a) (hy:ρ y= .int k b) (hk:K (.int k (k.wrap (a+b))) w):Exec P ρ o w K :=
 .of_run (QcF ho hx hy (by simp [binOp,go_sem])) hk
theorem DH (ho:o.op= .binOp .sub T x y T') (hx:ρ x= .int k a) (hy:ρ y= .int k b) (hk:K (.int k (k.wrap (a - b))) w):Exec P ρ o w K :=
 .of_run (QcF ho hx hy (by simp [binOp,go_sem])) hk
theorem DI (ho:o.op= .binOp .mul T x y T') (hx:ρ x= .int k a) (hy:ρ y= .int k b) (hk:K (.int k (k.wrap (a * b))) w):Exec P ρ o w K :=
 .of_run (QcF ho hx hy (by simp [binOp,go_sem])) hk
theorem DJ (ho:o.op= .binOp .rem T x y T') (hx:ρ x= .int k a) (hy:ρ y= .int k b) (h0:b≠0) (hk:K (.int k (a.tmod b)) w):Exec P ρ o w K :=
 .of_run (QcF ho hx hy (by simp [binOp,go_sem,Op.intDiv,h0])) hk
theorem DK (ho:o.op= .unOp .neg T x) (hx:ρ x= .int k a) (hk:K (.int k (k.wrap (0 - a))) w):Exec P ρ o w K :=
 .of_run (by unfold execOp;simp only [ho,hx];rfl) hk
end ints
theorem DN {T:TypeId} {x:Operand} {b:Bool} (ho:o.op= .unOp .not T x) (hx:ρ x= .bool b) (hk:K (.bool (!b)) w):Exec P ρ o w K :=
 .of_run (by unfold execOp;simp only [ho,hx];rfl) hk
section strs
variable {T T':TypeId} {x y:Operand} {a b:ByteArray}
theorem Qjo (a b:ByteArray):(a.toList == b.toList)=decide (a=b):=by
 rw [ByteArray.toList_eq,ByteArray.toList_eq]
 by_cases h:a=b
 ·subst h;simp
 ·have:a.data.toList≠b.data.toList:=fun e=>h (by obtain ⟨⟨x⟩⟩:=a;obtain ⟨⟨y⟩⟩:=b;simp at e;rw [e])
  rw [decide_eq_false h];exact beq_eq_false_iff_ne.2 this
theorem QmM (ho:o.op= .binOp .eql T x y T') (hx:ρ x= .string a) (hy:ρ y= .string b) (hk:K (.bool (decide (a=b))) w):Exec P ρ o w K :=
 Qaa (op:= .eql) (a:= .string a) (b:= .string b) ho hx hy (by simp [eqGuard]) (by rw [<-Qjo];simp [go_sem]) hk
theorem QmL (ho:o.op= .binOp .neq T x y T') (hx:ρ x= .string a) (hy:ρ y= .string b) (hk:K (.bool (!decide (a=b))) w):Exec P ρ o w K :=
 Qaa (op:= .neq) (a:= .string a) (b:= .string b) ho hx hy (by simp [eqGuard]) (by rw [<-Qjo];simp [go_sem]) hk
end strs
section bools
variable {T T':TypeId} {x y:Operand} {a b:Bool}
theorem Qlp (hT:P.underlying T=some .bool) (ho:o.op= .binOp .neq T x y T') (hx:ρ x= .bool a) (hy:ρ y= .bool b) (hk:K (.bool (!(a == b))) w):Exec P ρ o w K :=
 .of_run (by simp [execOp,ho,hx,hy,eqGuard,go_sem,hT]) hk
end bools
section ptr
variable {T T' E:TypeId} {x y:Operand}
theorem Qi9 {p:Option Addr} (hT:P.underlying T=some (.pointer E)) (ho:o.op= .binOp .eql T x (.const (.pointer none)) T') (hx:ρ x= .pointer p) (hc:ρ (.const (.pointer none))= .pointer none) (hk:K (.bool p.isNone) w):Exec P ρ o w K:=by
 refine .of_run ?_ hk
 have hp:P.pointee T=E:=by simp [Program.pointee,hT]
 simp [execOp,ho,hx,hc,eqGuard,go_sem,run_eql_pointer_nil (P:=P) w T p (by rw [hp];exact hT)]
end ptr
section slc
variable {T T' E:TypeId} {x y:Operand} {a:Option Addr} {n c:Nat}
theorem Qf2 (w:World) (d:Nat) (t e:TypeId) (a:Option Addr) (n c n' c':Nat) (h:P.underlying t=some (.slice e)) :
  (Op.equalIn (d+1) t (.slice a n c) (.slice none n' c')).run P w= .ok a.isNone w:=by
 cases a <;> simp [Op.equalIn,Xk h]
theorem Qb7 (w:World) (t e:TypeId) (a:Option Addr) (n c n' c':Nat) (h:P.underlying t=some (.slice e)) :
  (Op.equal t (.slice a n c) (.slice none n' c')).run P w= .ok a.isNone w:=Qf2 w 9999 t e a n c n' c' h
theorem Qa7 (hT:P.underlying T=some (.slice E)) (ho:o.op= .binOp .eql T x (.const (.slice none 0 0)) T') (hx:ρ x= .slice a n c) (hc:ρ (.const (.slice none 0 0))= .slice none 0 0) (hk:K (.bool a.isNone) w):Exec P ρ o w K :=
 Qaa (op:= .eql) (a:= .slice a n c) (b:= .slice none 0 0) ho hx hc (by simp [eqGuard]) (by simp only [binOp];simp [Qb7 w T E a n c 0 0 hT]) hk
theorem QfX (hT:P.underlying T=some (.slice E)) (ho:o.op= .call { callee:= .builtin .len,args:=#[x],argTypes:=#[T] }) (hx:ρ x= .slice a n c) (hk:K (.int .i64 (n:Int)) w):Exec P ρ o w K:=by
 refine .of_run ?_ hk
 simp [execOp,ho,hx,resolve,invoke,builtin,go_sem,Builtin.len_,Xk hT,goInt]
theorem Qds {s:ByteArray} (hT:P.underlying T=some .string) (ho:o.op= .call { callee:= .builtin .len,args:=#[x],argTypes:=#[T] }) (hx:ρ x= .string s) (hk:K (.int .i64 (s.size:Int)) w):Exec P ρ o w K:=by
 refine .of_run ?_ hk
 simp [execOp,ho,hx,resolve,invoke,builtin,go_sem,Builtin.len_,Xk hT,goInt]
end slc
theorem QlN {x y:Operand} {ts:Array TypeId} {k:IntKind} {a b:Int} (ho:o.op= .call { callee:= .builtin .min,args:=#[x,y],argTypes:=ts }) (hx:ρ x= .int k a) (hy:ρ y= .int k b) (hk:K (.int k (min a b)) w):Exec P ρ o w K:=by
 refine .of_run (v:= .int k (min a b)) ?_ hk
 simp [execOp,ho,hx,hy,resolve,invoke,builtin,go_sem]
 omega
theorem Qg1 {x y:Operand} {ts:Array TypeId} {k:IntKind} {a b:Int} (ho:o.op= .call { callee:= .builtin .max,args:=#[x,y],argTypes:=ts }) (hx:ρ x= .int k a) (hy:ρ y= .int k b) (hk:K (.int k (max a b)) w):Exec P ρ o w K:=by
 refine .of_run (v:= .int k (max a b)) ?_ hk
 simp [execOp,ho,hx,hy,resolve,invoke,builtin,go_sem]
 omega
theorem QeE {S T:TypeId} {x:Operand} {k k':IntKind} {n:Int} (hS:(P.underlying S).isSome=true) (hT:P.underlying T=some (.int k)) (ho:o.op= .convert S T x) (hx:ρ x= .int k' n) (hk:K (.int k (k.wrap n)) w):Exec P ρ o w K:=by
 refine .of_run ?_ hk
 obtain ⟨d,hd⟩:=Option.isSome_iff_exists.1 hS
 simp [execOp,ho,hx,convert,go_sem,Xk hd,Xk hT,Conv.intToInt]
theorem DO {T:TypeId} {x:Operand} {v:Value} (hT:P.concrete T=true) (ho:o.op= .makeInterface T x) (hx:ρ x=v) (hk:K (.iface T v) w):Exec P ρ o w K :=
 .of_run (by unfold execOp;simp only [ho,hx,Xe,run_makeInterface (P:=P) w T v hT,Xd,Xg]) hk
theorem DP {t:Operand} {i:Nat} {vs:Array Value} {v:Value} (ho:o.op= .extract t i) (ht:ρ t= .tuple vs) (hv:vs[i]?=some v) (hk:K v w):Exec P ρ o w K :=
 .of_run (by simp [execOp,ho,ht,hv,Instr.extract,go_sem]) hk
theorem Jt {x:Operand} {a:Addr} (ho:o.op= .nilCheck x) (hx:ρ x= .pointer (some a)) (hk:K (.pointer (some a)) w):Exec P ρ o w K :=
 .of_run (by simp [execOp,ho,hx,go_sem]) hk
/-! ### errors -/
section errs
variable {T T' I:TypeId} {x y:Operand} {e:Option Int} {ms:Array (String×TypeId)}
theorem Qg9 (w:World) (d:Nat) (I:TypeId) (h:P.underlying I=some (.interface ms)) (e:Option Int) :
  (Op.equalIn (d+1) I (K8 T e) .nilIface).run P w= .ok e.isNone w:=by
 cases e <;> simp [Op.equalIn,Xk h,K8]
theorem Qee (w:World) (I:TypeId) (h:P.underlying I=some (.interface ms)) (e:Option Int) :
  (Op.equal I (K8 T e) .nilIface).run P w= .ok e.isNone w:=Qg9 w 9999 I h e
theorem QiM (w:World) (op:BinOp) (I:TypeId) (x:Operand) (c:Value) (e:Option Int):(eqGuard op I x (.const c) (K8 T e) .nilIface).run P w= .ok () w:=by
 cases op <;> cases e <;> cases x <;> simp [eqGuard,K8,go_sem]
theorem QiZ (w:World) (I:TypeId) (h:P.underlying I=some (.interface ms)) (e:Option Int):(binOp .eql I (K8 T e) .nilIface).run P w= .ok (.bool e.isNone) w:=by
 have h1:=Qee (T:=T) w I h e
 have h2:binOp .eql I (K8 T e) .nilIface=(do pure (.bool (<-Op.equal I (K8 T e) .nilIface))):=by cases e <;> rfl
 rw [h2,Xe,h1];rfl
theorem QiX (w:World) (I:TypeId) (h:P.underlying I=some (.interface ms)) (e:Option Int):(binOp .neq I (K8 T e) .nilIface).run P w= .ok (.bool e.isSome) w:=by
 have h1:=Qee (T:=T) w I h e
 have h2:binOp .neq I (K8 T e) .nilIface=(do pure (.bool (!(<-Op.equal I (K8 T e) .nilIface)))):=by cases e <;> rfl
 rw [h2,Xe,h1];cases e <;> rfl
theorem Qbv (hI:P.underlying I=some (.interface ms)) (ho:o.op= .binOp .eql I x (.const .nilIface) T') (hx:ρ x=K8 T e) (hc:ρ (.const .nilIface)= .nilIface) (hk:K (.bool e.isNone) w):Exec P ρ o w K :=
 Qaa (op:= .eql) (a:=K8 T e) (b:= .nilIface) ho hx hc (QiM w _ _ _ _ e) (QiZ w I hI e) hk
theorem Qv (hI:P.underlying I=some (.interface ms)) (ho:o.op= .binOp .neq I x (.const .nilIface) T') (hx:ρ x=K8 T e) (hc:ρ (.const .nilIface)= .nilIface) (hk:K (.bool e.isSome) w):Exec P ρ o w K :=
 Qaa (op:= .neq) (a:=K8 T e) (b:= .nilIface) ho hx hc (QiM w _ _ _ _ e) (QiX w I hI e) hk
end errs
/-! ### calls -/
theorem QhQ {c:Operand} {f:FuncId} {fn:Func} {args:List Operand} {ts:Array TypeId} {vs:List Value} {first cap:Array Value} (ho:o.op= .call { callee:= .value c,args:=args.toArray,argTypes:=ts }) (hc:ρ c= .func (.func f) first cap)
  (hf:P.funcs[f]?=some fn) (hb:fn.body.isNone=false) (hn:(fn.name == "runtime.NumGoroutine")=false) (hargs:List.map ρ args=vs):(execOp ρ o).run P w= .ok (.enter f (first++vs.toArray++cap)) w:=by
 unfold execOp
 simp only [ho,resolve,hc,Deferred.ofValue,invoke,callFunc,Xe,Xg,Xd,program,Sem.run,hf,hn,hb,XB,hargs,Xf,if_false]
theorem DQ {f:FuncId} {fn:Func} {args:List Operand} {ts:Array TypeId} {vs:List Value} (ho:o.op= .call { callee:= .value (.func f),args:=args.toArray,argTypes:=ts }) (hc:ρ (.func f)= .func (.func f) #[] #[])
  (hf:P.funcs[f]?=some fn) (hb:fn.body.isNone=false) (hn:(fn.name == "runtime.NumGoroutine")=false) (hargs:List.map ρ args=vs)
  (h:Calls P f vs.toArray w fun e w'=>∃v,e= .returned v∧K v w'):Exec P ρ o w K:=by
 have hrun:=QhQ (P:=P) (w:=w) ho hc hf hb hn hargs
 unfold Exec
 rw [hrun]
 simpa using h
theorem QkH {c:Operand} {f:FuncId} {fn:Func} {args:List Operand} {ts:Array TypeId} {vs:List Value} {first cap:Array Value} (ho:o.op= .call { callee:= .value c,args:=args.toArray,argTypes:=ts }) (hc:ρ c= .func (.func f) first cap)
  (hf:P.funcs[f]?=some fn) (hb:fn.body.isNone=false) (hn:(fn.name == "runtime.NumGoroutine")=false) (hargs:List.map ρ args=vs)
  (h:Calls P f (first++vs.toArray++cap) w fun e w'=>∃v,e= .returned v∧K v w'):Exec P ρ o w K:=by
 have hrun:=QhQ (P:=P) (w:=w) ho hc hf hb hn hargs
 unfold Exec
 rw [hrun]
 exact h
end
end Go.Pw
