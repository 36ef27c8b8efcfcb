/- -/
import Derived.Test.YtalfjlihddgooaaGreatDoorBa
import Derived.Test.YtalfjlihddgooaaGreatDoorLC
import Derived.Test.YtalfjlihddgooaaGreatDoorLA
set_option linter.unusedSimpArgs false
set_option linter.unusedVariables false
namespace Go.Pw
class FTy (P:Program) (T k:Nat) (off:outParam Nat):Prop where h:Qhw P T k=some off
class STy (P:Program) (T:Nat) (e n b:outParam Nat):Prop where h:JM P T=some (e,n,b)
class ATy (P:Program) (T:Nat) (a:outParam Bool) (n:outParam Nat):Prop where h:Qam P T=some (a,n)
class Du (H:List Res) (b:Nat) (T:outParam Nat) (cs:outParam (List Value)):Prop where h:∃H',H.Perm (Res.box b T cs::H')
instance (priority:=high) {H:List Res} {b T:Nat} {cs:List Value}:Du (Res.box b T cs::H) b T cs:=⟨H, .refl _⟩
instance {H:List Res} {r:Res} {b T:Nat} {cs:List Value} [h:Du H b T cs]:Du (r::H) b T cs :=
  let ⟨H',p⟩:=h.h
  ⟨r::H',(p.cons r).trans (List.Perm.swap _ _ _)⟩
def ups:List (Nat×Value)->Fr->Fr
  |[],g=>g
  |(n,v)::l,g=>upd (ups l g) n v
inductive FxL (f:Fr):List (Nat×Value)->Prop
  |nil:FxL f []
  |cons {n:Nat} {v:Value} {l:List (Nat×Value)} (h:f n=v) (t:FxL f l):FxL f ((n,v)::l)
def Fx (f:Fr) (l:List (Nat×Value)):Prop:=∃g,f=ups l g
theorem FxL.eq {f:Fr}:∀{l:List (Nat×Value)},FxL f l->f=ups l f
  |[],_=>rfl
  | (n,v)::l, .cons h t=>by
    funext m
    show f m=bif Nat.beq m n then v else ups l f m
    rw [<-t.eq]
    cases q:Nat.beq m n with
    |true=>rw [Xh q,h];rfl
    |false=>rfl
theorem fxl {f:Fr} {l:List (Nat×Value)} (h:FxL f l:=by repeat (first |exact FxL.nil |refine FxL.cons rfl ?_)):FxL f l:=h
theorem Fx.mk {f:Fr} {l:List (Nat×Value)} (h:FxL f l:=by repeat (first |exact FxL.nil |refine FxL.cons rfl ?_)):Fx f l:=⟨f,h.eq⟩
def Qxf (k:IntKind) (a b:Int):BinOp->Option Value
  | .lss=>some (.bool (decide (a<b)))
  | .leq=>some (.bool (decide (a<=b)))
  | .gtr=>some (.bool (decide (b<a)))
  | .geq=>some (.bool (decide (b<=a)))
  | .eql=>some (.bool (decide (a=b)))
  | .neq=>some (.bool (!decide (a=b)))
  | .add=>some (.int k (k.wrap (a+b)))
  | .sub=>some (.int k (k.wrap (a - b)))
  | .mul=>some (.int k (k.wrap (a * b)))
  |_=>none
def Qxe (a b:ByteArray):BinOp->Option Value
  | .eql=>some (.bool (decide (a=b)))
  | .neq=>some (.bool (!decide (a=b)))
  |_=>none
def Qo7 (ρ:Operand->Value):Op->Option Value
  | .move x=>some (ρ x)
  | .assign x=>some (ρ x)
  | .binOp op _ x y _=>match ρ x with
    | .int k a=>match ρ y with
      | .int k' b=>if k=k' then Qxf k a b op else none
      |_=>none
    | .string a=>match ρ y with
      | .string b=>Qxe a b op
      |_=>none
    |_=>none
  | .unOp .not _ x=>match ρ x with
    | .bool b=>some (.bool (!b))
    |_=>none
  | .extract t i=>match ρ t with
    | .tuple vs=>vs[i]?
    |_=>none
  | .nilCheck x=>match ρ x with
    | .pointer (some a)=>some (.pointer (some a))
    |_=>none
  |_=>none
section
variable {P:Program} {ρ:Operand->Value} {o:Oper} {w w0:World} {s:Gc} {H:List Res} {K:Value->World->Prop} {T:TypeId}
theorem Xq {v:Value} (h:Qo7 ρ o.op=some v) (hk:K v w):Exec P ρ o w K:=by
  unfold Qo7 at h
  split at h
  · rename_i x ho;exact Zm ho (Zu h) hk
  · rename_i x ho;exact Zo ho (Zu h) hk
  · rename_i op _ x y _ ho
    split at h
    · rename_i k a hx
      split at h
      · rename_i k' b hy
        split at h
        · rename_i e
          subst e
          cases op <;> simp only [Qxf,XI,reduceCtorEq] at h <;> subst h
          · exact DG ho hx hy hk
          · exact DH ho hx hy hk
          · exact DI ho hx hy hk
          · exact DE ho hx hy hk
          · exact DF ho hx hy hk
          · exact Zq ho hx hy hk
          · exact DB ho hx hy hk
          · exact DC ho hx hy hk
          · exact DD ho hx hy hk
        · cases h
      · cases h
    · rename_i a hx
      split at h
      · rename_i b hy
        cases op <;> simp only [Qxe,XI,reduceCtorEq] at h <;> subst h
        · exact QmM ho hx hy hk
        · exact QmL ho hx hy hk
      · cases h
    · cases h
  · rename_i x ho
    split at h
    · rename_i b hx;cases h;exact DN ho hx hk
    · cases h
  · rename_i t i ho
    split at h
    · rename_i vs ht;exact DP ho ht h hk
    · cases h
  · rename_i x ho
    split at h
    · rename_i a hx;cases h;exact Jt ho hx hk
    · cases h
  · cases h
theorem Qss {c a b:Operand} {e:Bool} {v:Value} (ho:o.op= .pick c a b) (hc:ρ c= .bool e) (he:e=true) (hv:ρ a=v) (hk:K v w):Exec P ρ o w K:=Zs ho (by rw [hc,he]) hv hk
theorem Qst {c a b:Operand} {e:Bool} {v:Value} (ho:o.op= .pick c a b) (hc:ρ c= .bool e) (he:e=false) (hv:ρ b=v) (hk:K v w):Exec P ρ o w K:=QiO ho (by rw [hc,he]) hv hk
theorem Qmk {x:Operand} {k b off foff m:Nat} [hT:FTy P T k foff] (ho:o.op= .fieldAddr T x k) (hx:ρ x= .pointer (some ⟨b,off,none⟩)) (hm:off+foff=m) (hk:K (.pointer (some ⟨b,m,none⟩)) w):Exec P ρ o w K:=Zp hT.h ho hx hm hk
theorem Qmh {b off:Nat} {Tb:TypeId} {cs:List Value} {v:Value} (hS:St w0 s H w) (hB:Du H b Tb cs) (hv:cs[off]?=some v):w.cell? ⟨b,off,none⟩=some v:=by
  obtain ⟨_,p⟩:=hB.h
  simp [World.cell?,(hS.perm p).box_heap,hv]
theorem Xlb {x:Operand} {b off n:Nat} {v:Value} [hT:ATy P T false n] (ho:o.op= .load T x) (hx:ρ x= .pointer (some ⟨b,off,none⟩)) (hc:w.cell? ⟨b,off,none⟩=some v) (hk:K v w):Exec P ρ o w K:=by
  refine .of_run ?_ hk
  unfold execOp
  simp only [ho,hx,Instr.loadAt,Instr.sureAddr,Xe,Xg,Xd,YX hT.h hc]
structure Boxed (w:World) (b off n:Nat) (ds:List Value):Prop where
  h:∃(w0:World) (s:Gc) (H:List Res) (Tb:TypeId) (cs:List Value),St w0 s (.box b Tb cs::H) w∧(cs.drop off).take n=ds∧ds.length=n
theorem Qj0 {b off n:Nat} {Tb:TypeId} {cs ds:List Value} (hS:St w0 s H w) (hB:Du H b Tb cs) (hv:(cs.drop off).take n=ds) (hn:ds.length=n):Boxed w b off n ds :=
  let ⟨_,p⟩:=hB.h
  ⟨_,_,_,_,_,hS.perm p,hv,hn⟩
theorem QtP {x:Operand} {b off n:Nat} {ds:List Value} [hT:ATy P T true n] (ho:o.op= .load T x) (hx:ρ x= .pointer (some ⟨b,off,none⟩)) (h:Boxed w b off n ds) (hk:K (.agg ds.toArray) w):Exec P ρ o w K:=by
  obtain ⟨w0,s,H,Tb,cs,hS,hv,hn⟩:=h.h
  exact Q4 hS (by rw [hn];exact hT.h) ho hx (by rw [hn];exact hv) hk
theorem QtO {α:Type} {E:Enc α} {xs:List α} {x:Operand} {v:Value} {e n b:Nat} [hT:STy P T e n b] (ho:o.op= .call { callee:= .builtin .len,args:=#[x],argTypes:=#[T] }) (hx:ρ x=v) (h:Ga E s v xs) (hk:K (.int .i64 (xs.length:Int)) w):Exec P ρ o w K:=Zr hT.h ho hx h hk
end
section
variable {P:Program} {N:Nat} {ops:Array Oper} {Q:QbB} {f:Fr} {w:World} {o:Oper} {rest:List Oper}
theorem Qkz {d:Nat} (hg:o.guard=none) (hd:o.dst=some d) (hl:Nat.blt d N=true) (h:Exec P (ev f) o w fun v w'=>WL P N ops Q rest (upd f d v) w'):WL P N ops Q (o::rest) f w :=
  Za hg (by rw [hd];exact hl) (by rw [hd];exact h)
theorem QnT (hg:o.guard=none) (hd:o.dst=none) (h:Exec P (ev f) o w fun v w'=>WL P N ops Q rest f w'):WL P N ops Q (o::rest) f w :=
  Za hg (by rw [hd];rfl) (by rw [hd];exact h)
theorem Qx2 {d:Nat} {v:Value} (hg:o.guard=none) (hd:o.dst=some d) (hl:Nat.blt d N=true) (hq:Qo7 (ev f) o.op=some v) (h:WL P N ops Q rest (upd f d v) w):WL P N ops Q (o::rest) f w :=
  Qkz hg hd hl (Xq hq h)
def WLg (P:Program) (N:Nat) (ops:Array Oper) (Q:QbB) (r:Bool) (o:Oper) (rest:List Oper) (f:Fr) (w:World):Prop :=
  bif r then Exec P (ev f) o w fun v w'=>WL P N ops Q rest (JU f o.dst v) w' else WL P N ops Q rest (JU f o.dst undef) w
theorem Qx3 {j d':Nat} {b e c:Bool} (hg:o.guard=some (j,b)) (hj:(ops[j]?).bind (·.dst)=some d') (hf:f d'= .bool e) (he:e=c) (hd:Qb1 N o.dst=true) (h:WLg P N ops Q (c == b) o rest f w):WL P N ops Q (o::rest) f w:=by
  subst he
  unfold WLg at h
  cases q:e == b with
  | true =>
    rw [q] at h
    exact Qsw hg (Zf hj (by rw [hf,eq_of_beq q])) hd h
  | false =>
    rw [q] at h
    exact Zl hg (Zf hj hf) q hd h
theorem QvF {j d' d:Nat} {b:Bool} (hg:o.guard=some (j,b)) (hj:(ops[j]?).bind (·.dst)=some d') (hf:f d'=undef) (hd:o.dst=some d) (hl:Nat.blt d N=true)
    (h:WL P N ops Q rest (upd f d undef) w):WL P N ops Q (o::rest) f w :=
  QhW hg (Zh hj hf) (by rw [hd];exact hl) (by rw [hd];exact h)
theorem QvE {d:Nat} {r:Bool} (hr:r=false) (hd:o.dst=some d) (h:WL P N ops Q rest (upd f d undef) w):WLg P N ops Q r o rest f w:=by
  subst hr;unfold WLg;rw [hd];exact h
theorem Qsv {r:Bool} (hr:r=false) (hd:o.dst=none) (h:WL P N ops Q rest f w):WLg P N ops Q r o rest f w:=by
  subst hr;unfold WLg;rw [hd];exact h
theorem QvD {d:Nat} {r:Bool} {v:Value} (hr:r=true) (hd:o.dst=some d) (hq:Qo7 (ev f) o.op=some v) (h:WL P N ops Q rest (upd f d v) w):WLg P N ops Q r o rest f w:=by
  subst hr;unfold WLg;rw [hd];exact Xq hq h
theorem QvC {d:Nat} {r:Bool} (hr:r=true) (hd:o.dst=some d) (h:Exec P (ev f) o w fun v w'=>WL P N ops Q rest (upd f d v) w'):WLg P N ops Q r o rest f w:=by
  subst hr;unfold WLg;rw [hd];exact h
theorem Qsu {r:Bool} (hr:r=true) (hd:o.dst=none) (h:Exec P (ev f) o w fun v w'=>WL P N ops Q rest f w'):WLg P N ops Q r o rest f w:=by
  subst hr;unfold WLg;rw [hd];exact h
def Wc (P:Program) (N:Nat) (r:Bool) (x y:Code) (Q:QbB) (f:Fr) (w:World):Prop:=bif r then W P N x Q f w else W P N y Q f w
theorem W_c {c:Operand} {x y:Code} {b e:Bool} (hv:ev f c= .bool b) (hb:b=e) (h:Wc P N e x y Q f w):W P N (.cond c x y) Q f w:=by
  subst hb
  cases b with
  |true=>exact QbR hv h
  |false=>exact QaT hv h
theorem QtQ {x y:Code} (h:W P N x Q f w):Wc P N true x y Q f w:=h
theorem QiV {x y:Code} (h:W P N y Q f w):Wc P N false x y Q f w:=h
theorem rT:true=true:=rfl
theorem rF:false=false:=rfl
end
/-! ### drawn regions -/
section
variable {P:Program} {ops:List Oper} {K:Fr->World->Prop} {f:Fr} {w:World} {i:Nat} {o:Oper} {r:GK} {ag:List Nat}
theorem Qk2 {d:Nat} (ho:ops[i]?=some o) (hg:o.guard=none) (hd:o.dst=some d) (h:Exec P (ev f) o w fun v w'=>w'=w∧DL P ops K r (upd f d v) w):DL P ops K (.q i r) f w:=QyE ho hg (by rw [hd];exact h)
theorem QvK {d:Nat} {v:Value} (ho:ops[i]?=some o) (hg:o.guard=none) (hd:o.dst=some d) (hq:Qo7 (ev f) o.op=some v) (h:DL P ops K r (upd f d v) w):DL P ops K (.q i r) f w:=Qk2 ho hg hd (Xq hq ⟨rfl,h⟩)
theorem Qqe {d:Nat} (ho:ops[i]?=some o) (hg:o.guard=none) (hd:o.dst=some d) (h:Exec P (ev f) o w fun v w'=>(∀j ∈ ag,Jm P ops (upd f d v) w' j)∧DL P ops K r (upd f d v) w'):DL P ops K (.e i ag r) f w:=Qx5 ho hg (by rw [hd];exact h)
theorem Qqd (ho:ops[i]?=some o) (hg:o.guard=none) (hd:o.dst=none) (h:Exec P (ev f) o w fun v w'=>(∀j ∈ ag,Jm P ops f w' j)∧DL P ops K r f w'):DL P ops K (.e i ag r) f w:=Qx5 ho hg (by rw [hd];exact h)
def DLg (P:Program) (ops:List Oper) (K:Fr->World->Prop) (q:Option (List Nat)) (b:Bool) (o:Oper) (r:GK) (f:Fr) (w:World):Prop :=
  bif b then Exec P (ev f) o w fun v w'=>(match q with |none=>w'=w |some ag=>∀j ∈ ag,Jm P ops (JU f o.dst v) w' j)∧DL P ops K r (JU f o.dst v) w' else DL P ops K r (JU f o.dst undef) w
theorem QvM {j d':Nat} {b e c:Bool} (ho:ops[i]?=some o) (hg:o.guard=some (j,b)) (hj:(ops.toArray[j]?).bind (·.dst)=some d') (hf:f d'= .bool e) (he:e=c) (h:DLg P ops K none (c == b) o r f w):DL P ops K (.q i r) f w:=by
  subst he
  unfold DLg at h
  cases q:e == b with
  | true =>
    rw [q] at h
    exact Qyc ho hg (Zf hj (by rw [hf,eq_of_beq q])) (h.mono fun v w' ⟨e1,e2⟩=>⟨e1,e1 ▸ e2⟩)
  | false =>
    rw [q] at h
    exact Qya ho hg (Zf hj hf) q h
theorem QvO {j d':Nat} {b e c:Bool} (ho:ops[i]?=some o) (hg:o.guard=some (j,b)) (hj:(ops.toArray[j]?).bind (·.dst)=some d') (hf:f d'= .bool e) (he:e=c) (h:DLg P ops K (some ag) (c == b) o r f w):DL P ops K (.e i ag r) f w:=by
  subst he
  unfold DLg at h
  cases q:e == b with
  | true =>
    rw [q] at h
    exact Qyf ho hg (Zf hj (by rw [hf,eq_of_beq q])) h
  | false =>
    rw [q] at h
    exact Qyd ho hg (Zf hj hf) q h
theorem QvL {j d' d:Nat} {b:Bool} (ho:ops[i]?=some o) (hg:o.guard=some (j,b)) (hj:(ops.toArray[j]?).bind (·.dst)=some d') (hf:f d'=undef) (hd:o.dst=some d) (h:DL P ops K r (upd f d undef) w):DL P ops K (.q i r) f w:=Qyb ho hg (Zh hj hf) (by rw [hd];exact h)
theorem QvN {j d' d:Nat} {b:Bool} (ho:ops[i]?=some o) (hg:o.guard=some (j,b)) (hj:(ops.toArray[j]?).bind (·.dst)=some d') (hf:f d'=undef) (hd:o.dst=some d) (h:DL P ops K r (upd f d undef) w):DL P ops K (.e i ag r) f w:=Qye ho hg (Zh hj hf) (by rw [hd];exact h)
theorem QpA {d:Nat} {b:Bool} {q:Option (List Nat)} (hr:b=false) (hd:o.dst=some d) (h:DL P ops K r (upd f d undef) w):DLg P ops K q b o r f w:=by
  subst hr;unfold DLg;rw [hd];exact h
theorem QvI {d:Nat} {b:Bool} {v:Value} (hr:b=true) (hd:o.dst=some d) (hq:Qo7 (ev f) o.op=some v) (h:DL P ops K r (upd f d v) w):DLg P ops K none b o r f w:=by
  subst hr;unfold DLg;rw [hd];exact Xq hq ⟨rfl,h⟩
theorem QvH {d:Nat} {b:Bool} (hr:b=true) (hd:o.dst=some d) (h:Exec P (ev f) o w fun v w'=>w'=w∧DL P ops K r (upd f d v) w'):DLg P ops K none b o r f w:=by
  subst hr;unfold DLg;rw [hd];exact h
theorem QvJ {d:Nat} {b:Bool} (hr:b=true) (hd:o.dst=some d) (h:Exec P (ev f) o w fun v w'=>(∀j ∈ ag,Jm P ops (upd f d v) w' j)∧DL P ops K r (upd f d v) w'):DLg P ops K (some ag) b o r f w:=by
  subst hr;unfold DLg;rw [hd];exact h
theorem Qsy {b:Bool} (hr:b=true) (hd:o.dst=none) (h:Exec P (ev f) o w fun v w'=>(∀j ∈ ag,Jm P ops f w' j)∧DL P ops K r f w'):DLg P ops K (some ag) b o r f w:=by
  subst hr;unfold DLg;rw [hd];exact h
theorem Qsx {b:Bool} {q:Option (List Nat)} (hr:b=false) (hd:o.dst=none) (h:DL P ops K r f w):DLg P ops K q b o r f w:=by
  subst hr;unfold DLg;rw [hd];exact h
theorem Qx1 {v:Value} (ho:ops[i]?=some o) (hg:o.guard=none) (hq:Qo7 (ev f) o.op=some v) (hv:v=f (Qde ops i)):Jm P ops f w i:=Q8 ho hg (Xq hq ⟨rfl,hv⟩)
theorem QxV {j d':Nat} {b e:Bool} (ho:ops[i]?=some o) (hg:o.guard=some (j,b)) (hj:(ops.toArray[j]?).bind (·.dst)=some d') (hf:f d'= .bool e) (he:e=!b) (h:f (Qde ops i)=undef):Jm P ops f w i :=
  Qyz ho hg (Zf hj hf) (by subst he;cases b <;> rfl) h
theorem QxX {j d':Nat} {b e:Bool} (ho:ops[i]?=some o) (hg:o.guard=some (j,b)) (hj:(ops.toArray[j]?).bind (·.dst)=some d') (hf:f d'= .bool e) (he:e=b) (h:Exec P (ev f) o w fun v w'=>w'=w∧v=f (Qde ops i)):Jm P ops f w i :=
  Qy1 ho hg (Zf hj (by rw [hf,he])) h
theorem QxW {j d':Nat} {b:Bool} (ho:ops[i]?=some o) (hg:o.guard=some (j,b)) (hj:(ops.toArray[j]?).bind (·.dst)=some d') (hf:f d'=undef) (h:f (Qde ops i)=undef):Jm P ops f w i :=
  Qy0 ho hg (Zh hj hf) h
theorem Yd (h:∀j ∈ ag,Jm P ops f w j:=by
    repeat (first
      |exact K7
      | (refine Qm ?_ ?_
         first
         |exact Qx1 rfl rfl rfl rfl
         |exact QxV rfl rfl rfl rfl (by first |rfl |assumption) rfl
         |exact QxW rfl rfl rfl rfl rfl
         | (first
            |refine Q8 rfl rfl ?_
            |refine QxX rfl rfl rfl rfl (by first |rfl |assumption) ?_
            first
            |exact Xq rfl ⟨rfl,rfl⟩
            |exact Qmk rfl rfl rfl ⟨rfl,rfl⟩
            |exact Xlb rfl rfl (by apply Qmh;assumption;infer_instance;rfl) ⟨rfl,rfl⟩
            |exact QtP rfl rfl (by apply Qj0;assumption;infer_instance;rfl;rfl) ⟨rfl,rfl⟩
            |exact QtO rfl rfl (by assumption) ⟨rfl,rfl⟩)))):∀j ∈ ag,Jm P ops f w j:=h
end
structure Kept (B:Prop):Prop where h:B
theorem G {A B:Prop} (k:B) (h:Kept B->A:=by
    intro k
    repeat (first
      |(show WL _ _ _ _ _ _ _;first
          |refine Qx2 rfl rfl rfl rfl ?_
          |refine Zb ?_
          |(refine Qx3 rfl rfl rfl (by first |with_reducible exact rT |with_reducible exact rF |assumption) rfl ?_;first |refine QvE rfl rfl ?_ |refine QvD rfl rfl rfl ?_ |refine QvC rfl rfl ?_ |refine Qsv rfl rfl ?_ |refine Qsu rfl rfl ?_)
          |refine Qkz rfl rfl rfl ?_
          |refine QnT rfl rfl ?_
          |refine QvF rfl rfl rfl rfl rfl ?_)
      |(show Exec _ _ _ _ _;first
          |refine Qmk rfl rfl rfl ?_
          |refine Xlb rfl rfl (by apply Qmh;assumption;infer_instance;rfl) ?_
          |refine QtO rfl rfl (by assumption) ?_
          |refine QtP rfl rfl (by apply Qj0;assumption;infer_instance;rfl;rfl) ?_
          |refine Qss rfl rfl (by first |with_reducible exact rT |with_reducible exact rF |assumption) rfl ?_
          |refine Qst rfl rfl (by first |with_reducible exact rT |with_reducible exact rF |assumption) rfl ?_)
      |(show andThen _ _ _ _ _;first
          |refine Ze ?_
          |refine Qsm ?_
          |refine Qj2 ?_)
      |(show W _ _ _ _ _ _;first
          |refine Zc ?_
          |refine Zd ?_
          |refine QaU ?_
          |refine Yx ?_
          |refine QoQ ?_
          |refine Qhv ?_
          |(refine W_c rfl (by first |with_reducible exact rT |with_reducible exact rF |assumption) ?_;first |refine QtQ ?_ |refine QiV ?_)
          |refine QbR (congrArg Value.bool (decide_eq_true (by omega))) ?_
          |refine QaT (congrArg Value.bool (decide_eq_false (by omega))) ?_)
      |(show QaB _ _ _ _ _;first
          |refine QlA ?_
          |refine Qsc ?_
          |refine Qmw ?_
          |refine QpU rfl ?_)
      |(show DL _ _ _ _ _ _;first
          |refine QvK rfl rfl rfl rfl ?_
          |(refine QvM rfl rfl rfl rfl (by first |with_reducible exact rT |with_reducible exact rF |assumption) ?_;first |refine QpA rfl rfl ?_ |refine QvI rfl rfl rfl ?_ |refine QvH rfl rfl ?_)
          |refine Qk2 rfl rfl rfl ?_
          |refine Qqe rfl rfl rfl ?_
          |refine Qqd rfl rfl rfl ?_
          |(refine QvO rfl rfl rfl rfl (by first |with_reducible exact rT |with_reducible exact rF |assumption) ?_;first |refine QpA rfl rfl ?_ |refine QvJ rfl rfl ?_ |refine Qsx rfl rfl ?_ |refine Qsy rfl rfl ?_)
          |refine QvL rfl rfl rfl rfl rfl ?_
          |refine QvN rfl rfl rfl rfl rfl ?_
          |refine Qqf ?_)
      |(show _=_∧DL _ _ _ _ _ _;first
          |refine And.intro rfl ?_))
    exact k.h):A:=h ⟨k⟩
theorem g {A B:Prop} (k:B) (h:Kept B->A:=by
    intro k
    repeat (first
      |(show WL _ _ _ _ _ _ _;first
          |refine Qx2 rfl rfl rfl rfl ?_
          |refine Zb ?_
          |(refine Qx3 rfl rfl rfl (by first |with_reducible exact rT |with_reducible exact rF |assumption) rfl ?_;first |refine QvE rfl rfl ?_ |refine QvD rfl rfl rfl ?_ |refine QvC rfl rfl ?_ |refine Qsv rfl rfl ?_ |refine Qsu rfl rfl ?_)
          |refine Qkz rfl rfl rfl ?_
          |refine QnT rfl rfl ?_
          |refine QvF rfl rfl rfl rfl rfl ?_)
      |(show Exec _ _ _ _ _;first
          |refine Qmk rfl rfl rfl ?_
          |refine Xlb rfl rfl (by apply Qmh;assumption;infer_instance;rfl) ?_
          |refine QtO rfl rfl (by assumption) ?_
          |refine QtP rfl rfl (by apply Qj0;assumption;infer_instance;rfl;rfl) ?_
          |refine Qss rfl rfl (by first |with_reducible exact rT |with_reducible exact rF |assumption) rfl ?_
          |refine Qst rfl rfl (by first |with_reducible exact rT |with_reducible exact rF |assumption) rfl ?_)
      |(show andThen _ _ _ _ _;first
          |refine Ze ?_
          |refine Qsm ?_
          |refine Qj2 ?_)
      |(show QaB _ _ _ _ _;first
          |refine QlA ?_
          |refine Qsc ?_
          |refine Qmw ?_
          |refine QpU rfl ?_)
      |(show DL _ _ _ _ _ _;first
          |refine QvK rfl rfl rfl rfl ?_
          |(refine QvM rfl rfl rfl rfl (by first |with_reducible exact rT |with_reducible exact rF |assumption) ?_;first |refine QpA rfl rfl ?_ |refine QvI rfl rfl rfl ?_ |refine QvH rfl rfl ?_)
          |refine Qk2 rfl rfl rfl ?_
          |refine Qqe rfl rfl rfl ?_
          |refine Qqd rfl rfl rfl ?_
          |(refine QvO rfl rfl rfl rfl (by first |with_reducible exact rT |with_reducible exact rF |assumption) ?_;first |refine QpA rfl rfl ?_ |refine QvJ rfl rfl ?_ |refine Qsx rfl rfl ?_ |refine Qsy rfl rfl ?_)
          |refine QvL rfl rfl rfl rfl rfl ?_
          |refine QvN rfl rfl rfl rfl rfl ?_
          |refine Qqf ?_)
      |(show _=_∧DL _ _ _ _ _ _;first
          |refine And.intro rfl ?_))
    exact k.h):A:=h ⟨k⟩
end Go.Pw
/- -/
theorem Go.Calls.r {P:Go.Program} {f:Go.FuncId} {args:Array Go.Value} {w:Go.World} {R:Go.Ending->Go.World->Prop} (h:Go.Calls P f args w R):Go.Calls P f args w R:=h
namespace Go.Pw
def Qkj (P:Program) (f:Nat):Bool:=match P.funcs[f]? with
 |some fn=>!fn.body.isNone && !(fn.name == "runtime.NumGoroutine")
 |none=>false
def Qwb (n:Nat) (bad:List Nat) (f:Nat):Bool:=Nat.blt f n && !bad.contains f
def Ql5 (P:Program) (n:Nat) (bad:List Nat):Bool:=(List.range n).all fun f=>bad.contains f ||Qkj P f
theorem Qpr {P:Program} {n:Nat} {bad:List Nat} (hall:Ql5 P n bad=true) {ρ:Operand->Value} {o:Oper} {w:World} {K Q:Value->World->Prop} {f:FuncId} {args:List Operand} {ts:Array TypeId} {vs:List Value}
  (ho:o.op= .call { callee:= .value (.func f),args:=args.toArray,argTypes:=ts }) (hc:ρ (.func f)= .func (.func f) #[] #[]) (hlt:Qwb n bad f=true) (hargs:List.map ρ args=vs)
  (h:Calls P f vs.toArray w fun e w'=>∃v,e= .returned v∧Q v w') (hk:∀v w',Q v w'->K v w'):Exec P ρ o w K:=by
 have h1:Qkj P f=true:=by
  unfold Qwb at hlt
  simp only [Xl,Bool.not_eq_true'] at hlt
  have:=List.all_eq_true.1 hall f (XG.2 (by simpa using hlt.1))
  rw [hlt.2,Bool.false_or] at this
  exact this
 unfold Qkj at h1
 split at h1
 ·rename_i fn hf
  simp only [Xl,Bool.not_eq_true'] at h1
  exact DQ ho hc hf h1.1 h1.2 hargs (h.mono fun e w' ⟨v,e1,e2⟩=>⟨v,e1,hk v w' e2⟩)
 ·cases h1
end Go.Pw
/- -/
namespace Go.Pw
inductive Dm (r:Res):List Res->List Res->Prop
  |here {M:List Res}:Dm r (r::M) M
  |there {x:Res} {M M':List Res} (h:Dm r M M'):Dm r (x::M) (x::M')
inductive Db:List Res->List Res->Prop
  |refl {L:List Res}:Db L L
  |take {r:Res} {L M M':List Res} (p:Dm r M M') (h:Db L M'):Db (r::L) M
  |drop {r:Res} {L M:List Res} (h:Db L M):Db L (r::M)
theorem Dm.perm {r:Res}:∀{M M':List Res},Dm r M M'->M.Perm (r::M')
  |_,_, .here=> .refl _
  |_,_, .there h=>(h.perm.cons _).trans (List.Perm.swap _ _ _)
theorem Db.perm:∀{L M:List Res},Db L M->∃D,M.Perm (D++L)
  |_,_, .refl=>⟨[], .refl _⟩
  | _,_, .take p h =>
    let ⟨D,q⟩:=h.perm
    ⟨D,(p.perm.trans (q.cons _)).trans List.perm_middle.symm⟩
  | _,_, .drop h =>
    let ⟨D,q⟩:=h.perm
    ⟨_::D,q.cons _⟩
section
variable {w0 w:World} {s s':Gc} {H H':List Res}
theorem St.drops:∀{D:List Res},St w0 s (D++H) w->St w0 s H w
  |[],h=>h
  |_::D,h=>St.drops (D:=D) h.drop
theorem St.sub (h:St w0 s H w) (k:Db H' H):St w0 s H' w :=
  let ⟨_,p⟩:=k.perm
  (h.perm p).drops
theorem lq (h:Gc.le s s':=by repeat (first |exact Zv _ |assumption |refine Zt ?_ (by assumption))):Gc.le s s':=h
theorem Qvh {α:Type} {E:Enc α} {v:Value} {xs:List α} (h:Ga E s v xs) (l:Gc.le s s'):Ga E s' v xs:=h.mono l
theorem rq {α:Type} {E:Enc α} {v:Value} {xs:List α} (h:Ga E s v xs:=by first |assumption |exact Ga.nil _ _ |exact Qvh (by assumption) lq):Ga E s v xs:=h
theorem hq (h:St w0 s H w:=by
    first
    |assumption
    | (refine St.sub (by assumption) ?_
       repeat (first
         |exact Db.refl
         |(apply Db.take;(repeat (first |exact Dm.here |apply Dm.there)))
         |refine Db.drop ?_))):St w0 s H w:=h
end
section
variable {P:Program} {ρ:Operand->Value} {o:Oper} {w w0:World} {s:Gc} {H:List Res} {K:Value->World->Prop} {T:TypeId}
theorem Jv {α:Type} {E:Enc α} {xs:List α} {y:α} {x i:Operand} {v:Value} {k:IntKind} {n:Int} {e m by_:Nat} [hT:STy P T e m by_] (ho:o.op= .indexAddr T x i) (hx:ρ x=v) (hi:ρ i= .int k n) (hy:idx xs n=some y)
    (hk:∀b off,At s b off E y->K (.pointer (some ⟨b,off,none⟩)) w) (hS:St w0 s H w:=by assumption) (h:Ga E s v xs:=by first |assumption |exact Qvh (by assumption) lq) (hm:m=E.sz:=by rfl):Exec P ρ o w K :=
  QfY (by rw [<-hm];exact hT.h) ho hx hi h hy hk
end
section
variable {P:Program} {ρ:Operand->Value} {o:Oper} {w w0:World} {s:Gc} {H:List Res} {K:Value->World->Prop} {T:TypeId}
theorem onq {v:Value} (h:v.oneCell'=true:=by first |rfl |exact Ga.one (by assumption) |exact St.arr_one hq):v.oneCell'=true:=h
theorem Xst {x y:Operand} {b off n:Nat} {Tb:TypeId} {cs ds es:List Value} {v:Value} {ag:Bool} [hT:ATy P T ag n] (ho:o.op= .store T x y) (hx:ρ x= .pointer (some ⟨b,off,none⟩)) (hy:ρ y=v)
    (hk:∀w',St w0 s (.box b Tb es::H) w'->K undef w') (hS:St w0 s (.box b Tb cs::H) w:=by
      first
      |assumption
      | (refine St.sub (by assumption) ?_
         repeat (first
           |exact Db.refl
           |(apply Db.take;(repeat (first |exact Dm.here |apply Dm.there)))
           |refine Db.drop ?_)))
    (hc:v.cells=ds.toArray:=by first |rfl |exact Qs onq) (hn:ds.length=n:=by rfl) (h1:∀v ∈ ds,v.oneCell'=true:=by repeat (first |exact QM |refine Zj onq ?_))
    (hfit:off+n<=cs.length:=by exact Xc rfl) (he:cs.take off++ds++cs.drop (off+n)=es:=by rfl):Exec P ρ o w K:=by
  subst hn
  exact Qu hS hT.h ho hx hy hc h1 hfit he hk
theorem JV {x:Operand} {v:Value} {cs:List Value} (ho:o.op= .box T x) (hx:ρ x=v) (hk:∀b w',St w0 s (.box b T cs::H) w'->K (.pointer (some ⟨b,0,none⟩)) w') (hS:St w0 s H w:=by assumption) (hc:v.cells=cs.toArray:=by first |rfl |exact Qs onq):Exec P ρ o w K:=DR hS ho hx hc hk
end
theorem Qyw {a b c:Prop} (hb:b) (ha:a) (hc:c):a∧b∧c:=⟨ha,hb,hc⟩
theorem Qyx {a b:Prop} (hb:b) (ha:a):a∧b:=⟨ha,hb⟩
theorem fxq {f:Fr} {l:List (Nat×Value)} (h:FxL f l:=by
    repeat (first
      |exact FxL.nil
      |refine FxL.cons rfl ?_
      |refine FxL.cons (Jo (by assumption) (Ga.le (by assumption))) ?_
      |refine FxL.cons (congrArg Value.bool (by simp only [*,Bool.true_and,Bool.false_and,Bool.true_or,Bool.false_or])) ?_)):Fx f l:=⟨f,h.eq⟩
theorem fq {A:Prop} (h:A:=by
    repeat (apply Exists.intro)
    first
    | (refine Qyw hq lq ?_
       repeat (first
         |exact fxq
         |exact rfl
         |exact rq
         |refine And.intro rfl ?_
         |refine And.intro fxq ?_
         |refine And.intro rq ?_))
    |exact Qyx hq lq):A:=h
theorem fr {P:Program} {fn:Func} {R:Value->World->Prop} {f:Fr} {w:World} {t:Nat} (hr:fn.results=#[.tmp t]:=by rfl) (h:R (f t) w:=by exact fq):Qse P fn R .ret f w:=⟨_,Qd0 hr,h⟩
theorem Qyv {α:Type} {c:Bool} {x y:Option α} {r:α} (h:(if c=true then x else y)=some r):(c=true∧x=some r)∨(c=false∧y=some r):=by
  cases c with
  |true=>exact .inl ⟨rfl,h⟩
  |false=>exact .inr ⟨rfl,h⟩
theorem tf (c:Bool):c=true∨c=false:=by cases c <;> simp
theorem Qa {α β:Type} {x:Option α} {f:α->Option β} {r:β} {Q:Prop} (h:x.bind f=some r) (k:∀a,x=some a->f a=some r->Q):Q:=let ⟨a,h1,h2⟩:=Zg h;k a h1 h2
theorem Q6 {S R β:Type} {x:Option (Ctl S R)} {kr:R->Option β} {k:S->Option β} {r:β} {Q:Prop} (h:ctl x kr k=some r) (q:∀c,x=some c->(∀q,c= .ret q->kr q=some r)->(∀s,c= .next s->k s=some r)->(∀s,c= .brk s->k s=some r)->Q):Q:=let ⟨c,h1,h2,h3,h4⟩:=Qkw h;q c h1 h2 h3 h4
theorem Qd4 {β:Type} {b:Bool} {x y:Option β} {r:β} {Q:Prop} (h:(if b=true then x else y)=some r) (k1:b=true->x=some r->Q) (k2:¬b=true->y=some r->Q):Q:=(Qao h).elim (fun h=>k1 h.1 h.2) fun h=>k2 h.1 h.2
theorem Qe {β:Type} {b:Bool} {x y:Option β} {r:β} {Q:Prop} (h:(if b=true then x else y)=some r) (k1:b=true->x=some r->Q) (k2:b=false->y=some r->Q):Q:=(Qyv h).elim (fun h=>k1 h.1 h.2) fun h=>k2 h.1 h.2
end Go.Pw
/- -/
namespace Go.Pw
section
variable {P:Program} {ρ:Operand->Value} {o:Oper} {w:World} {K:Value->World->Prop} {T T' E:TypeId} {x:Operand}
theorem Qeg {p:Addr} (hT:P.underlying T=some (.pointer E)) (ho:o.op= .binOp .eql T x (.const (.pointer none)) T') (hx:ρ x= .pointer (some p)) (hc:ρ (.const (.pointer none))= .pointer none) (hk:K (.bool false) w):Exec P ρ o w K :=
 Qi9 hT ho hx hc hk
end
end Go.Pw
