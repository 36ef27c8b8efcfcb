/- -/
import Derived.Test.YtalfjlihddgooaaGreatDoorBa
import Derived.Sort.AssemblyPlain
import Derived.Lib.BitFns
import Derived.Test.YtalfjlihddgooaaGreatDoorLC
import Derived.Maps.OwnSet
import Derived.StringKeys
import Derived.Carry
import Derived.Lib.AppendStr
import Derived.Lib.UnsafeStr
import Derived.Lib.Builder
import Derived.Test.YtalfjlihddgooaaGreatDoorLA
import Derived.Maps.RangeWalk
import Derived.Laws.Externs
namespace Go.Pw
noncomputable def QkX {α:Type} [Inhabited α] (lt:α->α->Bool) (xs:List α):List α:=(Sort.pdq lt xs.toArray 0 xs.length (Lib.bitLen xs.length) true true).toList
theorem Qit {α:Type} [Inhabited α] {lt:α->α->Bool} (hO:Sort.SWO lt) (xs:List α):(QkX lt xs).Perm xs:=by
 have h:=(Sort.pdq_sorts lt hO xs.toArray 0 xs.length (Lib.bitLen xs.length) true true (X7 _) (Xi _) (Or.inl rfl)).1
 obtain ⟨h1,_,h2⟩:=h
 simp only [List.size_toArray] at h1
 have e1:=Array.extract_size (xs:=Sort.pdq lt xs.toArray 0 xs.length (Lib.bitLen xs.length) true true)
 have e2:=Array.extract_size (xs:=xs.toArray)
 rw [h1] at e1
 simp only [List.size_toArray] at e2
 rw [e1,e2] at h2
 simpa [QkX] using h2
end Go.Pw
/- -/
namespace Go.Pw
def Qc1 (a b:Int):Int:=if a<b then -1 else if b<a then 1 else 0
theorem Qbg (a b:Int):Qc1 a b<0↔a<b:=by
 unfold Qc1
 by_cases h1:a<b <;> by_cases h2:b<a <;> simp [h1,h2]
theorem Qdz (a b:Int):Qc1 a b=0↔a=b:=by
 unfold Qc1
 by_cases h1:a<b <;> by_cases h2:b<a <;> simp [h1,h2] <;> omega
universe u
end Go.Pw
/- -/
set_option linter.unusedSimpArgs false
namespace Go.Pw
/-! ### the pure words -/
abbrev QmX:=List (ByteArray×Int)
def Qj8 (m:QmX) (s:ByteArray):Option Int:=match m with
 |[]=>none
 |(k,v)::r=>if k.data.toList=s.data.toList then some v else Qj8 r s
def QmP (m:QmX) (s:ByteArray) (v:Int):QmX:=match m with
 |[]=>[(s,v)]
 |(k,u)::r=>if k.data.toList=s.data.toList then (k,v)::r else (k,u)::QmP r s v
theorem Qoo (m:QmX) (s:ByteArray) (v:Int):(QmP m s v).length=if (Qj8 m s).isSome then m.length else m.length+1:=by
 induction m with
 |nil=>simp [QmP,Qj8]
 | cons p r ih =>
  obtain ⟨k,u⟩:=p
  unfold QmP Qj8
  by_cases h:k.data.toList=s.data.toList
  ·rw [if_pos h,if_pos h];simp
  ·rw [if_neg h,if_neg h,Xw,ih]
   split <;> simp
theorem Qn2 (m:QmX) (s t:ByteArray) (v:Int):Qj8 (QmP m s v) t=if s.data.toList=t.data.toList then some v else Qj8 m t:=by
 induction m with
 |nil=>simp [QmP,Qj8]
 | cons p r ih =>
  obtain ⟨k,u⟩:=p
  unfold QmP
  by_cases h:k.data.toList=s.data.toList
  ·rw [if_pos h]
   unfold Qj8
   by_cases h2:s.data.toList=t.data.toList
   ·rw [if_pos h2,if_pos (h.trans h2)]
   ·have h3:¬k.data.toList=t.data.toList:=fun e=>h2 (h.symm.trans e)
    rw [if_neg h2,if_neg h3,if_neg h3]
  ·rw [if_neg h]
   unfold Qj8
   rw [ih]
   by_cases h2:k.data.toList=t.data.toList
   ·have h3:¬s.data.toList=t.data.toList:=fun e=>h (h2.trans e.symm)
    rw [if_pos h2,if_neg h3,if_pos h2]
   ·rw [if_neg h2,if_neg h2]
/-! ### what is owned -/
abbrev Qj4 (s:ByteArray):Lit:= .string s.data.toList
abbrev DM:=DataW Unit
def Reads (D:DM) (m:QmX):Prop:=(∀s:ByteArray,Maps.has D (Qj4 s)=(Qj8 m s).isSome)∧(∀(s:ByteArray) (v:Int) (z:DM),Qj8 m s=some v->D.atKey (Qj4 s) z= .lit (.int .i64 v))∧Maps.size D=m.length
theorem QhT (l:List UInt8):WideAt.IsKeyLit (.string l):=by
 simp [WideAt.IsKeyLit]
theorem Reads.put {D:DM} {m:QmX} (h:Reads D m) (ht:Maps.Tidy D) (s:ByteArray) (v:Int):Reads (D.put (Qj4 s) (.lit (.int .i64 v))) (QmP m s v):=by
 obtain ⟨h1,h2,h3⟩:=h
 refine ⟨fun t=>?_,fun t u z ht2=>?_,?_⟩
 ·rw [Qn2]
  by_cases e:s.data.toList=t.data.toList
  ·rw [if_pos e]
   have:Qj4 t=Qj4 s:=by rw [Qj4,Qj4,e]
   rw [this,Maps.has_put_same ht.isMap (QhT _)]
   rfl
  ·rw [if_neg e,Maps.has_put_other (fun he=>e (by injection he with he;exact he.symm)),h1]
 ·rw [Qn2] at ht2
  by_cases e:s.data.toList=t.data.toList
  ·rw [if_pos e] at ht2
   cases ht2
   have:Qj4 t=Qj4 s:=by rw [Qj4,Qj4,e]
   rw [this,Maps.atKey_put_same ht.isMap (QhT _)]
  ·rw [if_neg e] at ht2
   rw [Maps.atKey_put_other (fun he=>e (by injection he with he;exact he.symm))]
   exact h2 t u z ht2
 ·rw [Maps.size_put ht,h1,Qoo,h3]
section
variable {P:Program} {ρ:Operand->Value} {o:Oper} {w w0:World} {s:Gc} {H:List Res} {K:Value->World->Prop} {T k e:TypeId} {b:Nat} {m:QmX}
end
end Go.Pw
/- -/
namespace Go.Pw
def cat (a b:ByteArray):Option ByteArray:=if a.size+b.size<=9223372036854775807 then some (a++b) else none
section
variable {P:Program} {ρ:Operand->Value} {o:Oper} {w w0:World} {s:Gc} {H:List Res} {K:Value->World->Prop} {T T':TypeId} {x y:Operand} {a b c:ByteArray}
theorem J3 (ho:o.op= .binOp .add T x y T') (hx:ρ x= .string a) (hy:ρ y= .string b) (hc:cat a b=some c) (hk:K (.string c) w):Exec P ρ o w K:=by
 unfold cat at hc
 split at hc
 ·rename_i h
  cases hc
  refine Qaa (op:= .add) (a:= .string a) (b:= .string b) ho hx hy (by simp [eqGuard]) ?_ hk
  have h2:¬(IntKind.i64.max<(a.size:Int)+(b.size:Int)):=by
   have e:IntKind.i64.max=9223372036854775807:=by decide
   rw [e];omega
  simp [go_sem,Op.stringOp,h2]
  omega
 ·cases hc
end
end Go.Pw
/- -/
namespace Go.Pw
/-! ### the pure words -/
def QcJ (s:ByteArray):List Int:=s.data.toList.map fun b=>(b.toNat:Int)
section
variable {P:Program} {ρ:Operand->Value} {o:Oper} {w w0:World} {s:Gc} {H:List Res} {K:Value->World->Prop} {Te:TypeId} {v:Value} {xs zs:List Int}
/-! ### a builder's own address -/
end
end Go.Pw
/- -/
set_option linter.unusedVariables false
namespace Go.Pw
/-! ### the pure words -/
abbrev QmZ:=List (Int×Bool)
def QjA (m:QmZ) (s:Int):Option Bool:=match m with
 |[]=>none
 |(k,v)::r=>if k=s then some v else QjA r s
def QmV (m:QmZ) (s:Int) (v:Bool):QmZ:=match m with
 |[]=>[(s,v)]
 |(k,u)::r=>if k=s then (k,v)::r else (k,u)::QmV r s v
def QfA (n:Int):Prop:= -9223372036854775808<=n∧n<=9223372036854775807
instance (n:Int):Decidable (QfA n):=by unfold QfA;infer_instance
theorem Qoz (m:QmZ) (s:Int) (v:Bool):(QmV m s v).length=if (QjA m s).isSome then m.length else m.length+1:=by
 induction m with
 |nil=>simp [QmV,QjA]
 | cons p r ih =>
  obtain ⟨k,u⟩:=p
  unfold QmV QjA
  by_cases h:k=s
  ·rw [if_pos h,if_pos h];simp
  ·rw [if_neg h,if_neg h,Xw,ih]
   split <;> simp
theorem QnR (m:QmZ) (s t:Int) (v:Bool):QjA (QmV m s v) t=if s=t then some v else QjA m t:=by
 induction m with
 |nil=>simp [QmV,QjA]
 | cons p r ih =>
  obtain ⟨k,u⟩:=p
  unfold QmV
  by_cases h:k=s
  ·rw [if_pos h]
   unfold QjA
   by_cases h2:s=t
   ·rw [if_pos h2,if_pos (h.trans h2)]
   ·have h3:¬k=t:=fun e=>h2 (h.symm.trans e)
    rw [if_neg h2,if_neg h3,if_neg h3]
  ·rw [if_neg h]
   unfold QjA
   rw [ih]
   by_cases h2:k=t
   ·have h3:¬s=t:=fun e=>h (h2.trans e.symm)
    rw [if_pos h2,if_neg h3,if_pos h2]
   ·rw [if_neg h2,if_neg h2]
theorem Qkp {n:Int} (h:QfA n):(Lit.int .i64 n).wf=true:=by
 obtain ⟨h1,h2⟩:=h
 have e1:IntKind.i64.min= -9223372036854775808:=by decide
 have e2:IntKind.i64.max=9223372036854775807:=by decide
 simp only [Lit.wf,Xz,e1,e2]
 simp [e1,e2]
 omega
/-! ### what is owned -/
def Dv (D:DM) (m:QmZ):Prop:=(∀s:Int,Maps.has D (.int .i64 s)=(QjA m s).isSome)∧(∀(s:Int) (v:Bool) (z:DM),QjA m s=some v->D.atKey (.int .i64 s) z= .lit (.bool v))∧Maps.size D=m.length
theorem Qdr (n:Int):WideAt.IsKeyLit (.int .i64 n):=by
 simp [WideAt.IsKeyLit]
theorem Dv.put {D:DM} {m:QmZ} (h:Dv D m) (ht:Maps.Tidy D) (s:Int) (v:Bool):Dv (D.put (.int .i64 s) (.lit (.bool v))) (QmV m s v):=by
 obtain ⟨h1,h2,h3⟩:=h
 refine ⟨fun t=>?_,fun t u z ht2=>?_,?_⟩
 ·rw [QnR]
  by_cases e:s=t
  ·subst e
   rw [if_pos rfl,Maps.has_put_same ht.isMap (Qdr _)]
   rfl
  ·rw [if_neg e,Maps.has_put_other (fun he=>e (by injection he with _ he;first |exact he.symm |exact he)),h1]
 ·rw [QnR] at ht2
  by_cases e:s=t
  ·subst e
   rw [if_pos rfl] at ht2
   cases ht2
   rw [Maps.atKey_put_same ht.isMap (Qdr _)]
  ·rw [if_neg e] at ht2
   rw [Maps.atKey_put_other (fun he=>e (by injection he with _ he;first |exact he.symm |exact he))]
   exact h2 t u z ht2
 ·rw [Maps.size_put ht,h1,Qoz,h3]
section
variable {P:Program} {ρ:Operand->Value} {o:Oper} {w w0:World} {s:Gc} {H:List Res} {K:Value->World->Prop} {T k e:TypeId} {b:Nat} {m:QmZ}
end
end Go.Pw
/- -/
namespace Go.Pw
section
variable {P:Program} {ρ:Operand->Value} {o:Oper} {w:World} {K:Value->World->Prop} {T T':TypeId} {x y:Operand} {a b:ByteArray}
end
end Go.Pw
/- -/
namespace Go.Pw
/-! ### the pure words -/
def Qcf {α:Type}:List (Int×α)->Int->Option α
 |[],_=>none
 |(k,v)::r,s=>if k=s then some v else Qcf r s
def Qcx {α:Type}:List (Int×α)->Int->α->List (Int×α)
 |[],s,v=>[(s,v)]
 |(k,u)::r,s,v=>if k=s then (k,v)::r else (k,u)::Qcx r s v
def QiU:List Int->Int->Option Nat
 |[],_=>none
 |k::r,s=>if k=s then some 0 else (QiU r s).map (·+1)
section
variable {α β:Type}
theorem QiN (m:List (Int×α)) (s:Int) (v:α):(Qcx m s v).length=if (Qcf m s).isSome then m.length else m.length+1:=by
 induction m with
 |nil=>simp [Qcx,Qcf]
 | cons p r ih =>
  obtain ⟨k,u⟩:=p
  unfold Qcx Qcf
  by_cases h:k=s
  ·rw [if_pos h,if_pos h];simp
  ·rw [if_neg h,if_neg h,Xw,ih]
   split <;> simp
theorem QfJ (m:List (Int×α)) (s t:Int) (v:α):Qcf (Qcx m s v) t=if s=t then some v else Qcf m t:=by
 induction m with
 |nil=>simp [Qcx,Qcf]
 | cons p r ih =>
  obtain ⟨k,u⟩:=p
  unfold Qcx
  by_cases h:k=s
  ·rw [if_pos h]
   unfold Qcf
   by_cases h2:s=t
   ·rw [if_pos h2,if_pos (h.trans h2)]
   ·have h3:¬k=t:=fun e=>h2 (h.symm.trans e)
    rw [if_neg h2,if_neg h3,if_neg h3]
  ·rw [if_neg h]
   unfold Qcf
   rw [ih]
   by_cases h2:k=t
   ·have h3:¬s=t:=fun e=>h (h2.trans e.symm)
    rw [if_pos h2,if_neg h3,if_pos h2]
   ·rw [if_neg h2,if_neg h2]
theorem QlJ:∀{m:List (Int×α)} {M:List (Int×β)},m.map Prod.fst=M.map Prod.fst->∀(s:Int) (v:α) (x:β),(Qcx m s v).map Prod.fst=(Qcx M s x).map Prod.fst
 |[],[],_,s,v,x=>rfl
 |[],_::_,h,_,_,_=>by simp at h
 |_::_,[],h,_,_,_=>by simp at h
 |(k,u)::m,(k',y)::M,h,s,v,x=>by
  simp only [Xv,List.cons.injEq] at h
  obtain ⟨rfl,h⟩:=h
  unfold Qcx
  by_cases e:k=s
  ·simp [e,h]
  ·simp [e,QlJ h s v x]
theorem Qc5:∀{m:List (Int×α)} {s:Int} {i:Nat},QiU (m.map Prod.fst) s=some i->∃v,(m.map Prod.snd)[i]?=some v∧Qcf m s=some v∧∀v',(Qcx m s v').map Prod.snd=(m.map Prod.snd).set i v'
 |[],s,i,h=>by simp [QiU] at h
 | (k,u)::m,s,i,h=>by
  simp only [Xv,QiU] at h
  by_cases e:k=s
  ·rw [if_pos e] at h
   cases h
   exact ⟨u,Z,by simp [Qcf,e],fun v'=>by simp [Qcx,e]⟩
  ·rw [if_neg e] at h
   obtain ⟨j,hj,rfl⟩:=Xp.1 h
   obtain ⟨v,h1,h2,h3⟩:=Qc5 (m:=m) hj
   exact ⟨v,by simpa using h1,by simp [Qcf,e,h2],fun v'=>by simp [Qcx,e,h3]⟩
theorem Qc6:∀{m:List (Int×α)} {s:Int},QiU (m.map Prod.fst) s=none->Qcf m s=none∧∀v',Qcx m s v'=m++[(s,v')]
 |[],s,_=>⟨rfl,fun _=>rfl⟩
 | (k,u)::m,s,h=>by
  simp only [Xv,QiU] at h
  by_cases e:k=s
  ·rw [if_pos e] at h;cases h
  ·rw [if_neg e] at h
   have h':QiU (m.map Prod.fst) s=none:=by
    cases hq:QiU (m.map Prod.fst) s with
    |none=>rfl
    |some j=>rw [hq] at h;cases h
   obtain ⟨h1,h2⟩:=Qc6 (m:=m) h'
   exact ⟨by simp [Qcf,e,h1],fun v'=>by simp [Qcx,e,h2]⟩
theorem Qe5 {m:List (Int×α)} {s:Int}:(Qcf m s).isSome=true↔s ∈ m.map Prod.fst:=by
 induction m with
 |nil=>simp [Qcf]
 | cons p r ih =>
  obtain ⟨k,u⟩:=p
  unfold Qcf
  by_cases e:k=s
  ·simp [e]
  ·rw [if_neg e,ih,Xv,Xr]
   exact ⟨.inr,fun h=>h.elim (fun q=>absurd q.symm e) id⟩
end
theorem Qhe {α:Type}:∀{m:List (Int×α)},(m.map Prod.fst).Nodup->∀(s:Int) (v:α),((Qcx m s v).map Prod.fst).Nodup
 |[],_,s,v=>by simp [Qcx]
 | (k,u)::m,h,s,v=>by
  simp only [Xv,List.nodup_cons] at h
  unfold Qcx
  by_cases e:k=s
  ·rw [if_pos e]
   simp only [Xv,List.nodup_cons]
   exact h
  ·rw [if_neg e]
   simp only [Xv,List.nodup_cons]
   refine ⟨fun hm=>?_,Qhe h.2 s v⟩
   rw [<-Qe5,QfJ] at hm
   by_cases e2:s=k
   ·exact e e2.symm
   ·rw [if_neg e2,Qe5] at hm
    exact h.1 hm
abbrev Qhs:=List (Int×Value)
def YZ {α:Type} (M:List (Int×List α)) (q:Int):Option (List α):=if QfA q then some ((Qcf M q).getD []) else none
def QdW {α:Type} (M:List (Int×List α)) (q:Int) (l:List α):Option (List (Int×List α)):=if QfA q∧M.length<maxLen then some (Qcx M q l) else none
/-! ### two things that are owned, as one -/
def Res.star (A B:Res) (φ:Prop):Res where
 p:=fun s w bs=>φ∧∃b1 b2,bs=b1++b2∧A.p s w b1∧B.p s w b2
 loc:=by
  rintro s w w' bs ⟨h,b1,b2,rfl,h1,h2⟩ hw
  exact ⟨h,b1,b2,Z,A.loc h1 (fun b hb=>hw b (List.mem_append_left _ hb)),B.loc h2 (fun b hb=>hw b (List.mem_append_right _ hb))⟩
 mono:=by
  rintro s t w bs l ⟨h,b1,b2,rfl,h1,h2⟩
  exact ⟨h,b1,b2,Z,A.mono l h1,B.mono l h2⟩
 lt:=by
  rintro s w bs ⟨h,b1,b2,rfl,h1,h2⟩ b hb
  rcases Xn.1 hb with hb |hb
  ·exact A.lt h1 b hb
  ·exact B.lt h2 b hb
section
variable {w w0:World} {s:Gc} {H:List Res} {A B:Res} {φ:Prop}
theorem Qcb (hS:St w0 s (.star A B φ::H) w):φ∧St w0 s (A::B::H) w:=by
 obtain ⟨bs,hn,hs,b1,b2,e,⟨hφ,c1,c2,rfl,h1,h2⟩,h3⟩:=hS.own
 exact ⟨hφ,hS.os,hS.tape,hS.output,hS.drawn,hS.size,hS.stay,bs,hn,hs,c1,c2++b2,by rw [e,List.append_assoc],h1,c2,b2,Z,h2,h3⟩
theorem St.star (hS:St w0 s (A::B::H) w) (h:φ):St w0 s (.star A B φ::H) w:=by
 obtain ⟨bs,hn,hs,b1,b2,e,h1,c1,c2,rfl,h2,h3⟩:=hS.own
 exact ⟨hS.os,hS.tape,hS.output,hS.drawn,hS.size,hS.stay,bs,hn,hs,b1++c1,c2,by rw [e,List.append_assoc],⟨h,b1,c1,Z,h1,h2⟩,h3⟩
theorem St.conv (hS:St w0 s (A::H) w) (h:∀bs,A.p s w bs->B.p s w bs):St w0 s (B::H) w:=by
 obtain ⟨bs,hn,hs,b1,b2,e,h1,h2⟩:=hS.own
 exact ⟨hS.os,hS.tape,hS.output,hS.drawn,hS.size,hS.stay,bs,hn,hs,b1,b2,e,h b1 h1,h2⟩
end
/-! ### the map, its elements as they lie -/
abbrev DV:=DataW Value
def QcG (v:Value):Option (DV×List MemPlace):=if v.oneCell'=true then some (.held v,[]) else none
theorem QiI {v:Value} {z:DV×List MemPlace} (h:QcG v=some z):z=(.held v,[]):=by
 unfold QcG at h
 split at h
 ·exact (Zu h).symm
 ·cases h
def GW (D:DV) (m:Qhs):Prop:=(∀s:Int,Maps.has D (.int .i64 s)=(Qcf m s).isSome)∧(∀(s:Int) (v:Value) (z:DV),Qcf m s=some v->D.atKey (.int .i64 s) z= .held v)∧Maps.size D=m.length
theorem QoT:GW (.map []) []:=⟨fun s=>rfl,(by intro s v z h;cases h),rfl⟩
theorem GW.put {D:DV} {m:Qhs} (h:GW D m) (ht:Maps.Tidy D) (s:Int) (v:Value):GW (D.put (.int .i64 s) (.held v)) (Qcx m s v):=by
 obtain ⟨h1,h2,h3⟩:=h
 refine ⟨fun t=>?_,fun t u z ht2=>?_,?_⟩
 ·rw [QfJ]
  by_cases e:s=t
  ·subst e
   rw [if_pos rfl,Maps.has_put_same ht.isMap (Qdr _)]
   rfl
  ·rw [if_neg e,Maps.has_put_other (fun he=>e (by injection he with _ he;first |exact he.symm |exact he)),h1]
 ·rw [QfJ] at ht2
  by_cases e:s=t
  ·subst e
   rw [if_pos rfl] at ht2
   cases ht2
   rw [Maps.atKey_put_same ht.isMap (Qdr _)]
  ·rw [if_neg e] at ht2
   rw [Maps.atKey_put_other (fun he=>e (by injection he with _ he;first |exact he.symm |exact he))]
   exact h2 t u z ht2
 ·rw [Maps.size_put ht,h1,QiN,h3]
theorem Qlz {D:DV} {m:Qhs} (h:GW D m) (q:Int) (z:Value):D.atKey (.int .i64 q) (.held z)= .held ((Qcf m q).getD z):=by
 cases hm:Qcf m q with
 |some u=>rw [h.2.1 q u _ hm];rfl
 |none =>
  have hh:=h.1 q
  rw [hm] at hh
  rw [Maps.atKey_of_not_has (D:=D) (k:= .int .i64 q) (by simpa using hh)]
  rfl
theorem Df {H:Type} {P:Program} {k:TypeId} {R:Value->Option (DataW H×List MemPlace)} {w:World} {b n:Nat} {D:DataW H} (h:w.ownsMap P k R b n D):w.ownsMap P k R b (Maps.size D) D:=by
 obtain ⟨es,clock,hb,F,hs,rfl⟩:=h
 exact ⟨es,clock,hb,F,by simp [Maps.size,length_sorted],Z⟩
def Res.vmap (P:Program) (k:TypeId) (b:Nat) (m:Qhs):Res where
 p:=fun _ w bs=>bs=[b]∧∃D:DV,w.ownsMap P k QcG b m.length D∧GW D m
 loc:=by
  rintro s w w' bs ⟨rfl,D,⟨es,clock,hb,r⟩,h2⟩ hw
  exact ⟨Z,D,⟨es,clock,by rw [hw b (by simp)];exact hb,r⟩,h2⟩
 mono:=fun _ h=>h
 lt:=by
  rintro s w bs ⟨rfl,D,h1,_⟩ b' hb
  simp at hb;subst hb
  exact h1.lt
def QeN (P:Program) (T k e:TypeId):Prop:=P.underlying T=some (.map k e)∧P.underlying k=some (.int .i64)
theorem QpB {P:Program} {e:TypeId} {z:Value} (hz:JW P e=some z) (w:World):(zeroValue e).run P w= .ok z w:=by
 unfold JW at hz
 cases hi:P.info? e with
 |none=>rw [hi] at hz;cases hz
 |some i =>
  rw [hi] at hz
  simp at hz
  simp [zeroValue,typeInfo,hi,hz,Result.andThen]
section
variable {P:Program} {ρ:Operand->Value} {o:Oper} {w w0:World} {s:Gc} {H:List Res} {K:Value->World->Prop} {T k e:TypeId} {b:Nat} {m:Qhs}
theorem St.vmap_get (hS:St w0 s (.vmap P k b m::H) w):∃D:DV,w.ownsMap P k QcG b m.length D∧GW D m:=by
 obtain ⟨bs,hn,hs,b1,b2,e,⟨rfl,D,h1,h2⟩,h3⟩:=hS.own
 exact ⟨D,h1,h2⟩
abbrev Qj7:Value:= .slice none 0 0
theorem QkQ (hS:St w0 s H w) (ho:o.op= .makeMap T none) (hk:∀b w',St w0 s (.vmap P k b []::H) w'->K (.map (some b)) w'):Exec P ρ o w K:=by
 have hrun:(Instr.makeMap T none).run P w= .ok (.map (some w.heap.size)) (w.alloc (.map #[] 0)):=rfl
 refine .of_run (v:= .map (some w.heap.size)) (w':=w.alloc (.map #[] 0)) ?_ (hk _ _ ?_)
 ·unfold execOp
  simp only [ho,Option.map_none,Xe,hrun,Xd,Xg]
 ·obtain ⟨bs,hn,hs,hb⟩:=hS.own
  have hlt:=hb.lt
  refine ⟨hS.os,hS.tape,hS.output,hS.drawn,X0 hS.size (by simp),fun b o hbo=>?_,w.heap.size::bs,List.nodup_cons.2 ⟨fun hm=>Nat.lt_irrefl _ (hlt _ hm),hn⟩,?_,[w.heap.size],bs,Z,⟨Z, .map [],World.ownsMap_made w P k _,QoT⟩,hb.loc fun b hm=>Qac w _ (hlt b hm)⟩
  ·have:=hS.stay b o hbo
   rw [Qac w _ (Array.getElem?_eq_some_iff.1 this).1]
   exact this
  ·intro b hm
   rcases Xr.1 hm with e |hm
   ·subst e;exact hS.new
   ·exact hs b hm
theorem QkP {x y:Operand} {q:Int} (hS:St w0 s (.vmap P k b m::H) w) (hT:QeN P T k e) (hz:JW P e=some Qj7) (ho:o.op= .lookup T x y false) (hx:ρ x= .map (some b)) (hy:ρ y= .int .i64 q)
  (hq:QfA q) (hk:K ((Qcf m q).getD Qj7) w):Exec P ρ o w K:=by
 obtain ⟨D,h1,h2⟩:=hS.vmap_get
 obtain ⟨t1,t2⟩:=hT
 have K':Maps.Keyed P k:=Maps.int_keyed t2
 have hkey:=Maps.keyOf_int_mk t2 (Qkp hq)
 obtain ⟨v,ps,hrun,hv⟩:=h1.lookup K' t1 (QpB hz w) (show QcG Qj7=some (.held Qj7,[]) from rfl) hkey
 have hv2:=QiI hv
 rw [Qlz h2] at hv2
 simp only [Prod.mk.injEq,DataW.held.injEq] at hv2
 refine .of_run (w':=w) (v:=v) ?_ (by rw [<-hv2.1];exact hk)
 unfold execOp
 simp [ho,hx,hy,hrun,Result.andThen]
theorem Qlk {x y z:Operand} {q:Int} {v:Value} (hS:St w0 s (.vmap P k b m::H) w) (hT:QeN P T k e) (ho:o.op= .mapUpdate T x y z) (hx:ρ x= .map (some b)) (hy:ρ y= .int .i64 q) (hz:ρ z=v) (h1c:v.oneCell'=true)
  (hq:QfA q) (hm:m.length<maxLen) (hk:∀w',St w0 s (.vmap P k b (Qcx m q v)::H) w'->K undef w'):Exec P ρ o w K:=by
 obtain ⟨D,h1,h2⟩:=hS.vmap_get
 obtain ⟨t1,t2⟩:=hT
 have K':Maps.Keyed P k:=Maps.int_keyed t2
 have hkey:=Maps.keyOf_int_mk t2 (Qkp hq)
 obtain ⟨w',hrun,h3,hT'⟩:=h1.store K' t1 hm hkey (show QcG v=some (.held v,[]) by unfold QcG;rw [if_pos h1c])
 have h4:=hT'.grown
 have hdr:w.drawn=w'.drawn:=by obtain ⟨es,c,es',c',_,rfl⟩:=hT';rfl
 have h5:=h2.put (h1.tidy K') q v
 refine .of_skip (w':=w') ?_ (hk _ ?_)
 ·unfold execOp
  simp [ho,hx,hy,hz,hrun,Result.andThen]
 ·refine hS.turn h4.os h4.tape h4.output (Nat.le_of_eq hdr) h4.size ?_
  intro b1 hb1
  obtain ⟨hb1,_⟩:=hb1
  subst hb1
  refine ⟨[b],⟨Z,_,?_,h5⟩,by simp,fun b' hb=> .inl hb,fun b' hlt hne=>h4.block b' hlt (by simp at hne;simpa using hne)⟩
  have:=Df h3
  rw [h5.2.2] at this
  exact this
end
/-! ### with its rows -/
section
variable {α:Type}
def Res.hmap (P:Program) (k:TypeId) (E:Enc α) (Te:TypeId) (b:Nat) (m:Qhs) (M:List (Int×List α)):Res:= .star (.vmap P k b m) (.rows E Te (m.map Prod.snd) (M.map Prod.snd)) (m.map Prod.fst=M.map Prod.fst∧(m.map Prod.fst).Nodup)
def Res.hole (E:Enc α) (Te:TypeId) (ks:List Int) (hs:List Value) (xss:List (List α)) (q:Int):Res:=match QiU ks q with
 |some i=> .rows E Te (hs.eraseIdx i) (xss.eraseIdx i)
 |none=> .rows E Te hs xss
def Res.hpull (P:Program) (k:TypeId) (E:Enc α) (Te:TypeId) (b:Nat) (m:Qhs) (M:List (Int×List α)) (q:Int) (v:Value) (l:List α):Res :=
 .star (.arr E Te v l) (.star (.vmap P k b m) (.hole E Te (m.map Prod.fst) (m.map Prod.snd) (M.map Prod.snd) q) True) (m.map Prod.fst=M.map Prod.fst∧(m.map Prod.fst).Nodup)
variable {P:Program} {ρ:Operand->Value} {o:Oper} {w w0:World} {s:Gc} {H:List Res} {K:Value->World->Prop} {T k e Te:TypeId} {b:Nat} {m:Qhs} {E:Enc α} {M:List (Int×List α)} {q:Int}
theorem QkR (hS:St w0 s H w) (ho:o.op= .makeMap T none) (hk:∀b w',St w0 s (.hmap P k E Te b [] []::H) w'->K (.map (some b)) w'):Exec P ρ o w K :=
 QkQ (k:=k) hS ho fun b w' h=>hk b w' (St.star (((h.rows_nil E Te).perm (.swap _ _ _))) ⟨rfl,List.nodup_nil⟩)
theorem Qaq {x y:Operand} {r:List α} (hS:St w0 s (.hmap P k E Te b m M::H) w) (hT:QeN P T k e) (hz:JW P e=some Qj7) (ho:o.op= .lookup T x y false) (hx:ρ x= .map (some b)) (hy:ρ y= .int .i64 q)
  (hg:YZ M q=some r) (hk:K ((Qcf m q).getD Qj7) w):Exec P ρ o w K:=by
 unfold YZ at hg
 split at hg
 ·rename_i hq
  exact QkP (Qcb hS).2 hT hz ho hx hy hq hk
 ·cases hg
theorem St.hmap_pull {r:List α} (hS:St w0 s (.hmap P k E Te b m M::H) w) (hg:YZ M q=some r):(m.map Prod.fst=M.map Prod.fst∧(m.map Prod.fst).Nodup)∧St w0 s (.arr E Te ((Qcf m q).getD Qj7) r:: .vmap P k b m:: .hole E Te (m.map Prod.fst) (m.map Prod.snd) (M.map Prod.snd) q::H) w:=by
 obtain ⟨hkeys',h1⟩:=Qcb hS
 obtain ⟨hkeys,_⟩:=id hkeys'
 refine ⟨hkeys',?_⟩
 unfold YZ at hg
 split at hg
 ·cases hg
  have h2:=h1.perm (.swap _ _ _)
  unfold Res.hole
  cases hp:QiU (m.map Prod.fst) q with
  |some i =>
   obtain ⟨v,g1,g2,_⟩:=Qc5 hp
   rw [hkeys] at hp
   obtain ⟨x,x1,x2,_⟩:=Qc5 hp
   rw [g2,x2]
   exact (h2.rows_split g1 x1).perm ((List.Perm.cons _ (.swap _ _ _)))
  |none =>
   obtain ⟨g1,_⟩:=Qc6 hp
   rw [hkeys] at hp
   obtain ⟨x1,_⟩:=Qc6 hp
   rw [g1,x1]
   exact (h2.nilArr E Te).perm (List.Perm.cons _ (.swap _ _ _))
 ·cases hg
theorem Qbu {u z:Value} {r ys zs:List α} {t by_ n cap c:Nat} {cs:List Value} {x y:Operand} (hS:St w0 s (.hmap P k E Te b m M:: .box c Te cs::H) w) (hg:YZ M q=some r)
  (hT:JM P t=some (Te,E.sz,by_)) (hz:JW P Te=some z) (hzs:z.cells.size=E.sz) (hby:0<by_) (ho:o.op= .call { callee:= .builtin .append,args:=#[x,y],argTypes:=#[t,t] }) (hx:ρ x=(Qcf m q).getD Qj7) (hy:ρ y=u)
  (hu:u= .slice (some ⟨c,0,none⟩) n cap) (hr:G7 E s cs ys) (hn:n=ys.length) (ha:app by_ r ys=some zs)
  (hk:∀v' w',St w0 s (.hpull P k E Te b m M q v' zs::H) w'->K v' w'):Exec P ρ o w K:=by
 obtain ⟨hkeys,h1⟩:=hS.hmap_pull hg
 have h2:=h1.perm (List.Perm.cons _ (show (Res.vmap P k b m::Res.hole E Te (m.map Prod.fst) (m.map Prod.snd) (M.map Prod.snd) q::Res.box c Te cs::H).Perm (Res.box c Te cs::Res.vmap P k b m::Res.hole E Te (m.map Prod.fst) (m.map Prod.snd) (M.map Prod.snd) q::H) from ((List.Perm.cons _ (.swap _ _ _)).trans (.swap _ _ _))))
 refine Qn h2 hT hz hzs hby ho hx hy hu hr hn ha fun v' w' h3=>hk v' w' ?_
 have h4:=h3.perm (List.perm_append_comm (l₁:=[_]) |>.trans (.refl _))
 exact (show St w0 s (.arr E Te v' zs:: .star (.vmap P k b m) (.hole E Te (m.map Prod.fst) (m.map Prod.snd) (M.map Prod.snd) q) True::H) w' from by
  obtain ⟨bs,hn,hs,b1,b2,e,k1,c1,c2,rfl,k2,d1,d2,rfl,k3,k4⟩:=h3.own
  exact ⟨h3.os,h3.tape,h3.output,h3.drawn,h3.size,h3.stay,bs,hn,hs,b1,(c1++d1)++d2,by rw [e,List.append_assoc],k1,c1++d1,d2,Z,⟨trivial,c1,d1,Z,k2,k3⟩,k4⟩).star hkeys
theorem QqK {w:World} {v:Value} {l:List α} (hkeys:m.map Prod.fst=M.map Prod.fst) (hS:St w0 s (.arr E Te v l:: .hole E Te (m.map Prod.fst) (m.map Prod.snd) (M.map Prod.snd) q::H) w) :
  St w0 s (.rows E Te ((Qcx m q v).map Prod.snd) ((Qcx M q l).map Prod.snd)::H) w:=by
 unfold Res.hole at hS
 cases hp:QiU (m.map Prod.fst) q with
 |some i =>
  rw [hp] at hS
  obtain ⟨u,g1,_,g3⟩:=Qc5 hp
  rw [hkeys] at hp
  obtain ⟨x,x1,_,x3⟩:=Qc5 hp
  rw [g3,x3]
  exact hS.rows_join (Xj.1 g1).1 (Xj.1 x1).1
 |none =>
  rw [hp] at hS
  obtain ⟨_,g3⟩:=Qc6 hp
  rw [hkeys] at hp
  obtain ⟨_,x3⟩:=Qc6 hp
  rw [g3,x3,List.map_append,List.map_append]
  exact hS.rows_push
theorem QcL {x y z:Operand} {v:Value} {l:List α} {M':List (Int×List α)} (hS:St w0 s (.hpull P k E Te b m M q v l::H) w) (hT:QeN P T k e) (ho:o.op= .mapUpdate T x y z) (hx:ρ x= .map (some b)) (hy:ρ y= .int .i64 q) (hz:ρ z=v)
  (hg:QdW M q l=some M') (hk:∀w',St w0 s (.hmap P k E Te b (Qcx m q v) M'::H) w'->K undef w'):Exec P ρ o w K:=by
 obtain ⟨⟨hkeys,hnd⟩,h1⟩:=Qcb hS
 have h1c:=h1.arr_one
 obtain ⟨_,h2⟩:=Qcb (h1.perm (.swap _ _ _))
 unfold QdW at hg
 split at hg
 ·rename_i hq
  obtain ⟨hq,hm⟩:=hq
  cases hg
  have hml:m.length<maxLen:=by
   have:=congrArg List.length hkeys
   simp only [X6] at this
   omega
  refine Qlk h2 hT ho hx hy hz h1c hq hml fun w' h3=>hk w' ?_
  have h4:=h3.perm (show (Res.vmap P k b (Qcx m q v)::Res.hole E Te (m.map Prod.fst) (m.map Prod.snd) (M.map Prod.snd) q::Res.arr E Te v l::H).Perm (Res.arr E Te v l::Res.hole E Te (m.map Prod.fst) (m.map Prod.snd) (M.map Prod.snd) q::Res.vmap P k b (Qcx m q v)::H) from
   ((List.Perm.swap _ _ _).trans ((List.Perm.cons _ (.swap _ _ _)).trans (.swap _ _ _))))
  exact ((QqK hkeys h4).perm (.swap _ _ _)).star ⟨QlJ hkeys q v l,Qhe hnd q v⟩
 ·cases hg
/-! ### given to what stays, but for the map itself -/
def Res.fmap (P:Program) (k:TypeId) (E:Enc α) (b:Nat) (M:List (Int×List α)):Res where
 p:=fun s w bs=>bs=[b]∧∃(m:Qhs) (D:DV),w.ownsMap P k QcG b m.length D∧GW D m∧m.map Prod.fst=M.map Prod.fst∧G7 (Qk E) s (m.map Prod.snd) (M.map Prod.snd)
 loc:=by
  rintro s w w' bs ⟨rfl,m,D,⟨es,clock,hb,r⟩,h2⟩ hw
  exact ⟨Z,m,D,⟨es,clock,by rw [hw b (by simp)];exact hb,r⟩,h2⟩
 mono:=by
  rintro s t w bs l ⟨rfl,m,D,h1,h2,h3,h4⟩
  exact ⟨Z,m,D,h1,h2,h3,h4.mono l⟩
 lt:=by
  rintro s w bs ⟨rfl,m,D,h1,_⟩ b' hb
  simp at hb;subst hb
  exact h1.lt
theorem Qlj (hS:St w0 s (.hmap P k E Te b m M::H) w):∃t,Gc.le s t∧St w0 t (.fmap P k E b M::H) w:=by
 obtain ⟨⟨hkeys,_⟩,h1⟩:=Qcb hS
 obtain ⟨bs1,t1,hp1,hle1,hbs1,hS1⟩:=(h1.perm (.swap _ _ _)).freezeWith
 refine ⟨t1,hle1,hS1.conv ?_⟩
 rintro bs ⟨rfl,D,g1,g2⟩
 exact ⟨Z,m,D,g1,g2,hkeys,GA.rep hle1 hp1 hbs1⟩
theorem QiH:∀{hs:List Value} {xss:List (List α)} {i:Nat} {v:Value} {xs:List α},G7 (Qk E) s hs xss->hs[i]?=some v->xss[i]?=some xs->Ga E s v xs
 |hs,[],i,v,xs,_,_,h=>by simp at h
 |hs,x::xss,0,v,xs,⟨c,r,e,⟨u,hu,h1⟩,h2⟩,hv,hx=>by
  subst hu
  subst e
  simp at hv hx
  subst hv hx
  exact h1
 |hs,x::xss,i+1,v,xs,⟨c,r,e,⟨u,hu,h1⟩,h2⟩,hv,hx=>by
  subst hu
  subst e
  exact QiH h2 (by simpa using hv) (by simpa using hx)
theorem QkS {x y:Operand} {r:List α} (hS:St w0 s (.fmap P k E b M::H) w) (hT:QeN P T k e) (hz:JW P e=some Qj7) (ho:o.op= .lookup T x y false) (hx:ρ x= .map (some b)) (hy:ρ y= .int .i64 q)
  (hg:YZ M q=some r) (hk:∀v,(Qk E).val s v r->K v w):Exec P ρ o w K:=by
 obtain ⟨bs,hn,hs,b1,b2,e0,⟨rfl,m,D,h1,h2,hkeys,hreps⟩,h3⟩:=hS.own
 unfold YZ at hg
 split at hg
 ·rename_i hq
  cases hg
  obtain ⟨t1,t2⟩:=hT
  have K':Maps.Keyed P k:=Maps.int_keyed t2
  have hkey:=Maps.keyOf_int_mk t2 (Qkp hq)
  obtain ⟨v,ps,hrun,hv⟩:=h1.lookup K' t1 (QpB hz w) (show QcG Qj7=some (.held Qj7,[]) from rfl) hkey
  have hv2:=QiI hv
  rw [Qlz h2] at hv2
  simp only [Prod.mk.injEq,DataW.held.injEq] at hv2
  refine .of_run (w':=w) (v:=v) ?_ (hk v ?_)
  ·unfold execOp
   simp [ho,hx,hy,hrun,Result.andThen]
  ·rw [<-hv2.1,Q5]
   cases hp:QiU (m.map Prod.fst) q with
   |some i =>
    obtain ⟨u,g1,g2,_⟩:=Qc5 hp
    rw [hkeys] at hp
    obtain ⟨xs,x1,x2,_⟩:=Qc5 hp
    rw [g2,x2]
    exact QiH hreps g1 x1
   |none =>
    obtain ⟨g1,_⟩:=Qc6 hp
    rw [hkeys] at hp
    obtain ⟨x1,_⟩:=Qc6 hp
    rw [g1,x1]
    exact Ga.nil _ _
 ·cases hg
end
end Go.Pw
/- -/
namespace Go.Pw
/-! ### the pure words -/
def QgC {S:Type} (B:Int->S->Option S):List Int->S->Option S
 |[],s=>some s
 |x::xs,s=>(B x s).bind (QgC B xs)
open Classical in
noncomputable def Qih {R:Type} (keys:List Int) (F:List Int->Option R):Option R:=if h:∃r,∀ord:List Int,ord.Perm keys->F ord=some r then some (Classical.choose h) else none
theorem Qol {R:Type} {keys:List Int} {F:List Int->Option R} {r:R} (h:Qih keys F=some r):∀ord:List Int,ord.Perm keys->F ord=some r:=by
 unfold Qih at h
 split at h
 ·rename_i hh
  cases h
  exact Classical.choose_spec hh
 ·cases h
theorem Qq8 {R:Type} {keys:List Int} {F:List Int->Option R} {r:R} (h:∀ord:List Int,ord.Perm keys->F ord=some r):Qih keys F=some r:=by
 unfold Qih
 have hh:∃r,∀ord:List Int,ord.Perm keys->F ord=some r:=⟨r,h⟩
 rw [dif_pos hh]
 have:=Classical.choose_spec hh keys (.refl _)
 rw [h keys (.refl _)] at this
 exact this.symm
theorem Qgu:∀{l keys:List Int},l.Nodup->(∀x ∈ l,x ∈ keys)->∃rest,(l++rest).Perm keys
 |[],keys,_,_=>⟨keys,by simp⟩
 | x::l,keys,hn,hs=>by
  obtain ⟨h1,h2⟩:=List.nodup_cons.1 hn
  have hp:=List.perm_cons_erase (hs x (by simp))
  obtain ⟨rest,hr⟩:=Qgu (l:=l) (keys:=keys.erase x) h2 fun y hy=>by
   have hne:y≠x:=fun e=>h1 (e ▸ hy)
   exact (List.mem_erase_of_ne hne).2 (hs y (by simp [hy]))
  exact ⟨rest,(List.Perm.cons x hr).trans hp.symm⟩
theorem QsE {l keys:List Int} (hn:l.Nodup) (hk:keys.Nodup) (hs:∀x ∈ l,x ∈ keys) (ha:∀x ∈ keys,x ∈ l):l.Perm keys:=by
 obtain ⟨rest,hr⟩:=Qgu hn hs
 have hnd:=hr.nodup_iff.2 hk
 have:rest=[]:=by
  cases rest with
  |nil=>rfl
  |cons y rest =>
   have hy:=ha y (hr.mem_iff.1 (by simp))
   have:=(XA.1 hnd).2.2 y hy y (by simp)
   exact absurd Z this
 subst this
 simpa using hr
/-! ### the loop's rule -/
section
variable {P:Program} {N:Nat} {Q:QbB} {f:Fr} {w:World}
theorem Qtw {S β:Type} {B:Int->S->Option S} {keys:List Int} {s0:S} {K:S->Option β} {r:β} {c:Code} (hkn:keys.Nodup) (I:List Int->S->Fr->World->Prop) (hB:Qih keys (fun ord=>(QgC B ord s0).bind K)=some r) (h0:I [] s0 f w)
  (hround:∀done s f w,I done s f w->((∀x ∈ keys,x ∈ done)->K s=some r)->(∀x,x ∈ keys->x ∉ done->∃s',B x s=some s') ->
   W P N c (andThen (fun f' w'=>∃x s',x ∈ keys∧x ∉ done∧B x s=some s'∧I (done++[x]) s' f' w') Q) f w):W P N (.loop c) Q f w:=by
 have hall:=Qol hB
 refine QjZ (fun k f w=>∃done s,k=keys.length - done.length∧done.Nodup∧(∀x ∈ done,x ∈ keys)∧(∀rest,(done++rest).Perm keys->(QgC B rest s).bind K=some r)∧I done s f w)
  ⟨_,[],s0,rfl,List.nodup_nil,by simp,fun rest hr=>hall rest (by simpa using hr),h0⟩ ?_
 rintro k f w ⟨done,s,rfl,hn,hs,hrest,hI⟩
 have hend:(∀x ∈ keys,x ∈ done)->K s=some r:=fun ha=>by
  have:=hrest [] (by simpa using QsE hn hkn hs ha)
  simpa [QgC] using this
 have hnext:∀x,x ∈ keys->x ∉ done->(done++[x]).Nodup∧(∀y ∈ done++[x],y ∈ keys):=fun x hx hxn =>
  ⟨XA.2 ⟨hn,by simp,fun a ha b hb=>by simp only [X8] at hb;subst hb;exact fun e=>hxn (e ▸ ha)⟩,fun y hy=>by
   rcases Xn.1 hy with hy |hy
   ·exact hs y hy
   ·simp only [X8] at hy;subst hy;exact hx⟩
 have hstep:∀x,x ∈ keys->x ∉ done->∃s',B x s=some s':=fun x hx hxn=>by
  obtain ⟨h1,h2⟩:=hnext x hx hxn
  obtain ⟨rest,hr⟩:=Qgu h1 h2
  rw [List.append_assoc] at hr
  have:=hrest ([x]++rest) hr
  simp only [List.singleton_append,QgC] at this
  cases hb:B x s with
  |none=>rw [hb] at this;cases this
  |some s'=>exact ⟨s',rfl⟩
 intro a ha
 refine wp_mono (hround done s f w hI hend hstep a ha) ?_
 rintro e a' w' ⟨g,hg,hQ⟩
 refine ⟨g,hg,?_⟩
 cases e with
 |normal =>
  obtain ⟨x,s',hx,hxn,hb,hI'⟩:=hQ
  obtain ⟨h1,h2⟩:=hnext x hx hxn
  obtain ⟨rest,hr⟩:=Qgu h1 h2
  have hlen:=hr.length_eq
  simp only [Xt,Xw,XC] at hlen
  refine ⟨keys.length - (done++[x]).length,by simp only [Xt,Xw,XC];omega,done++[x],s',Z,h1,h2,fun rest' hr'=>?_,hI'⟩
  rw [List.append_assoc] at hr'
  have:=hrest ([x]++rest') hr'
  simp only [List.singleton_append,QgC,hb,Xa] at this
  exact this
 |_=>exact hQ
end
/-! ### a map that is being ranged over -/
section
variable {α:Type}
def Res.vrange (P:Program) (k:TypeId) (b r:Nat) (m:Qhs) (done:List Int):Res where
 p:=fun _ w bs=>bs=[b,r]∧∃(D:DV) (left:Lit->Bool) (cnt:Nat),w.ranges P k QcG b r m.length D left cnt∧GW D m∧∀x:Int,left (.int .i64 x)=((Qcf m x).isSome && !done.contains x)
 loc:=by
  rintro s w w' bs ⟨rfl,D,left,cnt,⟨es,clock,since,seen,c0,hb,F,hs,hD,hr,rest⟩,h2⟩ hw
  exact ⟨Z,D,left,cnt,⟨es,clock,since,seen,c0,by rw [hw b (by simp)];exact hb,F,hs,hD,by rw [hw r (by simp)];exact hr,rest⟩,h2⟩
 mono:=fun _ h=>h
 lt:=by
  rintro s w bs ⟨rfl,D,left,cnt,h1,_⟩ b' hb
  simp at hb
  rcases hb with rfl |rfl
  ·exact h1.owns.lt
  ·exact h1.lt
def Res.hrange (P:Program) (k:TypeId) (E:Enc α) (Te:TypeId) (b r:Nat) (m:Qhs) (M:List (Int×List α)) (done:List Int):Res:= .star (.vrange P k b r m done) (.rows E Te (m.map Prod.snd) (M.map Prod.snd)) (m.map Prod.fst=M.map Prod.fst∧(m.map Prod.fst).Nodup)
variable {P:Program} {ρ:Operand->Value} {o:Oper} {w w0:World} {s:Gc} {H:List Res} {K:Value->World->Prop} {T k e Te:TypeId} {b r:Nat} {m:Qhs} {E:Enc α} {M:List (Int×List α)} {done:List Int}
theorem Qjc {x:Operand} (hS:St w0 s (.vmap P k b m::H) w) (hT:QeN P T k e) (ho:o.op= .range T x) (hx:ρ x= .map (some b)) (hk:∀r w',St w0 s (.vrange P k b r m []::H) w'->K (.pointer (some ⟨r,0,none⟩)) w'):Exec P ρ o w K:=by
 obtain ⟨D,h1,h2⟩:=hS.vmap_get
 obtain ⟨t1,t2⟩:=hT
 have K':Maps.Keyed P k:=Maps.int_keyed t2
 obtain ⟨w',hrun,hrg,hgr,hsz⟩:=h1.range K' t1
 have hdr:w.drawn<=w'.drawn:=by
  obtain ⟨es,clock,hb,_⟩:=id h1
  have h3:=run_range_map w T k e b es clock t1 hb
  rw [hrun] at h3
  simp only [Result.ok.injEq] at h3
  rw [h3.2]
  exact Xi _
 have hlt:=h1.lt
 refine .of_run (v:= .pointer (some ⟨w.heap.size,0,none⟩)) (w':=w') ?_ (hk _ _ ?_)
 ·unfold execOp
  simp [ho,hx,hrun,Result.andThen]
 ·refine hS.turn hgr.os hgr.tape hgr.output hdr hgr.size ?_
  rintro b1 ⟨rfl,_⟩
  refine ⟨[b,w.heap.size],⟨Z,D,_,_,hrg,h2,fun x=>by rw [h2.1];simp⟩,?_,?_,?_⟩
  ·simp only [List.nodup_cons,X8,List.not_mem_nil,not_false_eq_true,List.nodup_nil,and_true]
   omega
  ·intro b' hb'
   simp only [Xr,List.not_mem_nil,or_false] at hb'
   rcases hb' with rfl |rfl
   ·exact .inl (by simp)
   ·exact .inr (Xi _)
  ·intro b' hlt' hne
   exact hgr.block b' hlt' (by simp)
theorem Qjf {x:Operand} (hS:St w0 s (.hmap P k E Te b m M::H) w) (hT:QeN P T k e) (ho:o.op= .range T x) (hx:ρ x= .map (some b)) (hk:∀r w',St w0 s (.hrange P k E Te b r m M []::H) w'->K (.pointer (some ⟨r,0,none⟩)) w'):Exec P ρ o w K:=by
 obtain ⟨hkeys,h1⟩:=Qcb hS
 exact Qjc h1 hT ho hx fun r w' h=>hk r w' (St.star h hkeys)
theorem Qi8 {it:Operand} (hS:St w0 s (.vrange P k b r m done::H) w) (hT:QeN P T k e) (ho:o.op= .next it false) (hit:ρ it= .pointer (some ⟨r,0,none⟩))
  (hd:(∀x ∈ m.map Prod.fst,x ∈ done)->K (.tuple #[.bool false]) w)
  (hk:∀x v w',x ∈ m.map Prod.fst->x ∉ done->St w0 s (.vrange P k b r m (done++[x])::H) w'->(Instr.entry (.pointer (some ⟨r,0,none⟩))).run P w'= .ok (.tuple #[.int .i64 x,v]) w'->K (.tuple #[.bool true, .int .i64 x,v]) w'):Exec P ρ o w K:=by
 obtain ⟨bs,hn,hs,b1,b2,e0,⟨rfl,D,left,cnt,h1,h2,hleft⟩,h3⟩:=hS.own
 obtain ⟨t1,t2⟩:=hT
 have K':Maps.Keyed P k:=Maps.int_keyed t2
 rcases h1.next K' o.type with ⟨hc,hl,hrun⟩ |⟨key,v,kl,y,w',cnt',hkey,hlk,hv,hat,hrun,hrg,hlt,hgr,hsz,hen⟩
 ·refine .of_run (v:= .tuple #[.bool false]) (w':=w) ?_ (hd fun x hx=>?_)
  ·unfold execOp
   simp [ho,hit,hrun,Result.andThen]
  ·have h4:=hleft x
   rw [hl,Qe5.2 hx] at h4
   simpa using h4
 ·obtain ⟨x,rfl,rfl,hw⟩:=Maps.keyOf_int_inv t2 hkey
  rw [hleft] at hlk
  simp only [Xl,Bool.not_eq_true',List.contains_eq_mem,Xx] at hlk
  have hdr:w.drawn<=w'.drawn:=by
   obtain ⟨es,clock,since,seen,c0,hb,F,hs',hD,hr,hold,hcn,hl1,hl2,hsc,hsk⟩:=id h1
   rcases run_next_at (P:=P) w o.type r b since c0 seen es clock hr hb hold hsc with ⟨_,hrun'⟩ |⟨en,_,w1,hal,hrun'⟩
   ·rw [hrun] at hrun'
    simp at hrun'
   ·rw [hrun] at hrun'
    simp only [Result.ok.injEq] at hrun'
    rw [hrun'.2]
    rcases hal with rfl |rfl
    ·exact Xi _
    ·exact Nat.le_succ _
  refine .of_run (v:= .tuple #[.bool true, .int .i64 x,v]) (w':=w') ?_ (hk x v w' (Qe5.1 hlk.1) hlk.2 ?_ hen)
  ·unfold execOp
   simp [ho,hit,hrun,Result.andThen]
  ·refine hS.turn hgr.os hgr.tape hgr.output hdr hgr.size ?_
   rintro b1 ⟨rfl,_⟩
   refine ⟨[b,r],⟨Z,D,_,_,hrg,h2,fun z=>?_⟩,?_,fun b' hb'=> .inl hb',fun b' hlt' hne=>hgr.block b' hlt' (by simp at hne;simp;exact hne.2)⟩
   ·rw [hleft]
    by_cases e1:z=x
    ·subst e1
     simp [Lit.sameKey]
    ·simp [Lit.sameKey,e1]
   ·simp only [List.nodup_cons,X8,List.not_mem_nil,not_false_eq_true,List.nodup_nil,and_true]
    exact fun e=>h1.ne e.symm
theorem QiA {it:Operand} (hS:St w0 s (.hrange P k E Te b r m M done::H) w) (hT:QeN P T k e) (ho:o.op= .next it false) (hit:ρ it= .pointer (some ⟨r,0,none⟩))
  (hd:(∀x ∈ M.map Prod.fst,x ∈ done)->St w0 s (.hmap P k E Te b m M::H) w->K (.tuple #[.bool false]) w)
  (hk:∀x v w',x ∈ M.map Prod.fst->x ∉ done->St w0 s (.hrange P k E Te b r m M (done++[x])::H) w'->(Instr.entry (.pointer (some ⟨r,0,none⟩))).run P w'= .ok (.tuple #[.int .i64 x,v]) w'->K (.tuple #[.bool true, .int .i64 x,v]) w'):Exec P ρ o w K:=by
 obtain ⟨hkeys,h1⟩:=Qcb hS
 rw [<-hkeys.1] at hd hk
 refine Qi8 h1 hT ho hit (fun ha=>hd ha ?_) fun x v w' hx hxn h hen=>hk x v w' hx hxn (St.star h hkeys) hen
 refine St.star ?_ hkeys
 obtain ⟨bs,hn,hs,b1,b2,e0,⟨rfl,D,left,cnt,g1,g2,_⟩,g3⟩:=h1.own
 subst e0
 refine ⟨h1.os,h1.tape,h1.output,h1.drawn,h1.size,h1.stay,[b]++b2,?_,fun b' hb'=>hs b' ?_,[b],b2,Z,⟨Z,D,g1.owns,g2⟩,g3⟩
 ·exact hn.sublist (by simp)
 ·simp only [Xn,Xr,List.not_mem_nil,or_false] at hb' ⊢
  rcases hb' with h |h
  ·exact .inl (.inl h)
  ·exact .inr h
theorem DY {it:Operand} {v:Value} (ho:o.op= .entry it) (hit:ρ it= .pointer (some ⟨r,0,none⟩)) (hen:(Instr.entry (.pointer (some ⟨r,0,none⟩))).run P w= .ok v w) (hk:K v w):Exec P ρ o w K:=by
 refine .of_run (v:=v) (w':=w) ?_ hk
 unfold execOp
 simp [ho,hit,hen,Result.andThen]
theorem St.hrange_nodup (hS:St w0 s (.hrange P k E Te b r m M done::H) w):(M.map Prod.fst).Nodup:=by
 obtain ⟨⟨h1,h2⟩,_⟩:=Qcb hS
 rw [<-h1];exact h2
end
end Go.Pw
/- -/
namespace Go.Pw
abbrev Qwt (b:Nat) (p:Value):Prop:=p= .pointer none∨p= .pointer (some ⟨b,0,none⟩)
def Res.bld (T e:TypeId) (b:Nat) (xs:List Int):Res where
 p:=fun s w bs=>∃pv v b2,bs=b::b2∧w.heap[b]?=some (.cells #[pv,v] T (0,0))∧Qwt b pv∧(Res.arr (Qc .u8) e v xs).p s w b2
 loc:=by
  rintro s w w' bs ⟨pv,v,b2,rfl,h1,h2,h3⟩ hw
  exact ⟨pv,v,b2,Z,by rw [hw b (by simp)];exact h1,h2,(Res.arr _ _ _ _).loc h3 fun x hx=>hw x (List.mem_cons_of_mem _ hx)⟩
 mono:=fun l ⟨pv,v,b2,e,h1,h2,h3⟩=>⟨pv,v,b2,e,h1,h2,(Res.arr _ _ _ _).mono l h3⟩
 lt:=by
  rintro s w bs ⟨pv,v,b2,rfl,h1,h2,h3⟩ x hx
  rcases Xr.1 hx with rfl |hx
  ·exact (Array.getElem?_eq_some_iff.1 h1).1
  ·exact (Res.arr _ _ _ _).lt h3 x hx
section
variable {P:Program} {ρ:Operand->Value} {o:Oper} {w w0:World} {s:Gc} {H:List Res} {K:Value->World->Prop} {T e:TypeId} {b:Nat} {xs:List Int}
/-! ### parts of strings -/
def Qqo (q:ByteArray) (l h:Int):Option ByteArray:=if 0<=l∧l<=h∧h<=q.size then some (q.extract l.toNat h.toNat) else none
theorem QfW {x lo hi:Operand} {k k':IntKind} {l h:Int} {q c:ByteArray} (hT:P.underlying T=some .string) (ho:o.op= .slice T x (some lo) (some hi) none) (hx:ρ x= .string q) (hl:ρ lo= .int k l) (hh:ρ hi= .int k' h)
  (hc:Qqo q l h=some c) (hk:K (.string c) w):Exec P ρ o w K:=by
 unfold Qqo at hc
 split at hc
 ·rename_i hb
  obtain ⟨h0,h1,h2⟩:=hb
  cases hc
  refine .of_run (v:= .string (q.extract l.toNat h.toNat)) (w':=w) ?_ hk
  have e:((h.toNat:Nat):Int)=h:=by omega
  have b1:∀cd,(Instr.sliceBound (.int k' h) q.size cd).run P w= .ok h.toNat w:=fun cd=>Qap (by omega) h2
  have b2:∀cd,(Instr.sliceBound (.int k l) h.toNat cd).run P w= .ok l.toNat w:=fun cd=>Qap h0 (by rw [e];exact h1)
  unfold execOp
  simp only [ho,hx,hl,hh,Option.map_none,Option.map_some,Instr.sliceAt,Instr.slice,Instr.sliceBounds,Xe,Xk hT,Xd,Xg,b1,b2]
  simp [Result.andThen,Xe,b1,b2]
 ·cases hc
end
end Go.Pw
