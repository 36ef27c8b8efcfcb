/- -/
import Derived.Test.YtalfjlihddgooaaGreatDoorBa
import Derived.Test.YtalfjlihddgooaaGreatDoorWl6
import Derived.Test.YtalfjlihddgooaaGreatDoorLF
import Derived.Test.YtalfjlihddgooaaGreatDoorLD
set_option linter.unusedSimpArgs false
set_option linter.unusedVariables false
namespace Go.Pw
open Go.Proofs
theorem QoA:JM Tryz.prog 23=some (82,2,16):=by kernel_rfl
theorem QyD:JW Tryz.prog 82=some (.agg #[.int .i64 0, .int .i64 0]):=by kernel_rfl
set_option maxRecDepth 20000 in
theorem Qos {w0 w:World} {s:Gc} {H:List Res} {n:Int} {u:Unit} (hm:QgB 16 n=some u) (hS:St w0 s H w) :
  Calls Tryz.prog 123 #[Value.slice none 0 0,Value.int .i64 n] w fun e w'=>∃v,e= .returned v∧St w0 s (Res.arr Gd 82 v []::H) w':=by
 unfold QgB at hm
 split at hm
 case isFalse=>cases hm
 rename_i hn
 have hw:IntKind.i64.wrap (n - IntKind.i64.wrap (((0:Nat):Int) - ((0:Nat):Int)))=(n.toNat:Int):=by rw [IntKind.wrap_i64,IntKind.wrap_i64];omega
 refine Qh Tryz.func123 Z Z ?_
 refine Zc ?_
 refine Zd ?_
 refine Za Z Z (Zo (v:= .slice none 0 0) Z Z ?_)
 refine Zb (Ze ?_)
 refine Zc ?_
 refine Zc ?_
 refine Zd ?_
 refine Za Z Z (Zm (v:= .int .i64 n) Z Z ?_)
 refine Za Z Z (Zq Z Z Z ?_)
 refine Zb (Ze ?_)
 refine QaT (congrArg Value.bool (decide_eq_false (by omega))) ?_
 refine Yx (Ze ?_)
 refine Zc ?_
 refine Zc ?_
 refine Zd ?_
 refine Za Z Z (Zm (v:= .int .i64 n) Z Z ?_)
 refine Za Z Z (Zm (v:= .slice none 0 0) Z Z ?_)
 refine Za Z Z (Qdt QoA Z Z ?_)
 refine Za Z Z (Zm (v:= .slice none 0 0) Z Z ?_)
 refine Za Z Z (Zr (s:=s) QoA Z Z (Ga.nil Gd s) ?_)
 refine Za Z Z (DH Z Z Z ?_)
 refine Za Z Z (DH Z Z Z ?_)
 refine Za Z Z (Zo (v:= .int .i64 (n.toNat:Int)) Z (congrArg (Value.int .i64) hw) ?_)
 refine Zb (Ze ?_)
 refine Zc ?_
 refine Zd ?_
 refine Za Z Z (Zm (v:= .int .i64 (n.toNat:Int)) Z Z ?_)
 refine Za Z Z (DC Z Z Z ?_)
 refine Zb (Ze ?_)
 by_cases h0:0<n
 ·refine QbR (congrArg Value.bool (decide_eq_true (by omega))) ?_
  refine Zd ?_
  refine Za Z Z (Zm (v:= .slice none 0 0) Z Z ?_)
  refine Za Z Z (Zm (v:= .slice none 0 0) Z Z ?_)
  refine Za Z Z (Qdt QoA Z Z ?_)
  refine Za Z Z (Qft QoA Z Z Z ?_)
  refine Za Z Z (Zm (v:= .int .i64 (n.toNat:Int)) Z Z ?_)
  refine Za Z Z (Qga (k:=n.toNat) hS QoA QyD Tryz.underlying3 (by rfl) (by omega) (by omega) Z Z Z (by omega) hn.2 ?_)
  intro b c cs w1 h1 h2 h3 hS1
  refine Za Z Z (Zm (v:= .slice none 0 0) Z Z ?_)
  refine Za Z Z (Zr (s:=s) QoA Z Z (Ga.nil Gd s) ?_)
  refine Za Z Z (QgJ QoA Z Z Z (by decide) (by simp) ?_)
  refine Za Z Z (Zo (v:= .slice (some ⟨b,0,none⟩) 0 c) Z Z ?_)
  refine Zb (Ze ?_)
  refine Zc ?_
  refine Zd ?_
  refine Za Z Z (Zm (v:= .slice (some ⟨b,0,none⟩) 0 c) Z Z ?_)
  refine Za Z Z (Zo (v:= .slice (some ⟨b,0,none⟩) 0 c) Z Z ?_)
  refine Zb (Ze ?_)
  refine Qhv ?_
  exact ⟨_,Qd0 Z,hS1.arr_close (E:=Gd) (ys:=[]) (X7 _) h2 h3 (by simp [G7])⟩
 ·refine QaT (congrArg Value.bool (decide_eq_false (by omega))) ?_
  refine Yx (Ze ?_)
  refine Zc ?_
  refine Zd ?_
  refine Za Z Z (Zm (v:= .slice none 0 0) Z Z ?_)
  refine Za Z Z (Zo (v:= .slice none 0 0) Z Z ?_)
  refine Zb (Ze ?_)
  refine Qhv ?_
  exact ⟨_,Qd0 Z,hS.nilArr Gd 82⟩
theorem Qo9:JM Tryz.prog 97=some (102,3,40):=by kernel_rfl
theorem QxZ:JW Tryz.prog 102=some (.agg #[.slice none 0 0, .int .i64 0, .int .i64 0]):=by kernel_rfl
set_option maxRecDepth 20000 in
theorem Qor {w0 w:World} {s:Gc} {H:List Res} {n:Int} {u:Unit} (hm:QgB 40 n=some u) (hS:St w0 s H w) :
  Calls Tryz.prog 124 #[Value.slice none 0 0,Value.int .i64 n] w fun e w'=>∃v,e= .returned v∧St w0 s (Res.arr Gm 102 v []::H) w':=by
 unfold QgB at hm
 split at hm
 case isFalse=>cases hm
 rename_i hn
 have hw:IntKind.i64.wrap (n - IntKind.i64.wrap (((0:Nat):Int) - ((0:Nat):Int)))=(n.toNat:Int):=by rw [IntKind.wrap_i64,IntKind.wrap_i64];omega
 refine Qh Tryz.func124 Z Z ?_
 refine Zc ?_
 refine Zd ?_
 refine Za Z Z (Zo (v:= .slice none 0 0) Z Z ?_)
 refine Zb (Ze ?_)
 refine Zc ?_
 refine Zc ?_
 refine Zd ?_
 refine Za Z Z (Zm (v:= .int .i64 n) Z Z ?_)
 refine Za Z Z (Zq Z Z Z ?_)
 refine Zb (Ze ?_)
 refine QaT (congrArg Value.bool (decide_eq_false (by omega))) ?_
 refine Yx (Ze ?_)
 refine Zc ?_
 refine Zc ?_
 refine Zd ?_
 refine Za Z Z (Zm (v:= .int .i64 n) Z Z ?_)
 refine Za Z Z (Zm (v:= .slice none 0 0) Z Z ?_)
 refine Za Z Z (Qdt Qo9 Z Z ?_)
 refine Za Z Z (Zm (v:= .slice none 0 0) Z Z ?_)
 refine Za Z Z (Zr (s:=s) Qo9 Z Z (Ga.nil Gm s) ?_)
 refine Za Z Z (DH Z Z Z ?_)
 refine Za Z Z (DH Z Z Z ?_)
 refine Za Z Z (Zo (v:= .int .i64 (n.toNat:Int)) Z (congrArg (Value.int .i64) hw) ?_)
 refine Zb (Ze ?_)
 refine Zc ?_
 refine Zd ?_
 refine Za Z Z (Zm (v:= .int .i64 (n.toNat:Int)) Z Z ?_)
 refine Za Z Z (DC Z Z Z ?_)
 refine Zb (Ze ?_)
 by_cases h0:0<n
 ·refine QbR (congrArg Value.bool (decide_eq_true (by omega))) ?_
  refine Zd ?_
  refine Za Z Z (Zm (v:= .slice none 0 0) Z Z ?_)
  refine Za Z Z (Zm (v:= .slice none 0 0) Z Z ?_)
  refine Za Z Z (Qdt Qo9 Z Z ?_)
  refine Za Z Z (Qft Qo9 Z Z Z ?_)
  refine Za Z Z (Zm (v:= .int .i64 (n.toNat:Int)) Z Z ?_)
  refine Za Z Z (Qga (k:=n.toNat) hS Qo9 QxZ Tryz.underlying3 (by rfl) (by omega) (by omega) Z Z Z (by omega) hn.2 ?_)
  intro b c cs w1 h1 h2 h3 hS1
  refine Za Z Z (Zm (v:= .slice none 0 0) Z Z ?_)
  refine Za Z Z (Zr (s:=s) Qo9 Z Z (Ga.nil Gm s) ?_)
  refine Za Z Z (QgJ Qo9 Z Z Z (by decide) (by simp) ?_)
  refine Za Z Z (Zo (v:= .slice (some ⟨b,0,none⟩) 0 c) Z Z ?_)
  refine Zb (Ze ?_)
  refine Zc ?_
  refine Zd ?_
  refine Za Z Z (Zm (v:= .slice (some ⟨b,0,none⟩) 0 c) Z Z ?_)
  refine Za Z Z (Zo (v:= .slice (some ⟨b,0,none⟩) 0 c) Z Z ?_)
  refine Zb (Ze ?_)
  refine Qhv ?_
  exact ⟨_,Qd0 Z,hS1.arr_close (E:=Gm) (ys:=[]) (X7 _) h2 h3 (by simp [G7])⟩
 ·refine QaT (congrArg Value.bool (decide_eq_false (by omega))) ?_
  refine Yx (Ze ?_)
  refine Zc ?_
  refine Zd ?_
  refine Za Z Z (Zm (v:= .slice none 0 0) Z Z ?_)
  refine Za Z Z (Zo (v:= .slice none 0 0) Z Z ?_)
  refine Zb (Ze ?_)
  refine Qhv ?_
  exact ⟨_,Qd0 Z,hS.nilArr Gm 102⟩
end Go.Pw
/- -/
set_option maxRecDepth 100000
set_option maxHeartbeats 4000000
namespace Go.Pw
open Go.Proofs
attribute [local irreducible] Exec WL W andThen QaB DL Jm
theorem QdK {w0 w:World} {s:Gc} {H:List Res} {i:(List (List Gj))} {a:Value} {r:(List Gj)} (hm:K3 i=some r) (hS:St w0 s (H) w) (aw:Ga (Qk Gd) s a i) :
  Cs Tryz.prog 83 #[a] w r fun v w'=>fun (av:List Gj)=>∃o u,Gc.le s o∧St w0 o (Res.arr Gd 82 u av::H) w'∧v=u:=by
 unfold K3 at hm
 refine Qh Tryz.func83 Z Z (Qa hm fun j z hm=>G ?_)
 refine QO (fun k' s' f' w'=>(fun (j:Int)=>∃p,Gc.le s p∧St w0 p (H) w'∧Fx f' [(11,O (k':Int)),(0,a),(3,O j),(9,a),(10,O ((i.length:Int)))]) s') z ?_ ?_ ?_
 ·exact fq
 ·intro ag j _ _ _ _ ab b
  obtain ⟨ao,_,ad,_,rfl⟩:=ab
  refine Qa b fun ar ah b=>G ?_
  refine Jv Z Z Z ah fun _ _ x=>?_
  refine G ?_
  refine Zw (E:=(Qk Gd)) ad A23.h Z Z Z x ?_
  intro _ ai
  have ax:=Q5.1 ai
  refine Qa b fun aq d b=>g ?_
  refine Zc (Zd (g ?_))
  refine Zc (Zd (g ?_))
  refine QL (M:=fun f' w'=>(fun (_:Unit)=>∃q,Gc.le ao q∧St w0 q (H) w'∧Fx f' [(0,a),(3,O (IntKind.i64.wrap (j+(ar.length:Int)))),(9,a),(10,O ((i.length:Int))),(11,O ((ag:Int)))]) aq) ?_ ?_
  ·refine Qe d (fun af d=>?_) fun af d=>?_
   ·refine G ?_
    cases d
   cases d
   refine G ?_
   exact fq
  rintro _ _ ⟨_,_,_,_,rfl⟩
  cases b
  refine G ?_
  exact fq
 rintro _ _ ⟨ap,_,ae,_,rfl⟩
 refine Qa hm fun _ aj hm=>G ?_
 refine Tc Z Z Z Z (Qos aj ae).r ?_
 rintro _ _ _
 refine Qa hm fun m aa hm=>G ?_
 refine QO (fun k' s' f' w'=>(fun (m:List Gj)=>∃t l,Gc.le ap t∧St w0 t (Res.arr Gd 82 l m::H) w'∧Fx f' [(27,O (k':Int)),(6,l),(25,a),(26,O ((i.length:Int)))]) s') aa ?_ ?_ ?_
 ·exact fq
 ·intro _ m _ _ _ _ ac c
  obtain ⟨_,l,_,n,_,rfl⟩:=ac
  refine Qa c fun au ak c=>G ?_
  refine Jv Z Z Z ak fun _ _ y=>?_
  refine G ?_
  refine Zw (E:=(Qk Gd)) n A23.h Z Z Z y ?_
  intro _ al
  have an:=Q5.1 al
  refine Qa c fun _ am c=>G ?_
  refine JH (E:=Gd) (ys:=au) n S23.h Z82 Z (by decide) Z Z Z an am ?_
  intro _ _ _
  cases c
  refine G ?_
  exact fq
 rintro _ _ ⟨_,l,_,_,_,rfl⟩
 cases hm
 refine G ?_
 exact fr
instance A99:ATy Tryz.prog 99 true 4:=⟨by kernel_rfl⟩
instance F99_3:FTy Tryz.prog 99 3 3:=⟨by kernel_rfl⟩
instance A97:ATy Tryz.prog 97 false 1:=⟨by kernel_rfl⟩
instance S97:STy Tryz.prog 97 102 3 40:=⟨by kernel_rfl⟩
theorem Qhr:JW Tryz.prog 102=some (Value.agg #[Value.slice none 0 0,O 0,O 0]):=by kernel_rfl
theorem Qew {w0 w:World} {s:Gc} {H:List Res} {b:Gl} {a1:(List Gj)} {aB:(List Gj)} {n o p q t:Value} {r:(List Gj)×(List Gn)} (hm:KJ b a1 aB=some r) (hS:St w0 s (H) w) (bz:Ga (Qc .i64) s n b.write) (b0:Ga (Qc .i64) s o b.read) (b1:Ga (Qc .i64) s p b.vars) (b2:Ga Gd s q a1) (b3:Ga Gd s t aB) :
  Cs Tryz.prog 84 #[Value.agg #[O (b.jobs),n,o,O (b.phase),p],q,t] w r fun v w'=>J5 fun (bd:List Gj) (aJ:List Gn)=>∃ab a9 aA,Gc.le s ab∧St w0 ab (H) w'∧v=Value.tuple #[a9,aA]∧Ga Gd ab a9 bd∧Ga Gm ab aA aJ:=by
 unfold KJ at hm
 refine Qh Tryz.func84 Z Z (G ?_)
 refine JV Z Z fun d _ aP=>?_
 refine Qa hm fun bw aK hm=>G ?_
 refine QO (fun k' s' f' w'=>(J5 fun (aa:List Gj) (z:List Gn)=>∃a2 x l,Gc.le s a2∧St w0 a2 (Res.box d 94 [O (b.jobs),n,o,O (b.phase),p]::Res.arr Gd 82 x aa::Res.arr Gm 102 l z::H) w'∧Fx f' [(12,O (k':Int)),(1,q),(2,t),(3,Vq d),(6,x),(7,l),(11,O ((b.write.length:Int)))]) s') aK ?_ ?_ ?_
 ·have aQ:=aP.nilArr Gd 82
  have b4:=aQ.nilArr Gm 102
  exact fq
 ·intro u bx _ _ _ _ aL i
  obtain ⟨aa,z⟩:=bx
  replace i:=QC i
  obtain ⟨_,x,l,_,aR,_,rfl⟩:=aL
  refine Qa i fun _ be i=>G ?_
  refine Tc Z Z Z Z (KK be aR rq).r ?_
  rintro _ _ ⟨af,_,ac,rfl⟩
  refine Qa i fun a7 a i=>g ?_
  refine QL (M:=fun f' w'=>(J5 fun (av:List Gj) (aw:List Gn)=>∃a3 ag ah,Gc.le af a3∧St w0 a3 (Res.box d 94 [O (b.jobs),n,o,O (b.phase),p]::Res.arr Gd 82 ag av::Res.arr Gm 102 ah aw::H) w'∧Fx f' [(1,q),(2,t),(3,Vq d),(6,ag),(7,ah),(11,O ((b.write.length:Int))),(12,O ((u:Int)))]) a7) ?_ ?_
  ·refine Qe a (fun au a=>?_) fun au a=>?_
   ·refine Qa a fun y az a=>G ?_
    refine Jv Z Z Z az fun _ _ aC=>?_
    refine G ?_
    refine Zw (E:=(Qc .i64)) ac A3.h Z Z Z aC ?_
    intro _ bf
    obtain rfl:=Qo.1 bf
    refine G ?_
    refine Q2 Z (Qb (Qd Z Z) Qg) (v:=Value.agg #[O y,O 0]) (G ?_)
    refine Qt (Te:=82) (cs:=[O y,O 0]) ac Z (Qb (Qd Z Z) Qg) fun _ _ aS=>?_
    refine Qa a fun _ bg a=>G ?_
    refine Qn (E:=Gd) (ys:=[(⟨y,0⟩:Gj)]) aS.f2 S23.h Z82 Z (by decide) Z Z Z Z ⟨[_,_],_,Z,⟨[_],_,Z,Z,Z⟩,Z⟩ Z bg fun _ _ ad=>?_
    refine Qa a fun al a0 a=>G ?_
    refine Jv Z Z Z a0 fun _ _ aD=>?_
    refine G ?_
    refine Zw (E:=(Qc .i64)) ad A3.h Z Z Z aD ?_
    intro _ bh
    obtain rfl:=Qo.1 bh
    refine Qa a fun ae m a=>g ?_
    refine QL (M:=fun f' w'=>(fun (ae:List Gj)=>∃a4 ai,Gc.le af a4∧St w0 a4 (Res.box d 94 [O (b.jobs),n,o,O (b.phase),p]::Res.arr Gd 82 ai ae::Res.arr Gm 102 l z::H) w'∧Fx f' [(1,q),(2,t),(3,Vq d),(6,ai),(7,l),(8,O ((u:Int))),(11,O ((b.write.length:Int))),(12,O ((u:Int)))]) ae) ?_ ?_
    ·refine Qe m (fun ba m=>?_) fun ba m=>?_
     ·refine G ?_
      refine Jv Z Z Z a0 fun _ _ aE=>?_
      refine G ?_
      refine Zw (E:=(Qc .i64)) ad A3.h Z Z Z aE ?_
      intro _ bi
      obtain rfl:=Qo.1 bi
      refine G ?_
      refine Q2 Z (Qb (Qd Z Z) Qg) (v:=Value.agg #[O al,O 0]) (G ?_)
      refine Qt (Te:=82) (cs:=[O al,O 0]) ad Z (Qb (Qd Z Z) Qg) fun _ _ aT=>?_
      refine Qa m fun _ bj m=>G ?_
      refine Qn (E:=Gd) (ys:=[(⟨al,0⟩:Gj)]) aT.f1 S23.h Z82 Z (by decide) Z Z Z Z ⟨[_,_],_,Z,⟨[_],_,Z,Z,Z⟩,Z⟩ Z bj ?_
      intro _ _ _
      cases m
      refine G ?_
      exact fq
     cases m
     refine G ?_
     exact fq
    rintro _ _ ⟨_,ai,_,ap,_,rfl⟩
    refine G ?_
    refine Jv Z Z Z az fun _ _ aF=>?_
    refine G ?_
    refine Zw (E:=(Qc .i64)) ap A3.h Z Z Z aF ?_
    intro _ bk
    obtain rfl:=Qo.1 bk
    refine G ?_
    refine Q2 Z (Qb (Qd Z Z) (Qb (Qd Z Z) Qg)) (v:=Value.agg #[Vn,O y,O 1]) (G ?_)
    refine Qt (Te:=102) (cs:=[Vn,O y,O 1]) ap Z (Qb (Qd Z Z) Qg) fun _ _ aU=>?_
    refine Qa a fun _ bl a=>G ?_
    refine Qn (E:=Gm) (ys:=[(⟨[],y,1⟩:Gn)]) aU.f3 S97.h Qhr Z (by decide) Z Z Z Z ⟨[_,_,_],_,Z,⟨[_],_,Z,⟨_,Z,(Ga.nil _ _)⟩,[_],_,Z,Z,Z⟩,Z⟩ Z bl ?_
    intro _ _ _
    cases a
    refine G ?_
    exact fq
   refine Qa a fun ao j a=>W_c Z au (QiV (Zc (QL (M:=fun f' w'=>(fun (ao:Bool)=>∃a5,Gc.le af a5∧St w0 a5 (Res.box d 94 [O (b.jobs),n,o,O (b.phase),p]::Res.arr Gd 82 x aa::Res.arr Gm 102 l z::H) w'∧Fx f' [(1,q),(2,t),(3,Vq d),(6,x),(7,l),(8,O ((u:Int))),(11,O ((b.write.length:Int))),(12,O ((u:Int))),(52,Vb ao)]) ao) ?_ ?_)))
   ·refine Qa j fun _ bm j=>G ?_
    refine Tc Z Z Z Z (KK bm ac rq).r ?_
    rintro _ _ ⟨_,_,aV,rfl⟩
    refine G ?_
    refine Qe j (fun bb j=>?_) fun bb j=>?_
    ·refine Qa j fun _ bn j=>G ?_
     refine Jv Z Z Z bn fun _ _ aG=>?_
     refine G ?_
     refine Zw (E:=(Qc .i64)) aV A3.h Z Z Z aG ?_
     intro _ bo
     obtain rfl:=Qo.1 bo
     cases j
     refine G ?_
     exact fq
    cases j
    refine G ?_
    exact fq
   rintro _ _ ⟨bv,_,aq,_,rfl⟩
   refine Qa a fun a8 c a=>g ?_
   refine QL (M:=fun f' w'=>(J5 fun (ax:List Gj) (ay:List Gn)=>∃a6 aj ak,Gc.le bv a6∧St w0 a6 (Res.box d 94 [O (b.jobs),n,o,O (b.phase),p]::Res.arr Gd 82 aj ax::Res.arr Gm 102 ak ay::H) w'∧Fx f' [(1,q),(2,t),(3,Vq d),(6,aj),(7,ak),(11,O ((b.write.length:Int))),(12,O ((u:Int)))]) a8) ?_ ?_
   ·refine Qe c (fun bc c=>?_) fun bc c=>?_
    ·refine Qa c fun am bp c=>G ?_
     refine Jv Z Z Z bp fun _ _ aH=>?_
     refine G ?_
     refine Zw (E:=(Qc .i64)) aq A3.h Z Z Z aH ?_
     intro _ bq
     obtain rfl:=Qo.1 bq
     refine G ?_
     refine Q2 Z (Qb (Qd Z Z) Qg) (v:=Value.agg #[O am,O 0]) (G ?_)
     refine Qt (Te:=82) (cs:=[O am,O 0]) aq Z (Qb (Qd Z Z) Qg) fun _ _ aW=>?_
     refine Qa c fun _ br c=>G ?_
     refine Qn (E:=Gd) (ys:=[(⟨am,0⟩:Gj)]) aW.f2 S23.h Z82 Z (by decide) Z Z Z Z ⟨[_,_],_,Z,⟨[_],_,Z,Z,Z⟩,Z⟩ Z br fun _ _ ar=>?_
     refine Qa c fun an bs c=>G ?_
     refine Jv Z Z Z bs fun _ _ aI=>?_
     refine G ?_
     refine Zw (E:=(Qc .i64)) ar A3.h Z Z Z aI ?_
     intro _ bt
     obtain rfl:=Qo.1 bt
     refine G ?_
     refine Q2 Z (Qb (Qd Z Z) (Qb (Qd Z Z) Qg)) (v:=Value.agg #[Vn,O an,O 1]) (G ?_)
     refine Qt (Te:=102) (cs:=[Vn,O an,O 1]) ar Z (Qb (Qd Z Z) Qg) fun _ _ aX=>?_
     refine Qa c fun _ bu c=>G ?_
     refine Qn (E:=Gm) (ys:=[(⟨[],an,1⟩:Gn)]) aX.f3 S97.h Qhr Z (by decide) Z Z Z Z ⟨[_,_,_],_,Z,⟨[_],_,Z,⟨_,Z,(Ga.nil _ _)⟩,[_],_,Z,Z,Z⟩,Z⟩ Z bu ?_
     intro _ _ _
     cases c
     refine G ?_
     exact fq
    cases c
    refine G ?_
    exact fq
   intro _ _ aN
   obtain ⟨ax,ay⟩:=a8
   replace a:=QC a
   obtain ⟨_,aj,ak,_,_,_,rfl⟩:=aN
   cases a
   refine G ?_
   exact fq
  intro _ _ aO
  obtain ⟨av,aw⟩:=a7
  replace i:=QC i
  obtain ⟨_,ag,ah,_,_,_,rfl⟩:=aO
  cases i
  refine G ?_
  exact fq
 intro _ _ aM
 obtain ⟨aa,z⟩:=bw
 replace hm:=QC hm
 obtain ⟨_,x,l,_,aY,_,rfl⟩:=aM
 cases hm
 refine G ?_
 refine ⟨_,Qcw Z,?_⟩
 obtain ⟨_,_,aZ,_⟩:=aY.f1.freezeArr
 obtain ⟨_,_,_,_⟩:=aZ.f1.freezeArr
 exact fq
instance F99_2:FTy Tryz.prog 99 2 2:=⟨by kernel_rfl⟩
instance S225:STy Tryz.prog 225 97 1 24:=⟨by kernel_rfl⟩
end Go.Pw
/- -/
set_option maxRecDepth 100000
set_option maxHeartbeats 4000000
namespace Go.Pw
open Go.Proofs
attribute [local irreducible] Exec WL W andThen QaB DL Jm
theorem Qdu {w0 w:World} {s:Gc} {H:List Res} {i:(List (List Gn))} {a:Value} {r:(List Gn)} (hm:Ki i=some r) (hS:St w0 s (H) w) (aw:Ga (Qk Gm) s a i) :
  Cs Tryz.prog 85 #[a] w r fun v w'=>fun (av:List Gn)=>∃o u,Gc.le s o∧St w0 o (Res.arr Gm 102 u av::H) w'∧v=u:=by
 unfold Ki at hm
 refine Qh Tryz.func85 Z Z (Qa hm fun j z hm=>G ?_)
 refine QO (fun k' s' f' w'=>(fun (j:Int)=>∃p,Gc.le s p∧St w0 p (H) w'∧Fx f' [(11,O (k':Int)),(0,a),(3,O j),(9,a),(10,O ((i.length:Int)))]) s') z ?_ ?_ ?_
 ·exact fq
 ·intro ag j _ _ _ _ ab b
  obtain ⟨ao,_,ad,_,rfl⟩:=ab
  refine Qa b fun ar ah b=>G ?_
  refine Jv Z Z Z ah fun _ _ x=>?_
  refine G ?_
  refine Zw (E:=(Qk Gm)) ad A97.h Z Z Z x ?_
  intro _ ai
  have ax:=Q5.1 ai
  refine Qa b fun aq d b=>g ?_
  refine Zc (Zd (g ?_))
  refine Zc (Zd (g ?_))
  refine QL (M:=fun f' w'=>(fun (_:Unit)=>∃q,Gc.le ao q∧St w0 q (H) w'∧Fx f' [(0,a),(3,O (IntKind.i64.wrap (j+(ar.length:Int)))),(9,a),(10,O ((i.length:Int))),(11,O ((ag:Int)))]) aq) ?_ ?_
  ·refine Qe d (fun af d=>?_) fun af d=>?_
   ·refine G ?_
    cases d
   cases d
   refine G ?_
   exact fq
  rintro _ _ ⟨_,_,_,_,rfl⟩
  cases b
  refine G ?_
  exact fq
 rintro _ _ ⟨ap,_,ae,_,rfl⟩
 refine Qa hm fun _ aj hm=>G ?_
 refine Tc Z Z Z Z (Qor aj ae).r ?_
 rintro _ _ _
 refine Qa hm fun m aa hm=>G ?_
 refine QO (fun k' s' f' w'=>(fun (m:List Gn)=>∃t l,Gc.le ap t∧St w0 t (Res.arr Gm 102 l m::H) w'∧Fx f' [(27,O (k':Int)),(6,l),(25,a),(26,O ((i.length:Int)))]) s') aa ?_ ?_ ?_
 ·exact fq
 ·intro _ m _ _ _ _ ac c
  obtain ⟨_,l,_,n,_,rfl⟩:=ac
  refine Qa c fun au ak c=>G ?_
  refine Jv Z Z Z ak fun _ _ y=>?_
  refine G ?_
  refine Zw (E:=(Qk Gm)) n A97.h Z Z Z y ?_
  intro _ al
  have an:=Q5.1 al
  refine Qa c fun _ am c=>G ?_
  refine JH (E:=Gm) (ys:=au) n S97.h Qhr Z (by decide) Z Z Z an am ?_
  intro _ _ _
  cases c
  refine G ?_
  exact fq
 rintro _ _ ⟨_,l,_,_,_,rfl⟩
 cases hm
 refine G ?_
 exact fr
theorem Qcy {w0 w:World} {s:Gc} {H:List Res} {a b:Gj} {r:Int} (hm:Yp a b=some r) (hS:St w0 s (H) w) :
  Cv Tryz.prog 87 #[Value.agg #[O (a.Var),O (a.Val)],Value.agg #[O (b.Var),O (b.Val)]] w0 w s H r fun f=>O f:=by
 unfold Yp at hm
 refine Qh Tryz.func87 Z Z (G ?_)
 refine JV Z Z fun _ _ _=>?_
 refine G ?_
 refine JV Z Z fun _ _ d=>?_
 refine G ?_
 refine Tc Z Z Z Z (Jq (Jj a.Var b.Var) d).r ?_
 rintro _ _ ⟨_,_,_,rfl⟩
 cases hm
 refine G ?_
 exact fr
end Go.Pw
