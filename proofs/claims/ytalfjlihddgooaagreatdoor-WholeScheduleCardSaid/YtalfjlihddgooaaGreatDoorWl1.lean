/- -/
import Derived.Test.YtalfjlihddgooaaGreatDoorLC
import Derived.Test.YtalfjlihddgooaaGreatDoorLD
import Derived.Test.YtalfjlihddgooaaGreatDoorWl0
import Derived.Test.YtalfjlihddgooaaGreatDoorWlAw
set_option maxRecDepth 100000
set_option maxHeartbeats 4000000
set_option linter.unusedVariables false
namespace Go.Pw
open Go.Proofs
variable {w0 w:World} {s:Gc} {H:List Res}
attribute [local irreducible] Exec WL W andThen QaB DL Jm
instance A26:ATy Tryz.prog 26 true 4:=⟨by kernel_rfl⟩
instance F26_2:FTy Tryz.prog 26 2 2:=⟨by kernel_rfl⟩
instance A23:ATy Tryz.prog 23 false 1:=⟨by kernel_rfl⟩
instance A85:ATy Tryz.prog 85 true 7:=⟨by kernel_rfl⟩
theorem Z85:JW Tryz.prog 85=some (Value.agg #[Value.string ⟨#[]⟩,O 0,Value.slice none 0 0,Value.slice none 0 0,Value.slice none 0 0,Value.slice none 0 0,Value.slice none 0 0]):=by kernel_rfl
instance F85_2:FTy Tryz.prog 85 2 2:=⟨by kernel_rfl⟩
instance F85_3:FTy Tryz.prog 85 3 3:=⟨by kernel_rfl⟩
instance F85_4:FTy Tryz.prog 85 4 4:=⟨by kernel_rfl⟩
instance F85_5:FTy Tryz.prog 85 5 5:=⟨by kernel_rfl⟩
instance F85_6:FTy Tryz.prog 85 6 6:=⟨by kernel_rfl⟩
instance S155:STy Tryz.prog 155 23 1 24:=⟨by kernel_rfl⟩
theorem Z23:JW Tryz.prog 23=some (Value.slice none 0 0):=by kernel_rfl
theorem Qhi {a:Ge} {ae af g m:Value} {r:(List (List Gj))} (hm:Qar a=some r) (hS:St w0 s (H) w) (av:Ga (Qc .i64) s ae a.Vars) (aw:Ga (Qc .i64) s af a.Init) (n:Ga Gd s g a.Goal) (ax:Ga Gw s m a.Jobs) :
  Cs Tryz.prog 72 #[Value.agg #[ae,af,g,m]] w r fun v w'=>fun (au:List (List Gj))=>∃l ag,Gc.le s l∧St w0 l (H) w'∧v=ag∧Ga (Qk Gd) l ag au:=by
 unfold Qar at hm
 refine Qh Tryz.func72 Z Z (G ?_)
 refine JV Z Z fun _ _ ak=>?_
 refine G ?_
 refine Qt (Te:=23) (cs:=[g]) ak Z (Qb (c:=[g]) (Qd Z (Qs n.one)) Qg) fun _ _ al=>?_
 refine Qa hm fun j ai hm=>G ?_
 refine QO (fun k' s' f' w'=>(fun (j:List (List Gj))=>∃y i,Gc.le s y∧St w0 y (Res.arr (Qk Gd) 23 i j::H) w'∧Fx f' [(12,O (k':Int)),(3,i),(10,m),(11,O ((a.Jobs.length:Int)))]) s') ai ?_ ?_ ?_
 ·have ay:=St.boxArr (E:=(Qk Gd)) (xs:=[a.Goal]) al ⟨[_],_,rfl,⟨_,rfl,n⟩,rfl⟩ (by simp [maxLen])
  exact fq
 ·intro _ j _ _ _ _ aj b
  obtain ⟨_,i,_,o,_,rfl⟩:=aj
  refine Qa b fun d ap b=>G ?_
  refine Jv Z Z Z ap fun _ _ ah=>?_
  refine G ?_
  refine Zw (E:=Gw) o A85.h Z Z Z ah ?_
  intro _ aq
  obtain ⟨z,aa,ab,ac,ad,rfl,p,q,t,u,x⟩:=K9.1 aq
  refine G ?_
  refine DT (cs:=[Value.string (⟨#[]⟩),O 0,Vn,Vn,Vn,Vn,Vn]) o Z85 Z Z fun _ _ _=>?_
  refine G ?_
  refine Xst Z Z Z fun _ am=>?_
  refine G ?_
  refine Qt (Te:=23) (cs:=[z,aa,ab,ac,ad]) am Z (Qb (c:=[z]) (Qd Z (Qs p.one)) (Qb (c:=[aa]) (Qd Z (Qs q.one)) (Qb (c:=[ab]) (Qd Z (Qs t.one)) (Qb (c:=[ac]) (Qd Z (Qs u.one)) (Qb (c:=[ad]) (Qd Z (Qs x.one)) Qg))))) fun _ _ an=>?_
  refine Qa b fun _ ar b=>G ?_
  refine Qn (E:=(Qk Gd)) (ys:=[d.Start,d.Over,d.End,d.AtStart,d.AtEnd]) an.f2 S155.h Z23 Z (by decide) Z Z Z Z ⟨[_],_,Z,⟨_,Z,p⟩,[_],_,Z,⟨_,Z,q⟩,[_],_,Z,⟨_,Z,t⟩,[_],_,Z,⟨_,Z,u⟩,[_],_,Z,⟨_,Z,x⟩,Z⟩ Z ar ?_
  intro _ _ _
  cases b
  refine G ?_
  exact fq
 rintro _ _ ⟨_,i,_,ao,_,rfl⟩
 cases hm
 refine G ?_
 refine ⟨_,Qd0 Z,?_⟩
 obtain ⟨_,_,_,_⟩:=ao.freezeArr
 exact fq
instance S23:STy Tryz.prog 23 82 2 16:=⟨by kernel_rfl⟩
theorem N74:(Tryz.f74.name == "runtime.NumGoroutine")=false:=by kernel_rfl
theorem Qfz {a:(List Gj)} {c:Value} {r:Bool} (hm:Qaj a=some r) (hS:St w0 s (H) w) (f:Ga Gd s c a) :
  Cv Tryz.prog 74 #[c] w0 w s H r fun d=>Value.bool (d):=by
 unfold Qaj at hm
 refine Qh Tryz.func74 Z Z ?_
 cases hm
 refine G ?_
 exact fr
theorem Qby {b:(List (List Gj))} {c:Value} {r:Int} (hm:JB b=some r) (hS:St w0 s (H) w) (ak:Ga (Qk Gd) s c b) :
  Cv Tryz.prog 119 #[c,Value.func (.func 74) #[] #[]] w0 w s H r fun aj=>O aj:=by
 unfold JB at hm
 refine Qh Tryz.func119 Z Z (Q6 hm fun _ n aa y u=>Zc (Zd (g ?_)))
 refine Zc (Zc (Zd (g ?_)))
 refine Jn (fun k' s' f' w'=>(fun (_:Unit)=>∃l,Gc.le s l∧St w0 l (H) w'∧Fx f' [(8,O (k':Int)),(0,c),(1,Value.func (.func 74) #[] #[]),(7,O ((b.length:Int)))]) s') n ?_ ?_ ?_ ?_
 ·exact fq
 ·intro _ _ _ _ _ _ o a ab
  obtain ⟨_,_,d,_,rfl⟩:=o
  refine Qa a fun ai ae a=>G ?_
  refine Jv Z Z Z ae fun _ _ m=>?_
  refine G ?_
  refine Zw (E:=(Qk Gd)) d A23.h Z Z Z m ?_
  intro _ af
  have ag:=Q5.1 af
  refine G ?_
  refine QkI Z Z Tryz.func74 Z N74 (Zi Z Jh) ((Qfz (Qfy ai) d ag).mono ?_)
  rintro _ _ ⟨_,rfl,_,_,_,rfl⟩
  refine ⟨_,Z,G ?_⟩
  refine Qe a (fun x a=>?_) fun x a=>?_
  ·cases a
   have z:=aa _ (ab (by intro _ h;cases h))
   cases z
   refine G ?_
   exact fr
  cases a
  refine G ?_
  exact ⟨_,Z,fq⟩
 ·intro _ _ _ p ac
  obtain ⟨ah,ad,t,_,rfl⟩:=p
  refine G ?_
  refine ⟨b.length,_, .inl ac,?_⟩;exact ⟨ah,ad,t,(Fx.mk)⟩
 rintro _ _ ⟨_,_,i,q⟩
 have hm:=i.elim (y _) (u _)
 clear i
 obtain ⟨_,_,_,_,rfl⟩:=q
 cases hm
 refine G ?_
 exact fr
theorem QaQ {b:(List (List Gj))} {c:Value} {r:Bool} (hm:Ja b=some r) (hS:St w0 s (H) w) (d:Ga (Qk Gd) s c b) :
  Cv Tryz.prog 73 #[c,Value.func (.func 74) #[] #[]] w0 w s H r fun g=>Value.bool (g):=by
 unfold Ja at hm
 refine Qh Tryz.func73 Z Z (Qa hm fun _ f hm=>G ?_)
 refine Tc Z Z Z Z (Qby f hS d).r ?_
 rintro _ _ ⟨_,_,_,rfl⟩
 cases hm
 refine G ?_
 exact fr
theorem C63:Tryz.prog.concrete 63=true:=by kernel_rfl
instance A3:ATy Tryz.prog 3 false 1:=⟨by kernel_rfl⟩
instance F85_1:FTy Tryz.prog 85 1 1:=⟨by kernel_rfl⟩
instance F26_1:FTy Tryz.prog 26 1 1:=⟨by kernel_rfl⟩
theorem QbL {t:(List Int)} {c:(List Int)} {d i:Value} {r:Bool} (hm:Kc t c=some r) (hS:St w0 s (H) w) (aw:Ga (Qc .i64) s d t) (ax:Ga (Qc .i64) s i c) :
  Cv Tryz.prog 75 #[d,i] w0 w s H r fun av=>Value.bool (av):=by
 unfold Kc at hm
 refine Qh Tryz.func75 Z Z (G ?_)
 refine Qe hm (fun m hm=>?_) fun m hm=>?_
 ·cases hm
  refine G ?_
  exact fr
 refine Q6 hm fun _ y ai ag ad=>W_c Z m (QiV (Yx (Ze (Zc (Zc (Zd (g ?_)))))))
 refine Jn (fun k' s' f' w'=>(fun (_:Unit)=>∃p,Gc.le s p∧St w0 p (H) w'∧Fx f' [(14,O (k':Int)),(0,d),(12,i),(13,O ((c.length:Int)))]) s') y ?_ ?_ ?_ ?_
 ·exact fq
 ·intro al _ _ _ _ _ z a aj
  obtain ⟨ar,_,l,_,rfl⟩:=z
  refine Qa a fun _ an a=>G ?_
  refine Jv Z Z Z an fun _ _ u=>?_
  refine G ?_
  refine Zw (E:=(Qc .i64)) l A3.h Z Z Z u ?_
  intro _ ao
  obtain rfl:=Qo.1 ao
  refine Qa a fun j b a=>g ?_
  refine Zc (QL (M:=fun f' w'=>(fun (j:Bool)=>∃q,Gc.le ar q∧St w0 q (H) w'∧Fx f' [(0,d),(12,i),(13,O ((c.length:Int))),(14,O ((al:Int))),(28,Vb j)]) j) ?_ ?_)
  ·refine G ?_
   refine Qe b (fun ae b=>?_) fun ae b=>?_
   ·cases b
    refine G ?_
    exact fq
   refine Qa b fun _ ap b=>G ?_
   refine Jv Z Z Z ap fun _ _ x=>?_
   refine G ?_
   refine Zw (E:=(Qc .i64)) l A3.h Z Z Z x ?_
   intro _ aq
   obtain rfl:=Qo.1 aq
   cases b
   refine G ?_
   exact fq
  rintro _ _ ⟨_,_,_,_,rfl⟩
  refine G ?_
  refine Qe a (fun af a=>?_) fun af a=>?_
  ·cases a
   have ah:=ai _ (aj (by intro _ h;cases h))
   cases ah
   refine G ?_
   exact fr
  cases a
  refine G ?_
  exact ⟨_,Z,fq⟩
 ·intro _ _ _ aa ak
  obtain ⟨au,am,ac,_,rfl⟩:=aa
  refine G ?_
  refine ⟨c.length,_, .inl ak,?_⟩;exact ⟨au,am,ac,(Fx.mk)⟩
 rintro _ _ ⟨_,_,n,ab⟩
 have hm:=n.elim (ag _) (ad _)
 clear n
 obtain ⟨_,_,_,_,rfl⟩:=ab
 cases hm
 refine G ?_
 exact fr
instance A82:ATy Tryz.prog 82 true 2:=⟨by kernel_rfl⟩
theorem Z82:JW Tryz.prog 82=some (Value.agg #[O 0,O 0]):=by kernel_rfl
theorem JQ:Tryz.prog.follows .mixedOrders=true:=by kernel_rfl
instance F82_0:FTy Tryz.prog 82 0 0:=⟨by kernel_rfl⟩
instance F82_1:FTy Tryz.prog 82 1 1:=⟨by kernel_rfl⟩
theorem QdD {u:(List Int)} {c:(List Gj)} {d i:Value} {r:Bool} (hm:Ku u c=some r) (hS:St w0 s (H) w) (y:Ga (Qc .i64) s d u) (a4:Ga Gd s i c) :
  Cv Tryz.prog 77 #[d,i] w0 w s H r fun a3=>Value.bool (a3):=by
 unfold Ku at hm
 refine Qh Tryz.func77 Z Z (Q6 hm fun _ ab ap an ai=>Zc (Zd (g ?_)))
 refine Zc (Zd (g ?_))
 refine Zc (Zc (Zd (g ?_)))
 refine Jn (fun k' s' f' w'=>(fun (j:Int)=>∃q,Gc.le s q∧St w0 q (H) w'∧Fx f' [(10,O (k':Int)),(0,d),(5,O j),(8,i),(9,O ((c.length:Int)))]) s') ab ?_ ?_ ?_ ?_
 ·exact fq
 ·intro au j _ _ _ _ ac b aq
  obtain ⟨a1,av,n,_,rfl⟩:=ac
  refine Qa b fun x ax b=>G ?_
  refine Jv Z Z Z ax fun _ _ z=>?_
  refine G ?_
  refine Zw (E:=Gd) n A82.h Z Z Z z ?_
  intro _ ay
  obtain rfl:=J2.1 ay
  refine G ?_
  refine DT (cs:=[O 0,O 0]) n Z82 Z Z fun m _ _=>?_
  refine G ?_
  refine Xst Z Z Z fun _ af=>?_
  refine Qa b fun l a b=>g ?_
  refine Zc (Zc (QL (M:=fun f' w'=>(fun (l:Bool)=>∃t,Gc.le a1 t∧St w0 t (Res.box m 82 [O (x.Var),O (x.Val)]::H) w'∧Fx f' [(0,d),(7,Vq m),(8,i),(9,O ((c.length:Int))),(10,O ((au:Int))),(39,Vb l)]) l) ?_ ?_))
  ·refine QT (n0:=26) (qs 0 26 .done) JQ ?_
   have ag:=af.drew
   refine G ?_
   refine Qe a (fun aj a=>?_) fun aj a=>?_
   ·cases a
    refine G ?_
    exact fq
   refine G ?_
   refine Qe a (fun ak a=>?_) fun ak a=>?_
   ·cases a
    refine G ?_
    exact fq
   refine G ?_
   refine Qe a (fun al a=>?_) fun al a=>?_
   ·cases a
    refine G ?_
    exact fq
   refine Qa a fun _ az a=>G ?_
   refine Qy S22.h Z Z Z (y.mono av) az fun _ _ aa _=>?_
   refine ⟨Z,G ?_⟩
   refine Zw (E:=(Qc .i64)) ag A3.h Z Z Z aa ?_
   intro _ a0
   obtain rfl:=Qo.1 a0
   refine ⟨Z,?_⟩
   cases a
   refine G ?_
   exact fq
  rintro _ _ ⟨_,_,_,_,rfl⟩
  refine G ?_
  refine Qe b (fun am b=>?_) fun am b=>?_
  ·cases b
   have ao:=ap _ (aq (by intro _ h;cases h))
   cases ao
   refine G ?_
   exact fr
  cases b
  refine G ?_
  exact ⟨_,Z,fq⟩
 ·intro j _ _ ad ar
  obtain ⟨a2,aw,ah,_,rfl⟩:=ad
  refine G ?_
  refine ⟨c.length,_, .inl ar,?_⟩;exact ⟨a2,aw,ah,(Fx.mk)⟩
 rintro _ _ ⟨_,_,o,ae⟩
 have hm:=o.elim (an _) (ai _)
 clear o
 obtain ⟨_,_,_,_,rfl⟩:=ae
 cases hm
 refine G ?_
 exact fr
theorem N76:(Tryz.f76.name == "runtime.NumGoroutine")=false:=by kernel_rfl
theorem Qfx {c:(List Gj)} {a:Ge} {g:Value} {b d:Nat} {r:Bool} (hm:Y3 c a=some r) (hS:St w0 s (H) w) (i:Ga Gd s g c) (j:At s b d GE a) :
  Cv Tryz.prog 76 #[g,Value.pointer (some ⟨b,d,none⟩)] w0 w s H r fun n=>Value.bool (n):=by
 unfold Y3 at hm
 refine Qh Tryz.func76 Z Z (G ?_)
 refine Zw (E:=(Qk (Qc .i64))) hS A22.h Z Z Z (j.sub (Sub.iso (Sub.fst (Sub.refl _))) Z) ?_
 intro _ k
 have m:Ga _ _ _ (a.Vars):=Q5.1 k
 refine Qa hm fun _ l hm=>G ?_
 refine Tc Z Z Z Z (QdD l hS m i).r ?_
 rintro _ _ ⟨_,_,_,rfl⟩
 cases hm
 refine G ?_
 exact fr
theorem Qbx {b:(List (List Gj))} {j:Ge} {i:Value} {c d:Nat} {r:Int} (hm:JA b j=some r) (hS:St w0 s (H) w) (ap:Ga (Qk Gd) s i b) (p:At s c d GE j) :
  Cv Tryz.prog 119 #[i,Value.func (.func 76) #[] #[Value.pointer (some ⟨c,d,none⟩)]] w0 w s H r fun ao=>O ao:=by
 unfold JA at hm
 refine Qh Tryz.func119 Z Z (Q6 hm fun _ t ae ac aa=>Zc (Zd (g ?_)))
 refine Zc (Zc (Zd (g ?_)))
 refine Jn (fun k' s' f' w'=>(fun (_:Unit)=>∃o,Gc.le s o∧St w0 o (H) w'∧Fx f' [(8,O (k':Int)),(0,i),(1,Value.func (.func 76) #[] #[Vp (some ⟨c,d,none⟩)]),(7,O ((b.length:Int)))]) s') t ?_ ?_ ?_ ?_
 ·exact fq
 ·intro _ _ _ _ _ _ u a af
  obtain ⟨_,ah,l,_,rfl⟩:=u
  refine Qa a fun _ aj a=>G ?_
  refine Jv Z Z Z aj fun _ _ q=>?_
  refine G ?_
  refine Zw (E:=(Qk Gd)) l A23.h Z Z Z q ?_
  intro _ ak
  have am:=Q5.1 ak
  refine Qa a fun _ al a=>G ?_
  refine Qa1 Z Z Tryz.func76 Z N76 (Zi Z Jh) Z ((Qfx al l am (p.mono ah)).mono ?_)
  rintro _ _ ⟨_,rfl,_,_,_,rfl⟩
  refine ⟨_,Z,G ?_⟩
  refine Qe a (fun ab a=>?_) fun ab a=>?_
  ·cases a
   have ad:=ae _ (af (by intro _ h;cases h))
   cases ad
   refine G ?_
   exact fr
  cases a
  refine G ?_
  exact ⟨_,Z,fq⟩
 ·intro _ _ _ x ag
  obtain ⟨an,ai,z,_,rfl⟩:=x
  refine G ?_
  refine ⟨b.length,_, .inl ag,?_⟩;exact ⟨an,ai,z,(Fx.mk)⟩
 rintro _ _ ⟨_,_,m,y⟩
 have hm:=m.elim (ac _) (aa _)
 clear m
 obtain ⟨_,_,_,_,rfl⟩:=y
 cases hm
 refine G ?_
 exact fr
theorem QaP {f:(List (List Gj))} {b:Ge} {g:Value} {a c:Nat} {r:Bool} (hm:QJ f b=some r) (hS:St w0 s (H) w) (h:Ga (Qk Gd) s g f) (i:At s a c GE b) :
  Cv Tryz.prog 73 #[g,Value.func (.func 76) #[] #[Value.pointer (some ⟨a,c,none⟩)]] w0 w s H r fun k=>Value.bool (k):=by
 unfold QJ at hm
 refine Qh Tryz.func73 Z Z (Qa hm fun _ j hm=>G ?_)
 refine Tc Z Z Z Z (Qbx j hS h i).r ?_
 rintro _ _ ⟨_,_,_,rfl⟩
 cases hm
 refine G ?_
 exact fr
instance F85_0:FTy Tryz.prog 85 0 0:=⟨by kernel_rfl⟩
instance A9:ATy Tryz.prog 9 false 1:=⟨by kernel_rfl⟩
theorem Qhh {c:ByteArray} {r:Bool} (hm:Yb c=some r) (hS:St w0 s (H) w) :
  Cv Tryz.prog 78 #[Value.string (c)] w0 w s H r fun an=>Value.bool (an):=by
 unfold Yb at hm
 refine Qh Tryz.func78 Z Z (G ?_)
 refine Qds Tryz.underlying9 Z Z (Qa hm fun _ aj hm=>Q6 hm fun _ o ae ac y=>g ?_)
 refine Jn (fun k' s' f' w'=>(fun (_:Unit)=>∃m,Gc.le s m∧St w0 m (H) w'∧Fx f' [(6,O (k':Int)),(0,Value.string (c)),(5,O ((c.size:Int)))]) s') o ?_ ?_ ?_ ?_
 ·exact fq
 ·intro ah _ _ _ _ ab p a af
  obtain ⟨ak,_,_,_,rfl⟩:=p
  refine Qa a fun d b a=>Zc (Zd (g ?_))
  refine Zc (QbR (Zx (decide_eq_true (by omega))) (Yx (Ze (Zc (QaU (Zc (Zd (g ?_))))))))
  refine Zc (QL (M:=fun f' w'=>(fun (d:Bool)=>∃n,Gc.le ak n∧St w0 n (H) w'∧Fx f' [(0,Value.string (c)),(5,O ((c.size:Int))),(6,O ((ah:Int))),(18,Vb d)]) d) ?_ ?_)
  ·refine Qa b fun _ j b=>G ?_
   refine Qcs Tryz.underlying9 Z Z Z j (G ?_)
   refine Qe b (fun z b=>?_) fun z b=>?_
   ·cases b
    refine G ?_
    exact fq
   refine G ?_
   refine Qcs Tryz.underlying9 Z Z Z j ?_
   cases b
   refine G ?_
   exact fq
  rintro _ _ ⟨al,_,u,_,rfl⟩
  refine G ?_
  refine Qe a (fun aa a=>?_) fun aa a=>?_
  ·cases a
   have ad:=ae _ (af (by intro _ h;cases h))
   cases ad
   refine G ?_
   exact fr
  cases a
  refine G ?_
  refine ⟨_,Z,?_⟩;exact ⟨al,lq,u,(Fx.mk (FxL.cons (Jo ab (by have h:=Qbn aj;simp at h;simp only [maxLen];omega)) fxl))⟩
 ·intro _ _ _ q ag
  obtain ⟨am,ai,x,_,rfl⟩:=q
  refine G ?_
  refine ⟨(c.size:Int).toNat,_, .inl ag,?_⟩;exact ⟨am,ai,x,(Fx.mk)⟩
 rintro _ _ ⟨_,_,i,t⟩
 have hm:=i.elim (ac _) (y _)
 clear i
 obtain ⟨_,_,_,_,rfl⟩:=t
 refine G ?_
 refine Qds Tryz.underlying9 Z Z ?_
 cases hm
 refine G ?_
 exact fr
theorem QbT {a:Ge} {ax ay az a0:Value} {r:(Option Int)} (hm:JN a=some r) (hS:St w0 s (H) w) (a4:Ga (Qc .i64) s ax a.Vars) (a5:Ga (Qc .i64) s ay a.Init) (a6:Ga Gd s az a.Goal) (a7:Ga Gw s a0 a.Jobs) :
  Cv Tryz.prog 33 #[Value.agg #[ax,ay,az,a0]] w0 w s H r fun cc=>K8 63 (cc):=by
 unfold JN at hm
 refine Qh Tryz.func33 Z Z (G ?_)
 refine JV Z Z ?_
 intro m _ aK
 obtain ⟨_,_,aa,i⟩:=St.freezeVar (E:=GE) (y:=a) aK ⟨[_],_,rfl,⟨_,rfl,a4⟩,[_],_,rfl,⟨_,rfl,a5⟩,[_],_,rfl,⟨_,rfl,a6⟩,_,rfl,a7⟩
 refine G ?_
 refine Zw (E:=GE) aa A26.h Z Z Z i ?_
 intro _ b2
 obtain ⟨_,_,_,_,rfl,bL,bM,bN,bO⟩:=Qfs.1 b2
 refine Qa hm fun _ b3 hm=>G ?_
 refine Tc Z Z Z Z (Qhi b3 aa bL bM bN bO).r ?_
 rintro n _ ⟨bR,_,q,o,rfl,ak⟩
 refine Qa hm fun x b hm=>g ?_
 refine Zc (Zc (QL (M:=fun f' w'=>(fun (x:Bool)=>∃am,Gc.le bR am∧St w0 am (H) w'∧Fx f' [(1,Vq m),(3,n),(25,Vb x)]) x) ?_ ?_))
 ·refine G ?_
  refine Zw (E:=(Qk (Qc .i64))) o A22.h Z Z Z ((i.sub (Sub.iso (Sub.fst (Sub.refl _))) Z).mono q) ?_
  intro _ b4
  have cd:Ga _ _ _ (a.Vars):=Q5.1 b4
  refine G ?_
  refine Qe b (fun aX b=>?_) fun aX b=>?_
  ·cases b
   refine G ?_
   exact fq
  refine G ?_
  refine Zw (E:=(Qk Gw)) o A24.h Z Z Z ((i.sub (Sub.iso (Sub.snd (Sub.snd (Sub.snd (Sub.refl _) Z) Z) Z)) Z).mono q) ?_
  intro _ b5
  have ce:Ga _ _ _ (a.Jobs):=Q5.1 b5
  refine G ?_
  refine Qe b (fun aY b=>?_) fun aY b=>?_
  ·cases b
   refine G ?_
   exact fq
  refine Qa b fun _ b6 b=>G ?_
  refine Tc Z Z Z Z (QaQ b6 o ak).r ?_
  rintro _ _ ⟨_,_,_,rfl⟩
  cases b
  refine G ?_
  exact fq
 rintro _ _ ⟨bS,ag,aL,_,rfl⟩
 refine G ?_
 refine Qe hm (fun aZ hm=>?_) fun aZ hm=>?_
 ·refine G ?_
  refine DO C63 Z Z ?_
  cases hm
  refine G ?_
  exact fr
 refine G ?_
 refine Zw (E:=(Qk (Qc .i64))) aL A22.h Z Z Z ((i.sub (Sub.iso (Sub.fst (Sub.refl _))) Z).mono lq) ?_
 intro av b7
 have cf:Ga _ _ _ (a.Vars):=Q5.1 b7
 refine Q6 hm fun _ a8 bn bh aU=>g ?_
 refine Jn (fun k' s' f' w'=>(fun (_:Unit)=>∃an,Gc.le bS an∧St w0 an (H) w'∧Fx f' [(30,O (k':Int)),(1,Vq m),(3,n),(28,av),(29,O ((a.Vars.length:Int)))]) s') a8 ?_ ?_ ?_ ?_
 ·exact fq
 ·intro bw _ _ _ _ _ aB j bq
  obtain ⟨bT,_,aM,_,rfl⟩:=aB
  refine Qa j fun t b8 j=>G ?_
  refine Jv Z Z Z b8 fun _ _ a1=>?_
  refine G ?_
  refine Zw (E:=(Qc .i64)) aM A3.h Z Z Z a1 ?_
  intro _ b9
  obtain rfl:=Qo.1 b9
  refine g ?_
  refine Zc (QL (M:=fun f' w'=>∃ao,Gc.le bT ao∧St w0 ao (H) w'∧Fx f' [(1,Vq m),(3,n),(28,av),(29,O ((a.Vars.length:Int))),(30,O ((bw:Int))),(39,Vb (((decide (t<1)) ||decide (64<t))))]) ?_ ?_)
  ·refine G ?_
   rcases tf (decide (t<1)) with ba |ba
   ·refine G ?_
    exact fq
   refine G ?_
   exact fq
  rintro _ _ ⟨_,_,_,_,rfl⟩
  refine G ?_
  refine Qe j (fun bb j=>?_) fun bb j=>?_
  ·refine G ?_
   refine DO C63 Z Z ?_
   cases j
   have bk:=bn _ (bq (by intro _ h;cases h))
   cases bk
   refine G ?_
   exact fr
  cases j
  refine G ?_
  exact ⟨_,Z,fq⟩
 ·intro _ _ _ aC br
  obtain ⟨bU,bz,aN,_,rfl⟩:=aC
  refine G ?_
  refine ⟨a.Vars.length,_, .inl br,?_⟩;exact ⟨bU,bz,aN,(Fx.mk)⟩
 rintro _ _ ⟨_,_,ad,aH⟩
 have hm:=ad.elim (bh _) (aU _)
 clear ad
 obtain ⟨bV,ah,aO,_,rfl⟩:=aH
 refine G ?_
 refine Zw (E:=(Qk Gw)) aO A24.h Z Z Z ((i.sub (Sub.iso (Sub.snd (Sub.snd (Sub.snd (Sub.refl _) Z) Z) Z)) Z).mono lq) ?_
 intro aw bA
 have cg:Ga _ _ _ (a.Jobs):=Q5.1 bA
 refine Q6 hm fun _ a9 bo bi aV=>g ?_
 refine Jn (fun k' s' f' w'=>(fun (_:Unit)=>∃ap,Gc.le bV ap∧St w0 ap (H) w'∧Fx f' [(45,O (k':Int)),(1,Vq m),(3,n),(43,aw),(44,O ((a.Jobs.length:Int)))]) s') a9 ?_ ?_ ?_ ?_
 ·exact fq
 ·intro bx _ _ _ _ _ aD l bs
  obtain ⟨bW,_,ab,_,rfl⟩:=aD
  refine Qa l fun u bB l=>G ?_
  refine Jv Z Z Z bB fun _ _ a2=>?_
  refine G ?_
  refine Zw (E:=Gw) ab A85.h Z Z Z a2 ?_
  intro _ bC
  obtain ⟨_,_,_,_,_,rfl,_,_,_,_,_⟩:=K9.1 bC
  refine G ?_
  refine DT (cs:=[Value.string (⟨#[]⟩),O 0,Vn,Vn,Vn,Vn,Vn]) ab Z85 Z Z fun _ _ _=>?_
  refine G ?_
  refine Xst Z Z Z fun _ _=>?_
  refine g ?_
  refine Zc (QL (M:=fun f' w'=>∃aq,Gc.le bW aq∧St w0 aq (H) w'∧Fx f' [(1,Vq m),(3,n),(43,aw),(44,O ((a.Jobs.length:Int))),(45,O ((bx:Int))),(56,Vb (((decide (u.Duration<1)) ||decide (62<u.Duration))))]) ?_ ?_)
  ·refine G ?_
   rcases tf (decide (u.Duration<1)) with bc |bc
   ·refine G ?_
    exact fq
   refine G ?_
   exact fq
  rintro _ _ ⟨_,_,_,_,rfl⟩
  refine G ?_
  refine Qe l (fun bd l=>?_) fun bd l=>?_
  ·refine G ?_
   refine DO C63 Z Z ?_
   cases l
   have bl:=bo _ (bs (by intro _ h;cases h))
   cases bl
   refine G ?_
   exact fr
  cases l
  refine G ?_
  exact ⟨_,Z,fq⟩
 ·intro _ _ _ aE bt
  obtain ⟨bX,b0,aP,_,rfl⟩:=aE
  refine G ?_
  refine ⟨a.Jobs.length,_, .inl bt,?_⟩;exact ⟨bX,b0,aP,(Fx.mk)⟩
 rintro _ _ ⟨_,_,ae,aI⟩
 have hm:=ae.elim (bi _) (aV _)
 clear ae
 obtain ⟨bY,ai,p,_,rfl⟩:=aI
 refine Qa hm fun z d hm=>g ?_
 refine Zc (Zc (QL (M:=fun f' w'=>(fun (z:Bool)=>∃ar,Gc.le bY ar∧St w0 ar (H) w'∧Fx f' [(1,Vq m),(69,Vb z)]) z) ?_ ?_))
 ·refine G ?_
  refine Zw (E:=(Qk (Qc .i64))) p A22.h Z Z Z ((i.sub (Sub.iso (Sub.fst (Sub.refl _))) Z).mono lq) ?_
  intro _ bD
  have bP:Ga _ _ _ (a.Vars):=Q5.1 bD
  refine G ?_
  refine Zw (E:=(Qk (Qc .i64))) p A22.h Z Z Z ((i.sub (Sub.iso (Sub.snd (Sub.fst (Sub.refl _)) Z)) Z).mono lq) ?_
  intro _ bE
  have bQ:Ga _ _ _ (a.Init):=Q5.1 bE
  refine Qa d fun _ bF d=>G ?_
  refine Tc Z Z Z Z (QbL bF p bP bQ).r ?_
  rintro _ _ ⟨_,aj,aQ,rfl⟩
  refine G ?_
  refine Qe d (fun be d=>?_) fun be d=>?_
  ·cases d
   refine G ?_
   exact fq
  refine G ?_
  refine DZ Z (Zi Z Jh) (Qa d fun _ bG d=>G ?_)
  refine Tc Z Z Z Z (QaP bG aQ (ak.mono (Zt (Zt (Zt ag ah) ai) aj)) (i.mono (Zt (Zt (Zt (Zt q ag) ah) ai) aj))).r ?_
  rintro _ _ ⟨_,_,_,rfl⟩
  cases d
  refine G ?_
  exact fq
 rintro _ _ ⟨bZ,_,aR,_,rfl⟩
 refine G ?_
 refine Qe hm (fun bf hm=>?_) fun bf hm=>?_
 ·refine G ?_
  refine DO C63 Z Z ?_
  cases hm
  refine G ?_
  exact fr
 refine G ?_
 refine Zw (E:=(Qk Gw)) aR A24.h Z Z Z ((i.sub (Sub.iso (Sub.snd (Sub.snd (Sub.snd (Sub.refl _) Z) Z) Z)) Z).mono lq) ?_
 intro cb bH
 have ch:Ga _ _ _ (a.Jobs):=Q5.1 bH
 refine Q6 hm fun _ aA bp bj aW=>g ?_
 refine Jn (fun k' s' f' w'=>(fun (_:Unit)=>∃au,Gc.le bZ au∧St w0 au (H) w'∧Fx f' [(74,O (k':Int)),(72,cb),(73,O ((a.Jobs.length:Int)))]) s') aA ?_ ?_ ?_ ?_
 ·exact fq
 ·intro _ _ _ _ _ _ aF c bu
  obtain ⟨_,_,ac,_,rfl⟩:=aF
  refine Qa c fun _ bI c=>G ?_
  refine Jv Z Z Z bI fun _ _ a3=>?_
  refine G ?_
  refine Zw (E:=Gw) ac A85.h Z Z Z a3 ?_
  intro _ bJ
  obtain ⟨_,_,_,_,_,rfl,_,_,_,_,_⟩:=K9.1 bJ
  refine G ?_
  refine DT (cs:=[Value.string (⟨#[]⟩),O 0,Vn,Vn,Vn,Vn,Vn]) ac Z85 Z Z fun _ _ _=>?_
  refine G ?_
  refine Xst Z Z Z fun _ aS=>?_
  refine Qa c fun _ bK c=>G ?_
  refine Tc Z Z Z Z (Qhh bK aS).r ?_
  rintro _ _ ⟨_,_,_,rfl⟩
  refine G ?_
  refine Qe c (fun bg c=>?_) fun bg c=>?_
  ·refine G ?_
   refine DO C63 Z Z ?_
   cases c
   have bm:=bp _ (bu (by intro _ h;cases h))
   cases bm
   refine G ?_
   exact fr
  cases c
  refine G ?_
  exact ⟨_,Z,fq⟩
 ·intro _ _ _ aG bv
  obtain ⟨ca,b1,aT,_,rfl⟩:=aG
  refine G ?_
  refine ⟨a.Jobs.length,_, .inl bv,?_⟩;exact ⟨ca,b1,aT,(Fx.mk)⟩
 rintro _ _ ⟨_,_,af,aJ⟩
 have hm:=af.elim (bj _) (aW _)
 clear af
 obtain ⟨_,_,_,_,rfl⟩:=aJ
 cases hm
 refine G ?_
 exact fr
instance A43:ATy Tryz.prog 43 true 2:=⟨by kernel_rfl⟩
theorem Z43:JW Tryz.prog 43=some (Value.agg #[O 0,O 0]):=by kernel_rfl
instance F43_1:FTy Tryz.prog 43 1 1:=⟨by kernel_rfl⟩
instance F43_0:FTy Tryz.prog 43 0 0:=⟨by kernel_rfl⟩
theorem Qg8 {t97:Ge} {c:(List Launch)} {v98 i j l m:Value} {r:(Option Int)} (hm:KC t97 c=some r) (hS:St w0 s (H) w) (a99:Ga (Qc .i64) s v98 t97.Vars) (y:Ga (Qc .i64) s i t97.Init) (z:Ga Gd s j t97.Goal) (aa:Ga Gw s l t97.Jobs) (a3:Ga Gg s m c) :
  Cv Tryz.prog 14 #[Value.agg #[v98,i,j,l],m] w0 w s H r fun a2=>K8 63 (a2):=by
 unfold KC at hm
 refine Qh Tryz.func14 Z Z (G ?_)
 refine JV Z Z fun d _ af=>?_
 refine Qa hm fun _ aw hm=>G ?_
 refine Tc Z Z Z Z (QbT aw af a99 y z aa).r ?_
 rintro _ _ ⟨az,_,_,rfl⟩
 refine G ?_
 refine Qv (T:=63) Tryz.underlying30 Z Z Z (G ?_)
 refine Qe hm (fun ai hm=>?_) fun ai hm=>?_
 ·cases hm
  refine G ?_
  exact fr
 refine G ?_
 refine Qe hm (fun o hm=>?_) fun o hm=>?_
 ·refine G ?_
  refine DO C63 Z Z ?_
  cases hm
  refine G ?_
  exact fr
 refine Q6 hm fun _ ab ap an ah=>W_c Z o (QiV (Yx (Ze (Zc (Zc (Zd (g ?_)))))))
 refine Jn (fun k' s' f' w'=>(fun (_:Unit)=>∃t,Gc.le az t∧St w0 t (Res.box d 26 [v98,i,j,l]::H) w'∧Fx f' [(19,O (k':Int)),(2,Vq d),(17,m),(18,O ((c.length:Int)))]) s') ab ?_ ?_ ?_ ?_
 ·exact fq
 ·intro au _ _ _ _ _ ac a aq
  obtain ⟨a0,_,n,_,rfl⟩:=ac
  refine Qa a fun b ax a=>G ?_
  refine Jv Z Z Z ax fun _ _ x=>?_
  refine G ?_
  refine Zw (E:=Gg) n A43.h Z Z Z x ?_
  intro _ ay
  obtain rfl:=QH.1 ay
  refine G ?_
  refine DT (cs:=[O 0,O 0]) n Z43 Z Z fun _ _ _=>?_
  refine G ?_
  refine Xst Z Z Z fun _ _=>?_
  refine g ?_
  refine Zc (QL (M:=fun f' w'=>∃u,Gc.le a0 u∧St w0 u (Res.box d 26 [v98,i,j,l]::H) w'∧Fx f' [(2,Vq d),(17,m),(18,O ((c.length:Int))),(19,O ((au:Int))),(43,Vb (((decide (b.Job<0)) ||((decide ((t97.Jobs.length:Int)<=b.Job)) ||((decide (b.At<0)) ||decide (1048576<b.At))))))]) ?_ ?_)
  ·refine G ?_
   rcases tf (decide (b.Job<0)) with aj |aj
   ·refine G ?_
    exact fq
   refine G ?_
   rcases tf (decide ((t97.Jobs.length:Int)<=b.Job)) with ak |ak
   ·refine G ?_
    exact fq
   refine G ?_
   rcases tf (decide (b.At<0)) with al |al
   ·refine G ?_
    exact fq
   refine G ?_
   exact fq
  rintro _ _ ⟨_,_,_,_,rfl⟩
  refine G ?_
  refine Qe a (fun am a=>?_) fun am a=>?_
  ·refine G ?_
   refine DO C63 Z Z ?_
   cases a
   have ao:=ap _ (aq (by intro _ h;cases h))
   cases ao
   refine G ?_
   exact fr
  cases a
  refine G ?_
  exact ⟨_,Z,fq⟩
 ·intro _ _ _ ad ar
  obtain ⟨a1,av,ag,_,rfl⟩:=ad
  refine G ?_
  refine ⟨c.length,_, .inl ar,?_⟩;exact ⟨a1,av,ag,(Fx.mk)⟩
 rintro _ _ ⟨_,_,p,ae⟩
 have hm:=p.elim (an _) (ah _)
 clear p
 obtain ⟨_,_,_,_,rfl⟩:=ae
 cases hm
 refine G ?_
 exact fr
theorem Z61:JW Tryz.prog 61=some (Value.slice none 0 0):=by kernel_rfl
instance S61:STy Tryz.prog 61 120 2 16:=⟨by kernel_rfl⟩
theorem Qqq:JW Tryz.prog 120=some (Value.agg #[O 0,Value.bool false]):=by kernel_rfl
theorem K0 {b:Ge} {c:Launch} {f g i j:Value} {r:Int} (hm:Kq b c=some r) (hS:St w0 s (H) w) (t:Ga (Qc .i64) s f b.Vars) (u:Ga (Qc .i64) s g b.Init) (x:Ga Gd s i b.Goal) (k:Ga Gw s j b.Jobs) :
  Cv Tryz.prog 47 #[Value.agg #[f,g,i,j],Value.agg #[O (c.At),O (c.Job)]] w0 w s H r fun q=>O q:=by
 unfold Kq at hm
 refine Qh Tryz.func47 Z Z (G ?_)
 refine JV Z Z fun _ _ _=>?_
 refine G ?_
 refine JV Z Z fun _ _ a=>?_
 refine G ?_
 refine QT (n0:=10) (qs 0 10 .done) JQ (G ?_)
 refine Zn (a.drew) A3.h Z Z Z ⟨Z,G ?_⟩
 refine Zn ((a.drew).f1) A24.h Z Z Z ⟨Z,G ?_⟩
 refine Zn (a.drew) A3.h Z Z Z ⟨Z,Qa hm fun p m hm=>G ?_⟩
 refine Qy S24.h Z Z Z k m fun _ _ l _=>?_
 refine ⟨Z,G ?_⟩
 refine Zw (E:=(Qc .i64)) a.drew A3.h Z Z Z (l.sub (Sub.iso (Sub.snd (Sub.fst (Sub.refl _)) Z)) Z) ?_
 intro o n
 obtain rfl:o=O (p.Duration):=Qo.1 n
 refine ⟨Z,?_⟩
 cases hm
 refine G ?_
 exact ⟨_,Qd0 Z,⟨s,(Zv _),((a.drew).drop).drop,Z⟩⟩
theorem Z3:JW Tryz.prog 3=some (O 0):=by kernel_rfl
end Go.Pw
