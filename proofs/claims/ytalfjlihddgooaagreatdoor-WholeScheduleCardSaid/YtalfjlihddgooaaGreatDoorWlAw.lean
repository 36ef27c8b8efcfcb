/- -/
import Derived.Test.YtalfjlihddgooaaGreatDoorBa
import Derived.Test.YtalfjlihddgooaaGreatDoorEvF
import Derived.Test.YtalfjlihddgooaaGreatDoorLA
import Derived.Test.YtalfjlihddgooaaGreatDoorWlP
import Derived.Test.YtalfjlihddgooaaGreatDoorProg
import Derived.KernelRfl
set_option maxRecDepth 1000000
namespace Go.Pw
open Go.Proofs
theorem awM:Tryz.prog.follows .mixedOrders=true:=by kernel_rfl
theorem QnA {P:Program} {f:Nat} {e:Array Value->Sem Value} (fn:Func) (h1:P.funcs[f]?=some fn) (h2:(fn.name == "runtime.NumGoroutine")=false) (h3:fn.body.isNone=true) (h4:Extern.findNext fn=none) (h5:Extern.find fn=some e):Di P f e:=⟨fn,h1,h2,h3,h4,h5⟩
theorem awI:Di Tryz.prog 513 Extern.BytealgIndexByte.indexByte:=QnA _ rfl rfl rfl rfl rfl
theorem awC:Di Tryz.prog 415 Extern.BytealgCount.count:=QnA _ rfl rfl rfl rfl rfl
theorem Qjb {P:Program} {f:Nat} {fn:Func} {us:List Value} {w:World} {K:Value->World->Prop} (hf:P.funcs[f]?=some fn) (hb:fn.body.isNone=false) (hn:(fn.name == "runtime.NumGoroutine")=false) (h:GM P f us w K):Calls P f us.toArray w fun e w'=>∃v,e= .returned v∧K v w':=by
 have hrun:(callFunc f us.toArray).run P w= .ok (.enter f us.toArray) w:=by
  simp only [callFunc,Xe,Xg,Xd,program,Sem.run,hf,hn,hb,Xf,if_false]
 unfold GM at h
 rw [hrun] at h
 exact h
theorem St.beside {w0 w w':World} {s:Gc} {H:List Res} {τ:Sg} {h':AH} (hS:St w0 s H w) (g:Go1 (fun _=>none) Dg w τ h' w'):St w0 s H w':=by
 have hk:∀(b:Nat) o,w.heap[b]?=some o->w'.heap[b]?=some o:=fun b o hb=>g.keep b o hb fun k bk pl hh=>by rw [QoK] at hh;cases hh
 obtain ⟨bs,h1,h2,h3⟩:=hS.own
 refine ⟨g.os.trans hS.os,g.tape.trans hS.tape,g.output.trans hS.output,X0 hS.drawn g.drawn,X0 hS.size g.size,fun b o hb=>hk b o (hS.stay b o hb),bs,h1,h2,GU.loc h3 fun b hb=>?_⟩
 have hlt:=GU.lt h3 b hb
 have e:w.heap[b]?=some w.heap[b]:=by simp [hlt]
 rw [e];exact hk b _ e
noncomputable def okA (r:RS):Bool:=@RS.rec (fun _=>Bool) false (fun v _=>oB (QiS v) (fun b=>b)) r
theorem Qw0 {r:RS} (h:okA r=true):∃h',r= .ok (.b true) h':=by
 cases r with
 |no=>cases h
 |ok v h' =>
  obtain ⟨b,h1,h2⟩:=QaS (show oB (QiS v) (fun b=>b)=true from h)
  subst h2
  rw [Qgm h1];exact ⟨h',rfl⟩
theorem QxS:okA (QjI Tryz.prog (QrC Tryz.prog (Qwe 513 415) 400 60 [384,385,223]) 400 60 4 [] Dg)=true:=by decide +kernel
theorem QlI {w0 w:World} {s:Gc} {H:List Res} {r:Bool} (hm:Qj1=some r) (hS:St w0 s H w):Calls Tryz.prog 4 #[] w fun e w'=>∃v,e= .returned v∧((fun (y:Bool)=>∃(s':Gc),Gc.le s s'∧St w0 s' H w'∧v=Value.bool y) r):=by
 cases hm
 obtain ⟨h',hr⟩:=Qw0 QxS
 have h:=QuZ awM awI awC hr .nil w
 have hc:=Qjb (fn:=_) rfl rfl rfl h
 refine Calls.mono hc ?_
 rintro e w' ⟨v,he,τ,g,hv⟩
 exact ⟨v,he,s,Zv _,hS.beside g,QjD hv⟩
end Go.Pw
