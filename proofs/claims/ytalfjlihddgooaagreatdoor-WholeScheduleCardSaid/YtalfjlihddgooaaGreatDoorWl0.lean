/- -/
import Derived.Test.YtalfjlihddgooaaGreatDoorLD
import Derived.Test.YtalfjlihddgooaaGreatDoorWlP
import Derived.Test.YtalfjlihddgooaaGreatDoorLC
import Derived.Test.YtalfjlihddgooaaGreatDoorLE
import Derived.Test.YtalfjlihddgooaaGreatDoorLG
import Derived.Test.YtalfjlihddgooaaGreatDoorLF
import Derived.Test.YtalfjlihddgooaaGreatDoorProg
import Derived.KernelRfl
set_option maxRecDepth 100000
set_option maxHeartbeats 4000000
set_option linter.unusedVariables false
namespace Go.Pw
open Go.Proofs
attribute [local irreducible] Exec WL W andThen QaB DL Jm
theorem QxD:Ql5 Tryz.prog 555 [0,1,415,471,513,527,528,529,530,531,532,533,534,535,536,537,538,539,540,541,542,543,544,545,546,547,548,549,550,551,552,553]=true:=by kernel_rfl
theorem Tc {ρ:Operand->Value} {o:Oper} {w:World} {K Q:Value->World->Prop} {f:FuncId} {args:List Operand} {ts:Array TypeId} {vs:List Value} (ho:o.op= .call { callee:= .value (.func f),args:=args.toArray,argTypes:=ts }) (hc:ρ (.func f)= .func (.func f) #[] #[]) (hlt:Qwb 555 [0,1,415,471,513,527,528,529,530,531,532,533,534,535,536,537,538,539,540,541,542,543,544,545,546,547,548,549,550,551,552,553] f=true) (hargs:List.map ρ args=vs) (h:Calls Tryz.prog f vs.toArray w fun e w'=>∃v,e= .returned v∧Q v w') (hk:∀v w',Q v w'->K v w'):Exec Tryz.prog ρ o w K:=Qpr QxD ho hc hlt hargs h hk
instance F26_0:FTy Tryz.prog 26 0 0:=⟨by kernel_rfl⟩
instance A22:ATy Tryz.prog 22 false 1:=⟨by kernel_rfl⟩
instance S22:STy Tryz.prog 22 3 1 8:=⟨by kernel_rfl⟩
instance F26_3:FTy Tryz.prog 26 3 3:=⟨by kernel_rfl⟩
instance A24:ATy Tryz.prog 24 false 1:=⟨by kernel_rfl⟩
instance S24:STy Tryz.prog 24 85 7 144:=⟨by kernel_rfl⟩
instance S27:STy Tryz.prog 27 43 2 16:=⟨by kernel_rfl⟩
end Go.Pw
