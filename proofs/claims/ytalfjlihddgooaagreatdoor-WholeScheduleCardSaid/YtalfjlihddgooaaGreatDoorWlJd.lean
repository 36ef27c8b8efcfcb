/- -/
import Derived.Test.YtalfjlihddgooaaGreatDoorBa
import Derived.Test.YtalfjlihddgooaaGreatDoorRows
import Derived.LaidMore
import Derived.MakeChecks
import Derived.Lib.LaidTab
import Derived.Lib.LaidU8
import Derived.KernelRfl
namespace Go.Pw
open Go.Proofs Go.Proofs.YtalfjlihddgooaaGreatDoor
noncomputable def Qvw (os:Os):World :=
 let w0:=World.doorLaid Tryz.prog 400 os
 { w0 with heap:=w0.heap.modify 2 fun
  | .cells _ t frozen=> .cells (Lib.firstTab.map fun z=>Value.int .u8 z).toArray t frozen
  |o=>o }
noncomputable abbrev QlO (os:Os) (args:Array Value):World:=((Qvw os).forCall (fun _ _=>0) ⟨#[],args,[]⟩).memory
noncomputable abbrev XN:List (String×DataW Unit):=Rows.wholeScheduleRow.laid.filter fun x=>x.2.handleName?.isNone
set_option maxRecDepth 1000000
theorem QyG (os:Os) (args:Array Value):(DataW.laidRun Tryz.prog (QlO os args) 65 (XN.map (·.1))).map (·.1)=some XN:=by kernel_rfl
theorem QwZ (os:Os) (args:Array Value):(DataW.laidRun Tryz.prog (QlO os args) 65 (XN.map (·.1))).map (fun x=>decide x.2.Nodup)=some true:=by kernel_rfl
theorem QwY (os:Os) (args:Array Value):(DataW.laidRun Tryz.prog (QlO os args) 65 (XN.map (·.1))).map (fun x=>laidRowsB Tryz.prog (QlO os args) x.2)=some true:=by kernel_rfl
theorem QwX {α:Type} {o:Option α} {f g:α->Bool} (h:o.map f=some true) (k:o.map g=some true):o.map (fun x=>f x && g x)=some true:=by
 cases o with
 |none=>cases h
 |some x =>
  simp only [Option.map_some,XI] at *
  rw [h,k]
  rfl
theorem Qyq (os:Os) (args:Array Value):(Rows.wholeScheduleRow.laid.filter fun x=>x.2.handleName?.isSome && x.2.funcsIn?.isNone).all (handleAtB Tryz.prog (QlO os args))=true:=by kernel_rfl
theorem Qyp (os:Os) (args:Array Value):funcsRun Tryz.prog (QlO os args) 65 ((funcsListed Rows.wholeScheduleRow.laid).map (·.1))=some ((funcsListed Rows.wholeScheduleRow.laid).map (·.2.funcsOut)):=by kernel_rfl
theorem QxN (os:Os) (args:Array Value):laidMetH Tryz.prog Rows.wholeScheduleRow.laid ((Qvw os).forCall (fun _ _=>0) ⟨#[],args,[]⟩).memory :=
 laidMetH_of_parts3 (fuel:=65) (laidMet_of_run' 65 (QyG os args) (QwX (QwZ os args) (QwY os args))) (Qyq os args) (Qyp os args)
end Go.Pw
