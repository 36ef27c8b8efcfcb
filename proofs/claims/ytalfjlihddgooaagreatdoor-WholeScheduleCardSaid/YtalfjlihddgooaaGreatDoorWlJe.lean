/- -/
import Derived.Test.YtalfjlihddgooaaGreatDoorWlJa
import Derived.Test.YtalfjlihddgooaaGreatDoorWlJb
import Derived.Test.YtalfjlihddgooaaGreatDoorWlJc
import Derived.JoinedOf
import Derived.KernelRfl
namespace Go.Pw
open Go.Proofs Go.Proofs.YtalfjlihddgooaaGreatDoor
theorem QrH:laidOutB Tryz.prog=true:=by kernel_rfl
theorem Qax {a b:Bool} (h:a=true) (k:b=true):(a && b)=true:=by rw [h,k];rfl
theorem Qzl:(Rows.wholeScheduleRow.recurses == Tryz.prog.recurses 3)=true:=by
 have h:Tryz.prog.unfollowed 3=true:=by
  have h1:=Qyj
  rw [show Rows.wholeScheduleRow.unfollowed=true from rfl,beq_iff_eq] at h1
  exact h1.symm
 unfold Program.recurses
 rw [h]
 rfl
theorem jn0:(Rows.wholeScheduleRow.wf (OpenSpec.ofChange Rows.wholeScheduleSpec))=true:=by kernel_rfl
theorem jn2:(mapsRowed Tryz.prog)=true:=by kernel_rfl
theorem jn3:(Tryz.f3.params.all (Tryz.prog.readableRec ·))=true:=by kernel_rfl
theorem jn4:(namedTie Tryz.prog Rows.wholeScheduleRow.named Rows.wholeScheduleSpec.vars)=true:=by kernel_rfl
theorem jn5:((Rows.wholeScheduleRow.stops == []))=true:=by kernel_rfl
theorem jn6:((Tryz.prog.stops == []))=true:=by kernel_rfl
theorem jn7:((Rows.wholeScheduleRow.knobs == []))=true:=by kernel_rfl
theorem jn8:((Tryz.prog.stopKnobs == []))=true:=by kernel_rfl
theorem Qzk:((Rows.wholeScheduleRow.maps == (Tryz.f3.params.toList++Rows.wholeScheduleSpec.plain.varTypes Tryz.prog).any (Tryz.prog.mapsRec ·)))=true:=by kernel_rfl
theorem Qzj:((Rows.wholeScheduleRow.ifaces == (Tryz.f3.params.toList++Rows.wholeScheduleSpec.plain.varTypes Tryz.prog).any (Tryz.prog.ifacesRec ·)))=true:=by kernel_rfl
theorem Qzi:((Rows.wholeScheduleRow.mapsOut == Tryz.prog.mapsAmong Tryz.f3.resultTypes.toList))=true:=by kernel_rfl
theorem Qzh:((Rows.wholeScheduleRow.loops == (Tryz.f3.params.toList++Rows.wholeScheduleSpec.plain.varTypes Tryz.prog).any (Tryz.prog.loopsFrom ·)))=true:=by kernel_rfl
theorem Qzg:((Rows.wholeScheduleRow.wideKeys == (Tryz.f3.params.toList++Rows.wholeScheduleSpec.plain.varTypes Tryz.prog++Tryz.f3.resultTypes.toList).any (Tryz.prog.wideKeysFrom ·)))=true:=by kernel_rfl
theorem Qzf:(Rows.wholeScheduleSpec.vars.all (Tryz.prog.varReadable ·))=true:=by kernel_rfl
theorem Qze:(Tryz.f3.resultTypes.all (fun t=>Tryz.prog.readableRec t && decide (t<Tryz.prog.types.size)))=true:=by kernel_rfl
theorem Qzd:((Rows.wholeScheduleRow.ifacesOut == Tryz.f3.resultTypes.toList.any (Tryz.prog.ifacesRec ·)))=true:=by kernel_rfl
theorem Qzc:((Rows.wholeScheduleRow.loopsOut == Tryz.f3.resultTypes.toList.any (Tryz.prog.loopsFrom ·)))=true:=by kernel_rfl
theorem Qzb:((Rows.wholeScheduleRow.plainKeys == Tryz.prog.plainKeys))=true:=by kernel_rfl
theorem Qza:(Rows.wholeScheduleRow.shortTexts.isNone)=true:=by kernel_rfl
theorem QyZ:(Tryz.prog.stopsHeard)=true:=by kernel_rfl
theorem QyY:(Tryz.prog.mayEnter)=true:=by kernel_rfl
theorem QyX:((Rows.wholeScheduleRow.lifted == Tryz.prog.liftsFinal))=true:=by kernel_rfl
theorem QyW:((Tryz.prog.make == some Rows.wholeScheduleRow.make))=true:=by kernel_rfl
theorem QyV:((Rows.wholeScheduleRow.pinned == Rows.wholeScheduleRow.pinnedBy))=true:=by kernel_rfl
theorem QyU:((Rows.wholeScheduleRow.veiled == (Tryz.f3.params.toList++Rows.wholeScheduleSpec.plain.varTypes Tryz.prog++Tryz.f3.resultTypes.toList).any (Tryz.prog.veiledRec ·)))=true:=by kernel_rfl
theorem QyT:(Rows.wholeScheduleRow.veiledFits Tryz.prog Tryz.f3.params.toList (Tryz.f3.params.toList++Rows.wholeScheduleSpec.plain.varTypes Tryz.prog++Tryz.f3.resultTypes.toList))=true:=by kernel_rfl
theorem QuY:joinedFacts Tryz.prog 3 Tryz.f3 Rows.wholeScheduleSpec Rows.wholeScheduleRow=true:=by
 unfold joinedFacts
 exact (Qax (Qax (Qax (Qax (Qax (Qax (Qax (Qax (Qax (Qax (Qax (Qax (Qax (Qax (Qax (Qax (Qax (Qax (Qax (Qax (Qax (Qax (Qax (Qax (Qax (Qax (Qax (Qax (Qax (Qax (Qax jn0 QrH) jn2) jn3) jn4) jn5) jn6) jn7) jn8) QyK) Qyj) Qzl) QyJ) Qzk) Qzj) Qzi) Qzh) Qzg) Qzf) Qze) Qzd) Qzc) Qzb) Qza) QyZ) QyY) QyX) QyW) (by kernel_rfl)) QyV) QyU) QyT)
theorem QuX:joinedFacts Tryz.pinned.checked.prog 3 Tryz.f3 Rows.wholeScheduleSpec Rows.wholeScheduleRow=true:=QuY
end Go.Pw
