/- -/
import Derived.Test.YtalfjlihddgooaaGreatDoorRows
import Derived.KernelRfl
set_option maxRecDepth 1000000
namespace Go.Pw
open Go.Proofs Go.Proofs.YtalfjlihddgooaaGreatDoor
theorem QyK:(Rows.wholeScheduleRow.inPlace == Tryz.prog.inPlace 3)=true:=by kernel_rfl
end Go.Pw
