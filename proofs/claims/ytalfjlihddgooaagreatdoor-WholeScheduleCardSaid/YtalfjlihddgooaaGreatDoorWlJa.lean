/- -/
import Derived.Test.YtalfjlihddgooaaGreatDoorRows
import Derived.KernelRfl
set_option maxRecDepth 1000000
namespace Go.Pw
open Go.Proofs Go.Proofs.YtalfjlihddgooaaGreatDoor
theorem Qyj:(Rows.wholeScheduleRow.unfollowed == Tryz.prog.unfollowed 3)=true:=by kernel_rfl
end Go.Pw
