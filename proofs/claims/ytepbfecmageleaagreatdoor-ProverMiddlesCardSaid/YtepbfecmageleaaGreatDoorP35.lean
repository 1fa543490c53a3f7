/- Part of the proof of Rows.ProverMiddlesCardSaid: PmQ10. -/
import Derived.KernelRfl
import Derived.Test.YtepbfecmageleaaGreatDoorP25
set_option linter.all false
namespace Go.Proofs.YtepbfecmageleaaGreatDoor
set_option maxRecDepth 100000
open Go
theorem q94_0_run:q94_0.run XQ14 1000 = true:=by kernel_rfl
end Go.Proofs.YtepbfecmageleaaGreatDoor
