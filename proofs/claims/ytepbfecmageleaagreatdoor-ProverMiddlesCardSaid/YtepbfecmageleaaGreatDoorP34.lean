/- Part of the proof of Rows.ProverMiddlesCardSaid: PmQ9. -/
import Derived.KernelRfl
import Derived.Test.YtepbfecmageleaaGreatDoorP25
set_option linter.all false
namespace Go.Proofs.YtepbfecmageleaaGreatDoor
set_option maxRecDepth 100000
open Go
theorem q46_0_run:q46_0.run XQ13 1000 = true:=by kernel_rfl
theorem q46_1_run:q46_1.run XQ13 1000 = true:=by kernel_rfl
end Go.Proofs.YtepbfecmageleaaGreatDoor
