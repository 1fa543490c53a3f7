/- Part of the proof of Rows.ProverMiddlesCardSaid: PmQ13. -/
import Derived.KernelRfl
import Derived.Test.YtepbfecmageleaaGreatDoorP25
set_option linter.all false
namespace Go.Proofs.YtepbfecmageleaaGreatDoor
set_option maxRecDepth 100000
open Go
theorem q44_3_run:q44_3.run XQ16 1000 = true:=by kernel_rfl
end Go.Proofs.YtepbfecmageleaaGreatDoor
