/- Part of the proof of Rows.ProverMiddlesCardSaid: PmQ8. -/
import Derived.KernelRfl
import Derived.Test.YtepbfecmageleaaGreatDoorP25
set_option linter.all false
namespace Go.Proofs.YtepbfecmageleaaGreatDoor
set_option maxRecDepth 100000
open Go
theorem q83_3_run:q83_3.run XQ12 1000 = true:=by kernel_rfl
end Go.Proofs.YtepbfecmageleaaGreatDoor
