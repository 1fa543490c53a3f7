/- Part of the proof of Rows.ProverMiddlesCardSaid: PmQ14. -/
import Derived.KernelRfl
import Derived.Test.YtepbfecmageleaaGreatDoorP25
set_option linter.all false
namespace Go.Proofs.YtepbfecmageleaaGreatDoor
set_option maxRecDepth 100000
open Go
theorem q44_4_run:q44_4.run XQ16 1000 = true:=by kernel_rfl
theorem q12_0_run:q12_0.run XQ17 1000 = true:=by kernel_rfl
theorem q11_0_run:q11_0.run XQ18 1000 = true:=by kernel_rfl
end Go.Proofs.YtepbfecmageleaaGreatDoor
