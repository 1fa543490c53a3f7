/- Part of the proof of Rows.ProverMiddlesCardSaid: PmQ12. -/
import Derived.KernelRfl
import Derived.Test.YtepbfecmageleaaGreatDoorP25
set_option linter.all false
namespace Go.Proofs.YtepbfecmageleaaGreatDoor
set_option maxRecDepth 100000
open Go
theorem q44_0_run:q44_0.run XQ16 1000 = true:=by kernel_rfl
theorem q44_1_run:q44_1.run XQ16 1000 = true:=by kernel_rfl
theorem q44_2_run:q44_2.run XQ16 1000 = true:=by kernel_rfl
end Go.Proofs.YtepbfecmageleaaGreatDoor
