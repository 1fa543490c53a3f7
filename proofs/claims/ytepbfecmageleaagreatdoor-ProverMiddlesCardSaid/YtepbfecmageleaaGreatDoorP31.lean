/- Part of the proof of Rows.ProverMiddlesCardSaid: PmQ6. -/
import Derived.KernelRfl
import Derived.Test.YtepbfecmageleaaGreatDoorP25
set_option linter.all false
namespace Go.Proofs.YtepbfecmageleaaGreatDoor
set_option maxRecDepth 100000
open Go
theorem q176_2_run:q176_2.run XQ11 1000 = true:=by kernel_rfl
theorem q176_3_run:q176_3.run XQ11 1000 = true:=by kernel_rfl
theorem q83_0_run:q83_0.run XQ12 1000 = true:=by kernel_rfl
theorem q83_1_run:q83_1.run XQ12 1000 = true:=by kernel_rfl
end Go.Proofs.YtepbfecmageleaaGreatDoor
