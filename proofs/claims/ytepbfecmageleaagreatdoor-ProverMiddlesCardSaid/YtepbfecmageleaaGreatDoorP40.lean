/- Part of the proof of Rows.ProverMiddlesCardSaid: PmQ15. -/
import Derived.KernelRfl
import Derived.Test.YtepbfecmageleaaGreatDoorP25
set_option linter.all false
namespace Go.Proofs.YtepbfecmageleaaGreatDoor
set_option maxRecDepth 100000
open Go
theorem q11_1_run:q11_1.run XQ18 1000 = true:=by kernel_rfl
theorem q11_2_run:q11_2.run XQ18 1000 = true:=by kernel_rfl
theorem q11_3_run:q11_3.run XQ18 1000 = true:=by kernel_rfl
theorem q11_4_run:q11_4.run XQ18 1000 = true:=by kernel_rfl
theorem q8_0_run:q8_0.run XQ19 1000 = true:=by kernel_rfl
theorem q8_1_run:q8_1.run XQ19 1000 = true:=by kernel_rfl
theorem q8_2_run:q8_2.run XQ19 1000 = true:=by kernel_rfl
theorem q7_0_run:q7_0.run XQ20 1000 = true:=by kernel_rfl
end Go.Proofs.YtepbfecmageleaaGreatDoor
