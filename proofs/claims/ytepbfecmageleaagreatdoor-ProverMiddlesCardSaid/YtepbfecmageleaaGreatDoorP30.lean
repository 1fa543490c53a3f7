/- Part of the proof of Rows.ProverMiddlesCardSaid: PmQ5. -/
import Derived.KernelRfl
import Derived.Test.YtepbfecmageleaaGreatDoorP25
set_option linter.all false
namespace Go.Proofs.YtepbfecmageleaaGreatDoor
set_option maxRecDepth 100000
open Go
theorem q131_13_run:q131_13.run XQ9 1000 = true:=by kernel_rfl
theorem q131_14_run:q131_14.run XQ9 1000 = true:=by kernel_rfl
theorem q131_15_run:q131_15.run XQ9 1000 = true:=by kernel_rfl
theorem q131_16_run:q131_16.run XQ9 1000 = true:=by kernel_rfl
theorem q131_17_run:q131_17.run XQ9 1000 = true:=by kernel_rfl
theorem q131_18_run:q131_18.run XQ9 1000 = true:=by kernel_rfl
theorem q131_19_run:q131_19.run XQ9 1000 = true:=by kernel_rfl
theorem q131_20_run:q131_20.run XQ9 1000 = true:=by kernel_rfl
theorem q128_0_run:q128_0.run XQ10 1000 = true:=by kernel_rfl
theorem q128_1_run:q128_1.run XQ10 1000 = true:=by kernel_rfl
theorem q128_2_run:q128_2.run XQ10 1000 = true:=by kernel_rfl
theorem q128_3_run:q128_3.run XQ10 1000 = true:=by kernel_rfl
theorem q128_4_run:q128_4.run XQ10 1000 = true:=by kernel_rfl
theorem q128_5_run:q128_5.run XQ10 1000 = true:=by kernel_rfl
theorem q128_6_run:q128_6.run XQ10 1000 = true:=by kernel_rfl
theorem q128_7_run:q128_7.run XQ10 1000 = true:=by kernel_rfl
theorem q128_8_run:q128_8.run XQ10 1000 = true:=by kernel_rfl
theorem q128_9_run:q128_9.run XQ10 1000 = true:=by kernel_rfl
theorem q176_0_run:q176_0.run XQ11 1000 = true:=by kernel_rfl
theorem q176_1_run:q176_1.run XQ11 1000 = true:=by kernel_rfl
end Go.Proofs.YtepbfecmageleaaGreatDoor
