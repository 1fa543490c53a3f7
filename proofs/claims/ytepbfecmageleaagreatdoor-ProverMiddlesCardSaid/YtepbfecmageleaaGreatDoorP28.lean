/- Part of the proof of Rows.ProverMiddlesCardSaid: PmQ3. -/
import Derived.KernelRfl
import Derived.Test.YtepbfecmageleaaGreatDoorP25
set_option linter.all false
namespace Go.Proofs.YtepbfecmageleaaGreatDoor
set_option maxRecDepth 100000
open Go
theorem q35_78_run:q35_78.run XQ5 1000 = true:=by kernel_rfl
theorem q35_79_run:q35_79.run XQ5 1000 = true:=by kernel_rfl
theorem q35_80_run:q35_80.run XQ5 1000 = true:=by kernel_rfl
theorem q35_81_run:q35_81.run XQ5 1000 = true:=by kernel_rfl
theorem q35_82_run:q35_82.run XQ5 1000 = true:=by kernel_rfl
theorem q65_0_run:q65_0.run XQ6 1000 = true:=by kernel_rfl
theorem q65_1_run:q65_1.run XQ6 1000 = true:=by kernel_rfl
theorem q65_2_run:q65_2.run XQ6 1000 = true:=by kernel_rfl
theorem q65_3_run:q65_3.run XQ6 1000 = true:=by kernel_rfl
theorem q65_4_run:q65_4.run XQ6 1000 = true:=by kernel_rfl
theorem q65_5_run:q65_5.run XQ6 1000 = true:=by kernel_rfl
theorem q65_6_run:q65_6.run XQ6 1000 = true:=by kernel_rfl
theorem q65_7_run:q65_7.run XQ6 1000 = true:=by kernel_rfl
theorem q65_8_run:q65_8.run XQ6 1000 = true:=by kernel_rfl
theorem q149_0_run:q149_0.run XQ7 1000 = true:=by kernel_rfl
theorem q149_1_run:q149_1.run XQ7 1000 = true:=by kernel_rfl
theorem q149_2_run:q149_2.run XQ7 1000 = true:=by kernel_rfl
theorem q149_3_run:q149_3.run XQ7 1000 = true:=by kernel_rfl
theorem q149_4_run:q149_4.run XQ7 1000 = true:=by kernel_rfl
theorem q149_5_run:q149_5.run XQ7 1000 = true:=by kernel_rfl
theorem q149_6_run:q149_6.run XQ7 1000 = true:=by kernel_rfl
theorem q149_7_run:q149_7.run XQ7 1000 = true:=by kernel_rfl
theorem q149_8_run:q149_8.run XQ7 1000 = true:=by kernel_rfl
theorem q149_9_run:q149_9.run XQ7 1000 = true:=by kernel_rfl
theorem q149_10_run:q149_10.run XQ7 1000 = true:=by kernel_rfl
theorem q149_11_run:q149_11.run XQ7 1000 = true:=by kernel_rfl
theorem q149_12_run:q149_12.run XQ7 1000 = true:=by kernel_rfl
theorem q149_13_run:q149_13.run XQ7 1000 = true:=by kernel_rfl
theorem q149_14_run:q149_14.run XQ7 1000 = true:=by kernel_rfl
theorem q149_15_run:q149_15.run XQ7 1000 = true:=by kernel_rfl
theorem q149_16_run:q149_16.run XQ7 1000 = true:=by kernel_rfl
theorem q149_17_run:q149_17.run XQ7 1000 = true:=by kernel_rfl
theorem q149_18_run:q149_18.run XQ7 1000 = true:=by kernel_rfl
theorem q149_19_run:q149_19.run XQ7 1000 = true:=by kernel_rfl
theorem q149_20_run:q149_20.run XQ7 1000 = true:=by kernel_rfl
theorem q149_21_run:q149_21.run XQ7 1000 = true:=by kernel_rfl
end Go.Proofs.YtepbfecmageleaaGreatDoor
