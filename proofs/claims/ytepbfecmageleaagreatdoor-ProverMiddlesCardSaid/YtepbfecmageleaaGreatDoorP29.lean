/- Part of the proof of Rows.ProverMiddlesCardSaid: PmQ4. -/
import Derived.KernelRfl
import Derived.Test.YtepbfecmageleaaGreatDoorP25
set_option linter.all false
namespace Go.Proofs.YtepbfecmageleaaGreatDoor
set_option maxRecDepth 100000
open Go
theorem q149_22_run:q149_22.run XQ7 1000 = true:=by kernel_rfl
theorem q149_23_run:q149_23.run XQ7 1000 = true:=by kernel_rfl
theorem q149_24_run:q149_24.run XQ7 1000 = true:=by kernel_rfl
theorem q149_25_run:q149_25.run XQ7 1000 = true:=by kernel_rfl
theorem q149_26_run:q149_26.run XQ7 1000 = true:=by kernel_rfl
theorem q149_27_run:q149_27.run XQ7 1000 = true:=by kernel_rfl
theorem q149_28_run:q149_28.run XQ7 1000 = true:=by kernel_rfl
theorem q149_29_run:q149_29.run XQ7 1000 = true:=by kernel_rfl
theorem q149_30_run:q149_30.run XQ7 1000 = true:=by kernel_rfl
theorem q149_31_run:q149_31.run XQ7 1000 = true:=by kernel_rfl
theorem q149_32_run:q149_32.run XQ7 1000 = true:=by kernel_rfl
theorem q149_33_run:q149_33.run XQ7 1000 = true:=by kernel_rfl
theorem q149_34_run:q149_34.run XQ7 1000 = true:=by kernel_rfl
theorem q149_35_run:q149_35.run XQ7 1000 = true:=by kernel_rfl
theorem q149_36_run:q149_36.run XQ7 1000 = true:=by kernel_rfl
theorem q149_37_run:q149_37.run XQ7 1000 = true:=by kernel_rfl
theorem q149_38_run:q149_38.run XQ7 1000 = true:=by kernel_rfl
theorem q130_0_run:q130_0.run XQ8 1000 = true:=by kernel_rfl
theorem q130_1_run:q130_1.run XQ8 1000 = true:=by kernel_rfl
theorem q130_2_run:q130_2.run XQ8 1000 = true:=by kernel_rfl
theorem q130_3_run:q130_3.run XQ8 1000 = true:=by kernel_rfl
theorem q130_4_run:q130_4.run XQ8 1000 = true:=by kernel_rfl
theorem q130_5_run:q130_5.run XQ8 1000 = true:=by kernel_rfl
theorem q130_6_run:q130_6.run XQ8 1000 = true:=by kernel_rfl
theorem q130_7_run:q130_7.run XQ8 1000 = true:=by kernel_rfl
theorem q130_8_run:q130_8.run XQ8 1000 = true:=by kernel_rfl
theorem q130_9_run:q130_9.run XQ8 1000 = true:=by kernel_rfl
theorem q130_10_run:q130_10.run XQ8 1000 = true:=by kernel_rfl
theorem q130_11_run:q130_11.run XQ8 1000 = true:=by kernel_rfl
theorem q130_12_run:q130_12.run XQ8 1000 = true:=by kernel_rfl
theorem q130_13_run:q130_13.run XQ8 1000 = true:=by kernel_rfl
theorem q130_14_run:q130_14.run XQ8 1000 = true:=by kernel_rfl
theorem q130_15_run:q130_15.run XQ8 1000 = true:=by kernel_rfl
theorem q130_16_run:q130_16.run XQ8 1000 = true:=by kernel_rfl
theorem q130_17_run:q130_17.run XQ8 1000 = true:=by kernel_rfl
theorem q130_18_run:q130_18.run XQ8 1000 = true:=by kernel_rfl
theorem q130_19_run:q130_19.run XQ8 1000 = true:=by kernel_rfl
theorem q131_0_run:q131_0.run XQ9 1000 = true:=by kernel_rfl
theorem q131_1_run:q131_1.run XQ9 1000 = true:=by kernel_rfl
theorem q131_2_run:q131_2.run XQ9 1000 = true:=by kernel_rfl
theorem q131_3_run:q131_3.run XQ9 1000 = true:=by kernel_rfl
theorem q131_4_run:q131_4.run XQ9 1000 = true:=by kernel_rfl
theorem q131_5_run:q131_5.run XQ9 1000 = true:=by kernel_rfl
theorem q131_6_run:q131_6.run XQ9 1000 = true:=by kernel_rfl
theorem q131_7_run:q131_7.run XQ9 1000 = true:=by kernel_rfl
theorem q131_8_run:q131_8.run XQ9 1000 = true:=by kernel_rfl
theorem q131_9_run:q131_9.run XQ9 1000 = true:=by kernel_rfl
theorem q131_10_run:q131_10.run XQ9 1000 = true:=by kernel_rfl
theorem q131_11_run:q131_11.run XQ9 1000 = true:=by kernel_rfl
theorem q131_12_run:q131_12.run XQ9 1000 = true:=by kernel_rfl
end Go.Proofs.YtepbfecmageleaaGreatDoor
