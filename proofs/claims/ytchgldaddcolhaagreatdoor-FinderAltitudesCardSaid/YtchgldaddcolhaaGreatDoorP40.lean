/- Part of the proof of Rows.FinderAltitudesCardSaid: FaQ25. -/
import Derived.KernelRfl
import Derived.Test.YtchgldaddcolhaaGreatDoorP15
set_option linter.all false
namespace Go.Proofs.YtchgldaddcolhaaGreatDoor
set_option maxRecDepth 100000
open Go
theorem g58_0_run:allR XQ27 g58_0 = true:=by kernel_rfl
theorem g118_0_run:allR XQ28 g118_0 = true:=by kernel_rfl
theorem g264_0_run:allR XQ29 g264_0 = true:=by kernel_rfl
theorem g120_0_run:allR XQ30 g120_0 = true:=by kernel_rfl
theorem g59_0_run:allR XQ31 g59_0 = true:=by kernel_rfl
theorem g60_0_run:allR XQ32 g60_0 = true:=by kernel_rfl
theorem g60_1_run:allR XQ32 g60_1 = true:=by kernel_rfl
theorem g60_2_run:allR XQ32 g60_2 = true:=by kernel_rfl
theorem g25_0_run:allR XQ33 g25_0 = true:=by kernel_rfl
theorem q11_0_run:q11_0.run XQ34 1000 = true:=by kernel_rfl
theorem q11_1_run:q11_1.run XQ34 1000 = true:=by kernel_rfl
theorem q11_2_run:q11_2.run XQ34 1000 = true:=by kernel_rfl
theorem q11_3_run:q11_3.run XQ34 1000 = true:=by kernel_rfl
theorem q11_4_run:q11_4.run XQ34 1000 = true:=by kernel_rfl
theorem q11_5_run:q11_5.run XQ34 1000 = true:=by kernel_rfl
theorem q11_6_run:q11_6.run XQ34 1000 = true:=by kernel_rfl
theorem q11_7_run:q11_7.run XQ34 1000 = true:=by kernel_rfl
theorem q12_0_run:q12_0.run XQ35 1000 = true:=by kernel_rfl
theorem q12_1_run:q12_1.run XQ35 1000 = true:=by kernel_rfl
theorem q12_2_run:q12_2.run XQ35 1000 = true:=by kernel_rfl
theorem q12_3_run:q12_3.run XQ35 1000 = true:=by kernel_rfl
theorem q12_4_run:q12_4.run XQ35 1000 = true:=by kernel_rfl
theorem q4_0_run:q4_0.run XQ36 1000 = true:=by kernel_rfl
end Go.Proofs.YtchgldaddcolhaaGreatDoor
