/- Part of the proof of Rows.FinderAltitudesCardSaid: FaQ24. -/
import Derived.KernelRfl
import Derived.Test.YtchgldaddcolhaaGreatDoorP15
set_option linter.all false
namespace Go.Proofs.YtchgldaddcolhaaGreatDoor
set_option maxRecDepth 100000
open Go
theorem q7_5_run:q7_5.run XQ22 1000 = true:=by kernel_rfl
theorem q7_6_run:q7_6.run XQ22 1000 = true:=by kernel_rfl
theorem q7_7_run:q7_7.run XQ22 1000 = true:=by kernel_rfl
theorem q7_8_run:q7_8.run XQ22 1000 = true:=by kernel_rfl
theorem q7_9_run:q7_9.run XQ22 1000 = true:=by kernel_rfl
theorem q7_10_run:q7_10.run XQ22 1000 = true:=by kernel_rfl
theorem g14_0_run:allR XQ23 g14_0 = true:=by kernel_rfl
theorem q13_0_run:q13_0.run XQ24 1000 = true:=by kernel_rfl
theorem q10_0_run:q10_0.run XQ25 1000 = true:=by kernel_rfl
theorem q10_1_run:q10_1.run XQ25 1000 = true:=by kernel_rfl
theorem g115_0_run:allR XQ26 g115_0 = true:=by kernel_rfl
end Go.Proofs.YtchgldaddcolhaaGreatDoor
