/- Part of the proof of Rows.FinderAltitudesCardSaid: FaQ23. -/
import Derived.KernelRfl
import Derived.Test.YtchgldaddcolhaaGreatDoorP15
set_option linter.all false
namespace Go.Proofs.YtchgldaddcolhaaGreatDoor
set_option maxRecDepth 100000
open Go
theorem hs74_run:allR XQ20 hs74 = true:=by kernel_rfl
theorem q6_0_run:q6_0.run XQ21 1000 = true:=by kernel_rfl
theorem q6_1_run:q6_1.run XQ21 1000 = true:=by kernel_rfl
theorem q7_0_run:q7_0.run XQ22 1000 = true:=by kernel_rfl
theorem q7_1_run:q7_1.run XQ22 1000 = true:=by kernel_rfl
theorem q7_2_run:q7_2.run XQ22 1000 = true:=by kernel_rfl
theorem q7_3_run:q7_3.run XQ22 1000 = true:=by kernel_rfl
theorem q7_4_run:q7_4.run XQ22 1000 = true:=by kernel_rfl
end Go.Proofs.YtchgldaddcolhaaGreatDoor
