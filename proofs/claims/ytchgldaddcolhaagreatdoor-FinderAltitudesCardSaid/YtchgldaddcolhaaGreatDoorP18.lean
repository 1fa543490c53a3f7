/- Part of the proof of Rows.FinderAltitudesCardSaid: FaQ3. -/
import Derived.KernelRfl
import Derived.Test.YtchgldaddcolhaaGreatDoorP15
set_option linter.all false
namespace Go.Proofs.YtchgldaddcolhaaGreatDoor
set_option maxRecDepth 100000
open Go
theorem g157_9_run:allR XQ3 g157_9 = true:=by kernel_rfl
theorem g157_10_run:allR XQ3 g157_10 = true:=by kernel_rfl
theorem q87_0_run:q87_0.run XQ4 1000 = true:=by kernel_rfl
theorem q87_1_run:q87_1.run XQ4 1000 = true:=by kernel_rfl
theorem g43_0_run:allR XQ5 g43_0 = true:=by kernel_rfl
theorem g43_1_run:allR XQ5 g43_1 = true:=by kernel_rfl
end Go.Proofs.YtchgldaddcolhaaGreatDoor
