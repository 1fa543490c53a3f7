/- Part of the proof of Rows.FinderAltitudesCardSaid: FaQ6. -/
import Derived.KernelRfl
import Derived.Test.YtchgldaddcolhaaGreatDoorP15
set_option linter.all false
namespace Go.Proofs.YtchgldaddcolhaaGreatDoor
set_option maxRecDepth 100000
open Go
theorem g23_1_run:allR XQ9 g23_1 = true:=by kernel_rfl
theorem g98_0_run:allR XQ10 g98_0 = true:=by kernel_rfl
theorem g69_0_run:allR XQ11 g69_0 = true:=by kernel_rfl
theorem g69_1_run:allR XQ11 g69_1 = true:=by kernel_rfl
theorem g69_2_run:allR XQ11 g69_2 = true:=by kernel_rfl
theorem g69_3_run:allR XQ11 g69_3 = true:=by kernel_rfl
theorem g133_0_run:allR XQ12 g133_0 = true:=by kernel_rfl
end Go.Proofs.YtchgldaddcolhaaGreatDoor
