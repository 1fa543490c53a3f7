/- Part of the proof of Rows.FinderAltitudesCardSaid: FaQ7. -/
import Derived.KernelRfl
import Derived.Test.YtchgldaddcolhaaGreatDoorP15
set_option linter.all false
namespace Go.Proofs.YtchgldaddcolhaaGreatDoor
set_option maxRecDepth 100000
open Go
theorem g238_0_run:allR XQ13 g238_0 = true:=by kernel_rfl
theorem g238_1_run:allR XQ13 g238_1 = true:=by kernel_rfl
theorem g238_2_run:allR XQ13 g238_2 = true:=by kernel_rfl
theorem g164_0_run:allR XQ14 g164_0 = true:=by kernel_rfl
theorem g97_0_run:allR XQ15 g97_0 = true:=by kernel_rfl
theorem g21_0_run:allR XQ16 g21_0 = true:=by kernel_rfl
theorem q9_0_run:q9_0.run XQ17 1000 = true:=by kernel_rfl
theorem q9_1_run:q9_1.run XQ17 1000 = true:=by kernel_rfl
theorem g38_0_run:allR XQ18 g38_0 = true:=by kernel_rfl
theorem g39_0_run:allR XQ19 g39_0 = true:=by kernel_rfl
theorem g39_1_run:allR XQ19 g39_1 = true:=by kernel_rfl
end Go.Proofs.YtchgldaddcolhaaGreatDoor
