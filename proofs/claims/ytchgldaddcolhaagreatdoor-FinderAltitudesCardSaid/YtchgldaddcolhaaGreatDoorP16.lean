/- Part of the proof of Rows.FinderAltitudesCardSaid: FaQ1. -/
import Derived.KernelRfl
import Derived.Test.YtchgldaddcolhaaGreatDoorP15
set_option linter.all false
namespace Go.Proofs.YtchgldaddcolhaaGreatDoor
set_option maxRecDepth 100000
open Go
theorem g107_0_run:allR XQ0 g107_0 = true:=by kernel_rfl
theorem g18_0_run:allR XQ1 g18_0 = true:=by kernel_rfl
theorem g157_0_run:allR XQ3 g157_0 = true:=by kernel_rfl
theorem g157_1_run:allR XQ3 g157_1 = true:=by kernel_rfl
theorem g157_2_run:allR XQ3 g157_2 = true:=by kernel_rfl
theorem g157_3_run:allR XQ3 g157_3 = true:=by kernel_rfl
end Go.Proofs.YtchgldaddcolhaaGreatDoor
