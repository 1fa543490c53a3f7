/- Part of the proof of Rows.FinderAltitudesCardSaid: FaQ28. -/
import Derived.KernelRfl
import Derived.Test.YtchgldaddcolhaaGreatDoorP15
set_option linter.all false
namespace Go.Proofs.YtchgldaddcolhaaGreatDoor
set_option maxRecDepth 100000
open Go
theorem g22_0_run:allR XQ6 g22_0 = true:=by kernel_rfl
theorem g37_0_run:allR XQ7 g37_0 = true:=by kernel_rfl
theorem g86_0_run:allR XQ8 g86_0 = true:=by kernel_rfl
theorem g23_0_run:allR XQ9 g23_0 = true:=by kernel_rfl
end Go.Proofs.YtchgldaddcolhaaGreatDoor
