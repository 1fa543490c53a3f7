/- Part of the proof of Rows.FinderAltitudesCardSaid: FaQ5. -/
import Derived.KernelRfl
import Derived.Test.YtchgldaddcolhaaGreatDoorP15
set_option linter.all false
namespace Go.Proofs.YtchgldaddcolhaaGreatDoor
set_option maxRecDepth 100000
open Go
theorem g43_6_run:allR XQ5 g43_6 = true:=by kernel_rfl
theorem g43_7_run:allR XQ5 g43_7 = true:=by kernel_rfl
theorem g43_8_run:allR XQ5 g43_8 = true:=by kernel_rfl
end Go.Proofs.YtchgldaddcolhaaGreatDoor
