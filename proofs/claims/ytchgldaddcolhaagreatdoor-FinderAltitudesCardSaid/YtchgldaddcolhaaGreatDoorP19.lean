/- Part of the proof of Rows.FinderAltitudesCardSaid: FaQ4. -/
import Derived.KernelRfl
import Derived.Test.YtchgldaddcolhaaGreatDoorP15
set_option linter.all false
namespace Go.Proofs.YtchgldaddcolhaaGreatDoor
set_option maxRecDepth 100000
open Go
theorem g43_2_run:allR XQ5 g43_2 = true:=by kernel_rfl
theorem g43_3_run:allR XQ5 g43_3 = true:=by kernel_rfl
theorem g43_4_run:allR XQ5 g43_4 = true:=by kernel_rfl
theorem g43_5_run:allR XQ5 g43_5 = true:=by kernel_rfl
end Go.Proofs.YtchgldaddcolhaaGreatDoor
