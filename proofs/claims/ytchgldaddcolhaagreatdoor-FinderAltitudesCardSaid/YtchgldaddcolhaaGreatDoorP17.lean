/- Part of the proof of Rows.FinderAltitudesCardSaid: FaQ2. -/
import Derived.KernelRfl
import Derived.Test.YtchgldaddcolhaaGreatDoorP15
set_option linter.all false
namespace Go.Proofs.YtchgldaddcolhaaGreatDoor
set_option maxRecDepth 100000
open Go
theorem g157_4_run:allR XQ3 g157_4 = true:=by kernel_rfl
theorem g157_5_run:allR XQ3 g157_5 = true:=by kernel_rfl
theorem g157_6_run:allR XQ3 g157_6 = true:=by kernel_rfl
theorem g157_7_run:allR XQ3 g157_7 = true:=by kernel_rfl
theorem g157_8_run:allR XQ3 g157_8 = true:=by kernel_rfl
end Go.Proofs.YtchgldaddcolhaaGreatDoor
