/- Part of the proof of Rows.FinderAltitudesCardSaid: FaQ11. -/
import Derived.KernelRfl
import Derived.Test.YtchgldaddcolhaaGreatDoorP15
set_option linter.all false
namespace Go.Proofs.YtchgldaddcolhaaGreatDoor
set_option maxRecDepth 100000
open Go
theorem hs14_run:allR XQ20 hs14 = true:=by kernel_rfl
theorem hs15_run:allR XQ20 hs15 = true:=by kernel_rfl
theorem hs16_run:allR XQ20 hs16 = true:=by kernel_rfl
theorem hs17_run:allR XQ20 hs17 = true:=by kernel_rfl
theorem hs18_run:allR XQ20 hs18 = true:=by kernel_rfl
end Go.Proofs.YtchgldaddcolhaaGreatDoor
