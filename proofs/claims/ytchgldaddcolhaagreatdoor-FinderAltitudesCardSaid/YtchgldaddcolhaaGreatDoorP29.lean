/- Part of the proof of Rows.FinderAltitudesCardSaid: FaQ14. -/
import Derived.KernelRfl
import Derived.Test.YtchgldaddcolhaaGreatDoorP15
set_option linter.all false
namespace Go.Proofs.YtchgldaddcolhaaGreatDoor
set_option maxRecDepth 100000
open Go
theorem hs29_run:allR XQ20 hs29 = true:=by kernel_rfl
theorem hs30_run:allR XQ20 hs30 = true:=by kernel_rfl
theorem hs31_run:allR XQ20 hs31 = true:=by kernel_rfl
theorem hs32_run:allR XQ20 hs32 = true:=by kernel_rfl
theorem hs33_run:allR XQ20 hs33 = true:=by kernel_rfl
end Go.Proofs.YtchgldaddcolhaaGreatDoor
