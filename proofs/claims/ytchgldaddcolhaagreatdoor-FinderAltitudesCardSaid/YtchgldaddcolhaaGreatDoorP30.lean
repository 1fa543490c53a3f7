/- Part of the proof of Rows.FinderAltitudesCardSaid: FaQ15. -/
import Derived.KernelRfl
import Derived.Test.YtchgldaddcolhaaGreatDoorP15
set_option linter.all false
namespace Go.Proofs.YtchgldaddcolhaaGreatDoor
set_option maxRecDepth 100000
open Go
theorem hs34_run:allR XQ20 hs34 = true:=by kernel_rfl
theorem hs35_run:allR XQ20 hs35 = true:=by kernel_rfl
theorem hs36_run:allR XQ20 hs36 = true:=by kernel_rfl
theorem hs37_run:allR XQ20 hs37 = true:=by kernel_rfl
theorem hs38_run:allR XQ20 hs38 = true:=by kernel_rfl
end Go.Proofs.YtchgldaddcolhaaGreatDoor
