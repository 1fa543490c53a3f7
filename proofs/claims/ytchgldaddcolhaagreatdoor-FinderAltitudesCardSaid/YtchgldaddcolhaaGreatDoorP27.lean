/- Part of the proof of Rows.FinderAltitudesCardSaid: FaQ12. -/
import Derived.KernelRfl
import Derived.Test.YtchgldaddcolhaaGreatDoorP15
set_option linter.all false
namespace Go.Proofs.YtchgldaddcolhaaGreatDoor
set_option maxRecDepth 100000
open Go
theorem hs19_run:allR XQ20 hs19 = true:=by kernel_rfl
theorem hs20_run:allR XQ20 hs20 = true:=by kernel_rfl
theorem hs21_run:allR XQ20 hs21 = true:=by kernel_rfl
theorem hs22_run:allR XQ20 hs22 = true:=by kernel_rfl
theorem hs23_run:allR XQ20 hs23 = true:=by kernel_rfl
end Go.Proofs.YtchgldaddcolhaaGreatDoor
