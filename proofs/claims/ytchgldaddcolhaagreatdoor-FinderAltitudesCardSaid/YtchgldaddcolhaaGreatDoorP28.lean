/- Part of the proof of Rows.FinderAltitudesCardSaid: FaQ13. -/
import Derived.KernelRfl
import Derived.Test.YtchgldaddcolhaaGreatDoorP15
set_option linter.all false
namespace Go.Proofs.YtchgldaddcolhaaGreatDoor
set_option maxRecDepth 100000
open Go
theorem hs24_run:allR XQ20 hs24 = true:=by kernel_rfl
theorem hs25_run:allR XQ20 hs25 = true:=by kernel_rfl
theorem hs26_run:allR XQ20 hs26 = true:=by kernel_rfl
theorem hs27_run:allR XQ20 hs27 = true:=by kernel_rfl
theorem hs28_run:allR XQ20 hs28 = true:=by kernel_rfl
end Go.Proofs.YtchgldaddcolhaaGreatDoor
