/- Part of the proof of Rows.FinderAltitudesCardSaid: FaQ9. -/
import Derived.KernelRfl
import Derived.Test.YtchgldaddcolhaaGreatDoorP15
set_option linter.all false
namespace Go.Proofs.YtchgldaddcolhaaGreatDoor
set_option maxRecDepth 100000
open Go
theorem hs4_run:allR XQ20 hs4 = true:=by kernel_rfl
theorem hs5_run:allR XQ20 hs5 = true:=by kernel_rfl
theorem hs6_run:allR XQ20 hs6 = true:=by kernel_rfl
theorem hs7_run:allR XQ20 hs7 = true:=by kernel_rfl
theorem hs8_run:allR XQ20 hs8 = true:=by kernel_rfl
end Go.Proofs.YtchgldaddcolhaaGreatDoor
