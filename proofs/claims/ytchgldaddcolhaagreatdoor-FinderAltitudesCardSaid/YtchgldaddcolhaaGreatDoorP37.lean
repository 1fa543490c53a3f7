/- Part of the proof of Rows.FinderAltitudesCardSaid: FaQ22. -/
import Derived.KernelRfl
import Derived.Test.YtchgldaddcolhaaGreatDoorP15
set_option linter.all false
namespace Go.Proofs.YtchgldaddcolhaaGreatDoor
set_option maxRecDepth 100000
open Go
theorem hs69_run:allR XQ20 hs69 = true:=by kernel_rfl
theorem hs70_run:allR XQ20 hs70 = true:=by kernel_rfl
theorem hs71_run:allR XQ20 hs71 = true:=by kernel_rfl
theorem hs72_run:allR XQ20 hs72 = true:=by kernel_rfl
theorem hs73_run:allR XQ20 hs73 = true:=by kernel_rfl
end Go.Proofs.YtchgldaddcolhaaGreatDoor
