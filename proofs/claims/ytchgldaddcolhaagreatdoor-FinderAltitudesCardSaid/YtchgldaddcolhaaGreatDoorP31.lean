/- Part of the proof of Rows.FinderAltitudesCardSaid: FaQ16. -/
import Derived.KernelRfl
import Derived.Test.YtchgldaddcolhaaGreatDoorP15
set_option linter.all false
namespace Go.Proofs.YtchgldaddcolhaaGreatDoor
set_option maxRecDepth 100000
open Go
theorem hs39_run:allR XQ20 hs39 = true:=by kernel_rfl
theorem hs40_run:allR XQ20 hs40 = true:=by kernel_rfl
theorem hs41_run:allR XQ20 hs41 = true:=by kernel_rfl
theorem hs42_run:allR XQ20 hs42 = true:=by kernel_rfl
theorem hs43_run:allR XQ20 hs43 = true:=by kernel_rfl
end Go.Proofs.YtchgldaddcolhaaGreatDoor
