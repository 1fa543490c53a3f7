/- Part of the proof of Rows.FinderAltitudesCardSaid: FaQ19. -/
import Derived.KernelRfl
import Derived.Test.YtchgldaddcolhaaGreatDoorP15
set_option linter.all false
namespace Go.Proofs.YtchgldaddcolhaaGreatDoor
set_option maxRecDepth 100000
open Go
theorem hs54_run:allR XQ20 hs54 = true:=by kernel_rfl
theorem hs55_run:allR XQ20 hs55 = true:=by kernel_rfl
theorem hs56_run:allR XQ20 hs56 = true:=by kernel_rfl
theorem hs57_run:allR XQ20 hs57 = true:=by kernel_rfl
theorem hs58_run:allR XQ20 hs58 = true:=by kernel_rfl
end Go.Proofs.YtchgldaddcolhaaGreatDoor
