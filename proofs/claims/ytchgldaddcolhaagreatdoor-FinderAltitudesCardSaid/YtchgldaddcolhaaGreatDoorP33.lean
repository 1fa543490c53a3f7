/- Part of the proof of Rows.FinderAltitudesCardSaid: FaQ18. -/
import Derived.KernelRfl
import Derived.Test.YtchgldaddcolhaaGreatDoorP15
set_option linter.all false
namespace Go.Proofs.YtchgldaddcolhaaGreatDoor
set_option maxRecDepth 100000
open Go
theorem hs49_run:allR XQ20 hs49 = true:=by kernel_rfl
theorem hs50_run:allR XQ20 hs50 = true:=by kernel_rfl
theorem hs51_run:allR XQ20 hs51 = true:=by kernel_rfl
theorem hs52_run:allR XQ20 hs52 = true:=by kernel_rfl
theorem hs53_run:allR XQ20 hs53 = true:=by kernel_rfl
end Go.Proofs.YtchgldaddcolhaaGreatDoor
