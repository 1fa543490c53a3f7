/- Part of the proof of Rows.FinderAltitudesCardSaid: FaQ20. -/
import Derived.KernelRfl
import Derived.Test.YtchgldaddcolhaaGreatDoorP15
set_option linter.all false
namespace Go.Proofs.YtchgldaddcolhaaGreatDoor
set_option maxRecDepth 100000
open Go
theorem hs59_run:allR XQ20 hs59 = true:=by kernel_rfl
theorem hs60_run:allR XQ20 hs60 = true:=by kernel_rfl
theorem hs61_run:allR XQ20 hs61 = true:=by kernel_rfl
theorem hs62_run:allR XQ20 hs62 = true:=by kernel_rfl
theorem hs63_run:allR XQ20 hs63 = true:=by kernel_rfl
end Go.Proofs.YtchgldaddcolhaaGreatDoor
