/- Part of the proof of Rows.FinderAltitudesCardSaid: FaQ17. -/
import Derived.KernelRfl
import Derived.Test.YtchgldaddcolhaaGreatDoorP15
set_option linter.all false
namespace Go.Proofs.YtchgldaddcolhaaGreatDoor
set_option maxRecDepth 100000
open Go
theorem hs44_run:allR XQ20 hs44 = true:=by kernel_rfl
theorem hs45_run:allR XQ20 hs45 = true:=by kernel_rfl
theorem hs46_run:allR XQ20 hs46 = true:=by kernel_rfl
theorem hs47_run:allR XQ20 hs47 = true:=by kernel_rfl
theorem hs48_run:allR XQ20 hs48 = true:=by kernel_rfl
end Go.Proofs.YtchgldaddcolhaaGreatDoor
