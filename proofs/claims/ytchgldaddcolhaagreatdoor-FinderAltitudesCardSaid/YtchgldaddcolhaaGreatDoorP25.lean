/- Part of the proof of Rows.FinderAltitudesCardSaid: FaQ10. -/
import Derived.KernelRfl
import Derived.Test.YtchgldaddcolhaaGreatDoorP15
set_option linter.all false
namespace Go.Proofs.YtchgldaddcolhaaGreatDoor
set_option maxRecDepth 100000
open Go
theorem hs9_run:allR XQ20 hs9 = true:=by kernel_rfl
theorem hs10_run:allR XQ20 hs10 = true:=by kernel_rfl
theorem hs11_run:allR XQ20 hs11 = true:=by kernel_rfl
theorem hs12_run:allR XQ20 hs12 = true:=by kernel_rfl
theorem hs13_run:allR XQ20 hs13 = true:=by kernel_rfl
end Go.Proofs.YtchgldaddcolhaaGreatDoor
