/- Part of the proof of Rows.FinderAltitudesCardSaid: FaQ8. -/
import Derived.KernelRfl
import Derived.Test.YtchgldaddcolhaaGreatDoorP15
set_option linter.all false
namespace Go.Proofs.YtchgldaddcolhaaGreatDoor
set_option maxRecDepth 100000
open Go
theorem g39_2_run:allR XQ19 g39_2 = true:=by kernel_rfl
theorem hs0_run:allR XQ20 hs0 = true:=by kernel_rfl
theorem hs1_run:allR XQ20 hs1 = true:=by kernel_rfl
theorem hs2_run:allR XQ20 hs2 = true:=by kernel_rfl
theorem hs3_run:allR XQ20 hs3 = true:=by kernel_rfl
end Go.Proofs.YtchgldaddcolhaaGreatDoor
