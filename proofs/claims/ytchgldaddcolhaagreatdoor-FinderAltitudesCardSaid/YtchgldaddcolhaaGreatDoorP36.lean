/- Part of the proof of Rows.FinderAltitudesCardSaid: FaQ21. -/
import Derived.KernelRfl
import Derived.Test.YtchgldaddcolhaaGreatDoorP15
set_option linter.all false
namespace Go.Proofs.YtchgldaddcolhaaGreatDoor
set_option maxRecDepth 100000
open Go
theorem hs64_run:allR XQ20 hs64 = true:=by kernel_rfl
theorem hs65_run:allR XQ20 hs65 = true:=by kernel_rfl
theorem hs66_run:allR XQ20 hs66 = true:=by kernel_rfl
theorem hs67_run:allR XQ20 hs67 = true:=by kernel_rfl
theorem hs68_run:allR XQ20 hs68 = true:=by kernel_rfl
end Go.Proofs.YtchgldaddcolhaaGreatDoor
