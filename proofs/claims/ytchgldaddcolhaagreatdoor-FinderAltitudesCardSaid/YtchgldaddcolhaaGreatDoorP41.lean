/- Part of the proof of Rows.FinderAltitudesCardSaid: FaQ26. -/
import Derived.KernelRfl
import Derived.Test.YtchgldaddcolhaaGreatDoorP15
set_option linter.all false
namespace Go.Proofs.YtchgldaddcolhaaGreatDoor
set_option maxRecDepth 100000
open Go
theorem g43_9p0:allR XQ5 (g43_9.take 6) = true:=by kernel_rfl
theorem g43_9p1:allR XQ5 ((g43_9.drop 6).take 6) = true:=by kernel_rfl
theorem g43_9p2:allR XQ5 (((g43_9.drop 6).drop 6).take 6) = true:=by kernel_rfl
theorem g43_9p3:allR XQ5 ((((g43_9.drop 6).drop 6).drop 6).take 6) = true:=by kernel_rfl
theorem g43_9p4:allR XQ5 (((((g43_9.drop 6).drop 6).drop 6).drop 6).take 6) = true:=by kernel_rfl
end Go.Proofs.YtchgldaddcolhaaGreatDoor
