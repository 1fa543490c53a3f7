/- Part of the proof of Rows.FinderAltitudesCardSaid: FaQ27. -/
import Derived.KernelRfl
import Derived.Test.YtchgldaddcolhaaGreatDoorP15
import Derived.Test.YtchgldaddcolhaaGreatDoorP41
set_option linter.all false
namespace Go.Proofs.YtchgldaddcolhaaGreatDoor
set_option maxRecDepth 100000
open Go
theorem allR_split{X:XR}{T:List Fact}(n:Nat)(h1:allR X (T.take n) = true)(h2:allR X (T.drop n) = true):allR X T = true:=by
 have:=List.take_append_drop n T
 unfold allR at h1 h2 ⊢
 rw[← this,List.all_append,h1,h2]
 rfl
theorem g43_9p5:allR XQ5 ((((((g43_9.drop 6).drop 6).drop 6).drop 6).drop 6).take 6) = true:=by kernel_rfl
theorem g43_9p6:allR XQ5 (((((((g43_9.drop 6).drop 6).drop 6).drop 6).drop 6).drop 6).take 6) = true:=by kernel_rfl
theorem g43_9p7:allR XQ5 ((((((((g43_9.drop 6).drop 6).drop 6).drop 6).drop 6).drop 6).drop 6).take 6) = true:=by kernel_rfl
theorem g43_9p8:allR XQ5 (((((((((g43_9.drop 6).drop 6).drop 6).drop 6).drop 6).drop 6).drop 6).drop 6).take 6) = true:=by kernel_rfl
theorem g43_9p9:allR XQ5 ((((((((((g43_9.drop 6).drop 6).drop 6).drop 6).drop 6).drop 6).drop 6).drop 6).drop 6).take 6) = true:=by kernel_rfl
theorem g43_9p10:allR XQ5 ((((((((((g43_9.drop 6).drop 6).drop 6).drop 6).drop 6).drop 6).drop 6).drop 6).drop 6).drop 6) = true:=by kernel_rfl
theorem g43_9_run:allR XQ5 g43_9 = true:=(allR_split 6 g43_9p0 (allR_split 6 g43_9p1 (allR_split 6 g43_9p2 (allR_split 6 g43_9p3 (allR_split 6 g43_9p4 (allR_split 6 g43_9p5 (allR_split 6 g43_9p6 (allR_split 6 g43_9p7 (allR_split 6 g43_9p8 (allR_split 6 g43_9p9 g43_9p10))))))))))
end Go.Proofs.YtchgldaddcolhaaGreatDoor
