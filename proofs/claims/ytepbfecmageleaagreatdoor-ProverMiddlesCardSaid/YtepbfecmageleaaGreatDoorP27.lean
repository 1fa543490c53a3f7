/- Part of the proof of Rows.ProverMiddlesCardSaid: PmQ2. -/
import Derived.KernelRfl
import Derived.Test.YtepbfecmageleaaGreatDoorP25
set_option linter.all false
namespace Go.Proofs.YtepbfecmageleaaGreatDoor
set_option maxRecDepth 100000
open Go
theorem q35_42_run:q35_42.run XQ5 1000 = true:=by kernel_rfl
theorem q35_43_run:q35_43.run XQ5 1000 = true:=by kernel_rfl
theorem q35_44_run:q35_44.run XQ5 1000 = true:=by kernel_rfl
theorem q35_45_run:q35_45.run XQ5 1000 = true:=by kernel_rfl
theorem q35_46_run:q35_46.run XQ5 1000 = true:=by kernel_rfl
theorem q35_47_run:q35_47.run XQ5 1000 = true:=by kernel_rfl
theorem q35_48_run:q35_48.run XQ5 1000 = true:=by kernel_rfl
theorem q35_49_run:q35_49.run XQ5 1000 = true:=by kernel_rfl
theorem q35_50_run:q35_50.run XQ5 1000 = true:=by kernel_rfl
theorem q35_51_run:q35_51.run XQ5 1000 = true:=by kernel_rfl
theorem q35_52_run:q35_52.run XQ5 1000 = true:=by kernel_rfl
theorem q35_53_run:q35_53.run XQ5 1000 = true:=by kernel_rfl
theorem q35_54_run:q35_54.run XQ5 1000 = true:=by kernel_rfl
theorem q35_55_run:q35_55.run XQ5 1000 = true:=by kernel_rfl
theorem q35_56_run:q35_56.run XQ5 1000 = true:=by kernel_rfl
theorem q35_57_run:q35_57.run XQ5 1000 = true:=by kernel_rfl
theorem q35_58_run:q35_58.run XQ5 1000 = true:=by kernel_rfl
theorem q35_59_run:q35_59.run XQ5 1000 = true:=by kernel_rfl
theorem q35_60_run:q35_60.run XQ5 1000 = true:=by kernel_rfl
theorem q35_61_run:q35_61.run XQ5 1000 = true:=by kernel_rfl
theorem q35_62_run:q35_62.run XQ5 1000 = true:=by kernel_rfl
theorem q35_63_run:q35_63.run XQ5 1000 = true:=by kernel_rfl
theorem q35_64_run:q35_64.run XQ5 1000 = true:=by kernel_rfl
theorem q35_65_run:q35_65.run XQ5 1000 = true:=by kernel_rfl
theorem q35_66_run:q35_66.run XQ5 1000 = true:=by kernel_rfl
theorem q35_67_run:q35_67.run XQ5 1000 = true:=by kernel_rfl
theorem q35_68_run:q35_68.run XQ5 1000 = true:=by kernel_rfl
theorem q35_69_run:q35_69.run XQ5 1000 = true:=by kernel_rfl
theorem q35_70_run:q35_70.run XQ5 1000 = true:=by kernel_rfl
theorem q35_71_run:q35_71.run XQ5 1000 = true:=by kernel_rfl
theorem q35_72_run:q35_72.run XQ5 1000 = true:=by kernel_rfl
theorem q35_73_run:q35_73.run XQ5 1000 = true:=by kernel_rfl
theorem q35_74_run:q35_74.run XQ5 1000 = true:=by kernel_rfl
theorem q35_75_run:q35_75.run XQ5 1000 = true:=by kernel_rfl
theorem q35_76_run:q35_76.run XQ5 1000 = true:=by kernel_rfl
theorem q35_77_run:q35_77.run XQ5 1000 = true:=by kernel_rfl
end Go.Proofs.YtepbfecmageleaaGreatDoor
