/- Part of the proof of Rows.ProverMiddlesCardSaid: PmS1. -/
import Derived.Test.YtepbfecmageleaaGreatDoorProg
import Derived.Shelf.SlSortCmp.NoneTotal
import Derived.Shelf.SlGeneric
import Derived.Ground.SlsfProg
set_option linter.all false
namespace Go.Proofs.YtepbfecmageleaaGreatDoor
open Go Go.Shelf
def Tryz.sortT_ren:Go.Shelf.Ren:=⟨fun | 6=>117 | 15=>163 | 14=>162 | 28=>160 | 29=>201 | 20=>193 | 21=>194 | 22=>195 | 23=>196 | 24=>197 | 25=>198 | 26=>199 | 27=>200 | 46=>229 | 47=>230 | 48=>231 | 49=>232 | 50=>233 | 57=>248 | n=>n,fun | 22=>44 | 24=>89 | 25=>187 | 3=>3 | 39=>69 | 0=>0 | 53=>68 | 55=>66 | 4=>4 | 46=>283 | 45=>282 | 50=>287 | 5=>5 | 9=>9 | 66=>313 | 70=>317 | 76=>333 | 77=>334 | n=>n,fun | n=>n⟩
theorem Tryz.sortT:Go.Proofs.SlLaysF0.n6 Tryz.prog Tryz.sortT_ren:={
  mixed:=by kernel_rfl
  f6:=⟨Tryz.f117.name,by decide,Tryz.func117.trans (congrArg some (by kernel_rfl))⟩
  f14:=⟨Tryz.f162.name,by decide,Tryz.func162.trans (congrArg some (by kernel_rfl))⟩
  f15:=Tryz.func163.trans (congrArg some (by kernel_rfl))
  f20:=⟨Tryz.f193.name,by decide,Tryz.func193.trans (congrArg some (by kernel_rfl))⟩
  f21:=⟨Tryz.f194.name,by decide,Tryz.func194.trans (congrArg some (by kernel_rfl))⟩
  f22:=⟨Tryz.f195.name,by decide,Tryz.func195.trans (congrArg some (by kernel_rfl))⟩
  f23:=⟨Tryz.f196.name,by decide,Tryz.func196.trans (congrArg some (by kernel_rfl))⟩
  f24:=⟨Tryz.f197.name,by decide,Tryz.func197.trans (congrArg some (by kernel_rfl))⟩
  f25:=⟨Tryz.f198.name,by decide,Tryz.func198.trans (congrArg some (by kernel_rfl))⟩
  f26:=⟨Tryz.f199.name,by decide,Tryz.func199.trans (congrArg some (by kernel_rfl))⟩
  f27:=⟨Tryz.f200.name,by decide,Tryz.func200.trans (congrArg some (by kernel_rfl))⟩
  f28:=Tryz.func160.trans (congrArg some (by kernel_rfl))
  f29:=Tryz.func201.trans (congrArg some (by kernel_rfl))
  f46:=⟨Tryz.f229.name,by decide,Tryz.func229.trans (congrArg some (by kernel_rfl))⟩
  f47:=Tryz.func230.trans (congrArg some (by kernel_rfl))
  f48:=Tryz.func231.trans (congrArg some (by kernel_rfl))
  f49:=⟨Tryz.f232.name,by decide,Tryz.func232.trans (congrArg some (by kernel_rfl))⟩
  f50:=⟨Tryz.f233.name,by decide,Tryz.func233.trans (congrArg some (by kernel_rfl))⟩
  f57:=⟨Tryz.f248.name,by decide,Tryz.func248.trans (congrArg some (by kernel_rfl))⟩
  t0:=Tryz.underlying0
  a0:=Tryz.isAgg0
  z0:=Tryz.sizeOf0
  v0:=Tryz.zeroValue0
  t3:=Tryz.underlying3
  a3:=Tryz.isAgg3
  z3:=Tryz.sizeOf3
  v3:=Tryz.zeroValue3
  t4:=Tryz.underlying4
  a4:=Tryz.isAgg4
  z4:=Tryz.sizeOf4
  v4:=Tryz.zeroValue4
  t5:=Tryz.underlying5
  a5:=Tryz.isAgg5
  z5:=Tryz.sizeOf5
  v5:=Tryz.zeroValue5
  t9:=Tryz.underlying9
  a9:=Tryz.isAgg9
  z9:=Tryz.sizeOf9
  v9:=Tryz.zeroValue9
  t22:=Tryz.underlying44
  a22:=Tryz.isAgg44
  z22:=Tryz.sizeOf44
  v22:=Tryz.zeroValue44
  t25:=Tryz.underlying187
  a25:=Tryz.isAgg187
  z25:=Tryz.sizeOf187
  v25:=Tryz.zeroValue187
  t39:=Tryz.underlying69
  a39:=Tryz.isAgg69
  z39:=Tryz.sizeOf69
  v39:=Tryz.zeroValue69
  t45:=Tryz.underlying282
  a45:=Tryz.isAgg282
  z45:=Tryz.sizeOf282
  v45:=Tryz.zeroValue282
  t46:=Tryz.underlying283
  a46:=Tryz.isAgg283
  z46:=Tryz.sizeOf283
  v46:=Tryz.zeroValue283
  t50:=Tryz.underlying287
  a50:=Tryz.isAgg287
  z50:=Tryz.sizeOf287
  v50:=Tryz.zeroValue287
  t53:=Tryz.underlying68
  a53:=Tryz.isAgg68
  z53:=Tryz.sizeOf68
  v53:=Tryz.zeroValue68
  t55:=Tryz.underlying66
  a55:=Tryz.isAgg66
  z55:=Tryz.sizeOf66
  v55:=Tryz.zeroValue66
  t66:=Tryz.underlying313
  a66:=Tryz.isAgg313
  z66:=Tryz.sizeOf313
  v66:=Tryz.zeroValue313
  t70:=Tryz.underlying317
  a70:=Tryz.isAgg317
  z70:=Tryz.sizeOf317
  v70:=Tryz.zeroValue317
  t76:=Tryz.underlying333
  a76:=Tryz.isAgg333
  z76:=Tryz.sizeOf333
  v76:=Tryz.zeroValue333
  t77:=Tryz.underlying334
  a77:=Tryz.isAgg334
  z77:=Tryz.sizeOf334
  v77:=Tryz.zeroValue334 }
end Go.Proofs.YtepbfecmageleaaGreatDoor
