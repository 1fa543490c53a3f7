/- Part of the proof of Rows.FinderAltitudesCardSaid: FaS1. -/
import Derived.Test.YtchgldaddcolhaaGreatDoorProg
import Derived.Shelf.SlSortCmp.NoneTotal
import Derived.Shelf.SlGeneric
import Derived.Ground.SlsfProg
set_option linter.all false
namespace Go.Proofs.YtchgldaddcolhaaGreatDoor
open Go Go.Shelf
def Tryz.sortT_ren:Go.Shelf.Ren:=⟨fun | 6=>206 | 15=>180 | 14=>271 | 28=>258 | 29=>259 | 20=>311 | 21=>312 | 22=>313 | 23=>314 | 24=>315 | 25=>316 | 26=>317 | 27=>318 | 46=>352 | 47=>290 | 48=>291 | 49=>353 | 50=>354 | 57=>375 | n=>n,fun | 22=>36 | 24=>152 | 25=>306 | 3=>3 | 39=>167 | 0=>0 | 53=>155 | 55=>221 | 4=>4 | 46=>364 | 45=>363 | 50=>368 | 5=>5 | 9=>9 | 66=>393 | 70=>397 | 76=>425 | 77=>426 | n=>n,fun | n=>n⟩
theorem Tryz.sortT:Go.Proofs.SlLaysF0.n6 Tryz.prog Tryz.sortT_ren:={
 mixed:=by kernel_rfl
 f6:=⟨Tryz.f206.name,by decide,Tryz.func206.trans (congrArg some (by kernel_rfl))⟩
 f14:=⟨Tryz.f271.name,by decide,Tryz.func271.trans (congrArg some (by kernel_rfl))⟩
 f15:=Tryz.func180.trans (congrArg some (by kernel_rfl))
 f20:=⟨Tryz.f311.name,by decide,Tryz.func311.trans (congrArg some (by kernel_rfl))⟩
 f21:=⟨Tryz.f312.name,by decide,Tryz.func312.trans (congrArg some (by kernel_rfl))⟩
 f22:=⟨Tryz.f313.name,by decide,Tryz.func313.trans (congrArg some (by kernel_rfl))⟩
 f23:=⟨Tryz.f314.name,by decide,Tryz.func314.trans (congrArg some (by kernel_rfl))⟩
 f24:=⟨Tryz.f315.name,by decide,Tryz.func315.trans (congrArg some (by kernel_rfl))⟩
 f25:=⟨Tryz.f316.name,by decide,Tryz.func316.trans (congrArg some (by kernel_rfl))⟩
 f26:=⟨Tryz.f317.name,by decide,Tryz.func317.trans (congrArg some (by kernel_rfl))⟩
 f27:=⟨Tryz.f318.name,by decide,Tryz.func318.trans (congrArg some (by kernel_rfl))⟩
 f28:=Tryz.func258.trans (congrArg some (by kernel_rfl))
 f29:=Tryz.func259.trans (congrArg some (by kernel_rfl))
 f46:=⟨Tryz.f352.name,by decide,Tryz.func352.trans (congrArg some (by kernel_rfl))⟩
 f47:=Tryz.func290.trans (congrArg some (by kernel_rfl))
 f48:=Tryz.func291.trans (congrArg some (by kernel_rfl))
 f49:=⟨Tryz.f353.name,by decide,Tryz.func353.trans (congrArg some (by kernel_rfl))⟩
 f50:=⟨Tryz.f354.name,by decide,Tryz.func354.trans (congrArg some (by kernel_rfl))⟩
 f57:=⟨Tryz.f375.name,by decide,Tryz.func375.trans (congrArg some (by kernel_rfl))⟩
 t0:=Tryz.underlying0
 a0:=Tryz.isAgg0
 z0:=Tryz.sizeOf0
 v0:=Tryz.zeroValue0
 t3:=Tryz.underlying3
 a3:=Tryz.isAgg3
 z3:=Tryz.sizeOf3
 v3:=Tryz.zeroValue3
 t4:=Tryz.underlying4
 a4:=Tryz.isAgg4
 z4:=Tryz.sizeOf4
 v4:=Tryz.zeroValue4
 t5:=Tryz.underlying5
 a5:=Tryz.isAgg5
 z5:=Tryz.sizeOf5
 v5:=Tryz.zeroValue5
 t9:=Tryz.underlying9
 a9:=Tryz.isAgg9
 z9:=Tryz.sizeOf9
 v9:=Tryz.zeroValue9
 t22:=Tryz.underlying36
 a22:=Tryz.isAgg36
 z22:=Tryz.sizeOf36
 v22:=Tryz.zeroValue36
 t25:=Tryz.underlying306
 a25:=Tryz.isAgg306
 z25:=Tryz.sizeOf306
 v25:=Tryz.zeroValue306
 t39:=Tryz.underlying167
 a39:=Tryz.isAgg167
 z39:=Tryz.sizeOf167
 v39:=Tryz.zeroValue167
 t45:=Tryz.underlying363
 a45:=Tryz.isAgg363
 z45:=Tryz.sizeOf363
 v45:=Tryz.zeroValue363
 t46:=Tryz.underlying364
 a46:=Tryz.isAgg364
 z46:=Tryz.sizeOf364
 v46:=Tryz.zeroValue364
 t50:=Tryz.underlying368
 a50:=Tryz.isAgg368
 z50:=Tryz.sizeOf368
 v50:=Tryz.zeroValue368
 t53:=Tryz.underlying155
 a53:=Tryz.isAgg155
 z53:=Tryz.sizeOf155
 v53:=Tryz.zeroValue155
 t55:=Tryz.underlying221
 a55:=Tryz.isAgg221
 z55:=Tryz.sizeOf221
 v55:=Tryz.zeroValue221
 t66:=Tryz.underlying393
 a66:=Tryz.isAgg393
 z66:=Tryz.sizeOf393
 v66:=Tryz.zeroValue393
 t70:=Tryz.underlying397
 a70:=Tryz.isAgg397
 z70:=Tryz.sizeOf397
 v70:=Tryz.zeroValue397
 t76:=Tryz.underlying425
 a76:=Tryz.isAgg425
 z76:=Tryz.sizeOf425
 v76:=Tryz.zeroValue425
 t77:=Tryz.underlying426
 a77:=Tryz.isAgg426
 z77:=Tryz.sizeOf426
 v77:=Tryz.zeroValue426 }
end Go.Proofs.YtchgldaddcolhaaGreatDoor
