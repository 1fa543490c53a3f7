/- Part of the proof of Rows.FinderAltitudesCardSaid: FaW1. -/
import Derived.Test.YtchgldaddcolhaaGreatDoorRows
import Derived.JoinedOf
import Derived.KernelRfl
set_option linter.all false
namespace Go.Proofs.YtchgldaddcolhaaGreatDoor
open Go.Proofs.YtchgldaddcolhaaGreatDoor Go
theorem and_t{a b:Bool}(ha:a = true)(hb:b = true):(a && b) = true:=by rw[ha,hb]; rfl
noncomputable abbrev jR(k:Program→FuncId→Func→ChangeSpec→OpenClaim→Bool):Bool:=k Tryz.prog 3 Tryz.f3 Rows.finderAltitudesSpec Rows.finderAltitudesRow
theorem jf0:jR (fun _ _ _ s c=>c.wf (OpenSpec.ofChange s)) = true:=by kernel_rfl
theorem jf1:jR (fun P _ _ _ _=>laidOutB P) = true:=by kernel_rfl
theorem jf2:jR (fun P _ _ _ _=>mapsRowed P) = true:=by kernel_rfl
theorem jf3:jR (fun P _ fn _ _=>fn.params.all (P.readableRec ·)) = true:=by kernel_rfl
theorem jf4:jR (fun P _ _ s c=>namedTie P c.named s.vars) = true:=by kernel_rfl
theorem jf5:jR (fun _ _ _ _ c=>(c.stops == [])) = true:=by kernel_rfl
theorem jf6:jR (fun P _ _ _ _=>(P.stops == [])) = true:=by kernel_rfl
theorem jf7:jR (fun _ _ _ _ c=>(c.knobs == [])) = true:=by kernel_rfl
theorem jf8:jR (fun P _ _ _ _=>(P.stopKnobs == [])) = true:=by kernel_rfl
theorem jf9:jR (fun P f _ _ c=>(c.inPlace == P.inPlace f)) = true:=by kernel_rfl
theorem jf10:jR (fun P f _ _ c=>(c.unfollowed == P.unfollowed f)) = true:=by kernel_rfl
theorem jf11:jR (fun P f _ _ c=>(c.recurses == P.recurses f)) = true:=by kernel_rfl
theorem jf12:jR (fun P f _ _ c=>(c.named == P.varsNamed f)) = true:=by kernel_rfl
theorem jf13:jR (fun P _ fn s c=>(c.maps == (fn.params.toList++s.plain.varTypes P).any (P.mapsRec ·))) = true:=by kernel_rfl
theorem jf14:jR (fun P _ fn s c=>(c.ifaces == (fn.params.toList++s.plain.varTypes P).any (P.ifacesRec ·))) = true:=by kernel_rfl
theorem jf15:jR (fun P _ fn _ c=>(c.mapsOut == P.mapsAmong fn.resultTypes.toList)) = true:=by kernel_rfl
theorem jf16:jR (fun P _ fn s c=>(c.loops == (fn.params.toList++s.plain.varTypes P).any (P.loopsFrom ·))) = true:=by kernel_rfl
theorem jf17:jR (fun P _ fn s c=>(c.wideKeys == (fn.params.toList++s.plain.varTypes P++fn.resultTypes.toList).any (P.wideKeysFrom ·))) = true:=by kernel_rfl
theorem jf18:jR (fun P _ _ s _=>s.vars.all (P.varReadable ·)) = true:=by kernel_rfl
theorem jf19:jR (fun P _ fn _ _=>fn.resultTypes.all (fun t=>P.readableRec t && decide (t < P.types.size))) = true:=by kernel_rfl
theorem jf20:jR (fun P _ fn _ c=>(c.ifacesOut == fn.resultTypes.toList.any (P.ifacesRec ·))) = true:=by kernel_rfl
theorem jf21:jR (fun P _ fn _ c=>(c.loopsOut == fn.resultTypes.toList.any (P.loopsFrom ·))) = true:=by kernel_rfl
theorem jf22:jR (fun P _ _ _ c=>(c.plainKeys == P.plainKeys)) = true:=by kernel_rfl
theorem jf23:jR (fun _ _ _ _ c=>c.shortTexts.isNone) = true:=by kernel_rfl
theorem jf24:jR (fun P _ _ _ _=>P.stopsHeard) = true:=by kernel_rfl
theorem jf25:jR (fun P _ _ _ _=>P.mayEnter) = true:=by kernel_rfl
theorem jf26:jR (fun P _ _ _ c=>(c.lifted == P.liftsFinal)) = true:=by kernel_rfl
theorem jf27:jR (fun P _ _ _ c=>(P.make == some c.make)) = true:=by kernel_rfl
theorem jf28:jR (fun P _ fn _ c=>(c.kinds == (if c.domain.isEmpty then [] else fn.params.toList.map fun t=>match P.underlying t with | some (.int k)=>some k | _=>none))) = true:=by kernel_rfl
theorem jf29:jR (fun _ _ _ _ c=>(c.pinned == c.pinnedBy)) = true:=by kernel_rfl
theorem jf30:jR (fun P _ fn s c=>(c.veiled == (fn.params.toList++s.plain.varTypes P++fn.resultTypes.toList).any (P.veiledRec ·))) = true:=by kernel_rfl
theorem jf31:jR (fun P _ fn s c=>c.veiledFits P fn.params.toList (fn.params.toList++s.plain.varTypes P++fn.resultTypes.toList)) = true:=by kernel_rfl
theorem joined3:joinedFacts Tryz.prog 3 Tryz.f3 Rows.finderAltitudesSpec Rows.finderAltitudesRow = true:=Eq.trans (by kernel_rfl) (and_t (and_t (and_t (and_t (and_t (and_t (and_t (and_t (and_t (and_t (and_t (and_t (and_t (and_t (and_t (and_t (and_t (and_t (and_t (and_t (and_t (and_t (and_t (and_t (and_t (and_t (and_t (and_t (and_t (and_t (and_t jf0 jf1) jf2) jf3) jf4) jf5) jf6) jf7) jf8) jf9) jf10) jf11) jf12) jf13) jf14) jf15) jf16) jf17) jf18) jf19) jf20) jf21) jf22) jf23) jf24) jf25) jf26) jf27) jf28) jf29) jf30) jf31)
end Go.Proofs.YtchgldaddcolhaaGreatDoor
