/- Part of the proof of Rows.FinderAltitudesCardSaid: EvGo. -/
import GoSem.ClaimGoes
set_option linter.all false
namespace Go.Proofs.YtchgldaddcolhaaGreatDoor
open Go
theorem goes_none{P:Program}(h:(P.funcs.toList.all fun fn=>!fn.goes) = true)(f:FuncId):P.goes f = false:=by
 have h0:∀ (g:Nat) (fn:Func),P.funcs[g]? = some fn→fn.goes = false:=fun g fn hg=>by
  have hm:fn ∈ P.funcs.toList:=Array.mem_toList_iff.2 (Array.mem_of_getElem? hg)
  simpa using List.all_eq_true.1 h fn hm
 have h1:∀ g:Nat,(P.funcs[g]?).any Func.goes = false:=fun g=>by
  cases hg:P.funcs[g]? with
  | none=>rfl
  | some fn=>simpa using h0 g fn hg
 have h2:P.funcs.any Func.goes = false:=by
  rw[Bool.eq_false_iff]
  intro ht
  obtain⟨i,hi,hg⟩:=Array.any_eq_true.1 ht
  have:=h0 i P.funcs[i] (by simp[hi])
  rw[this]at hg
  cases hg
 simp[Program.goes,h1,h2]
theorem goesAt_none{P:Program}(h:(P.funcs.toList.all fun fn=>!fn.goes) = true)(s:Start)(func:String):P.goesAt s func = false:=by
 have h1:∀ o:Option FuncId,o.any P.goes = false:=fun o=>by cases o <;> simp[goes_none h]
 have h2:P.inits.toList.any P.goes = false:=by simp[goes_none h]
 simp only[Program.goesAt,Program.goesFrom,h1,h2]
 cases s <;> rfl
end Go.Proofs.YtchgldaddcolhaaGreatDoor
