/- Part of the proof of Rows.FinderAltitudesCardSaid: FaV1. -/
import Derived.KernelRfl
import Derived.Test.YtchgldaddcolhaaGreatDoorP08
import Derived.Test.YtchgldaddcolhaaGreatDoorP10
set_option linter.all false
namespace Go.Proofs.YtchgldaddcolhaaGreatDoor
set_option maxRecDepth 100000
open Go
theorem small_cases{p:Int→Prop}(h:∀ k:Nat,k < 257→p ((k:Int) - 128)){n:Int}(hn:n.natAbs ≤ 128):p n:=by
 have:=h (n + 128).toNat (by omega)
 rwa [show (((n + 128).toNat:Nat):Int) - 128 = n by omega]at this
noncomputable def allW(f:Int→Fact):Bool:=(List.range 257).all fun (k:Nat)=>(f ((k:Int) - 128)).run X0 1000
theorem allW_get{f:Int→Fact}(h:allW f = true){n:Int}(hn:n.natAbs ≤ 128):(f n).run X0 1000 = true :=
 small_cases (p:=fun n=>(f n).run X0 1000 = true) (fun k hk=>List.all_eq_true.1 h k (List.mem_range.2 hk)) hn
theorem wF_run:allW wF = true:=by kernel_rfl
theorem vF_run:allW (vF 107) = true:=by kernel_rfl
noncomputable def allP(f:Int→Fact)(lo:Int):Bool:=(List.range 52).all fun (k:Nat)=>(f ((k:Int) + lo)).run X0 1000
theorem allP_get{f:Int→Fact}{lo:Int}(h:allP f lo = true){n:Int}(h1:lo ≤ n)(h2:n < lo + 52):(f n).run X0 1000 = true:=by
 have:=List.all_eq_true.1 h (n - lo).toNat (List.mem_range.2 (by omega))
 rwa [show (((n - lo).toNat:Nat):Int) + lo = n by omega]at this
theorem vG0_run:allP (vF 262) (-128) = true:=by kernel_rfl
theorem vG1_run:allP (vF 262) (-76) = true:=by kernel_rfl
theorem vG2_run:allP (vF 262) (-24) = true:=by kernel_rfl
theorem vG3_run:allP (vF 262) 28 = true:=by kernel_rfl
theorem vG4_run:allP (vF 262) 77 = true:=by kernel_rfl
theorem vG_get{n:Int}(hn:n.natAbs ≤ 128):(vF 262 n).run X0 1000 = true:=by
 by_cases h1:n < -76
 ·exact allP_get vG0_run (by omega) (by omega)
 by_cases h2:n < -24
 ·exact allP_get vG1_run (by omega) (by omega)
 by_cases h3:n < 28
 ·exact allP_get vG2_run (by omega) (by omega)
 by_cases h4:n < 77
 ·exact allP_get vG3_run (by omega) (by omega)
 exact allP_get vG4_run (by omega) (by omega)
section
variable(hA:SoundAll TP knT)
include hA
theorem valid_of{f0:Nat}(hr:∀ {n:Int},n.natAbs ≤ 128→(vF f0 n).run X0 1000 = true){x:Nat→Int}(hx:∀ k,(x k).natAbs ≤ 128):@RuleOk (subX x) TP knT (onX f0 validX):=fun g args H r h=>by
 unfold onX at h
 cases hg:Nat.beq g f0 with
 | false=>rw[hg]at h; cases h
 | true =>
  rw[hg]at h
  obtain rfl:g = f0:=Nat.eq_of_beq_eq_true hg
  have h:validX g args H = some r:=h
  unfold validX at h
  split at h
  ·rename_i a l _
   cases he:eqAVs (.p (.h false a)::l) ((rowH (a / 2)).map .p) with
   | false=>rw[he]at h; cases h
   | true =>
    rw[he]at h
    cases h
    rw[eqAVs_sound _ _ he]
    refine @callSim_out (subX x) TP knT g _ _ ?_
    have h1:List.map (@subA (subX x)) [.agg ((rowH (a / 2)).map .p)] = [.agg ((rowW (x (a / 2))).map .p)]:=by
     rw[← sub_row]
     simp only[rowH,List.map_cons,List.map_nil,subA,subAs]
    rw[h1]
    exact Fact.sim hA (S:=subX x) (X:=X0) (e:=vF g (x (a / 2))) noX_ok (hr (hx _))
  ·cases h
theorem valid_ok{x:Nat→Int}(hx:∀ k,(x k).natAbs ≤ 128):@RuleOk (subX x) TP knT (orX (onX 107 validX) (onX 262 validX)):=or_ok (valid_of hA (allW_get vF_run) hx) (valid_of hA vG_get hx)
end
end Go.Proofs.YtchgldaddcolhaaGreatDoor
