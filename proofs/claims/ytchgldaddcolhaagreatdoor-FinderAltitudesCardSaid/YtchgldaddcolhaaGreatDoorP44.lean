/- Part of the proof of Rows.FinderAltitudesCardSaid: FaQX, FaV4. -/
import Derived.Test.YtchgldaddcolhaaGreatDoorP11
import Derived.Test.YtchgldaddcolhaaGreatDoorP12
import Derived.Test.YtchgldaddcolhaaGreatDoorP15
import Derived.Test.YtchgldaddcolhaaGreatDoorP16
import Derived.Test.YtchgldaddcolhaaGreatDoorP17
import Derived.Test.YtchgldaddcolhaaGreatDoorP18
import Derived.Test.YtchgldaddcolhaaGreatDoorP19
import Derived.Test.YtchgldaddcolhaaGreatDoorP20
import Derived.Test.YtchgldaddcolhaaGreatDoorP21
import Derived.Test.YtchgldaddcolhaaGreatDoorP22
import Derived.Test.YtchgldaddcolhaaGreatDoorP23
import Derived.Test.YtchgldaddcolhaaGreatDoorP24
import Derived.Test.YtchgldaddcolhaaGreatDoorP25
import Derived.Test.YtchgldaddcolhaaGreatDoorP26
import Derived.Test.YtchgldaddcolhaaGreatDoorP27
import Derived.Test.YtchgldaddcolhaaGreatDoorP28
import Derived.Test.YtchgldaddcolhaaGreatDoorP29
import Derived.Test.YtchgldaddcolhaaGreatDoorP30
import Derived.Test.YtchgldaddcolhaaGreatDoorP31
import Derived.Test.YtchgldaddcolhaaGreatDoorP32
import Derived.Test.YtchgldaddcolhaaGreatDoorP33
import Derived.Test.YtchgldaddcolhaaGreatDoorP34
import Derived.Test.YtchgldaddcolhaaGreatDoorP35
import Derived.Test.YtchgldaddcolhaaGreatDoorP36
import Derived.Test.YtchgldaddcolhaaGreatDoorP37
import Derived.Test.YtchgldaddcolhaaGreatDoorP38
import Derived.Test.YtchgldaddcolhaaGreatDoorP39
import Derived.Test.YtchgldaddcolhaaGreatDoorP40
import Derived.Test.YtchgldaddcolhaaGreatDoorP41
import Derived.Test.YtchgldaddcolhaaGreatDoorP42
import Derived.Test.YtchgldaddcolhaaGreatDoorP43
set_option linter.all false
namespace Go.Proofs.YtchgldaddcolhaaGreatDoor
set_option maxRecDepth 100000
open Go
section
variable{x:Nat→Int}(hA:SoundAll TP knT)(hx:∀ k,(x k).natAbs ≤ 128)
include hA hx
theorem XQ0_ok:@RuleOk (subX x) TP knT XQ0:=or_ok (valid_ok hA hx) (on_ok (@collect_ok (subX x)))
theorem XQ1_ok:@RuleOk (subX x) TP knT XQ1:=or_ok (on_ok (facts_ok hA (XQ0_ok hA hx)  (allR_get g107_0_run))) (XQ0_ok hA hx)
theorem XQ2_ok:@RuleOk (subX x) TP knT XQ2:=or_ok (on_ok (facts_ok hA (XQ1_ok hA hx)  (allR_get g18_0_run))) (XQ1_ok hA hx)
theorem XQ3_ok:@RuleOk (subX x) TP knT XQ3:=or_ok (on_ok (fact_ok (prime_sims hA))) (XQ2_ok hA hx)
theorem XQ4_ok:@RuleOk (subX x) TP knT XQ4:=or_ok (on_ok (facts_ok hA (XQ3_ok hA hx) (all_app (allR_get g157_0_run) (all_app (allR_get g157_1_run) (all_app (allR_get g157_2_run) (all_app (allR_get g157_3_run) (all_app (allR_get g157_4_run) (all_app (allR_get g157_5_run) (all_app (allR_get g157_6_run) (all_app (allR_get g157_7_run) (all_app (allR_get g157_8_run) (all_app (allR_get g157_9_run) (allR_get g157_10_run))))))))))))) (XQ3_ok hA hx)
theorem XQ5_ok:@RuleOk (subX x) TP knT XQ5:=or_ok (on_ok (st_ok hA (XQ4_ok hA hx) (all_cons q87_0_run (all_cons q87_1_run all_nil)))) (XQ4_ok hA hx)
theorem XQ6_ok:@RuleOk (subX x) TP knT XQ6:=or_ok (on_ok (facts_ok hA (XQ5_ok hA hx) (all_app (allR_get g43_0_run) (all_app (allR_get g43_1_run) (all_app (allR_get g43_2_run) (all_app (allR_get g43_3_run) (all_app (allR_get g43_4_run) (all_app (allR_get g43_5_run) (all_app (allR_get g43_6_run) (all_app (allR_get g43_7_run) (all_app (allR_get g43_8_run) (allR_get g43_9_run)))))))))))) (XQ5_ok hA hx)
theorem XQ7_ok:@RuleOk (subX x) TP knT XQ7:=or_ok (on_ok (facts_ok hA (XQ6_ok hA hx)  (allR_get g22_0_run))) (XQ6_ok hA hx)
theorem XQ8_ok:@RuleOk (subX x) TP knT XQ8:=or_ok (on_ok (facts_ok hA (XQ7_ok hA hx)  (allR_get g37_0_run))) (XQ7_ok hA hx)
theorem XQ9_ok:@RuleOk (subX x) TP knT XQ9:=or_ok (on_ok (facts_ok hA (XQ8_ok hA hx)  (allR_get g86_0_run))) (XQ8_ok hA hx)
theorem XQ10_ok:@RuleOk (subX x) TP knT XQ10:=or_ok (on_ok (facts_ok hA (XQ9_ok hA hx) (all_app (allR_get g23_0_run) (allR_get g23_1_run)))) (XQ9_ok hA hx)
theorem XQ11_ok:@RuleOk (subX x) TP knT XQ11:=or_ok (on_ok (facts_ok hA (XQ10_ok hA hx)  (allR_get g98_0_run))) (XQ10_ok hA hx)
theorem XQ12_ok:@RuleOk (subX x) TP knT XQ12:=or_ok (on_ok (facts_ok hA (XQ11_ok hA hx) (all_app (allR_get g69_0_run) (all_app (allR_get g69_1_run) (all_app (allR_get g69_2_run) (allR_get g69_3_run)))))) (XQ11_ok hA hx)
theorem XQ13_ok:@RuleOk (subX x) TP knT XQ13:=or_ok (on_ok (facts_ok hA (XQ12_ok hA hx)  (allR_get g133_0_run))) (XQ12_ok hA hx)
theorem XQ14_ok:@RuleOk (subX x) TP knT XQ14:=or_ok (on_ok (facts_ok hA (XQ13_ok hA hx) (all_app (allR_get g238_0_run) (all_app (allR_get g238_1_run) (allR_get g238_2_run))))) (XQ13_ok hA hx)
theorem XQ15_ok:@RuleOk (subX x) TP knT XQ15:=or_ok (on_ok (facts_ok hA (XQ14_ok hA hx)  (allR_get g164_0_run))) (XQ14_ok hA hx)
theorem XQ16_ok:@RuleOk (subX x) TP knT XQ16:=or_ok (on_ok (facts_ok hA (XQ15_ok hA hx)  (allR_get g97_0_run))) (XQ15_ok hA hx)
theorem XQ17_ok:@RuleOk (subX x) TP knT XQ17:=or_ok (on_ok (facts_ok hA (XQ16_ok hA hx)  (allR_get g21_0_run))) (XQ16_ok hA hx)
theorem XQ18_ok:@RuleOk (subX x) TP knT XQ18:=or_ok (on_ok (facts_ok hA (XQ17_ok hA hx) (all_cons q9_0_run (all_cons q9_1_run all_nil)))) (XQ17_ok hA hx)
theorem XQ19_ok:@RuleOk (subX x) TP knT XQ19:=or_ok (on_ok (facts_ok hA (XQ18_ok hA hx)  (allR_get g38_0_run))) (XQ18_ok hA hx)
theorem XQ20_ok:@RuleOk (subX x) TP knT XQ20:=or_ok (on_ok (facts_ok hA (XQ19_ok hA hx) (all_app (allR_get g39_0_run) (all_app (allR_get g39_1_run) (allR_get g39_2_run))))) (XQ19_ok hA hx)
theorem XQ21_ok:@RuleOk (subX x) TP knT XQ21:=or_ok (on_ok (facts_ok hA (XQ20_ok hA hx) (all_app (allR_get hs0_run) (all_app (allR_get hs1_run) (all_app (allR_get hs2_run) (all_app (allR_get hs3_run) (all_app (allR_get hs4_run) (all_app (allR_get hs5_run) (all_app (allR_get hs6_run) (all_app (allR_get hs7_run) (all_app (allR_get hs8_run) (all_app (allR_get hs9_run) (all_app (allR_get hs10_run) (all_app (allR_get hs11_run) (all_app (allR_get hs12_run) (all_app (allR_get hs13_run) (all_app (allR_get hs14_run) (all_app (allR_get hs15_run) (all_app (allR_get hs16_run) (all_app (allR_get hs17_run) (all_app (allR_get hs18_run) (all_app (allR_get hs19_run) (all_app (allR_get hs20_run) (all_app (allR_get hs21_run) (all_app (allR_get hs22_run) (all_app (allR_get hs23_run) (all_app (allR_get hs24_run) (all_app (allR_get hs25_run) (all_app (allR_get hs26_run) (all_app (allR_get hs27_run) (all_app (allR_get hs28_run) (all_app (allR_get hs29_run) (all_app (allR_get hs30_run) (all_app (allR_get hs31_run) (all_app (allR_get hs32_run) (all_app (allR_get hs33_run) (all_app (allR_get hs34_run) (all_app (allR_get hs35_run) (all_app (allR_get hs36_run) (all_app (allR_get hs37_run) (all_app (allR_get hs38_run) (all_app (allR_get hs39_run) (all_app (allR_get hs40_run) (all_app (allR_get hs41_run) (all_app (allR_get hs42_run) (all_app (allR_get hs43_run) (all_app (allR_get hs44_run) (all_app (allR_get hs45_run) (all_app (allR_get hs46_run) (all_app (allR_get hs47_run) (all_app (allR_get hs48_run) (all_app (allR_get hs49_run) (all_app (allR_get hs50_run) (all_app (allR_get hs51_run) (all_app (allR_get hs52_run) (all_app (allR_get hs53_run) (all_app (allR_get hs54_run) (all_app (allR_get hs55_run) (all_app (allR_get hs56_run) (all_app (allR_get hs57_run) (all_app (allR_get hs58_run) (all_app (allR_get hs59_run) (all_app (allR_get hs60_run) (all_app (allR_get hs61_run) (all_app (allR_get hs62_run) (all_app (allR_get hs63_run) (all_app (allR_get hs64_run) (all_app (allR_get hs65_run) (all_app (allR_get hs66_run) (all_app (allR_get hs67_run) (all_app (allR_get hs68_run) (all_app (allR_get hs69_run) (all_app (allR_get hs70_run) (all_app (allR_get hs71_run) (all_app (allR_get hs72_run) (all_app (allR_get hs73_run) (allR_get hs74_run))))))))))))))))))))))))))))))))))))))))))))))))))))))))))))))))))))))))))))) (XQ20_ok hA hx)
theorem XQ22_ok:@RuleOk (subX x) TP knT XQ22:=or_ok (on_ok (facts_ok hA (XQ21_ok hA hx) (all_cons q6_0_run (all_cons q6_1_run all_nil)))) (XQ21_ok hA hx)
theorem XQ23_ok:@RuleOk (subX x) TP knT XQ23:=or_ok (on_ok (facts_ok hA (XQ22_ok hA hx) (all_cons q7_0_run (all_cons q7_1_run (all_cons q7_2_run (all_cons q7_3_run (all_cons q7_4_run (all_cons q7_5_run (all_cons q7_6_run (all_cons q7_7_run (all_cons q7_8_run (all_cons q7_9_run (all_cons q7_10_run all_nil))))))))))))) (XQ22_ok hA hx)
theorem XQ24_ok:@RuleOk (subX x) TP knT XQ24:=or_ok (on_ok (facts_ok hA (XQ23_ok hA hx)  (allR_get g14_0_run))) (XQ23_ok hA hx)
theorem XQ25_ok:@RuleOk (subX x) TP knT XQ25:=or_ok (on_ok (facts_ok hA (XQ24_ok hA hx) (all_cons q13_0_run all_nil))) (XQ24_ok hA hx)
theorem XQ26_ok:@RuleOk (subX x) TP knT XQ26:=or_ok (on_ok (facts_ok hA (XQ25_ok hA hx) (all_cons q10_0_run (all_cons q10_1_run all_nil)))) (XQ25_ok hA hx)
theorem XQ27_ok:@RuleOk (subX x) TP knT XQ27:=or_ok (on_ok (facts_ok hA (XQ26_ok hA hx)  (allR_get g115_0_run))) (XQ26_ok hA hx)
theorem XQ28_ok:@RuleOk (subX x) TP knT XQ28:=or_ok (on_ok (facts_ok hA (XQ27_ok hA hx)  (allR_get g58_0_run))) (XQ27_ok hA hx)
theorem XQ29_ok:@RuleOk (subX x) TP knT XQ29:=or_ok (on_ok (facts_ok hA (XQ28_ok hA hx)  (allR_get g118_0_run))) (XQ28_ok hA hx)
theorem XQ30_ok:@RuleOk (subX x) TP knT XQ30:=or_ok (on_ok (facts_ok hA (XQ29_ok hA hx)  (allR_get g264_0_run))) (XQ29_ok hA hx)
theorem XQ31_ok:@RuleOk (subX x) TP knT XQ31:=or_ok (on_ok (facts_ok hA (XQ30_ok hA hx)  (allR_get g120_0_run))) (XQ30_ok hA hx)
theorem XQ32_ok:@RuleOk (subX x) TP knT XQ32:=or_ok (on_ok (facts_ok hA (XQ31_ok hA hx)  (allR_get g59_0_run))) (XQ31_ok hA hx)
theorem XQ33_ok:@RuleOk (subX x) TP knT XQ33:=or_ok (on_ok (facts_ok hA (XQ32_ok hA hx) (all_app (allR_get g60_0_run) (all_app (allR_get g60_1_run) (allR_get g60_2_run))))) (XQ32_ok hA hx)
theorem XQ34_ok:@RuleOk (subX x) TP knT XQ34:=or_ok (on_ok (facts_ok hA (XQ33_ok hA hx)  (allR_get g25_0_run))) (XQ33_ok hA hx)
theorem XQ35_ok:@RuleOk (subX x) TP knT XQ35:=or_ok (on_ok (facts_ok hA (XQ34_ok hA hx) (all_cons q11_0_run (all_cons q11_1_run (all_cons q11_2_run (all_cons q11_3_run (all_cons q11_4_run (all_cons q11_5_run (all_cons q11_6_run (all_cons q11_7_run all_nil)))))))))) (XQ34_ok hA hx)
theorem XQ36_ok:@RuleOk (subX x) TP knT XQ36:=or_ok (on_ok (facts_ok hA (XQ35_ok hA hx) (all_cons q12_0_run (all_cons q12_1_run (all_cons q12_2_run (all_cons q12_3_run (all_cons q12_4_run all_nil))))))) (XQ35_ok hA hx)
end
end Go.Proofs.YtchgldaddcolhaaGreatDoor
namespace Go.Proofs.YtchgldaddcolhaaGreatDoor
set_option maxRecDepth 100000
open Go
def fgOf(p:Int):PV:=if p = 5 then pv220 else if p = 7 then pv222 else if p = 13 then pv224 else if p = 101 then pv226 else if p = 257 then pv228 else if p = 10007 then pv217 else if p = 1000003 then pv230 else pv232
theorem noH_mg(n:Int):noH (mgW n) = true:=by
 unfold mgW
 by_cases h:n = 0 <;> simp[h,noH,noHss,noHs]
theorem noH_sg(n:Int):noH (sgW n) = true:=by simp[sgW,noH]
theorem mem_primes{p:Int}(hp:p ∈ primes):p = 5∨p = 7∨p = 13∨p = 101∨p = 257∨p = 10007∨p = 1000003∨p = 2147483647:=by
 simpa only [primes,List.mem_cons,List.not_mem_nil,or_false] using hp
abbrev stP(r:Nat→List PV):AV:=.p (.sl (stepsA r))
section
variable{x:Nat→Int}
theorem nhS:noHA (stP (wh x)) = true:=by simp[noHA,noH,noHss,noHs,stepsA,madeS,rowS,nought,wh,rowW,noH_mg,noH_sg]
theorem subS:@subA (subX x) (stP rowH) = stP (wh x):=by
 simp only[stP,List.map_cons,List.map_nil,subA,subAs,subP,subPss,subPs,stepsA,madeS,rowS,nought,rowH,sub_even,sub_odd,wh,rowW,List.cons_append,List.nil_append]
variable(hA:SoundAll TP knT)
include hA
theorem fact_any{X:XR}(hX:@RuleOk (subX x) TP knT X){e:Fact}(h:e.run X 1000 = true){f:Nat}{a0 a:List AV}{r:AV}(hf:e.f = f)(ha0:e.args = a0)(ha:a0.map (@subA (subX x)) = a)(hr:e.r = r)(n1:noHAs a = true)(n2:noHA r = true):@CallSim noSub TP knT f a [] (r,[]):=by
 have h:=@callSim_put TP knT (subX x) _ _ _ (Fact.sim hA hX h)
 rw[ha0,ha,hf,hr]at h
 exact callSim_any n1 n2 h
variable(hx:∀ k,(x k).natAbs ≤ 128)
include hx
theorem sim4:@CallSim noSub TP knT 4 [] [] (.p bt,[]):=fact_any (a0:=[]) hA (XQ36_ok hA hx) q4_0_run rfl rfl rfl rfl rfl rfl
theorem sim6:@CallSim noSub TP knT 6 [stP (wh x)] [] (.tup [.p pv388,.p (j 0)],[]):=fact_any (a0:=[stP rowH]) hA (XQ21_ok hA hx) q6_1_run rfl (by kernel_rfl) (by rw[List.map_cons,subS]; rfl) (by kernel_rfl) (by rw[noHAs,nhS]; rfl) (by kernel_rfl)
theorem sim7{p:Int}(hp:p ∈ primes):@CallSim noSub TP knT 7 [stP (wh x),.p (j p),.p (j 2)] [] (.tup [.p pv389,.p (j 0)],[]):=by
 have go:∀ e:Fact,e.run XQ22 1000 = true→e.f = 7→e.args = [stP rowH,.p (j p),.p (j 2)]→e.r = .tup [.p pv389,.p (j 0)]→@CallSim noSub TP knT 7 [stP (wh x),.p (j p),.p (j 2)] [] (.tup [.p pv389,.p (j 0)],[]) :=
  fun e h1 h2 h3 h4=>fact_any (a0:=[stP rowH,.p (j p),.p (j 2)]) hA (XQ22_ok hA hx) h1 h2 h3 (by rw[List.map_cons,subS]; rfl) h4 (by rw[noHAs,nhS]; rfl) (by kernel_rfl)
 have hp:p = 5∨p = 7∨p = 13∨p = 101∨p = 257∨p = 10007∨p = 1000003∨p = 2147483647:=mem_primes hp
 rcases hp with rfl | rfl | rfl | rfl | rfl | rfl | rfl | rfl
 ·exact go q7_3 q7_3_run rfl (by kernel_rfl) (by kernel_rfl)
 ·exact go q7_4 q7_4_run rfl (by kernel_rfl) (by kernel_rfl)
 ·exact go q7_5 q7_5_run rfl (by kernel_rfl) (by kernel_rfl)
 ·exact go q7_6 q7_6_run rfl (by kernel_rfl) (by kernel_rfl)
 ·exact go q7_7 q7_7_run rfl (by kernel_rfl) (by kernel_rfl)
 ·exact go q7_8 q7_8_run rfl (by kernel_rfl) (by kernel_rfl)
 ·exact go q7_9 q7_9_run rfl (by kernel_rfl) (by kernel_rfl)
 ·exact go q7_10 q7_10_run rfl (by kernel_rfl) (by kernel_rfl)
theorem sim9:@CallSim noSub TP knT 9 [stP (wh x),relR,.p (j 0)] [] (.tup [.p (.sl [certR pv95]),.agg (vdR pv95),.p (j 0)],[]):=fact_any (a0:=[stP rowH,relR,.p (j 0)]) hA (XQ17_ok hA hx) q9_1_run rfl (by kernel_rfl) (by rw[List.map_cons,subS]; rfl) (by kernel_rfl) (by rw[noHAs,nhS]; rfl) (by kernel_rfl)
theorem sim10:@CallSim noSub TP knT 10 [stP (wh x),relR] [] (.tup [.p (j 9),.p (j 0)],[]):=fact_any (a0:=[stP rowH,relR]) hA (XQ25_ok hA hx) q10_1_run rfl (by kernel_rfl) (by rw[List.map_cons,subS]; rfl) (by kernel_rfl) (by rw[noHAs,nhS]; rfl) (by kernel_rfl)
theorem sim11{p:Int}(hp:p ∈ primes):@CallSim noSub TP knT 11 [stP (wh x),.p (j p),.p (j 2)] [] (.tup [.p (fgOf p),.p (.sl []),.p bt],[]):=by
 have go:∀ (e:Fact) (g:PV),e.run XQ34 1000 = true→e.f = 11→e.args = [stP rowH,.p (j p),.p (j 2)]→e.r = .tup [.p g,.p (.sl []),.p bt]→fgOf p = g→noH g = true→@CallSim noSub TP knT 11 [stP (wh x),.p (j p),.p (j 2)] [] (.tup [.p (fgOf p),.p (.sl []),.p bt],[]) :=
  fun e g h1 h2 h3 h4 h5 h6=>by
   rw[h5]
   exact fact_any (a0:=[stP rowH,.p (j p),.p (j 2)]) hA (XQ34_ok hA hx) h1 h2 h3 (by rw[List.map_cons,subS]; rfl) h4 (by rw[noHAs,nhS]; rfl) (by rw[noHA,noHAs,noHA,h6]; rfl)
 have hp:p = 5∨p = 7∨p = 13∨p = 101∨p = 257∨p = 10007∨p = 1000003∨p = 2147483647:=mem_primes hp
 rcases hp with rfl | rfl | rfl | rfl | rfl | rfl | rfl | rfl
 ·exact go q11_0 pv220 q11_0_run rfl (by kernel_rfl) (by kernel_rfl) rfl (by kernel_rfl)
 ·exact go q11_1 pv222 q11_1_run rfl (by kernel_rfl) (by kernel_rfl) rfl (by kernel_rfl)
 ·exact go q11_2 pv224 q11_2_run rfl (by kernel_rfl) (by kernel_rfl) rfl (by kernel_rfl)
 ·exact go q11_3 pv226 q11_3_run rfl (by kernel_rfl) (by kernel_rfl) rfl (by kernel_rfl)
 ·exact go q11_4 pv228 q11_4_run rfl (by kernel_rfl) (by kernel_rfl) rfl (by kernel_rfl)
 ·exact go q11_5 pv217 q11_5_run rfl (by kernel_rfl) (by kernel_rfl) rfl (by kernel_rfl)
 ·exact go q11_6 pv230 q11_6_run rfl (by kernel_rfl) (by kernel_rfl) rfl (by kernel_rfl)
 ·exact go q11_7 pv232 q11_7_run rfl (by kernel_rfl) (by kernel_rfl) rfl (by kernel_rfl)
theorem sim12:@CallSim noSub TP knT 12 [.p pv388,relR] [] (.p bt,[]):=fact_any (a0:=[.p pv388,relR]) hA (XQ35_ok hA hx) q12_0_run rfl (by kernel_rfl) (by kernel_rfl) (by kernel_rfl) (by kernel_rfl) rfl
theorem sim12':@CallSim noSub TP knT 12 [.p pv389,relR] [] (.p bt,[]):=fact_any (a0:=[.p pv389,relR]) hA (XQ35_ok hA hx) q12_4_run rfl (by kernel_rfl) (by kernel_rfl) (by kernel_rfl) (by kernel_rfl) rfl
theorem sim13:@CallSim noSub TP knT 13 [.agg (rel2 pv95)] [] (.p (j 0),[]):=fact_any (a0:=[.agg (rel2 pv95)]) hA (XQ24_ok hA hx) q13_0_run rfl (by kernel_rfl) (by kernel_rfl) (by kernel_rfl) (by kernel_rfl) rfl
theorem X3_ok:@RuleOk noSub TP knT (X3 x pv388 pv389 pv95 fgOf):=fun g args H r h=>by
 unfold X3 at h
 rcases ite_some h with ⟨q,h'⟩ | ⟨_,h⟩
 ·obtain⟨rfl,rfl,rfl⟩:=q
  cases h'
  exact sim4 hA hx
 rcases ite_some h with ⟨q,h'⟩ | ⟨_,h⟩
 ·obtain⟨rfl,rfl,rfl⟩:=q
  cases h'
  exact sim6 hA hx
 rcases ite_some h with ⟨q,h'⟩ | ⟨_,h⟩
 ·obtain⟨rfl,rfl⟩:=q
  obtain⟨p,hp,rfl,rfl⟩:=look_p h'
  exact sim7 hA hx hp
 rcases ite_some h with ⟨q,h'⟩ | ⟨_,h⟩
 ·obtain⟨rfl,rfl⟩:=q
  obtain⟨n,hn,rfl,rfl⟩:=look8 h'
  have hm:n.toNat < 256:=by omega
  have h1:=List.all_eq_true.1 prF_run n.toNat (List.mem_range.2 hm)
  have h2:=Fact.sim hA (S:=noSub) (X:=X0) (e:=prF n.toNat) noX_ok h1
  have h3:((n.toNat:Nat):Int) = n:=Int.toNat_of_nonneg hn.1
  simp only[prF,h3]at h2
  exact h2
 rcases ite_some h with ⟨q,h'⟩ | ⟨_,h⟩
 ·obtain⟨rfl,rfl,rfl⟩:=q
  cases h'
  exact sim9 hA hx
 rcases ite_some h with ⟨q,h'⟩ | ⟨_,h⟩
 ·obtain⟨rfl,rfl,rfl⟩:=q
  cases h'
  exact sim10 hA hx
 rcases ite_some h with ⟨q,h'⟩ | ⟨_,h⟩
 ·obtain⟨rfl,rfl⟩:=q
  obtain⟨p,hp,rfl,rfl⟩:=look_p h'
  exact sim11 hA hx hp
 rcases ite_some h with ⟨q,h'⟩ | ⟨_,h⟩
 ·obtain⟨rfl,q,rfl⟩:=q
  cases h'
  rcases q with rfl | rfl
  ·exact sim12 hA hx
  ·exact sim12' hA hx
 rcases ite_some h with ⟨q,h'⟩ | ⟨_,h⟩
 ·obtain⟨rfl,rfl,rfl⟩:=q
  cases h'
  exact sim13 hA hx
 rcases ite_some h with ⟨q,h'⟩ | ⟨_,h⟩
 ·obtain⟨rfl,rfl⟩:=q
  obtain⟨n,hn,rfl,rfl⟩:=look15 h'
  exact Fact.sim hA (S:=noSub) (X:=X0) (e:=wF n) noX_ok (allW_get wF_run hn)
 ·cases h
end
theorem sim3(hA:SoundAll TP knT){x:Nat→Int}(hx:∀ k,-128 ≤ x k∧x k ≤ 127){v:Int}(hv:0 ≤ v)(hv':v < 256):∃ H,@CallSim noSub TP knT 3 [.p (.v (.int .i8 (x 0))),.p (.v (.int .i8 (x 1))),.p (.v (.int .i8 (x 2))),.p (.v (.int .i8 (x 3))),.p (.v (.int .i8 (x 4))),.p (.v (.int .i8 (x 5))),.p (.v (.int .u8 v))] [] (boo true,H):=by
 have h:=loop3 (al:=pv388) (gs:=pv389) (w:=pv95) (fg:=fgOf) hx hv hv'
 unfold WF at h
 cases hc:call (X3 x pv388 pv389 pv95 fgOf) Gam 3 [.p (.v (.int .i8 (x 0))),.p (.v (.int .i8 (x 1))),.p (.v (.int .i8 (x 2))),.p (.v (.int .i8 (x 3))),.p (.v (.int .i8 (x 4))),.p (.v (.int .i8 (x 5))),.p (.v (.int .u8 v))] [] with
 | none=>rw[hc]at h; exact h.elim
 | some r =>
  rw[hc]at h
  have h:r.1 = boo true:=h
  have:=hA noSub _ (X3_ok hA (fun k=>by have:=hx k; omega)) _ _ _ _ hc
  exact⟨r.2,by rw[← h]; exact this⟩
end Go.Proofs.YtchgldaddcolhaaGreatDoor
