/- Part of the proof of Rows.ProverMiddlesCardSaid: PmQX, PmV4. -/
import Derived.Test.YtepbfecmageleaaGreatDoorP20
import Derived.Test.YtepbfecmageleaaGreatDoorP24
import Derived.Test.YtepbfecmageleaaGreatDoorP26
import Derived.Test.YtepbfecmageleaaGreatDoorP27
import Derived.Test.YtepbfecmageleaaGreatDoorP28
import Derived.Test.YtepbfecmageleaaGreatDoorP29
import Derived.Test.YtepbfecmageleaaGreatDoorP30
import Derived.Test.YtepbfecmageleaaGreatDoorP31
import Derived.Test.YtepbfecmageleaaGreatDoorP32
import Derived.Test.YtepbfecmageleaaGreatDoorP33
import Derived.Test.YtepbfecmageleaaGreatDoorP34
import Derived.Test.YtepbfecmageleaaGreatDoorP35
import Derived.Test.YtepbfecmageleaaGreatDoorP36
import Derived.Test.YtepbfecmageleaaGreatDoorP37
import Derived.Test.YtepbfecmageleaaGreatDoorP38
import Derived.Test.YtepbfecmageleaaGreatDoorP39
import Derived.Test.YtepbfecmageleaaGreatDoorP40
set_option linter.all false
namespace Go.Proofs.YtepbfecmageleaaGreatDoor
set_option maxRecDepth 100000
open Go
section
variable {x:Nat→Int} (hA:SoundAll TP knT) (hx:∀ k,(x k).natAbs ≤ 9)
include hA hx
theorem XQ0_ok:@RuleOk (subX x) TP knT XQ0:=or_ok (valid_ok hA hx) (on_ok (@collect_ok (subX x)))
theorem XQ1_ok:@RuleOk (subX x) TP knT XQ1:=or_ok (on_ok (facts_ok hA (XQ0_ok hA hx) (all_cons q102_0_run (all_cons q102_1_run (all_cons q102_2_run (all_cons q102_3_run (all_cons q102_4_run (all_cons q102_5_run (all_cons q102_6_run (all_cons q102_7_run (all_cons q102_8_run (all_cons q102_9_run (all_cons q102_10_run (all_cons q102_11_run (all_cons q102_12_run (all_cons q102_13_run (all_cons q102_14_run (all_cons q102_15_run all_nil)))))))))))))))))) (XQ0_ok hA hx)
theorem XQ2_ok:@RuleOk (subX x) TP knT XQ2:=or_ok (on_ok (facts_ok hA (XQ1_ok hA hx) (all_cons q99_0_run (all_cons q99_1_run (all_cons q99_2_run (all_cons q99_3_run (all_cons q99_4_run (all_cons q99_5_run (all_cons q99_6_run (all_cons q99_7_run (all_cons q99_8_run (all_cons q99_9_run (all_cons q99_10_run (all_cons q99_11_run all_nil)))))))))))))) (XQ1_ok hA hx)
theorem XQ3_ok:@RuleOk (subX x) TP knT XQ3:=or_ok (on_ok (facts_ok hA (XQ2_ok hA hx) (all_cons q129_0_run (all_cons q129_1_run (all_cons q129_2_run (all_cons q129_3_run (all_cons q129_4_run (all_cons q129_5_run (all_cons q129_6_run (all_cons q129_7_run (all_cons q129_8_run (all_cons q129_9_run (all_cons q129_10_run (all_cons q129_11_run (all_cons q129_12_run (all_cons q129_13_run (all_cons q129_14_run (all_cons q129_15_run (all_cons q129_16_run (all_cons q129_17_run (all_cons q129_18_run (all_cons q129_19_run (all_cons q129_20_run (all_cons q129_21_run (all_cons q129_22_run (all_cons q129_23_run (all_cons q129_24_run (all_cons q129_25_run (all_cons q129_26_run (all_cons q129_27_run (all_cons q129_28_run (all_cons q129_29_run (all_cons q129_30_run (all_cons q129_31_run (all_cons q129_32_run (all_cons q129_33_run (all_cons q129_34_run (all_cons q129_35_run (all_cons q129_36_run (all_cons q129_37_run (all_cons q129_38_run (all_cons q129_39_run (all_cons q129_40_run (all_cons q129_41_run all_nil)))))))))))))))))))))))))))))))))))))))))))) (XQ2_ok hA hx)
theorem XQ4_ok:@RuleOk (subX x) TP knT XQ4:=or_ok (on_ok (facts_ok hA (XQ3_ok hA hx) (all_cons q78_0_run (all_cons q78_1_run (all_cons q78_2_run (all_cons q78_3_run (all_cons q78_4_run (all_cons q78_5_run (all_cons q78_6_run (all_cons q78_7_run (all_cons q78_8_run (all_cons q78_9_run all_nil)))))))))))) (XQ3_ok hA hx)
theorem XQ5_ok:@RuleOk (subX x) TP knT XQ5:=or_ok (on_ok (facts_ok hA (XQ4_ok hA hx) (all_cons q43_0_run (all_cons q43_1_run (all_cons q43_2_run (all_cons q43_3_run (all_cons q43_4_run all_nil))))))) (XQ4_ok hA hx)
theorem XQ6_ok:@RuleOk (subX x) TP knT XQ6:=or_ok (on_ok (facts_ok hA (XQ5_ok hA hx) (all_cons q35_0_run (all_cons q35_1_run (all_cons q35_2_run (all_cons q35_3_run (all_cons q35_4_run (all_cons q35_5_run (all_cons q35_6_run (all_cons q35_7_run (all_cons q35_8_run (all_cons q35_9_run (all_cons q35_10_run (all_cons q35_11_run (all_cons q35_12_run (all_cons q35_13_run (all_cons q35_14_run (all_cons q35_15_run (all_cons q35_16_run (all_cons q35_17_run (all_cons q35_18_run (all_cons q35_19_run (all_cons q35_20_run (all_cons q35_21_run (all_cons q35_22_run (all_cons q35_23_run (all_cons q35_24_run (all_cons q35_25_run (all_cons q35_26_run (all_cons q35_27_run (all_cons q35_28_run (all_cons q35_29_run (all_cons q35_30_run (all_cons q35_31_run (all_cons q35_32_run (all_cons q35_33_run (all_cons q35_34_run (all_cons q35_35_run (all_cons q35_36_run (all_cons q35_37_run (all_cons q35_38_run (all_cons q35_39_run (all_cons q35_40_run (all_cons q35_41_run (all_cons q35_42_run (all_cons q35_43_run (all_cons q35_44_run (all_cons q35_45_run (all_cons q35_46_run (all_cons q35_47_run (all_cons q35_48_run (all_cons q35_49_run (all_cons q35_50_run (all_cons q35_51_run (all_cons q35_52_run (all_cons q35_53_run (all_cons q35_54_run (all_cons q35_55_run (all_cons q35_56_run (all_cons q35_57_run (all_cons q35_58_run (all_cons q35_59_run (all_cons q35_60_run (all_cons q35_61_run (all_cons q35_62_run (all_cons q35_63_run (all_cons q35_64_run (all_cons q35_65_run (all_cons q35_66_run (all_cons q35_67_run (all_cons q35_68_run (all_cons q35_69_run (all_cons q35_70_run (all_cons q35_71_run (all_cons q35_72_run (all_cons q35_73_run (all_cons q35_74_run (all_cons q35_75_run (all_cons q35_76_run (all_cons q35_77_run (all_cons q35_78_run (all_cons q35_79_run (all_cons q35_80_run (all_cons q35_81_run (all_cons q35_82_run all_nil))))))))))))))))))))))))))))))))))))))))))))))))))))))))))))))))))))))))))))))))))))) (XQ5_ok hA hx)
theorem XQ7_ok:@RuleOk (subX x) TP knT XQ7:=or_ok (on_ok (facts_ok hA (XQ6_ok hA hx) (all_cons q65_0_run (all_cons q65_1_run (all_cons q65_2_run (all_cons q65_3_run (all_cons q65_4_run (all_cons q65_5_run (all_cons q65_6_run (all_cons q65_7_run (all_cons q65_8_run all_nil))))))))))) (XQ6_ok hA hx)
theorem XQ8_ok:@RuleOk (subX x) TP knT XQ8:=or_ok (on_ok (facts_ok hA (XQ7_ok hA hx) (all_cons q149_0_run (all_cons q149_1_run (all_cons q149_2_run (all_cons q149_3_run (all_cons q149_4_run (all_cons q149_5_run (all_cons q149_6_run (all_cons q149_7_run (all_cons q149_8_run (all_cons q149_9_run (all_cons q149_10_run (all_cons q149_11_run (all_cons q149_12_run (all_cons q149_13_run (all_cons q149_14_run (all_cons q149_15_run (all_cons q149_16_run (all_cons q149_17_run (all_cons q149_18_run (all_cons q149_19_run (all_cons q149_20_run (all_cons q149_21_run (all_cons q149_22_run (all_cons q149_23_run (all_cons q149_24_run (all_cons q149_25_run (all_cons q149_26_run (all_cons q149_27_run (all_cons q149_28_run (all_cons q149_29_run (all_cons q149_30_run (all_cons q149_31_run (all_cons q149_32_run (all_cons q149_33_run (all_cons q149_34_run (all_cons q149_35_run (all_cons q149_36_run (all_cons q149_37_run (all_cons q149_38_run all_nil))))))))))))))))))))))))))))))))))))))))) (XQ7_ok hA hx)
theorem XQ9_ok:@RuleOk (subX x) TP knT XQ9:=or_ok (on_ok (st_ok hA (XQ8_ok hA hx) (all_cons q130_0_run (all_cons q130_1_run (all_cons q130_2_run (all_cons q130_3_run (all_cons q130_4_run (all_cons q130_5_run (all_cons q130_6_run (all_cons q130_7_run (all_cons q130_8_run (all_cons q130_9_run (all_cons q130_10_run (all_cons q130_11_run (all_cons q130_12_run (all_cons q130_13_run (all_cons q130_14_run (all_cons q130_15_run (all_cons q130_16_run (all_cons q130_17_run (all_cons q130_18_run (all_cons q130_19_run all_nil)))))))))))))))))))))) (XQ8_ok hA hx)
theorem XQ10_ok:@RuleOk (subX x) TP knT XQ10:=or_ok (on_ok (st_ok hA (XQ9_ok hA hx) (all_cons q131_0_run (all_cons q131_1_run (all_cons q131_2_run (all_cons q131_3_run (all_cons q131_4_run (all_cons q131_5_run (all_cons q131_6_run (all_cons q131_7_run (all_cons q131_8_run (all_cons q131_9_run (all_cons q131_10_run (all_cons q131_11_run (all_cons q131_12_run (all_cons q131_13_run (all_cons q131_14_run (all_cons q131_15_run (all_cons q131_16_run (all_cons q131_17_run (all_cons q131_18_run (all_cons q131_19_run (all_cons q131_20_run all_nil))))))))))))))))))))))) (XQ9_ok hA hx)
theorem XQ11_ok:@RuleOk (subX x) TP knT XQ11:=or_ok (on_ok (st_ok hA (XQ10_ok hA hx) (all_cons q128_0_run (all_cons q128_1_run (all_cons q128_2_run (all_cons q128_3_run (all_cons q128_4_run (all_cons q128_5_run (all_cons q128_6_run (all_cons q128_7_run (all_cons q128_8_run (all_cons q128_9_run all_nil)))))))))))) (XQ10_ok hA hx)
theorem XQ12_ok:@RuleOk (subX x) TP knT XQ12:=or_ok (on_ok (facts_ok hA (XQ11_ok hA hx) (all_cons q176_0_run (all_cons q176_1_run (all_cons q176_2_run (all_cons q176_3_run all_nil)))))) (XQ11_ok hA hx)
theorem XQ13_ok:@RuleOk (subX x) TP knT XQ13:=or_ok (on_ok (facts_ok hA (XQ12_ok hA hx) (all_cons q83_0_run (all_cons q83_1_run (all_cons q83_2_run (all_cons q83_3_run all_nil)))))) (XQ12_ok hA hx)
theorem XQ14_ok:@RuleOk (subX x) TP knT XQ14:=or_ok (on_ok (facts_ok hA (XQ13_ok hA hx) (all_cons q46_0_run (all_cons q46_1_run all_nil)))) (XQ13_ok hA hx)
theorem XQ15_ok:@RuleOk (subX x) TP knT XQ15:=or_ok (on_ok (facts_ok hA (XQ14_ok hA hx) (all_cons q94_0_run all_nil))) (XQ14_ok hA hx)
theorem XQ16_ok:@RuleOk (subX x) TP knT XQ16:=or_ok (on_ok (facts_ok hA (XQ15_ok hA hx) (all_cons q93_0_run all_nil))) (XQ15_ok hA hx)
theorem XQ17_ok:@RuleOk (subX x) TP knT XQ17:=or_ok (on_ok (facts_ok hA (XQ16_ok hA hx) (all_cons q44_0_run (all_cons q44_1_run (all_cons q44_2_run (all_cons q44_3_run (all_cons q44_4_run all_nil))))))) (XQ16_ok hA hx)
theorem XQ18_ok:@RuleOk (subX x) TP knT XQ18:=or_ok (on_ok (facts_ok hA (XQ17_ok hA hx) (all_cons q12_0_run all_nil))) (XQ17_ok hA hx)
theorem XQ19_ok:@RuleOk (subX x) TP knT XQ19:=or_ok (on_ok (facts_ok hA (XQ18_ok hA hx) (all_cons q11_0_run (all_cons q11_1_run (all_cons q11_2_run (all_cons q11_3_run (all_cons q11_4_run all_nil))))))) (XQ18_ok hA hx)
theorem XQ20_ok:@RuleOk (subX x) TP knT XQ20:=or_ok (on_ok (facts_ok hA (XQ19_ok hA hx) (all_cons q8_0_run (all_cons q8_1_run (all_cons q8_2_run all_nil))))) (XQ19_ok hA hx)
end
end Go.Proofs.YtepbfecmageleaaGreatDoor
namespace Go.Proofs.YtepbfecmageleaaGreatDoor
set_option maxRecDepth 100000
open Go
theorem q8_0_eq:q8_0 = ⟨8,[.p (.sl (steps0 rowH)),relP],.p bt⟩:=by kernel_rfl
theorem q8_1_eq:q8_1 = ⟨8,[.p (.sl (steps1 rowH)),relC 8 9 10],.p bt⟩:=by kernel_rfl
theorem q8_2_eq:q8_2 = ⟨8,[.p (.sl (steps2 rowH)),relC 6 7 8],.p bt⟩:=by kernel_rfl
theorem noH_mg (n:Int):noH (mgW n) = true:=by
  unfold mgW
  by_cases h:n = 0 <;> simp [h,noH,noHss,noHs]
theorem noH_sg (n:Int):noH (sgW n) = true:=by simp [sgW,noH]
section
variable {x:Nat→Int}
theorem nh0:noHAs [AV.p (.sl (steps0 (wh x))),relP] = true:=by simp [noHAs,noHA,noH,noHss,noHs,steps0,pts,rest0,madeS,rowS,nought,wh,rowW,noH_mg,noH_sg]
theorem nh1:noHAs [AV.p (.sl (steps1 (wh x))),relC 8 9 10] = true:=by simp [noHAs,noHA,noH,noHss,noHs,steps1,pts,rest0,rest1,madeS,rowS,nought,wh,rowW,noH_mg,noH_sg]
theorem nh2:noHAs [AV.p (.sl (steps2 (wh x))),relC 6 7 8] = true:=by simp [noHAs,noHA,noH,noHss,noHs,steps2,pts,rest2,madeS,rowS,nought,wh,rowW,noH_mg,noH_sg]
theorem sub_s0:[AV.p (.sl (steps0 rowH)),relP].map (@subA (subX x)) = [.p (.sl (steps0 (wh x))),relP]:=by
  simp only [List.map_cons,List.map_nil,subA,subAs,subP,subPss,subPs,steps0,pts,rest0,madeS,rowS,nought,rowH,sub_even,sub_odd,wh,rowW,List.cons_append,List.nil_append]
theorem sub_s1:[AV.p (.sl (steps1 rowH)),relC 8 9 10].map (@subA (subX x)) = [.p (.sl (steps1 (wh x))),relC 8 9 10]:=by
  simp only [List.map_cons,List.map_nil,subA,subAs,subP,subPss,subPs,steps1,pts,rest0,rest1,madeS,rowS,nought,rowH,sub_even,sub_odd,wh,rowW,List.cons_append,List.nil_append]
theorem sub_s2:[AV.p (.sl (steps2 rowH)),relC 6 7 8].map (@subA (subX x)) = [.p (.sl (steps2 (wh x))),relC 6 7 8]:=by
  simp only [List.map_cons,List.map_nil,subA,subAs,subP,subPss,subPs,steps2,pts,rest2,madeS,rowS,nought,rowH,sub_even,sub_odd,wh,rowW,List.cons_append,List.nil_append]
variable (hA:SoundAll TP knT) (hx:∀ k,(x k).natAbs ≤ 9)
include hA hx
theorem sim80:@CallSim noSub TP knT 8 [.p (.sl (steps0 (wh x))),relP] [] (.p bt,[]):=by
  have h:=@callSim_put TP knT (subX x) _ _ _ (Fact.sim hA (XQ19_ok hA hx) q8_0_run)
  rw [q8_0_eq] at h
  have h:@CallSim (subX x) TP knT 8 ([AV.p (.sl (steps0 rowH)),relP].map (@subA (subX x))) [] (.p bt,[]):=h
  rw [sub_s0] at h
  exact callSim_any nh0 rfl h
theorem sim81:@CallSim noSub TP knT 8 [.p (.sl (steps1 (wh x))),relC 8 9 10] [] (.p bt,[]):=by
  have h:=@callSim_put TP knT (subX x) _ _ _ (Fact.sim hA (XQ19_ok hA hx) q8_1_run)
  rw [q8_1_eq] at h
  have h:@CallSim (subX x) TP knT 8 ([AV.p (.sl (steps1 rowH)),relC 8 9 10].map (@subA (subX x))) [] (.p bt,[]):=h
  rw [sub_s1] at h
  exact callSim_any nh1 rfl h
theorem sim82:@CallSim noSub TP knT 8 [.p (.sl (steps2 (wh x))),relC 6 7 8] [] (.p bt,[]):=by
  have h:=@callSim_put TP knT (subX x) _ _ _ (Fact.sim hA (XQ19_ok hA hx) q8_2_run)
  rw [q8_2_eq] at h
  have h:@CallSim (subX x) TP knT 8 ([AV.p (.sl (steps2 rowH)),relC 6 7 8].map (@subA (subX x))) [] (.p bt,[]):=h
  rw [sub_s2] at h
  exact callSim_any nh2 rfl h
theorem sim7:@CallSim noSub TP knT 7 [] [] (.p bt,[]):=callSim_any (S:=subX x) rfl rfl (Fact.sim hA (XQ20_ok hA hx) q7_0_run)
theorem X3_ok:@RuleOk noSub TP knT (X3 x):=fun g args H r h=>by
  unfold X3 at h
  split at h
  · rename_i q
    obtain ⟨rfl,rfl,rfl⟩:=q
    cases h
    exact SFact.sim hA (S:=noSub) (X:=X0) (e:=midF) noX_ok midF_run
  · split at h
    · rename_i q
      obtain ⟨rfl,rfl,rfl⟩:=q
      cases h
      exact sim7 hA hx
    · split at h
      · rename_i q
        obtain ⟨rfl,q,rfl⟩:=q
        cases h
        rcases q with rfl | rfl | rfl
        · exact sim80 hA hx
        · exact sim81 hA hx
        · exact sim82 hA hx
      · split at h
        · rename_i q
          obtain ⟨rfl,rfl⟩:=q
          split at h
          · rename_i n _ _ _
            split at h
            · rename_i hn
              cases h
              exact Fact.sim hA (S:=noSub) (X:=X0) (e:=wF n) noX_ok (allW_get wF_run hn)
            · cases h
          · cases h
        · cases h
end
theorem xs_bd (a b c:Int):∀ k,(xs a b c k).natAbs ≤ 9:=fun k=>by
  unfold xs
  split
  · exact e19_bd _
  · exact e17_bd _
  · exact e19_bd _
  · exact e17_bd _
  · exact e19_bd _
  · exact e17_bd _
theorem sim3 (hA:SoundAll TP knT) (a b c:Int):∃ H,@CallSim noSub TP knT 3 [int a,int b,int c] [] (boo true,H):=by
  have h:=loop3 a b c
  unfold WF at h
  cases hc:call (X3 (xs a b c)) Gam 3 [int a,int b,int c] [] with
  | none=>rw [hc] at h; exact h.elim
  | some r =>
    rw [hc] at h
    have h:r.1 = boo true:=h
    have:=hA noSub _ (X3_ok hA (xs_bd a b c)) _ _ _ _ hc
    exact ⟨r.2,by rw [← h]; exact this⟩
end Go.Proofs.YtepbfecmageleaaGreatDoor
