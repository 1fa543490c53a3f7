/- The exercise ExerciseMiddle (module straightedge, statement Rows.ExerciseMiddleCardSaid): for every three integers the call returns true and leaves its arguments alone; the five listed package variables are laid as the text of the program lays them (the tied card). No other condition. The whole proof: an evaluator of the code of the program is proved sound, its answers are found by the kernel and by walks. -/
import Derived.Test.YtjkdcddpicndgaaGreatDoorRows
import Derived.Test.YtjkdcddpicndgaaGreatDoorCards
import Derived.Test.YtjkdcddpicndgaaGreatDoorTie
import Derived.ProofKit
import Derived.Lay
import Derived.MakeChecks
import Derived.SevenTiedAt
import Derived.Test.YtjkdcddpicndgaaGreatDoorP28
import Derived.Test.YtjkdcddpicndgaaGreatDoorP29
set_option linter.all false
namespace Go.Proofs.YtjkdcddpicndgaaGreatDoor
open Go Go.ChangeShapes Go.WideShapes Go.ChangeAt Go.RowKit
theorem ownKnobNone:ownKnob Tryz.prog.godebug = none:=by kernel_rfl
set_option maxRecDepth 100000 in
theorem lifted6 (os:Os) (started:os.Started) (H:Type) (enc:TypeId×Value→H) :
    ReturnsInHanded {} Tryz.checked os 6 .any (fun w args=>(Rows.exerciseMiddleSpec.pre enc Tryz.prog Tryz.f6 [] false w args∧laidMetH Tryz.prog Rows.exerciseMiddleRow.laid w)∧sizedMet enc Tryz.prog Tryz.f6 (OpenSpec.ofChange Rows.exerciseMiddleSpec) false w args)
      (Rows.exerciseMiddleSpec.post enc Tryz.prog Tryz.f6 false true false false):=by
  refine returnsInHanded_of_change_and (C:=Tryz.checked) (X:=fun w _=>laidMetH Tryz.prog Rows.exerciseMiddleRow.laid w) (fun _ _ _ hh h=>h.of_heap hh) ownKnobNone started (by kernel_rfl) Tryz.func6
    (ChangeSpec.witness_shaped (enc:=enc) (C:=Tryz.checked) (os:=os) (X:=fun w _=>laidMetH Tryz.prog Rows.exerciseMiddleRow.laid w) false (World.laidAll Tryz.prog os Rows.exerciseMiddleRow.laid) #[.int .i64 0,.int .i64 0,.int .i64 0] 8 (World.laidAll_os _ _ _)
      (World.shaped_of_ZipB (by kernel_rfl) (by kernel_rfl)) (by kernel_rfl) (by kernel_rfl) (by kernel_rfl)
      (by rw [MakeChecks.laidMetH_plain _ _ _ (by kernel_rfl)]; exact laidMet_laidAll _ (by kernel_rfl) (by kernel_rfl))) ?_
  intro W base args ds gs before hval0 hW _ _ _ _
  have hval:∀ (j:Nat) t v,Tryz.f6.params[j]? = some t→args[j]? = some v→Value.okWide Tryz.prog W .any base t v:=hval0
  have hW':=hW
  obtain ⟨p,q,hA0,hV,rfl,_,_⟩:=hW
  have hA:DataW.TrodAll enc Tryz.prog W 0 (fun _=>true) true Tryz.f6.params.toList args.toList ds p:=hA0
  rw [Tryz.params6] at hA hval
  obtain ⟨v0,v1,v2,d0,d1,d2,p0,p1,p2,rfl,rfl,rfl,h0,h1,h2⟩:=trodAll_three hA
  obtain ⟨rfl,rfl⟩:=trodVars_none hV
  obtain ⟨x,rfl,rfl,rfl,wx⟩:=open_int Tryz.underlying3 (hval 0 3 v0 rfl rfl) h0
  obtain ⟨y,rfl,rfl,rfl,wy⟩:=open_int Tryz.underlying3 (hval 1 3 v1 rfl rfl) h1
  obtain ⟨z,rfl,rfl,rfl,wz⟩:=open_int Tryz.underlying3 (hval 2 3 v2 rfl rfl) h2
  simp only [List.append_nil] at hW'
  refine (law6 x y z W).mono fun e W' ⟨he,hb⟩=>?_
  subst he
  exact ⟨_,rfl,_,_,_,[],[],[],hW',trodAll_mk1 (shut_bool Tryz.underlying4 _),trodAll_mk3 (shut_int Tryz.underlying3 wx) (shut_int Tryz.underlying3 wy) (shut_int Tryz.underlying3 wz),rfl,hb.frame _,fun h=>by cases h⟩
theorem named6:Tryz.prog.funcNamed "straightedge/straightedgelaw33.ExerciseMiddle" = some 6:=by kernel_rfl
theorem inst6:Tryz.f6.isInstance Tryz.prog Rows.exerciseMiddleRow.origin Rows.exerciseMiddleRow.targs:=of_decide_eq_true (by kernel_rfl)
theorem wrap6:Tryz.f6.isWrapper Tryz.prog Rows.exerciseMiddleRow.wrapper Rows.exerciseMiddleRow.mainSum:=by
  unfold Func.isWrapper
  first | (rw [if_pos (by decide +kernel)]; kernel_rfl) | (rw [if_neg (by decide +kernel)]; exact ⟨rfl,rfl⟩)
theorem holds6:Rows.ExerciseMiddleSaid :=
  OpenClaim.holds_of_wide 6 Tryz.f6 rfl rfl rfl rfl rfl rfl rfl ⟨rfl,rfl,rfl,rfl,rfl⟩ rfl rfl rfl rfl rfl named6 Tryz.func6 joined6 inst6 wrap6 (fun os started H enc _=>lifted6 os started H enc)
theorem text6:Rows.exerciseMiddleRow.wfByText (OpenSpec.ofChange Rows.exerciseMiddleSpec) = true:=by kernel_rfl
theorem mainIs6:Tryz.prog.mainIs = some (true,("06fda45329d6df2028705f0111d4981572102358aaffbb03fbe47c4a0f39751b":String).toList):=by kernel_rfl
theorem looks6:true = Tryz.prog.looks []:=by kernel_rfl
theorem stand6:([3,3,3].all fun u=>!Tryz.prog.wantsStandIn u) = true:=by kernel_rfl
theorem goes6:false = Rows.exerciseMiddleRow.goesBy Tryz.prog:=by kernel_rfl
theorem card6:Rows.ExerciseMiddleCardSaid :=
  Claim7.holds_tied_plain_at .later [] [.data,.data,.data,.sentinel,.sentinel] true (true, "06fda45329d6df2028705f0111d4981572102358aaffbb03fbe47c4a0f39751b") true holds6 (fun _ h=>by cases h) text6 (fun _ h=>by cases h) exerciseMiddle_row_tie rfl ⟨rfl,rfl⟩ mainIs6 rfl
    (fun f fn hf hfn=>by
      obtain rfl:f = 6:=Option.some.inj (named6.symm.trans hf) |>.symm
      obtain rfl:fn = Tryz.f6:=(Option.some.inj (Tryz.func6.symm.trans hfn)).symm
      exact ⟨looks6,fun j t ht=>by
        rw [Tryz.params6] at ht
        have hm:t ∈ [3,3,3]:=by simpa using Array.mem_of_getElem? ht
        exact (show Tryz.prog.wantsStandIn t = false by simpa using List.all_eq_true.1 stand6 t hm)⟩)
    goes6
#print axioms card6
end Go.Proofs.YtjkdcddpicndgaaGreatDoor
