/- The statement ProverMiddles (module straightedge, Rows.ProverMiddlesCardSaid): for every three integers the call returns true and leaves its arguments alone; the five listed package variables are laid as the text of the program lays them (the tied card). No other condition. The whole proof: an evaluator of the code of the program is proved sound, its answers are found by the kernel and by walks. -/
import Derived.Test.YtepbfecmageleaaGreatDoorRows
import Derived.Test.YtepbfecmageleaaGreatDoorCards
import Derived.Test.YtepbfecmageleaaGreatDoorTie
import Derived.ProofKit
import Derived.Lay
import Derived.MakeChecks
import Derived.SevenTiedAt
import Derived.Test.YtepbfecmageleaaGreatDoorP42
import Derived.Test.YtepbfecmageleaaGreatDoorP43
set_option linter.all false
namespace Go.Proofs.YtepbfecmageleaaGreatDoor
open Go.Proofs.YtepbfecmageleaaGreatDoor Go Go.ChangeShapes Go.WideShapes Go.ChangeAt Go.RowKit
theorem ownKnobNone:ownKnob Tryz.prog.godebug = none:=by kernel_rfl
set_option maxRecDepth 100000 in
theorem lifted3 (os:Os) (started:os.Started) (H:Type) (enc:TypeId×Value→H) :
    ReturnsInHanded {} Tryz.checked os 3 .any (fun w args=>(Rows.proverMiddlesSpec.pre enc Tryz.prog Tryz.f3 [] false w args∧laidMetH Tryz.prog Rows.proverMiddlesRow.laid w)∧sizedMet enc Tryz.prog Tryz.f3 (OpenSpec.ofChange Rows.proverMiddlesSpec) false w args)
      (Rows.proverMiddlesSpec.post enc Tryz.prog Tryz.f3 false true false false):=by
  refine returnsInHanded_of_change_and (C:=Tryz.checked) (X:=fun w _=>laidMetH Tryz.prog Rows.proverMiddlesRow.laid w) (fun _ _ _ hh h=>h.of_heap hh) ownKnobNone started (by kernel_rfl) Tryz.func3
    (ChangeSpec.witness_shaped (enc:=enc) (C:=Tryz.checked) (os:=os) (X:=fun w _=>laidMetH Tryz.prog Rows.proverMiddlesRow.laid w) false (World.laidAll Tryz.prog os Rows.proverMiddlesRow.laid) #[.int .i64 0,.int .i64 0,.int .i64 0] 8 (World.laidAll_os _ _ _)
      (World.shaped_of_ZipB (by kernel_rfl) (by kernel_rfl)) (by kernel_rfl) (by kernel_rfl) (by kernel_rfl)
      (by rw [MakeChecks.laidMetH_plain _ _ _ (by kernel_rfl)]; exact laidMet_laidAll _ (by kernel_rfl) (by kernel_rfl))) ?_
  intro W base args ds gs before hval0 hW _ _ _ _
  have hval:∀ (j:Nat) t v,Tryz.f3.params[j]? = some t→args[j]? = some v→Value.okWide Tryz.prog W .any base t v:=hval0
  have hW':=hW
  obtain ⟨p,q,hA0,hV,rfl,_,_⟩:=hW
  have hA:DataW.TrodAll enc Tryz.prog W 0 (fun _=>true) true Tryz.f3.params.toList args.toList ds p:=hA0
  rw [Tryz.params3] at hA hval
  obtain ⟨v0,v1,v2,d0,d1,d2,p0,p1,p2,rfl,rfl,rfl,h0,h1,h2⟩:=trodAll_three hA
  obtain ⟨rfl,rfl⟩:=trodVars_none hV
  obtain ⟨x,rfl,rfl,rfl,wx⟩:=open_int Tryz.underlying3 (hval 0 3 v0 rfl rfl) h0
  obtain ⟨y,rfl,rfl,rfl,wy⟩:=open_int Tryz.underlying3 (hval 1 3 v1 rfl rfl) h1
  obtain ⟨z,rfl,rfl,rfl,wz⟩:=open_int Tryz.underlying3 (hval 2 3 v2 rfl rfl) h2
  simp only [List.append_nil] at hW'
  refine (law3 x y z W).mono fun e W' ⟨he,hb⟩=>?_
  subst he
  exact ⟨_,rfl,_,_,_,[],[],[],hW',trodAll_mk1 (shut_bool Tryz.underlying4 _),trodAll_mk3 (shut_int Tryz.underlying3 wx) (shut_int Tryz.underlying3 wy) (shut_int Tryz.underlying3 wz),rfl,hb.frame _,fun h=>by cases h⟩
theorem named3:Tryz.prog.funcNamed "straightedge/straightedgelaw23.ProverMiddles" = some 3:=by kernel_rfl
theorem inst3:Tryz.f3.isInstance Tryz.prog Rows.proverMiddlesRow.origin Rows.proverMiddlesRow.targs:=of_decide_eq_true (by kernel_rfl)
theorem wrap3:Tryz.f3.isWrapper Tryz.prog Rows.proverMiddlesRow.wrapper Rows.proverMiddlesRow.mainSum:=by
  unfold Func.isWrapper
  first | (rw [if_pos (by decide +kernel)]; kernel_rfl) | (rw [if_neg (by decide +kernel)]; exact ⟨rfl,rfl⟩)
theorem holds3:Rows.ProverMiddlesSaid :=
  OpenClaim.holds_of_wide 3 Tryz.f3 rfl rfl rfl rfl rfl rfl rfl ⟨rfl,rfl,rfl,rfl,rfl⟩ rfl rfl rfl rfl rfl named3 Tryz.func3 joined3 inst3 wrap3 (fun os started H enc _=>lifted3 os started H enc)
theorem text3:Rows.proverMiddlesRow.wfByText (OpenSpec.ofChange Rows.proverMiddlesSpec) = true:=by kernel_rfl
theorem mainIs3:Tryz.prog.mainIs = some (true,("8b3b97eb671d54ed73fa3d46b62285735ea83279f5a216e940a60deda091238f":String).toList):=by kernel_rfl
theorem looks3:true = Tryz.prog.looks []:=by kernel_rfl
theorem stand3:([3,3,3].all fun u=>!Tryz.prog.wantsStandIn u) = true:=by kernel_rfl
theorem goes3:false = Rows.proverMiddlesRow.goesBy Tryz.prog:=by kernel_rfl
theorem card3:Rows.ProverMiddlesCardSaid :=
  Claim7.holds_tied_plain_at .later [] [.data,.data,.data,.sentinel,.sentinel] true (true, "8b3b97eb671d54ed73fa3d46b62285735ea83279f5a216e940a60deda091238f") true holds3 (fun _ h=>by cases h) text3 (fun _ h=>by cases h) proverMiddles_row_tie rfl ⟨rfl,rfl⟩ mainIs3 rfl
    (fun f fn hf hfn=>by
      obtain rfl:f = 3:=Option.some.inj (named3.symm.trans hf) |>.symm
      obtain rfl:fn = Tryz.f3:=(Option.some.inj (Tryz.func3.symm.trans hfn)).symm
      exact ⟨looks3,fun j t ht=>by
        rw [Tryz.params3] at ht
        have hm:t ∈ [3,3,3]:=by simpa using Array.mem_of_getElem? ht
        exact (show Tryz.prog.wantsStandIn t = false by simpa using List.all_eq_true.1 stand3 t hm)⟩)
    goes3
#print axioms card3
end Go.Proofs.YtepbfecmageleaaGreatDoor
