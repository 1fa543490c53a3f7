/- FinderAltitudes (module straightedge, statement Rows.FinderAltitudesCardSaid): for every six int8 numbers and every choice of a prime the call of straightedgelaw24.FinderAltitudes returns true and leaves its arguments alone; the six listed package variables are laid as the text of the program lays them (the tied card). No other condition. The whole proof: an evaluator of the code of the program is proved sound, its answers are found by the kernel (the six numbers as values given elsewhere), multipoly.collect, the reference's test of a prime and the law's own function by walks. -/
import Derived.Test.YtchgldaddcolhaaGreatDoorRows
import Derived.Test.YtchgldaddcolhaaGreatDoorCards
import Derived.Test.YtchgldaddcolhaaGreatDoorTie
import Derived.ProofKit
import Derived.Lay
import Derived.MakeChecks
import Derived.SevenTiedAt
import Derived.Test.YtchgldaddcolhaaGreatDoorP45
import Derived.Test.YtchgldaddcolhaaGreatDoorP46
import Derived.Test.YtchgldaddcolhaaGreatDoorP47
set_option linter.all false
namespace Go.Proofs.YtchgldaddcolhaaGreatDoor
open Go.Proofs.YtchgldaddcolhaaGreatDoor Go Go.ChangeShapes Go.WideShapes Go.ChangeAt Go.RowKit
theorem ownKnobNone:ownKnob Tryz.prog.godebug = none:=by kernel_rfl
section
variable{H:Type}{enc:TypeId×Value→H}{P:Program}{w:World}{base:Nat}{spare:Nat→Bool}{held:Bool}
theorem trodAll_seven{t0 t1 t2 t3 t4 t5 t6:TypeId}{args:Array Value}{ds:List (DataW H)}{ps:List MemPlace}(h:DataW.TrodAll enc P w base spare held [t0,t1,t2,t3,t4,t5,t6] args.toList ds ps) :
  ∃ v0 v1 v2 v3 v4 v5 v6 d0 d1 d2 d3 d4 d5 d6 p0 p1 p2 p3 p4 p5 p6,args = #[v0,v1,v2,v3,v4,v5,v6]∧ds = [d0,d1,d2,d3,d4,d5,d6]∧ps = p0++p1++p2++p3++p4++p5++p6 ∧
   DataW.Trod enc P w base spare held t0 v0 d0 p0∧DataW.Trod enc P w base spare held t1 v1 d1 p1∧DataW.Trod enc P w base spare held t2 v2 d2 p2∧DataW.Trod enc P w base spare held t3 v3 d3 p3∧DataW.Trod enc P w base spare held t4 v4 d4 p4∧DataW.Trod enc P w base spare held t5 v5 d5 p5∧DataW.Trod enc P w base spare held t6 v6 d6 p6:=by
 obtain⟨v0,r0,d0,s0,p0,q0,hargs,rfl,rfl,h0,z0⟩:=trodAll_cons h
 obtain⟨v1,r1,d1,s1,p1,q1,rfl,rfl,rfl,h1,z1⟩:=trodAll_cons z0
 obtain⟨v2,r2,d2,s2,p2,q2,rfl,rfl,rfl,h2,z2⟩:=trodAll_cons z1
 obtain⟨v3,r3,d3,s3,p3,q3,rfl,rfl,rfl,h3,z3⟩:=trodAll_cons z2
 obtain⟨v4,r4,d4,s4,p4,q4,rfl,rfl,rfl,h4,z4⟩:=trodAll_cons z3
 obtain⟨v5,r5,d5,s5,p5,q5,rfl,rfl,rfl,h5,z5⟩:=trodAll_cons z4
 obtain⟨v6,r6,d6,s6,p6,q6,rfl,rfl,rfl,h6,z6⟩:=trodAll_cons z5
 obtain⟨rfl,rfl,rfl⟩:=trodAll_nil z6
 exact⟨v0,v1,v2,v3,v4,v5,v6,d0,d1,d2,d3,d4,d5,d6,p0,p1,p2,p3,p4,p5,p6,by cases args; simp_all,rfl,by simp,h0,h1,h2,h3,h4,h5,h6⟩
theorem trodAll_mkc{t:TypeId}{ts:List TypeId}{v:Value}{vs:List Value}{d:DataW H}{ds:List (DataW H)}{p q:List MemPlace}(h:DataW.Trod enc P w base spare held t v d p)(h':DataW.TrodAll enc P w base spare held ts vs ds q):DataW.TrodAll enc P w base spare held (t::ts) (v::vs) (d::ds) (p++q):=⟨p,q,h,h',rfl⟩
end
set_option maxRecDepth 100000 in
theorem lifted3 (os:Os) (started:os.Started) (H:Type) (enc:TypeId×Value→H) :
  ReturnsInHanded {} Tryz.checked os 3 .any (fun w args=>(Rows.finderAltitudesSpec.pre enc Tryz.prog Tryz.f3 [] false w args∧laidMetH Tryz.prog Rows.finderAltitudesRow.laid w)∧sizedMet enc Tryz.prog Tryz.f3 (OpenSpec.ofChange Rows.finderAltitudesSpec) false w args)
   (Rows.finderAltitudesSpec.post enc Tryz.prog Tryz.f3 false true false false):=by
 refine returnsInHanded_of_change_and (C:=Tryz.checked) (X:=fun w _=>laidMetH Tryz.prog Rows.finderAltitudesRow.laid w) (fun _ _ _ hh h=>h.of_heap hh) ownKnobNone started (by kernel_rfl) Tryz.func3
  (ChangeSpec.witness_shaped (enc:=enc) (C:=Tryz.checked) (os:=os) (X:=fun w _=>laidMetH Tryz.prog Rows.finderAltitudesRow.laid w) false (World.laidAll Tryz.prog os Rows.finderAltitudesRow.laid) #[.int .i8 0,.int .i8 0,.int .i8 0,.int .i8 0,.int .i8 0,.int .i8 0,.int .u8 0] 8 (World.laidAll_os _ _ _)
   (World.shaped_of_ZipB (by kernel_rfl) (by kernel_rfl)) (by kernel_rfl) (by kernel_rfl) (by kernel_rfl)
   (by rw[MakeChecks.laidMetH_plain _ _ _ (by kernel_rfl)]; exact laidMet_laidAll _ (by kernel_rfl) (by kernel_rfl))) ?_
 intro W base args ds gs before hval0 hW _ _ hlaid _
 have hval:∀ (j:Nat) t v,Tryz.f3.params[j]? = some t→args[j]? = some v→Value.okWide Tryz.prog W .any base t v:=hval0
 have hW':=hW
 obtain⟨p,q,hA0,hV,rfl,_,_⟩:=hW
 have hA:DataW.TrodAll enc Tryz.prog W 0 (fun _=>true) true Tryz.f3.params.toList args.toList ds p:=hA0
 rw[Tryz.params3]at hA hval
 obtain⟨v0,v1,v2,v3,v4,v5,v6,d0,d1,d2,d3,d4,d5,d6,p0,p1,p2,p3,p4,p5,p6,rfl,rfl,rfl,h0,h1,h2,h3,h4,h5,h6⟩:=trodAll_seven hA
 obtain⟨rfl,rfl⟩:=trodVars_none hV
 obtain⟨x0,rfl,rfl,rfl,w0⟩:=open_int Tryz.underlying22 (hval 0 22 v0 rfl rfl) h0
 obtain⟨x1,rfl,rfl,rfl,w1⟩:=open_int Tryz.underlying22 (hval 1 22 v1 rfl rfl) h1
 obtain⟨x2,rfl,rfl,rfl,w2⟩:=open_int Tryz.underlying22 (hval 2 22 v2 rfl rfl) h2
 obtain⟨x3,rfl,rfl,rfl,w3⟩:=open_int Tryz.underlying22 (hval 3 22 v3 rfl rfl) h3
 obtain⟨x4,rfl,rfl,rfl,w4⟩:=open_int Tryz.underlying22 (hval 4 22 v4 rfl rfl) h4
 obtain⟨x5,rfl,rfl,rfl,w5⟩:=open_int Tryz.underlying22 (hval 5 22 v5 rfl rfl) h5
 obtain⟨n,rfl,rfl,rfl,w6⟩:=open_int Tryz.underlying5 (hval 6 5 v6 rfl rfl) h6
 simp only[List.append_nil]at hW'
 have i8b:∀ z:Int,(Lit.int .i8 z).wf = true→-128 ≤ z∧z ≤ 127:=fun z hz=>by
  simp[Lit.wf]at hz
  have e1:IntKind.i8.min = -128:=by decide
  have e2:IntKind.i8.max = 127:=by decide
  omega
 have u8b:∀ z:Int,(Lit.int .u8 z).wf = true→0 ≤ z∧z < 256:=fun z hz=>by
  simp[Lit.wf]at hz
  have e1:IntKind.u8.min = 0:=by decide
  have e2:IntKind.u8.max = 255:=by decide
  omega
 let x:Nat→Int:=fun k=>match k with | 0=>x0 | 1=>x1 | 2=>x2 | 3=>x3 | 4=>x4 | _=>x5
 have hx:∀ k,-128 ≤ x k∧x k ≤ 127:=fun k=>match k with
  | 0=>i8b _ w0 | 1=>i8b _ w1 | 2=>i8b _ w2 | 3=>i8b _ w3 | 4=>i8b _ w4 | _ + 5=>i8b _ w5
 refine (law3 x hx (u8b n w6).1 (u8b n w6).2 W (bases_of hlaid)).mono fun e W' ⟨he,hb⟩=>?_
 subst he
 exact⟨_,rfl,_,_,_,[],[],[],hW',trodAll_mk1 (shut_bool Tryz.underlying4 _),trodAll_mkc (shut_int Tryz.underlying22 w0) (trodAll_mkc (shut_int Tryz.underlying22 w1) (trodAll_mkc (shut_int Tryz.underlying22 w2) (trodAll_mkc (shut_int Tryz.underlying22 w3) (trodAll_mkc (shut_int Tryz.underlying22 w4) (trodAll_mkc (shut_int Tryz.underlying22 w5) (trodAll_mk1 (shut_int Tryz.underlying5 w6))))))),rfl,hb.frame _,fun h=>by cases h⟩
theorem named3:Tryz.prog.funcNamed "straightedge/straightedgelaw24.FinderAltitudes" = some 3:=by kernel_rfl
theorem inst3:Tryz.f3.isInstance Tryz.prog Rows.finderAltitudesRow.origin Rows.finderAltitudesRow.targs:=of_decide_eq_true (by kernel_rfl)
theorem wrap3:Tryz.f3.isWrapper Tryz.prog Rows.finderAltitudesRow.wrapper Rows.finderAltitudesRow.mainSum:=by
 unfold Func.isWrapper
 first | (rw[if_pos (by decide +kernel)]; kernel_rfl) | (rw[if_neg (by decide +kernel)]; exact⟨rfl,rfl⟩)
theorem holds3:Rows.FinderAltitudesSaid :=
 OpenClaim.holds_of_wide 3 Tryz.f3 rfl rfl rfl rfl rfl rfl rfl ⟨rfl,rfl,rfl,rfl,rfl⟩ rfl rfl rfl rfl rfl named3 Tryz.func3 joined3 inst3 wrap3 (fun os started H enc _=>lifted3 os started H enc)
theorem text3:Rows.finderAltitudesRow.wfByText (OpenSpec.ofChange Rows.finderAltitudesSpec) = true:=by kernel_rfl
theorem mainIs3:Tryz.prog.mainIs = some (true,("66d450efd2cb8da67f4f70377dd4770f6b306269a50a7925e91c5b6b6c334a1d":String).toList):=by kernel_rfl
theorem looks3:true = Tryz.prog.looks []:=by kernel_rfl
theorem stand3:([22,22,22,22,22,22,5].all fun u=>!Tryz.prog.wantsStandIn u) = true:=by kernel_rfl
theorem goes3:false = Rows.finderAltitudesRow.goesBy Tryz.prog:=(goesAt_none (by kernel_rfl) _ _).symm
theorem card3:Rows.FinderAltitudesCardSaid :=
 Claim7.holds_tied_plain_at .later [] [.data,.data,.data,.sentinel,.sentinel,.data] true (true, "66d450efd2cb8da67f4f70377dd4770f6b306269a50a7925e91c5b6b6c334a1d") true holds3 (fun _ h=>by cases h) text3 (fun _ h=>by cases h) finderAltitudes_row_tie rfl ⟨rfl,rfl⟩ mainIs3 rfl
  (fun f fn hf hfn=>by
   obtain rfl:f = 3:=Option.some.inj (named3.symm.trans hf) |>.symm
   obtain rfl:fn = Tryz.f3:=(Option.some.inj (Tryz.func3.symm.trans hfn)).symm
   exact⟨looks3,fun j t ht=>by
    rw[Tryz.params3]at ht
    have hm:t ∈ [22,22,22,22,22,22,5]:=by simpa using Array.mem_of_getElem? ht
    exact (show Tryz.prog.wantsStandIn t = false by simpa using List.all_eq_true.1 stand3 t hm)⟩)
  goes3
#print axioms card3
end Go.Proofs.YtchgldaddcolhaaGreatDoor
