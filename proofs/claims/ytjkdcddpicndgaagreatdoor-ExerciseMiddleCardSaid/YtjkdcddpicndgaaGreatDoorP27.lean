/- Part of the proof of Rows.ExerciseMiddleCardSaid: EvP7, EvP8, EvP9. -/
import Derived.Test.YtjkdcddpicndgaaGreatDoorP26
set_option linter.all false
namespace Go.Proofs.YtjkdcddpicndgaaGreatDoor
set_option maxRecDepth 100000
open Go
section
variable {P:Program} {kn:TypeId→Bool} (hA:SoundAll P kn)
include hA
theorem right1_sim {x y a b v:Int} (hx:x.natAbs ≤ 9) (hy:y.natAbs ≤ 9) (hxa:(x + a).natAbs ≤ 9) (hyb:(y + b).natAbs ≤ 9) (hv0:v.natAbs ≤ 9) (hne:a ≠ 0∨b ≠ 0) :
    @CallSim noSub P kn 12 (argsR x y (x + a) (y + b) v) [] (.tup [.p bt,.p (j 0)],[]):=by
  have h0:=hA.zero
  obtain ⟨d,hd⟩:∃ d:Int,d = a * a + b * b:=⟨_,rfl⟩
  have ha9:a.natAbs ≤ 18:=by omega
  have hb9:b.natAbs ≤ 18:=by omega
  have sa:=sq_le ha9
  have sb:=sq_le hb9
  have hdn:d = ((a.natAbs * a.natAbs + b.natAbs * b.natAbs:Nat):Int):=by
    rw [hd,Int.natCast_add,Int.natCast_mul,Int.natCast_mul,Int.natAbs_mul_self',Int.natAbs_mul_self']
  have hd0:d ≠ 0:=by
    rw [hd]
    rcases hne with h | h
    · have:=sq_pos h; omega
    · have:=sq_pos h; omega
  have hdd:d * d ≤ 648 * 648∧0 ≤ d * d:=by
    have h1:0 ≤ d:=by omega
    have h2:d ≤ 648:=by omega
    exact ⟨Int.mul_le_mul h2 h2 h1 (by decide),Int.mul_nonneg h1 h1⟩
  have h12:(12 * d * d).natAbs ≤ 5038848:=by rw [Int.mul_assoc]; omega
  have hdd0:d * d ≠ 0:=Int.mul_ne_zero hd0 hd0
  let s:=val1 x y a b v d
  have hv:∀ k,(s.v k).natAbs ≤ vb k:=fun k=>by
    match k with
    | 0=>exact hx
    | 1=>exact hy
    | 2=>exact hxa
    | 3=>exact hyb
    | 4=>exact hv0
    | 5=>exact h12
    | n + 6=>exact Nat.le_refl _
  have hR:1 ≤ vb 5:=by decide
  have hRm:vb 5 < mostZ:=by decide
  have hq:=eqs1 x y a b v d hd
  have hT:=table_known h0 hR hRm hv T1_chk hq
  have hk:Known3 s LB1.1 LB1.2:=table_end h0 hR hRm hv ⟨rfl,fun m hm=>by simp at hm⟩ T1_chk hq
  have hN:=num_ok h0 hv vb_lt (num_bd hk LB1_ok.1.2 LB1_ok.2 fun n hn=>by
    rw [LB1_ok.1.1] at hn
    show (reg1 x y a b v d).getD n [0] = [0]
    have hl:(reg1 x y a b v d).length = 179:=rfl
    rw [List.getD_eq_getElem?_getD,List.getElem?_eq_none (by omega)]
    rfl)
  have hS:@RuleOk s.sub P kn (sgX S1):=sg_ok h0 hR hRm hv hk (by decide +kernel) (by
    refine all_cons ?_ (all_cons ?_ (all_cons ?_ (all_cons ?_ (all_cons ?_ all_nil))))
    · have e:(Sg.mk [] (.V 5) 1).val s LB1.1 = sgnZ (12 * d * d):=by kernel_rfl
      rw [e,Int.mul_assoc]
      unfold sgnZ
      rw [if_neg (by omega),if_neg (by omega)]
    · have e:(Sg.mk [.V 5] (.V 5) 1).val s LB1.1 = sgnZ (12 * d * d):=by kernel_rfl
      rw [e,Int.mul_assoc]
      unfold sgnZ
      rw [if_neg (by omega),if_neg (by omega)]
    · have e:(Sg.mk [.V 5,.V 5] (.H 172) 0).val s LB1.1 = sgZ [[12 * d * d],[12 * d * d]] 2 [0,0,0,0]:=by kernel_rfl
      rw [e,sgZ_none]
    · have e:(Sg.mk [.V 5,.V 5] (.H 175) 0).val s LB1.1 = sgZ [[12 * d * d],[12 * d * d]] 2 [0,0,0,0]:=by kernel_rfl
      rw [e,sgZ_none]
    · have e:(Sg.mk [.V 5,.V 5] (.H 178) 0).val s LB1.1 = sgZ [[12 * d * d],[12 * d * d]] 2 [0,0,0,0]:=by kernel_rfl
      rw [e,sgZ_none])
  have hF:@RuleOk s.sub P kn (factX sqF):=fact_ok (all_cons (by
    have hp:=sq_all (n:=a.natAbs) (m:=b.natAbs) (by omega) (by omega) (by omega)
    rw [← hdn] at hp
    refine h0.pf s hp ?_ ?_
    · simp only [List.map_cons,List.map_nil,subA_row]
      have:s.v 5 = 12 * d * d:=rfl
      rw [this]
      show [AV.agg ((qrow ((12 * d * d:Int):Rat)).map .p)] = _
      rw [rowC_q (by omega)]
    · simp only [noSq,subA,subAs,subP,subPss]) all_nil)
  have pk:∀ {t:List Et} {es:List Et},(∀ e ∈ es,(Sg.mk t e 0).chk vb LB1.1 LB1.2 = true)→(∃ e ∈ es,(Sg.mk t e 0).val s LB1.1 ≠ 0)→∃ X ∈ pats t [] es,@RuleOk s.sub P kn X:=fun hc hn=>pats_ok h0 hR hRm hv hk (fun _ h=>by cases h) hc hn
  have hW:∀ e ∈ W1,∃ X ∈ e.X,@RuleOk s.sub P kn X:=by
    refine all_cons (pk (by decide +kernel) ?_) (all_cons (pk (by decide +kernel) ?_) (all_cons (pk (by decide +kernel) ?_) (all_cons (pk (by decide +kernel) ?_) (all_cons (pk (by decide +kernel) ?_) (all_cons (pk (by decide +kernel) ?_)
      (all_cons (pk (by decide +kernel) ?_) (all_cons (pk (by decide +kernel) ?_) (all_cons (pk (by decide +kernel) ?_) (all_cons (pk (by decide +kernel) ?_) (all_cons (pk (by decide +kernel) ?_) all_nil))))))))))
    · exact ex_next (ex_next (ex_here (by rw [show (Sg.mk [] (.C [1]) 0).val s LB1.1 = 1 by kernel_rfl]; decide)))
    · exact ex_next (ex_next (ex_here (by rw [show (Sg.mk [] (.C [1]) 0).val s LB1.1 = 1 by kernel_rfl]; decide)))
    · exact ex_here (by rw [show (Sg.mk [] (.C [1]) 0).val s LB1.1 = 1 by kernel_rfl]; decide)
    · exact ex_next (ex_next (ex_here (by rw [show (Sg.mk [] (.H 7) 0).val s LB1.1 = 1 by kernel_rfl]; decide)))
    · exact ex_here (by rw [show (Sg.mk [] (.H 15) 0).val s LB1.1 = 1 by kernel_rfl]; decide)
    · exact ex_here (by rw [show (Sg.mk [] (.H 15) 0).val s LB1.1 = 1 by kernel_rfl]; decide)
    · exact ex_next (ex_next (ex_here (by rw [show (Sg.mk [.V 5] (.H 101) 0).val s LB1.1 = sgnZ (8 * d) by kernel_rfl]; exact sgnZ_ne (by omega))))
    · exact ex_next (ex_next (ex_here (by rw [show (Sg.mk [.V 5,.V 5] (.H 142) 0).val s LB1.1 = sgnZ (8 * d) by kernel_rfl]; exact sgnZ_ne (by omega))))
    · rcases hne with h | h
      · exact ex_here (by rw [show (Sg.mk [.V 5,.V 5] (.H 145) 0).val s LB1.1 = sgZ [[12 * d * d],[12 * d * d]] 2 [0,16*a*d,16*a*d,0] by kernel_rfl,sgZ_mid]; exact sgnZ_ne (Int.mul_ne_zero (by omega) hd0))
      · exact ex_next (ex_here (by rw [show (Sg.mk [.V 5,.V 5] (.H 148) 0).val s LB1.1 = sgZ [[12 * d * d],[12 * d * d]] 2 [0,16*b*d,16*b*d,0] by kernel_rfl,sgZ_mid]; exact sgnZ_ne (Int.mul_ne_zero (by omega) hd0)))
    · rcases hne with h | h
      · exact ex_next (ex_here (by rw [show (Sg.mk [.V 5,.V 5] (.H 157) 0).val s LB1.1 = sgnZ a by kernel_rfl]; exact sgnZ_ne h))
      · exact ex_here (by rw [show (Sg.mk [.V 5,.V 5] (.H 154) 0).val s LB1.1 = sgnZ (-b) by kernel_rfl]; exact sgnZ_ne (by omega))
    · exact ex_next (ex_next (ex_here (by rw [show (Sg.mk [.V 5,.V 5] (.H 169) 0).val s LB1.1 = sgZ [[12 * d * d],[12 * d * d]] 2 [0,16*d*d,16*d*d,0] by kernel_rfl,sgZ_mid]; exact sgnZ_ne (by rw [Int.mul_assoc]; omega))))
  have hX:@RuleOk s.sub P kn XR1:=or_ok (on_ok (F144_ok hA (S:=s.sub))) (or_ok (on_ok (F40_ok hA (S:=s.sub))) (or_ok (split_ok hA hW) (or_ok (on_ok hN) (or_ok (on_ok hN) (or_ok (on_ok hN) (or_ok hF (or_ok hS hT)))))))
  have hc:=callSim_put (S:=s.sub) (@callSim_plain s.sub P kn XR1 Gam (fun f a H r hc=>hA s.sub XR1 hX f a H r hc) 12 rightA _ (pf_of_evalK right1_run))
  rw [rightA_sub s fun k hk=>Nat.lt_of_le_of_lt (hv k) (vb_32 k)] at hc
  exact callSim_any (argsR_no ..) rfl hc
theorem right2_sim {x y v:Int} (hx:x.natAbs ≤ 9) (hy:y.natAbs ≤ 9) (hv0:v.natAbs ≤ 9) :
    @CallSim noSub P kn 12 (argsR x y x y v) [] (.tup [.p bf,.p (j 0)],[]):=by
  have h0:=hA.zero
  let s:=val2 x y v
  have hv:∀ k,(s.v k).natAbs ≤ vb k:=fun k=>by
    match k with
    | 0=>exact hx
    | 1=>exact hy
    | 2=>exact hx
    | 3=>exact hy
    | 4=>exact hv0
    | 5=>exact Nat.zero_le _
    | n + 6=>exact Nat.le_refl _
  have hR:1 ≤ vb 5:=by decide
  have hRm:vb 5 < mostZ:=by decide
  have hq:=eqs2 x y v
  have hT:=table_known h0 hR hRm hv T2_chk hq
  have hk:Known3 s LB2.1 LB2.2:=table_end h0 hR hRm hv ⟨rfl,fun m hm=>by simp at hm⟩ T2_chk hq
  have hN:=num_ok h0 hv vb_lt (num_bd hk LB2_ok.1.2 LB2_ok.2 fun n hn=>by
    rw [LB2_ok.1.1] at hn
    show (reg2 x y v).getD n [0] = [0]
    have hl:(reg2 x y v).length = 114:=rfl
    rw [List.getD_eq_getElem?_getD,List.getElem?_eq_none (by omega)]
    rfl)
  have hS:@RuleOk s.sub P kn (sgX S2):=sg_ok h0 hR hRm hv hk (by decide +kernel) (all_cons (by kernel_rfl) all_nil)
  have pk:∀ {t:List Et} {es:List Et},(∀ e ∈ es,(Sg.mk t e 0).chk vb LB2.1 LB2.2 = true)→(∃ e ∈ es,(Sg.mk t e 0).val s LB2.1 ≠ 0)→∃ X ∈ pats t [] es,@RuleOk s.sub P kn X:=fun hc hn=>pats_ok h0 hR hRm hv hk (fun _ h=>by cases h) hc hn
  have zk:∀ {T:List Sg},(∀ e ∈ T,e.chk vb LB2.1 LB2.2 = true)→(∀ e ∈ T,e.val s LB2.1 = e.s)→∃ X ∈ [sgX T],@RuleOk s.sub P kn X:=fun hc hn=>ex_here (sg_ok h0 hR hRm hv hk hc hn)
  have hW:∀ e ∈ W2,∃ X ∈ e.X,@RuleOk s.sub P kn X:=by
    refine all_cons (pk (by decide +kernel) ?_) (all_cons (pk (by decide +kernel) ?_) (all_cons (pk (by decide +kernel) ?_) (all_cons (pk (by decide +kernel) ?_) (all_cons (pk (by decide +kernel) ?_) (all_cons (pk (by decide +kernel) ?_)
      (all_cons (zk (by decide +kernel) ?_) (all_cons (zk (by decide +kernel) ?_) (all_cons (zk (by decide +kernel) ?_) all_nil))))))))
    · exact ex_next (ex_next (ex_here (by rw [show (Sg.mk [] (.C [1]) 0).val s LB2.1 = 1 by kernel_rfl]; decide)))
    · exact ex_next (ex_next (ex_here (by rw [show (Sg.mk [] (.C [1]) 0).val s LB2.1 = 1 by kernel_rfl]; decide)))
    · exact ex_here (by rw [show (Sg.mk [] (.C [1]) 0).val s LB2.1 = 1 by kernel_rfl]; decide)
    · exact ex_next (ex_next (ex_here (by rw [show (Sg.mk [] (.H 7) 0).val s LB2.1 = 1 by kernel_rfl]; decide)))
    · exact ex_here (by rw [show (Sg.mk [] (.H 15) 0).val s LB2.1 = 1 by kernel_rfl]; decide)
    · exact ex_here (by rw [show (Sg.mk [] (.H 15) 0).val s LB2.1 = 1 by kernel_rfl]; decide)
    · exact all_cons (by kernel_rfl) (all_cons (by kernel_rfl) (all_cons (by kernel_rfl) all_nil))
    · exact all_cons (by kernel_rfl) (all_cons (by kernel_rfl) (all_cons (by kernel_rfl) all_nil))
    · exact all_cons (by kernel_rfl) (all_cons (by kernel_rfl) (all_cons (by kernel_rfl) all_nil))
  have hX:@RuleOk s.sub P kn XR2:=or_ok (on_ok (F144_ok hA (S:=s.sub))) (or_ok (on_ok (F40_ok hA (S:=s.sub))) (or_ok (split_ok hA hW) (or_ok (on_ok hN) (or_ok (on_ok hN) (or_ok (on_ok hN) (or_ok hS hT))))))
  have hc:=callSim_put (S:=s.sub) (@callSim_plain s.sub P kn XR2 Gam (fun f a H r hc=>hA s.sub XR2 hX f a H r hc) 12 rightA _ (pf_of_evalK right2_run))
  rw [rightA_sub s fun k hk=>Nat.lt_of_le_of_lt (hv k) (vb_32 k)] at hc
  exact callSim_any (argsR_no ..) rfl hc
theorem right_sim {x y z w v:Int} (hx:x.natAbs ≤ 9) (hy:y.natAbs ≤ 9) (hz:z.natAbs ≤ 9) (hw:w.natAbs ≤ 9) (hv:v.natAbs ≤ 9) :
    @CallSim noSub P kn 12 (argsR x y z w v) [] (.tup [.p (.v (.bool (decide (x ≠ z∨y ≠ w)))),.p (j 0)],[]):=by
  by_cases h:x ≠ z∨y ≠ w
  · have h1:x + (z - x) = z:=by omega
    have h2:y + (w - y) = w:=by omega
    have:=right1_sim hA (a:=z - x) (b:=w - y) hx hy (by rw [h1]; exact hz) (by rw [h2]; exact hw) hv (by omega)
    rw [h1,h2] at this
    rw [decide_eq_true h]
    exact this
  · obtain ⟨rfl,rfl⟩:x = z∧y = w:=by omega
    rw [decide_eq_false h]
    exact right2_sim hA hx hy hv
end
end Go.Proofs.YtjkdcddpicndgaaGreatDoor
namespace Go.Proofs.YtjkdcddpicndgaaGreatDoor
set_option maxRecDepth 100000
open Go
def smalls:List Int:=[-9,-8,-7,-6,-5,-4,-3,-2,-1,0,1,2,3,4,5,6,7,8,9]
noncomputable def run57:Bool:=smalls.all fun z=>pfK X0 Gam 500 57 [int z] (.agg ((rowC z).map .p))
theorem run57_ok:run57 = true:=by decide +kernel
theorem small_mem {z:Int} (h:z.natAbs ≤ 9):z ∈ smalls:=by
  have:z = -9∨z = -8∨z = -7∨z = -6∨z = -5∨z = -4∨z = -3∨z = -2∨z = -1∨z = 0∨z = 1∨z = 2∨z = 3∨z = 4∨z = 5∨z = 6∨z = 7∨z = 8∨z = 9:=by omega
  simp [smalls]
  omega
theorem pf57 {z:Int} (h:z.natAbs ≤ 9):PF X0 Gam 57 [int z] (.agg ((rowC z).map .p)):=pf_of_evalK (List.all_eq_true.1 run57_ok z (small_mem h))
@[reducible] def numSub (f:Nat→Int):Sub where
  val b n:=bif b then .sl [[]] else if n % 3 = 0 then .v (.int .i64 (f (n / 3))) else if n % 3 = 1 then .v (.bool (decide (f (n / 3) < 0))) else magC (f (n / 3)).natAbs
  ne n:=⟨[],[],rfl⟩
def rowN (k:Nat):List PV:=[.h false (3 * k + 1),.h false (3 * k + 2),.v (.bool false),oneP]
theorem subN_row (f:Nat→Int) (k:Nat):@subPs (numSub f) (rowN k) = rowC (f k):=by
  have h1:@Sub.val (numSub f) false (3 * k + 1) = .v (.bool (decide (f k < 0))):=by
    have q1:(3 * k + 1) % 3 = 1:=by omega
    have q2:(3 * k + 1) / 3 = k:=by omega
    show (if (3 * k + 1) % 3 = 0 then _ else _) = _
    rw [q1,q2]; rfl
  have h2:@Sub.val (numSub f) false (3 * k + 2) = magC (f k).natAbs:=by
    have q1:(3 * k + 2) % 3 = 2:=by omega
    have q2:(3 * k + 2) / 3 = k:=by omega
    show (if (3 * k + 2) % 3 = 0 then _ else _) = _
    rw [q1,q2]; rfl
  simp only [rowN,subPs,subP,subPss,h1,h2]
  cases hf:f k with
  | ofNat n =>
    have:decide (Int.ofNat n < 0) = false:=decide_eq_false (by simp)
    simp [this,rowC]
  | negSucc n =>
    have:decide (Int.negSucc n < 0) = true:=decide_eq_true (Int.negSucc_lt_zero n)
    simp [this,rowC]
theorem subN_int (f:Nat→Int) (k:Nat):@Sub.val (numSub f) false (3 * k) = j (f k):=by
  have q1:(3 * k) % 3 = 0:=by omega
  have q2:(3 * k) / 3 = k:=by omega
  show (if (3 * k) % 3 = 0 then _ else _) = _
  rw [q1,q2]; rfl
def F57:List Fact:=[⟨57,[.p (.h false 0)],.agg ((rowN 0).map .p)⟩,⟨57,[.p (.h false 3)],.agg ((rowN 1).map .p)⟩,⟨57,[.p (.h false 6)],.agg ((rowN 2).map .p)⟩,⟨57,[.p (.h false 9)],.agg ((rowN 3).map .p)⟩,⟨57,[int 1],.agg ((rowC 1).map .p)⟩]
theorem run25:pfK (factX F57) Gam 500 25 [.p (.sl [[.h false 0],[.h false 3],[.h false 6],[.h false 9],[j 1],[j 1]])] (.p (.sl [rowN 0,rowN 1,rowN 2,rowN 3,rowC 1,rowC 1])) = true:=by decide +kernel
def exM:AV:=.agg [.p (.sl giv),.p (.sl goal),.p (.sl [[j 5],[j 3],[j 4],[j 9],[j 12]]),.p (.sl ans)]
def F12w:List Fact:=[⟨12,argsR 0 0 4 2 3,.tup [.p bt,.p (j 0)]⟩,⟨12,argsR 0 0 0 0 3,.tup [.p bf,.p (j 0)]⟩]
noncomputable def X11:XR:=orX (factX F24) (orX (factX F13) (orX (factX F25) (orX (factX F12w) (factX F19))))
theorem run11:pfK X11 Gam 500 11 [] (.p bt) = true:=by decide +kernel
section
variable {P:Program} {kn:TypeId→Bool} (hA:SoundAll P kn)
include hA
theorem sim25 {x y z w:Int} (hx:x.natAbs ≤ 9) (hy:y.natAbs ≤ 9) (hz:z.natAbs ≤ 9) (hw:w.natAbs ≤ 9) :
    @CallSim noSub P kn 25 [.p (.sl [[j x],[j y],[j z],[j w],[j 1],[j 1]])] [] (.p (.sl [rowC x,rowC y,rowC z,rowC w,rowC 1,rowC 1]),[]):=by
  let f:Nat→Int:=fun k=>([x,y,z,w]:List Int).getD k 0
  have hf:∀ k,(f k).natAbs ≤ 9:=fun k=>by
    match k with
    | 0=>exact hx
    | 1=>exact hy
    | 2=>exact hz
    | 3=>exact hw
    | n + 4=>exact Nat.zero_le _
  have row:∀ k,@subA (numSub f) (.agg ((rowN k).map .p)) = .agg ((rowC (f k)).map .p):=fun k=>by
    have h:=subN_row f k
    rw [← h]
    simp only [rowN,List.map_cons,List.map_nil,subA,subAs,subPs]
  have one:∀ k,@CallSim (numSub f) P kn 57 [.p (.h false (3 * k))] [] (.agg ((rowN k).map .p),[]):=fun k=>by
    refine @callSim_out (numSub f) P kn 57 [.p (.h false (3 * k))] (.agg ((rowN k).map .p)) ?_
    rw [row k]
    have:[AV.p (.h false (3 * k))].map (@subA (numSub f)) = [int (f k)]:=by
      simp only [List.map_cons,List.map_nil,subA,subP,subN_int]
    rw [this]
    exact @callSim_plain (numSub f) P kn X0 Gam (hA.zero (numSub f)) 57 _ _ (pf57 (hf k))
  have hX:@RuleOk (numSub f) P kn (factX F57):=fact_ok (all_cons (one 0) (all_cons (one 1) (all_cons (one 2) (all_cons (one 3) (all_cons (@callSim_plain (numSub f) P kn X0 Gam (hA.zero (numSub f)) 57 _ _ (pf57 (z:=1) (by decide))) all_nil)))))
  have hc:=callSim_put (S:=numSub f) (@callSim_plain (numSub f) P kn (factX F57) Gam (fun g a H r hc=>hA (numSub f) _ hX g a H r hc) 25 _ _ (pf_of_evalK run25))
  have e1:[AV.p (.sl [[.h false 0],[.h false 3],[.h false 6],[.h false 9],[j 1],[j 1]])].map (@subA (numSub f)) = [.p (.sl [[j x],[j y],[j z],[j w],[j 1],[j 1]])]:=by
    have h0:=subN_int f 0
    have h1:=subN_int f 1
    have h2:=subN_int f 2
    have h3:=subN_int f 3
    simp only [List.map_cons,List.map_nil,subA,subP,subPss,subPs]
    show [AV.p (.sl [[@Sub.val (numSub f) false (3 * 0)],[@Sub.val (numSub f) false (3 * 1)],[@Sub.val (numSub f) false (3 * 2)],[@Sub.val (numSub f) false (3 * 3)],[j 1],[j 1]])] = _
    rw [h0,h1,h2,h3]
    rfl
  rw [e1] at hc
  have e2:∀ {w0 g H c},@Rep (numSub f) w0 g H c (.p (.sl [rowN 0,rowN 1,rowN 2,rowN 3,rowC 1,rowC 1]))→@Rep (numSub f) w0 g H c (.p (.sl [rowC x,rowC y,rowC z,rowC w,rowC 1,rowC 1])):=fun hr=>by
    have hr:=@Rep.put (numSub f) _ _ _ _ _ hr
    simp only [subA,subP,subPss,subN_row,@subPs_no (numSub f) _ (rowC_no 1)] at hr
    exact hr
  have hc':@CallSim (numSub f) P kn 25 [.p (.sl [[j x],[j y],[j z],[j w],[j 1],[j 1]])] [] (.p (.sl [rowC x,rowC y,rowC z,rowC w,rowC 1,rowC 1]),[]):=by
    intro w' gh cs hcd hs ha
    refine (hc w' gh cs hcd hs ha).mono fun e w'' he=>?_
    obtain ⟨v,g',rfl,h1,h4,h5⟩:=he
    exact ⟨v,g',rfl,h1,h4,e2 h5⟩
  exact callSim_any rfl (by simp only [noHA,noH,noHss,rowC_no,Bool.and_self]) hc'
theorem F12w_ok:@RuleOk noSub P kn (factX F12w):=fact_ok (all_cons (right_sim hA (x:=0) (y:=0) (z:=4) (w:=2) (v:=3) (by decide) (by decide) (by decide) (by decide) (by decide)) (all_cons (right_sim hA (x:=0) (y:=0) (z:=0) (w:=0) (v:=3) (by decide) (by decide) (by decide) (by decide) (by decide)) all_nil))
theorem sim11:@CallSim noSub P kn 11 [] [] (.p bt,[]):=@callSim_plain noSub P kn X11 Gam (fun g a H r hc=>hA noSub _ (or_ok (F24_ok hA) (or_ok (F13_ok hA) (or_ok (F25_ok hA) (or_ok (F12w_ok hA) (F19_ok hA))))) g a H r hc) 11 _ _ (pf_of_evalK run11)
end
end Go.Proofs.YtjkdcddpicndgaaGreatDoor
namespace Go.Proofs.YtjkdcddpicndgaaGreatDoor
set_option maxRecDepth 100000
open Go
open Classical in
noncomputable def X6 (x y z w:Int):XR:=fun f args H =>
  if f = 24∧args = []∧H = [] then some (exM,[]) else
  if f = 13∧args = [exM]∧H = [] then some (exA,[]) else
  if f = 25∧args = [.p (.sl [[j x],[j y],[j z],[j w],[j 1],[j 1]])]∧H = [] then some (.p (.sl [rowC x,rowC y,rowC z,rowC w,rowC 1,rowC 1]),[]) else
  if f = 12∧args = argsR x y z w 1∧H = [] then some (.tup [.p (.v (.bool (decide (x ≠ z∨y ≠ w)))),.p (j 0)],[]) else
  if f = 11∧args = []∧H = [] then some (.p bt,[]) else none
section
variable {P:Program} {kn:TypeId→Bool} (hA:SoundAll P kn)
include hA
theorem X6_ok {x y z w:Int} (hx:x.natAbs ≤ 9) (hy:y.natAbs ≤ 9) (hz:z.natAbs ≤ 9) (hw:w.natAbs ≤ 9):@RuleOk noSub P kn (X6 x y z w):=fun g args H r h=>by
  unfold X6 at h
  split at h
  · rename_i q
    obtain ⟨rfl,rfl,rfl⟩:=q
    cases h
    exact Fact.sim hA (S:=noSub) (X:=X0) (e:=f24_0) noX_ok f24_0_run
  · split at h
    · rename_i q
      obtain ⟨rfl,rfl,rfl⟩:=q
      cases h
      exact Fact.sim hA (S:=noSub) (X:=X0) (e:=f13_0) noX_ok f13_0_run
    · split at h
      · rename_i q
        obtain ⟨rfl,rfl,rfl⟩:=q
        cases h
        exact sim25 hA hx hy hz hw
      · split at h
        · rename_i q
          obtain ⟨rfl,rfl,rfl⟩:=q
          cases h
          exact right_sim hA hx hy hz hw (by decide)
        · split at h
          · rename_i q
            obtain ⟨rfl,rfl,rfl⟩:=q
            cases h
            exact sim11 hA
          · cases h
end
section
variable {x y z w:Int}
theorem PF_X {X:XR} {Γ:FuncId→Option SFunc} {g:FuncId} {args:List AV} {r:AV} (h:X g args [] = some (r,[])) (hc:canon [] r = some r) (hr:refs r = []):PF X Γ g args r:=by
  unfold PF WF
  rw [call]
  rw [h]
  exact ⟨hc,hr⟩
theorem p24:PF (X6 x y z w) Gam 24 [] exM:=PF_X (by simp [X6]) (by kernel_rfl) (by kernel_rfl)
theorem p13:PF (X6 x y z w) Gam 13 [exM] exA:=PF_X (by simp [X6]) (by kernel_rfl) (by kernel_rfl)
theorem p25:PF (X6 x y z w) Gam 25 [.p (.sl [[j x],[j y],[j z],[j w],[j 1],[j 1]])] (.p (.sl [rowC x,rowC y,rowC z,rowC w,rowC 1,rowC 1])):=PF_X (by simp [X6]) (by simp [canon]) (by simp [refs])
theorem p12:PF (X6 x y z w) Gam 12 (argsR x y z w 1) (.tup [.p (.v (.bool (decide (x ≠ z∨y ≠ w)))),.p (j 0)]):=PF_X (by simp [X6]) (by simp [canon,canons]) (by simp [refs,refsL])
theorem p11:PF (X6 x y z w) Gam 11 [] (.p bt):=PF_X (by simp [X6]) (by simp [canon]) (by simp [refs])
variable {H H1:List Obj} {a:List AV} {K:AV→List Obj→Prop}
theorem c24:WC (X6 x y z w) Gam 24 a H K↔bindP (canons H a) fun as=>bif (refsL as).isEmpty then WP (X6 x y z w) Gam 24 false as H (freeze H (arsOf a)) K else WCx (X6 x y z w) Gam 24 a H K:=WC_go rfl rfl rfl rfl
theorem c13:WC (X6 x y z w) Gam 13 a H K↔bindP (canons H a) fun as=>bif (refsL as).isEmpty then WP (X6 x y z w) Gam 13 false as H (freeze H (arsOf a)) K else WCx (X6 x y z w) Gam 13 a H K:=WC_go rfl rfl rfl rfl
theorem c25:WC (X6 x y z w) Gam 25 a H K↔bindP (canons H a) fun as=>bif (refsL as).isEmpty then WP (X6 x y z w) Gam 25 false as H (freeze H (arsOf a)) K else WCx (X6 x y z w) Gam 25 a H K:=WC_go rfl rfl rfl rfl
theorem c12:WC (X6 x y z w) Gam 12 a H K↔bindP (canons H a) fun as=>bif (refsL as).isEmpty then WP (X6 x y z w) Gam 12 false as H (freeze H (arsOf a)) K else WCx (X6 x y z w) Gam 12 a H K:=WC_go rfl rfl rfl rfl
theorem c11:WC (X6 x y z w) Gam 11 a H K↔bindP (canons H a) fun as=>bif (refsL as).isEmpty then WP (X6 x y z w) Gam 11 false as H (freeze H (arsOf a)) K else WCx (X6 x y z w) Gam 11 a H K:=WC_go rfl rfl rfl rfl
end
def low (a:Int):Int:=((BitVec.ofInt 64 a &&& 65535#64).toNat:Int)
theorem low_bd (a:Int):0 ≤ low a∧low a ≤ 65535:=by
  unfold low
  rw [BitVec.toNat_and]
  have:(BitVec.ofInt 64 a).toNat &&& (65535#64).toNat ≤ (65535#64).toNat:=Nat.and_le_right
  have h:(65535#64).toNat = 65535:=rfl
  rw [h] at this ⊢
  omega
theorem low_and (a:Int):binV .and (.int .i64 a) (.int .i64 65535) = some (.int .i64 (low a)):=by
  have h:=low_bd a
  have:IntKind.i64.wrap (low a) = low a:=wrap_i64 (by omega)
  show some (Value.int .i64 (IntKind.i64.wrap (low a))) = _
  rw [this]
def pt (a:Int):Int:=(low a).tmod 19 - 9
theorem pt_bd (a:Int):(pt a).natAbs ≤ 9:=by
  have h:=low_bd a
  unfold pt
  have h1:(low a).tmod 19 = low a % 19:=Int.tmod_eq_emod_of_nonneg h.1
  omega
theorem pt_wrap (a:Int):IntKind.i64.wrap ((low a).tmod 19 - 9) = pt a:=by
  have h:=pt_bd a
  exact wrap_i64 (by unfold pt at h; omega)
def hi (c:Int):Int:=c.fdiv (2 ^ (min (16:Int).toNat IntKind.i64.bits))
theorem shr_hi (c:Int):binV .shr (.int .i64 c) (.int .u64 16) = some (.int .i64 (hi c)):=by rw [bin_shr,if_pos (by decide)]; rfl
theorem q24 {x y z w:Int} {H H1:List Obj} {K:AV→List Obj→Prop}:WP (X6 x y z w) Gam 24 false [] H H1 K↔K exM H1:=WP_slice p24 rfl
theorem q13 {x y z w:Int} {H H1:List Obj} {K:AV→List Obj→Prop}:WP (X6 x y z w) Gam 13 false [exM] H H1 K↔K exA H1:=WP_slice p13 rfl
theorem q25 {x y z w:Int} {H H1:List Obj} {K:AV→List Obj→Prop}:WP (X6 x y z w) Gam 25 false [.p (.sl [[j x],[j y],[j z],[j w],[j 1],[j 1]])] H H1 K↔K (.p (.sl [rowC x,rowC y,rowC z,rowC w,rowC 1,rowC 1])) H1:=WP_slice p25 rfl
theorem q12 {x y z w:Int} {H H1:List Obj} {K:AV→List Obj→Prop}:WP (X6 x y z w) Gam 12 false (argsR x y z w 1) H H1 K↔K (.tup [.p (.v (.bool (decide (x ≠ z∨y ≠ w)))),.p (j 0)]) H:=WP_flat p12 rfl
theorem q11 {x y z w:Int} {H H1:List Obj} {K:AV→List Obj→Prop}:WP (X6 x y z w) Gam 11 false [] H H1 K↔K (.p bt) H:=WP_flat p11 rfl
theorem hi_fold (c:Int):pt (c.fdiv (2 ^ min 16 IntKind.i64.bits)) = pt (hi c):=rfl
theorem walk6 (a b c:Int):WF (X6 (pt a) (pt b) (pt c) (pt (hi c))) Gam 6 [int a,int b,int c] [] fun r H=>r = boo true:=by
  refine WF_intro rfl rfl ?_ (by simp [X6])
  simp [EV,c24,low_and,shr_hi,pt_wrap]
  rw [q24]
  simp [EV,exM,splice,hi_fold,c13,evOp,loadC]
  erw [q13]
  simp [EV,exA,splice,hi_fold,c25,evOp,loadC,fillRows,partArs,toPVs,toPV,limb]
  erw [q25]
  simp [EV,evOp,loadC,c12]
  erw [q12]
  simp [EV,evOp,loadC,c11]
  rw [q11]
  by_cases h1:pt a = pt c
  · by_cases h2:pt b = pt (hi c)
    · simp [EV,evOp,binB,h1,h2]
    · simp [EV,evOp,binB,h1,h2]
  · simp [EV,evOp,binB,h1]
theorem call6 (a b c:Int):∃ r,call (X6 (pt a) (pt b) (pt c) (pt (hi c))) Gam 6 [int a,int b,int c] [] = some r∧r.1 = boo true:=by
  have h:=walk6 a b c
  unfold WF at h
  cases hc:call (X6 (pt a) (pt b) (pt c) (pt (hi c))) Gam 6 [int a,int b,int c] [] with
  | none=>rw [hc] at h; exact h.elim
  | some r=>rw [hc] at h; exact ⟨r,rfl,h⟩
section
variable {P:Program} {kn:TypeId→Bool}
theorem sim6 (hA:SoundAll P kn) (a b c:Int):∃ H,@CallSim noSub P kn 6 [int a,int b,int c] [] (boo true,H):=by
  obtain ⟨r,h1,h2⟩:=call6 a b c
  have:=hA noSub _ (X6_ok hA (pt_bd a) (pt_bd b) (pt_bd c) (pt_bd (hi c))) _ _ _ _ h1
  exact ⟨r.2,by rw [← h2]; exact this⟩
end
end Go.Proofs.YtjkdcddpicndgaaGreatDoor
