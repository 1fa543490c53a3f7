/- Part of the proof of Rows.FinderAltitudesCardSaid: FaV2, FaV3. -/
import Derived.Test.YtchgldaddcolhaaGreatDoorP11
set_option linter.all false
namespace Go.Proofs.YtchgldaddcolhaaGreatDoor
set_option maxRecDepth 100000
open Go
def rowS(nm:List UInt8)(op:Int)(args:List (List PV))(x y:List PV):List PV:=[.v (Y nm),j op,.sl args]++x++y++[j 0]
def nought:List PV:=[bf,.sl [],bf,.sl []]
def madeS(nm:List UInt8)(op:Int)(args:List (List PV)):List PV:=rowS nm op args nought nought
def stepsA(r:Nat→List PV):List (List PV):=[rowS [65] 1 [] (r 0) (r 1),rowS [66] 1 [] (r 2) (r 3),rowS [67] 1 [] (r 4) (r 5),madeS [97] 3 [[j 1],[j 2]],madeS [98] 3 [[j 2],[j 0]],madeS [99] 3 [[j 0],[j 1]],madeS [112] 10 [[j 0],[j 3]],madeS [113] 10 [[j 1],[j 4]],madeS [114] 10 [[j 2],[j 5]]]
abbrev relR:AV:=.agg [.p (j 7),.p (.sl [[j 6],[j 7],[j 8]])]
def wh(x:Nat→Int)(k:Nat):List PV:=rowW (x k)
def primes:List Int:=[5,7,13,101,257,10007,1000003,2147483647]
def prOf(n:Int):Int:=primes.getD (n.toNat % 8) 0
theorem prOf_mem(n:Int):prOf n ∈ primes:=by
 unfold prOf
 have h:n.toNat % 8 < 8:=Nat.mod_lt _ (by decide)
 have:∀ k,k < 8→primes.getD k 0 ∈ primes:=by decide
 exact this _ h
abbrev rel2(w:PV):List AV:=[.p (j 6),.p .nsl,.p (.sl []),.p w,.p (.sl []),.p (.sl []),.p (.sl [])]
abbrev certR(w:PV):List PV:=[j 6,.nsl,.sl [],w,.sl [],.sl [],.sl []]
abbrev vdR(w:PV):List AV:=[.p (j 1),.p (j 6),.p .nsl,.p (.sl []),.p w,.p (.sl []),.p (.sl []),.p (.sl []),.p (.sl []),.p (.sl []),.p (j 0)]
def prF(n:Nat):Fact:=⟨0,8,[.p (.v (.int .u8 n))],.p (j (prOf n))⟩
theorem prF_run:((List.range 256).all fun n=>(prF n).run X0 1000) = true:=by kernel_rfl
theorem ite_some{α:Type}{c:Prop}{d:Decidable c}{a b:Option α}{r:α}(h:(if c then a else b) = some r):(c∧a = some r)∨(¬ c∧b = some r):=by
 by_cases hc:c
 ·rw[if_pos hc]at h; exact .inl ⟨hc,h⟩
 ·rw[if_neg hc]at h; exact .inr ⟨hc,h⟩
open Classical in
noncomputable def lkP (s0:AV) (g:Int→AV):List AV→Option (AV×List Obj)
 | [s,.p (.v (.int .i64 p)),t]=>if s = s0∧p ∈ primes∧t = .p (j 2) then some (g p,[]) else none
 | _=>none
noncomputable def lk8:List AV→Option (AV×List Obj)
 | [.p (.v (.int .u8 n))]=>if 0 ≤ n∧n < 256 then some (.p (j (prOf n)),[]) else none
 | _=>none
noncomputable def lk15:List AV→Option (AV×List Obj)
 | [.p (.v (.int .i64 n))]=>if n.natAbs ≤ 128 then some (.agg ((rowW n).map .p),[]) else none
 | _=>none
theorem look_p{s0:AV}{g:Int→AV}{args:List AV}{r:AV×List Obj}(h:lkP s0 g args = some r):∃ p,p ∈ primes∧args = [s0,.p (j p),.p (j 2)]∧r = (g p,[]):=by
 unfold lkP at h
 split at h
 ·rcases ite_some h with ⟨q,h'⟩ | ⟨_,h'⟩
  ·cases h'; exact⟨_,q.2.1,by rw[q.1,q.2.2],rfl⟩
  ·cases h'
 ·cases h
theorem look8{args:List AV}{r:AV×List Obj}(h:lk8 args = some r):∃ n:Int,(0 ≤ n∧n < 256)∧args = [.p (.v (.int .u8 n))]∧r = (.p (j (prOf n)),[]):=by
 unfold lk8 at h
 split at h
 ·rcases ite_some h with ⟨hn,h'⟩ | ⟨_,h'⟩
  ·cases h'; exact⟨_,hn,rfl,rfl⟩
  ·cases h'
 ·cases h
theorem look15{args:List AV}{r:AV×List Obj}(h:lk15 args = some r):∃ n:Int,n.natAbs ≤ 128∧args = [.p (.v (.int .i64 n))]∧r = (.agg ((rowW n).map .p),[]):=by
 unfold lk15 at h
 split at h
 ·rcases ite_some h with ⟨hn,h'⟩ | ⟨_,h'⟩
  ·cases h'; exact⟨_,hn,rfl,rfl⟩
  ·cases h'
 ·cases h
open Classical in
noncomputable def X3 (x:Nat→Int) (al gs w:PV) (fg:Int→PV):XR:=fun f args H =>
 if f = 4∧args = []∧H = [] then some (.p bt,[]) else
 if f = 6∧args = [.p (.sl (stepsA (wh x)))]∧H = [] then some (.tup [.p al,.p (j 0)],[]) else
 if f = 7∧H = [] then lkP (.p (.sl (stepsA (wh x)))) (fun _=>.tup [.p gs,.p (j 0)]) args else
 if f = 8∧H = [] then lk8 args else
 if f = 9∧args = [.p (.sl (stepsA (wh x))),relR,.p (j 0)]∧H = [] then some (.tup [.p (.sl [certR w]),.agg (vdR w),.p (j 0)],[]) else
 if f = 10∧args = [.p (.sl (stepsA (wh x))),relR]∧H = [] then some (.tup [.p (j 9),.p (j 0)],[]) else
 if f = 11∧H = [] then lkP (.p (.sl (stepsA (wh x)))) (fun p=>.tup [.p (fg p),.p (.sl []),.p bt]) args else
 if f = 12∧(args = [.p al,relR]∨args = [.p gs,relR])∧H = [] then some (.p bt,[]) else
 if f = 13∧args = [.agg (rel2 w)]∧H = [] then some (.p (j 0),[]) else
 if f = 15∧H = [] then lk15 args
 else none
theorem WP_any{X:XR}{Γ:FuncId→Option SFunc}{g:FuncId}{args:List AV}{r':AV}{H:List Obj}{K:AV→List Obj→Prop}(h:PF X Γ g args r'):WP X Γ g false args H H K↔K r' H:=by
 cases hf:flat r' with
 | true=>exact WP_flat h hf
 | false=>exact WP_slice h hf
section
variable{x:Nat→Int}{al gs w:PV}{fg:Int→PV}
theorem PF_X{X:XR}{Γ:FuncId→Option SFunc}{g:FuncId}{args:List AV}{r:AV}(h:X g args [] = some (r,[]))(hc:canon [] r = some r)(hr:refs r = []):PF X Γ g args r:=by
 unfold PF WF
 rw[cq]
 rw[h]
 exact⟨hc,hr⟩
theorem pX4:PF (X3 x al gs w fg) Gam 4 [] (.p bt):=PF_X (by simp[X3]) (by simp[canon]) (by simp[refs])
theorem pX6:PF (X3 x al gs w fg) Gam 6 [.p (.sl (stepsA (wh x)))] (.tup [.p al,.p (j 0)]):=PF_X (by simp[X3]) (by simp[canon,canons]) (by simp[refs,refsL])
theorem pX7{p:Int}(h:p ∈ primes):PF (X3 x al gs w fg) Gam 7 [.p (.sl (stepsA (wh x))),.p (j p),.p (j 2)] (.tup [.p gs,.p (j 0)]):=PF_X (by simp[X3,lkP,h]) (by simp[canon,canons]) (by simp[refs,refsL])
theorem pX8{n:Int}(h:0 ≤ n)(h':n < 256):PF (X3 x al gs w fg) Gam 8 [.p (.v (.int .u8 n))] (.p (j (prOf n))):=PF_X (by simp[X3,lk8,h,h']) (by simp[canon]) (by simp[refs])
theorem pX9:PF (X3 x al gs w fg) Gam 9 [.p (.sl (stepsA (wh x))),relR,.p (j 0)] (.tup [.p (.sl [certR w]),.agg (vdR w),.p (j 0)]):=PF_X (by simp[X3]) (by simp[canon,canons]) (by simp[refs,refsL])
theorem pX10:PF (X3 x al gs w fg) Gam 10 [.p (.sl (stepsA (wh x))),relR] (.tup [.p (j 9),.p (j 0)]):=PF_X (by simp[X3]) (by simp[canon,canons]) (by simp[refs,refsL])
theorem pX11{p:Int}(h:p ∈ primes):PF (X3 x al gs w fg) Gam 11 [.p (.sl (stepsA (wh x))),.p (j p),.p (j 2)] (.tup [.p (fg p),.p (.sl []),.p bt]):=PF_X (by simp[X3,lkP,h]) (by simp[canon,canons]) (by simp[refs,refsL])
theorem pX12:PF (X3 x al gs w fg) Gam 12 [.p al,relR] (.p bt):=PF_X (by simp[X3]) (by simp[canon]) (by simp[refs])
theorem pX12':PF (X3 x al gs w fg) Gam 12 [.p gs,relR] (.p bt):=PF_X (by simp[X3]) (by simp[canon]) (by simp[refs])
theorem pX13:PF (X3 x al gs w fg) Gam 13 [.agg (rel2 w)] (.p (j 0)):=PF_X (by simp[X3]) (by simp[canon]) (by simp[refs])
theorem pX15{n:Int}(h:n.natAbs ≤ 128):PF (X3 x al gs w fg) Gam 15 [int n] (.agg ((rowW n).map .p)):=PF_X (by simp[X3,lk15,h]) (by simp[canon,canons,rowW,mgW,sgW]) (by simp[refs,refsL,rowW])
variable{H:List Obj}{a:List AV}{K:AV→List Obj→Prop}
theorem cX4:WC (X3 x al gs w fg) Gam 4 a H K↔bindP (canons H a) fun bs=>bif (refsL bs).isEmpty then WP (X3 x al gs w fg) Gam 4 false bs H (freeze H (arsOf a)) K else WCx (X3 x al gs w fg) Gam 4 a H K:=WC_go rfl rfl rfl rfl
theorem cX5:WC (X3 x al gs w fg) Gam 5 a H K↔bindP (canons H a) fun bs=>bif (refsL bs).isEmpty then WP (X3 x al gs w fg) Gam 5 false bs H (freeze H (arsOf a)) K else WCx (X3 x al gs w fg) Gam 5 a H K:=WC_go rfl rfl rfl rfl
theorem cX6:WC (X3 x al gs w fg) Gam 6 a H K↔bindP (canons H a) fun bs=>bif (refsL bs).isEmpty then WP (X3 x al gs w fg) Gam 6 false bs H (freeze H (arsOf a)) K else WCx (X3 x al gs w fg) Gam 6 a H K:=WC_go rfl rfl rfl rfl
theorem cX7:WC (X3 x al gs w fg) Gam 7 a H K↔bindP (canons H a) fun bs=>bif (refsL bs).isEmpty then WP (X3 x al gs w fg) Gam 7 false bs H (freeze H (arsOf a)) K else WCx (X3 x al gs w fg) Gam 7 a H K:=WC_go rfl rfl rfl rfl
theorem cX8:WC (X3 x al gs w fg) Gam 8 a H K↔bindP (canons H a) fun bs=>bif (refsL bs).isEmpty then WP (X3 x al gs w fg) Gam 8 false bs H (freeze H (arsOf a)) K else WCx (X3 x al gs w fg) Gam 8 a H K:=WC_go rfl rfl rfl rfl
theorem cX9:WC (X3 x al gs w fg) Gam 9 a H K↔bindP (canons H a) fun bs=>bif (refsL bs).isEmpty then WP (X3 x al gs w fg) Gam 9 false bs H (freeze H (arsOf a)) K else WCx (X3 x al gs w fg) Gam 9 a H K:=WC_go rfl rfl rfl rfl
theorem cX10:WC (X3 x al gs w fg) Gam 10 a H K↔bindP (canons H a) fun bs=>bif (refsL bs).isEmpty then WP (X3 x al gs w fg) Gam 10 false bs H (freeze H (arsOf a)) K else WCx (X3 x al gs w fg) Gam 10 a H K:=WC_go rfl rfl rfl rfl
theorem cX11:WC (X3 x al gs w fg) Gam 11 a H K↔bindP (canons H a) fun bs=>bif (refsL bs).isEmpty then WP (X3 x al gs w fg) Gam 11 false bs H (freeze H (arsOf a)) K else WCx (X3 x al gs w fg) Gam 11 a H K:=WC_go rfl rfl rfl rfl
theorem cX12:WC (X3 x al gs w fg) Gam 12 a H K↔bindP (canons H a) fun bs=>bif (refsL bs).isEmpty then WP (X3 x al gs w fg) Gam 12 false bs H (freeze H (arsOf a)) K else WCx (X3 x al gs w fg) Gam 12 a H K:=WC_go rfl rfl rfl rfl
theorem cX13:WC (X3 x al gs w fg) Gam 13 a H K↔bindP (canons H a) fun bs=>bif (refsL bs).isEmpty then WP (X3 x al gs w fg) Gam 13 false bs H (freeze H (arsOf a)) K else WCx (X3 x al gs w fg) Gam 13 a H K:=WC_go rfl rfl rfl rfl
theorem cX15:WC (X3 x al gs w fg) Gam 15 a H K↔bindP (canons H a) fun bs=>bif (refsL bs).isEmpty then WP (X3 x al gs w fg) Gam 15 false bs H (freeze H (arsOf a)) K else WCx (X3 x al gs w fg) Gam 15 a H K:=WC_go rfl rfl rfl rfl
theorem WO_slitA{X:XR}{Γ:FuncId→Option SFunc}{d:SD}{os:List SO}{e:Fr}{H:List Obj}{K:Fr→List Obj→Prop}{z:List PV}{n:Nat}{ps:List (Nat×SA)} :
  WO X Γ (⟨d,.slitA z n ps,none⟩::os) e H K↔bindP (fillRows H e z.length (List.replicate n z) ps) fun rows=>WO X Γ os (dstPut d e (.ar (freeze H (partArs e ps)).length 0 0 rows.length)) (freeze H (partArs e ps)++[.arr z.length none 0 rows]) K:=by
 rw[WO_op rfl,evOp,bindP_map]
theorem toPVs_map{H:List Obj}:∀ l:List PV,toPVs H (l.map .p) = some l
 | []=>rfl
 | x::l=>by simp[toPVs,toPV,canon,toPVs_map l]
theorem arsOf_map:∀ l:List PV,arsOf (l.map .p) = []
 | []=>arsOf_nil
 | x::l=>by rw[List.map_cons,arsOf_cons,arsOf_map l,arsA_p]; rfl
theorem rowW_len{n:Int}:(rowW n).length = 4:=rfl
set_option maxHeartbeats 4000000 in
theorem pX5 {y:Nat→Int} (hy:∀ k,(y k).natAbs ≤ 128):PF (X3 x al gs w fg) Gam 5 [int (y 0),int (y 1),int (y 2),int (y 3),int (y 4),int (y 5)] (.p (.sl (stepsA (wh y)))):=by
 refine WF_intro rfl rfl ?_ (by simp[X3])
 simp (maxSteps:=4000000) [EV,WO_slitA,fill,fillRows,partArs,toPVs,toPV,splice,arsOf_map,toPVs_map,rowW_len,cX15,WP_slice (pX15 (hy _)) rfl]
 rfl
end
end Go.Proofs.YtchgldaddcolhaaGreatDoor
namespace Go.Proofs.YtchgldaddcolhaaGreatDoor
set_option maxRecDepth 100000
open Go
section
variable{x:Nat→Int}{al gs w:PV}{fg:Int→PV}
theorem loop3(hx:∀ k,-128 ≤ x k∧x k ≤ 127){v:Int}(hv:0 ≤ v)(hv':v < 256):WF (X3 x al gs w fg) Gam 3 [.p (.v (.int .i8 (x 0))),.p (.v (.int .i8 (x 1))),.p (.v (.int .i8 (x 2))),.p (.v (.int .i8 (x 3))),.p (.v (.int .i8 (x 4))),.p (.v (.int .i8 (x 5))),.p (.v (.int .u8 v))] [] fun r H=>r = boo true:=by
 refine WF_intro rfl rfl ?_ (by simp[X3])
 have hw:∀ k,IntKind.i64.wrap (x k) = x k:=fun k=>wrap_i64 (by have:=hx k; omega)
 have hn:∀ k,(x k).natAbs ≤ 128:=fun k=>by have:=hx k; omega
 simp[EV,fill,fillRows,partArs,toPVs,toPV,splice,hw,cX4,WP_any pX4,cX5,WP_any (pX5 hn),cX6,WP_any pX6,cX7,WP_any (pX7 (prOf_mem v)),cX8,WP_any (pX8 hv hv'),cX9,WP_any pX9,cX10,WP_any pX10,cX11,WP_any (pX11 (prOf_mem v)),cX12,WP_any pX12,WP_any pX12',cX13,WP_any pX13]
end
end Go.Proofs.YtchgldaddcolhaaGreatDoor
