/- Part of the proof of Rows.ProverMiddlesCardSaid: EvP, EvS. -/
import Derived.Orders
import Derived.OrdersIn
import Derived.RangeFuncNested
import Derived.RangeFuncCalls
import Derived.Test.YtepbfecmageleaaGreatDoorP09
set_option linter.all false
namespace Go.Proofs.YtepbfecmageleaaGreatDoor
open Go
variable [Sub]
section
variable {P:Program} {kn:TypeId→Bool} {w:World} {g:Gh} {H:List Obj} {a:Act} {e:Fr} {own:List Nat}
theorem int_rep (he:EnvRel w g H a.tmps e) {keep:Bool} {x:Operand} {sa:SA} {n:Int} (hc:compArg own keep x = some sa) (hv:evInt e sa = some n):∃ k,Rep w g H (a.eval x) (.p (.v (.int k n))) :=
  let ⟨k,h⟩:=evInt_some hv; ⟨k,arg_rep he hc h⟩
theorem val_rep (he:EnvRel w g H a.tmps e) {keep:Bool} {x:Operand} {sa:SA} {v:Value} (hc:compArg own keep x = some sa) (hv:evVal e sa = some v):Rep w g H (a.eval x) (.p (.v v)):=arg_rep he hc (evVal_some hv)
theorem str_rep (he:EnvRel w g H a.tmps e) {keep:Bool} {x:Operand} {sa:SA} {s:ByteArray} (hc:compArg own keep x = some sa) (hv:evStr e sa = some s):Rep w g H (a.eval x) (.p (.v (.string s))):=arg_rep he hc (evStr_some hv)
theorem bd_rep (he:EnvRel w g H a.tmps e) {x:Option Operand} {sa:Option SA} {d n:Int} (hc:compOpt own x = some sa) (hv:evIntO e d sa = some n):BdA a x d n:=by
  cases x with
  | none =>
    simp only [compOpt,Option.some.injEq] at hc
    subst hc
    simp only [evIntO,Option.some.injEq] at hv
    exact .inl ⟨rfl,hv.symm⟩
  | some y =>
    simp only [compOpt,Option.map_eq_some_iff] at hc
    obtain ⟨s,hs,rfl⟩:=hc
    obtain ⟨k,hk⟩:=int_rep he hs hv
    exact .inr ⟨y,k,rfl,hk.val.1⟩
theorem mx_rep (he:EnvRel w g H a.tmps e) {x:Option Operand} {sa:Option SA} {m:Option Int} (hc:compOpt own x = some sa) (hv:evIntOO e sa = some m) :
    (x = none∧m = none)∨∃ y k m',x = some y∧m = some m'∧a.eval y = .int k m':=by
  cases x with
  | none =>
    simp only [compOpt,Option.some.injEq] at hc
    subst hc
    simp only [evIntOO,Option.some.injEq] at hv
    exact .inl ⟨rfl,hv.symm⟩
  | some y =>
    simp only [compOpt,Option.map_eq_some_iff] at hc
    obtain ⟨s,hs,rfl⟩:=hc
    simp only [evIntOO,Option.map_eq_some_iff] at hv
    obtain ⟨n,hn,rfl⟩:=hv
    obtain ⟨k,hk⟩:=int_rep he hs hn
    exact .inr ⟨y,k,n,rfl,rfl,hk.val.1⟩
theorem size_some {t:TypeId} {n:Nat} (h:sizeT P t = some n):∃ i,P.info? t = some i∧i.size = n:=by
  simpa only [sizeT,Option.map_eq_some_iff] using h
theorem agg_some {t:TypeId} {b:Bool} (h:isAggT P t = some b):∃ d,P.underlying t = some d∧aggT d = b:=by
  simpa only [isAggT,under,Option.map_eq_some_iff] using h
theorem key_rep {c:Value} {u:AV} {k:Value} (h:Rep w g H c u) (hk:asKey u = some k):c = k:=by
  unfold asKey at hk
  split at hk
  · cases hk; exact h.val.1
  · simp only [Option.map_eq_some_iff] at hk
    obtain ⟨l,hl,rfl⟩:=hk
    obtain ⟨A,rfl,rfl⟩:=aggVals_rep h (show aggVals (.agg _) = some l from hl)
    simp
  · cases hk
theorem op_sim {o:Oper} {sop:SOp} {v:AV} {H':List Obj} (he:EnvRel w g H a.tmps e) (hs:StRel w g H) (hc:compOp P kn own o = some sop) (hr:evOp e H sop = some (v,H')) :
    OpSim P a w g H o v H':=by
  obtain ⟨dst,op,ty,pos,after,gd⟩:=o
  cases op with
  | move x =>
    simp only [compOp,Option.map_eq_some_iff] at hc
    obtain ⟨sa,hsa,rfl⟩:=hc
    simp only [evOp,Option.map_eq_some_iff,Prod.mk.injEq] at hr
    obtain ⟨u,hu,rfl,rfl⟩:=hr
    exact (run_move (arg_rep he hsa hu)).sim hs
  | assign x =>
    simp only [compOp,Option.map_eq_some_iff] at hc
    obtain ⟨sa,hsa,rfl⟩:=hc
    simp only [evOp,Option.map_eq_some_iff,Prod.mk.injEq] at hr
    obtain ⟨u,hu,rfl,rfl⟩:=hr
    exact (run_assign (arg_rep he hsa hu)).sim hs
  | pick c x y =>
    simp only [compOp,Option.map_eq_some_iff,Option.bind_eq_some_iff] at hc
    obtain ⟨sc,hsc,sx,hsx,sy,hsy,rfl⟩:=hc
    simp only [evOp,Option.map_eq_some_iff,Option.bind_eq_some_iff,Prod.mk.injEq] at hr
    obtain ⟨t,ht,u,hu,rfl,rfl⟩:=hr
    refine (run_pick (arg_rep he hsc (evBool_some ht)) ?_).sim hs
    cases t
    · exact arg_rep he hsy hu
    · exact arg_rep he hsx hu
  | alloc t =>
    simp only [compOp,Option.map_eq_some_iff] at hc
    obtain ⟨z,hz,rfl⟩:=hc
    simp only [evOp,Option.some.injEq,Prod.mk.injEq] at hr
    obtain ⟨rfl,rfl⟩:=hr
    exact sim_alloc hs hz
  | box t x =>
    simp only [compOp,Option.map_eq_some_iff] at hc
    obtain ⟨sa,hsa,rfl⟩:=hc
    simp only [evOp,Option.map_eq_some_iff,Option.bind_eq_some_iff,Prod.mk.injEq] at hr
    obtain ⟨u,hu,cs,hcs,rfl,rfl⟩:=hr
    exact sim_box hs (arg_rep he hsa hu) hcs
  | build t ps =>
    simp only [compOp,Option.bind_eq_some_iff,under] at hc
    obtain ⟨z,hz,d,hd,hc⟩:=hc
    obtain ⟨it,zv,hit,hzv,hzl,hzr⟩:=zeroT_rep (w:=w) (g:=g) (H:=H) hz
    cases d with
    | struct fs =>
      simp only at hc
      split at hc
      · cases hc
      · rename_i hpl
        simp only [Option.map_eq_some_iff] at hc
        obtain ⟨sps,hsps,rfl⟩:=hc
        simp only [evOp,Option.map_eq_some_iff,Prod.mk.injEq] at hr
        obtain ⟨cs,hcs,rfl,rfl⟩:=hr
        cases hpl':fs.toList.mapM fun f=>(P.info? f.type).map fun i=>(f.offset,i.size) with
        | none=>rw [hpl'] at hpl; exact absurd rfl hpl
        | some places =>
          obtain ⟨m1,m2⟩:=mapM_some hpl'
          obtain ⟨A',hA',hrep⟩:=fill_rep (mplace:=(places.toArray[·]?)) he (fun i off t n h1 h2=>by
            simp only [Option.map_eq_some_iff,Prod.mk.injEq] at h1
            obtain ⟨f,hf,rfl,rfl⟩:=h1
            obtain ⟨ti,hti,rfl⟩:=size_some h2
            have hlt:i < places.length:=by rw [← m1]; simpa using (Array.getElem?_eq_some_iff.1 hf).1
            have:=m2 i f places[i] (by simpa using hf) (by simp [hlt])
            rw [hti] at this
            simp only [Option.map_some,Option.some.injEq] at this
            simp [hlt,this]) hsps hcs ⟨hzl,hzr⟩
          exact (run_build' (by simp only [Program.built,hit,hd,hzv,hpl']; exact hA') hrep).sim hs
    | array len el =>
      simp only [Option.bind_eq_some_iff,Option.map_eq_some_iff] at hc
      obtain ⟨n,hn,sps,hsps,rfl⟩:=hc
      obtain ⟨ti,hti,rfl⟩:=size_some hn
      simp only [evOp,Option.map_eq_some_iff,Prod.mk.injEq] at hr
      obtain ⟨cs,hcs,rfl,rfl⟩:=hr
      obtain ⟨A',hA',hrep⟩:=fill_rep (mplace:=fun i=>some (i * ti.size,ti.size)) he (fun i off t n h1 h2=>by
        simp only [Option.some.injEq,Prod.mk.injEq] at h1
        obtain ⟨rfl,rfl⟩:=h1
        rw [hn] at h2
        cases h2
        rfl) hsps hcs ⟨hzl,hzr⟩
      exact (run_build' (by simp only [Program.built,hit,hd,hzv,hti]; exact hA') hrep).sim hs
    | _=>cases hc
  | buildSlice t n ps =>
    simp only [compOp,Option.bind_eq_some_iff,under] at hc
    obtain ⟨d,hd,hc⟩:=hc
    cases d with
    | slice el =>
      simp only [Option.bind_eq_some_iff] at hc
      obtain ⟨sz,hsz,z,hz,hc⟩:=hc
      split at hc
      · cases hc
      · rename_i hcond
        simp only [Option.map_eq_some_iff] at hc
        obtain ⟨sps,hsps,hc⟩:=hc
        obtain ⟨ti,hti,rfl⟩:=size_some hsz
        split at hc
        · subst hc
          simp only [evOp,Option.map_eq_some_iff,Prod.mk.injEq] at hr
          obtain ⟨rows,hrows,rfl,rfl⟩:=hr
          exact sim_slitA he hs hd hti hz (by omega) (by omega) hsps hrows
        · subst hc
          simp only [evOp,Option.map_eq_some_iff,Prod.mk.injEq] at hr
          obtain ⟨rows,hrows,rfl,rfl⟩:=hr
          exact sim_slit he hs hd hti hz (by omega) (by omega) hsps hrows
    | _=>cases hc
  | load t x =>
    simp only [compOp,Option.bind_eq_some_iff] at hc
    obtain ⟨sa,hsa,gg,hgg,hc⟩:=hc
    obtain ⟨d,hd,hda⟩:=agg_some hgg
    cases gg with
    | true =>
      simp only [if_true,Option.map_eq_some_iff] at hc
      obtain ⟨n,hn,rfl⟩:=hc
      obtain ⟨ti,hti,rfl⟩:=size_some hn
      simp only [evOp,Option.bind_eq_some_iff,Option.map_eq_some_iff,Prod.mk.injEq] at hr
      obtain ⟨u,hu,cs,hcs,rfl,rfl⟩:=hr
      exact (run_loadn hs hd hda hti (arg_rep he hsa hu) hcs).sim hs
    | false =>
      simp only [Bool.false_eq_true,if_false,Option.some.injEq] at hc
      subst hc
      simp only [evOp,Option.bind_eq_some_iff,Option.map_eq_some_iff,Prod.mk.injEq] at hr
      obtain ⟨u,hu,c,hcv,rfl,rfl⟩:=hr
      exact (run_load1 hs hd hda (arg_rep he hsa hu) hcv).sim hs
  | store t x y =>
    simp only [compOp] at hc
    split at hc
    · cases hc
    · rename_i hdst
      have:dst = none:=by cases dst <;> simp at hdst ⊢
      subst this
      simp only [Option.bind_eq_some_iff,Option.map_eq_some_iff] at hc
      obtain ⟨sx,hsx,sy,hsy,n,hn,rfl⟩:=hc
      obtain ⟨ti,hti,rfl⟩:=size_some hn
      simp only [evOp,Option.bind_eq_some_iff] at hr
      obtain ⟨u,hu,v',hv',cs,hcs,hr⟩:=hr
      split at hr
      · rename_i hlen
        simp only [Option.map_eq_some_iff,Prod.mk.injEq] at hr
        obtain ⟨H2,hH2,rfl,rfl⟩:=hr
        exact sim_store hs hti (arg_rep he hsx hu) (arg_rep he hsy hv') hcs hlen hH2
      · cases hr
  | nilCheck x =>
    simp only [compOp,Option.map_eq_some_iff] at hc
    obtain ⟨sa,hsa,rfl⟩:=hc
    simp only [evOp,Option.map_eq_some_iff,Option.bind_eq_some_iff,Prod.mk.injEq] at hr
    obtain ⟨u,hu,r,hr',rfl,rfl⟩:=hr
    exact (run_nilck (arg_rep he hsa hu) hr').sim hs
  | binOp op t x y yt =>
    simp only [compOp,Option.bind_eq_some_iff,under] at hc
    obtain ⟨d,hd,hc⟩:=hc
    have plain:(compArg own false x).bind (fun x=>(compArg own false y).map fun y=>SOp.bin op x y) = some sop→OpSim P a w g H ⟨dst,.binOp op t x y yt,ty,pos,after,gd⟩ v H':=fun hc=>by
      simp only [Option.bind_eq_some_iff,Option.map_eq_some_iff] at hc
      obtain ⟨sx,hsx,sy,hsy,rfl⟩:=hc
      simp only [evOp,Option.map_eq_some_iff,Option.bind_eq_some_iff,Prod.mk.injEq] at hr
      obtain ⟨u,hu,v',hv',r,hr',rfl,rfl⟩:=hr
      exact (run_bin (val_rep he hsx hu) (val_rep he hsy hv') hr').sim hs
    cases d with
    | bool =>
      simp only [Option.bind_eq_some_iff,Option.map_eq_some_iff] at hc
      obtain ⟨sx,hsx,sy,hsy,rfl⟩:=hc
      simp only [evOp,Option.map_eq_some_iff,Option.bind_eq_some_iff,Prod.mk.injEq] at hr
      obtain ⟨u,hu,v',hv',r,hr',rfl,rfl⟩:=hr
      exact (run_binBool hd (val_rep he hsx hu) (val_rep he hsy hv') hr').sim hs
    | slice el =>
      simp only at hc
      split at hc
      · simp only [Option.map_eq_some_iff] at hc
        obtain ⟨sx,hsx,rfl⟩:=hc
        simp only [evOp,Option.map_eq_some_iff,Option.bind_eq_some_iff,Prod.mk.injEq] at hr
        obtain ⟨u,hu,r,hr',rfl,rfl⟩:=hr
        exact (run_isnil (neg:=false) hd rfl (arg_rep he hsx hu) hr').sim hs
      · simp only [Option.map_eq_some_iff] at hc
        obtain ⟨sx,hsx,rfl⟩:=hc
        simp only [evOp,Option.map_eq_some_iff,Option.bind_eq_some_iff,Prod.mk.injEq] at hr
        obtain ⟨u,hu,r,hr',rfl,rfl⟩:=hr
        exact (run_isnil (neg:=true) hd rfl (arg_rep he hsx hu) hr').sim hs
      · cases hc
    | interface ms =>
      simp only at hc
      split at hc
      · simp only [Option.map_eq_some_iff] at hc
        obtain ⟨sx,hsx,rfl⟩:=hc
        simp only [evOp,Option.map_eq_some_iff,Option.bind_eq_some_iff,Prod.mk.injEq] at hr
        obtain ⟨u,hu,r,hr',rfl,rfl⟩:=hr
        exact (run_isnilI (neg:=false) hd rfl (val_rep he hsx hu) hr').sim hs
      · simp only [Option.map_eq_some_iff] at hc
        obtain ⟨sx,hsx,rfl⟩:=hc
        simp only [evOp,Option.map_eq_some_iff,Option.bind_eq_some_iff,Prod.mk.injEq] at hr
        obtain ⟨u,hu,r,hr',rfl,rfl⟩:=hr
        exact (run_isnilI (neg:=true) hd rfl (val_rep he hsx hu) hr').sim hs
      · cases hc
    | pointer el =>
      simp only at hc
      split at hc
      · simp only [Option.map_eq_some_iff] at hc
        obtain ⟨sx,hsx,rfl⟩:=hc
        simp only [evOp,Option.map_eq_some_iff,Option.bind_eq_some_iff,Prod.mk.injEq] at hr
        obtain ⟨u,hu,r,hr',rfl,rfl⟩:=hr
        exact (run_isnilG (neg:=false) hd (.inl ⟨rfl,⟨_,rfl⟩,rfl⟩) rfl (arg_rep he hsx hu) hr').sim hs
      · simp only [Option.map_eq_some_iff] at hc
        obtain ⟨sx,hsx,rfl⟩:=hc
        simp only [evOp,Option.map_eq_some_iff,Option.bind_eq_some_iff,Prod.mk.injEq] at hr
        obtain ⟨u,hu,r,hr',rfl,rfl⟩:=hr
        exact (run_isnilG (neg:=true) hd (.inl ⟨rfl,⟨_,rfl⟩,rfl⟩) rfl (arg_rep he hsx hu) hr').sim hs
      · cases hc
    | func a1 b1 c1 =>
      simp only at hc
      split at hc
      · simp only [Option.map_eq_some_iff] at hc
        obtain ⟨sx,hsx,rfl⟩:=hc
        simp only [evOp,Option.map_eq_some_iff,Option.bind_eq_some_iff,Prod.mk.injEq] at hr
        obtain ⟨u,hu,r,hr',rfl,rfl⟩:=hr
        exact (run_isnilG (neg:=false) hd (.inr (.inl ⟨rfl,⟨_,_,_,rfl⟩,rfl⟩)) rfl (arg_rep he hsx hu) hr').sim hs
      · simp only [Option.map_eq_some_iff] at hc
        obtain ⟨sx,hsx,rfl⟩:=hc
        simp only [evOp,Option.map_eq_some_iff,Option.bind_eq_some_iff,Prod.mk.injEq] at hr
        obtain ⟨u,hu,r,hr',rfl,rfl⟩:=hr
        exact (run_isnilG (neg:=true) hd (.inr (.inl ⟨rfl,⟨_,_,_,rfl⟩,rfl⟩)) rfl (arg_rep he hsx hu) hr').sim hs
      · cases hc
    | map a1 b1 =>
      simp only at hc
      split at hc
      · simp only [Option.map_eq_some_iff] at hc
        obtain ⟨sx,hsx,rfl⟩:=hc
        simp only [evOp,Option.map_eq_some_iff,Option.bind_eq_some_iff,Prod.mk.injEq] at hr
        obtain ⟨u,hu,r,hr',rfl,rfl⟩:=hr
        exact (run_isnilG (neg:=false) hd (.inr (.inr ⟨rfl,⟨_,_,rfl⟩,rfl⟩)) rfl (arg_rep he hsx hu) hr').sim hs
      · simp only [Option.map_eq_some_iff] at hc
        obtain ⟨sx,hsx,rfl⟩:=hc
        simp only [evOp,Option.map_eq_some_iff,Option.bind_eq_some_iff,Prod.mk.injEq] at hr
        obtain ⟨u,hu,r,hr',rfl,rfl⟩:=hr
        exact (run_isnilG (neg:=true) hd (.inr (.inr ⟨rfl,⟨_,_,rfl⟩,rfl⟩)) rfl (arg_rep he hsx hu) hr').sim hs
      · cases hc
    | struct fs =>
      simp only at hc
      split at hc
      · cases hc
      · rename_i hgd
        split at hc
        · rename_i ks hks
          simp only [Option.bind_eq_some_iff,Option.map_eq_some_iff] at hc
          obtain ⟨sx,hsx,sy,hsy,rfl⟩:=hc
          simp only [evOp,Option.bind_eq_some_iff] at hr
          obtain ⟨u,hu,v',hv',l,hl,m,hm,hr⟩:=hr
          split at hr
          · rename_i hlen
            simp only [Option.map_eq_some_iff,Prod.mk.injEq] at hr
            obtain ⟨r,hr',rfl,rfl⟩:=hr
            exact (run_eqs (neg:=false) hd (by simpa using hgd) hks rfl (arg_rep he hsx hu) (arg_rep he hsy hv') hl hm hlen.1 hlen.2 hr').sim hs
          · cases hr
        · rename_i ks hks
          simp only [Option.bind_eq_some_iff,Option.map_eq_some_iff] at hc
          obtain ⟨sx,hsx,sy,hsy,rfl⟩:=hc
          simp only [evOp,Option.bind_eq_some_iff] at hr
          obtain ⟨u,hu,v',hv',l,hl,m,hm,hr⟩:=hr
          split at hr
          · rename_i hlen
            simp only [Option.map_eq_some_iff,Prod.mk.injEq] at hr
            obtain ⟨r,hr',rfl,rfl⟩:=hr
            exact (run_eqs (neg:=true) hd (by simpa using hgd) hks rfl (arg_rep he hsx hu) (arg_rep he hsy hv') hl hm hlen.1 hlen.2 hr').sim hs
          · cases hr
        · cases hc
    | _=>exact plain hc
  | unOp op t x =>
    simp only [compOp,Option.map_eq_some_iff] at hc
    obtain ⟨sa,hsa,rfl⟩:=hc
    simp only [evOp,Option.map_eq_some_iff,Option.bind_eq_some_iff,Prod.mk.injEq] at hr
    obtain ⟨u,hu,r,hr',rfl,rfl⟩:=hr
    exact (run_un (val_rep he hsa hu) hr').sim hs
  | convert s d x =>
    simp only [compOp,Option.bind_eq_some_iff,under] at hc
    obtain ⟨sa,hsa,sd,hsd,hc⟩:=hc
    cases sd with
    | int k0 =>
      simp only [Option.bind_eq_some_iff] at hc
      obtain ⟨dd,hdd,hc⟩:=hc
      cases dd with
      | int k =>
        simp only [Option.some.injEq] at hc
        subst hc
        simp only [evOp,Option.map_eq_some_iff,Prod.mk.injEq] at hr
        obtain ⟨n,hn,rfl,rfl⟩:=hr
        obtain ⟨j,hj⟩:=int_rep he hsa hn
        exact (run_conv hsd hdd hj).sim hs
      | _=>cases hc
    | slice el =>
      simp only [Option.bind_eq_some_iff] at hc
      obtain ⟨te,hte,td,htd,hc⟩:=hc
      split at hc
      · cases hc
        simp only [evOp,Option.map_eq_some_iff,Option.bind_eq_some_iff,Prod.mk.injEq] at hr
        obtain ⟨u,hu,rows,hrows,l,hl,rfl,rfl⟩:=hr
        exact (run_b2s hs hsd hte htd (arg_rep he hsa hu) hrows hl).sim hs
      · cases hc
    | string =>
      simp only [Option.bind_eq_some_iff] at hc
      obtain ⟨td,htd,hc⟩:=hc
      cases td with
      | slice el =>
        simp only [Option.bind_eq_some_iff] at hc
        obtain ⟨te,hte,hc⟩:=hc
        split at hc
        · cases hc
          simp only [evOp,Option.bind_eq_some_iff] at hr
          obtain ⟨t,ht,hr⟩:=hr
          split at hr
          · cases hr
            exact sim_s2b hs hsd htd hte (str_rep he hsa ht)
          · cases hr
        · cases hc
      | _=>cases hc
    | _=>cases hc
  | makeFunc fn x y =>
    simp only [compOp,Option.bind_eq_some_iff,Option.map_eq_some_iff] at hc
    obtain ⟨sx,hsx,sy,hsy,rfl⟩:=hc
    simp only [evOp,Option.map_eq_some_iff,Option.bind_eq_some_iff,Prod.mk.injEq] at hr
    obtain ⟨us,hus,vs,hvs,rfl,rfl⟩:=hr
    obtain ⟨a1,a2⟩:=args_rep he hsx hus
    obtain ⟨b1,b2⟩:=args_rep he hsy hvs
    exact (run_mkfn a1 a2 b1 b2).sim hs
  | makeMap t r =>
    cases r with
    | some r=>cases hc
    | none =>
      simp only [compOp,Option.some.injEq] at hc
      subst hc
      simp only [evOp,Option.some.injEq,Prod.mk.injEq] at hr
      obtain ⟨rfl,rfl⟩:=hr
      exact sim_mkmap hs
  | makeSlice t n m =>
    simp only [compOp,Option.bind_eq_some_iff,under] at hc
    obtain ⟨d,hd,hc⟩:=hc
    cases d with
    | slice el =>
      simp only [Option.bind_eq_some_iff] at hc
      obtain ⟨b,hb,sz,hsz,z,hz,hc⟩:=hc
      split at hc
      · cases hc
      · rename_i hcond
        simp only [Option.bind_eq_some_iff,Option.map_eq_some_iff] at hc
        obtain ⟨sn,hsn,sm,hsm,rfl⟩:=hc
        obtain ⟨ti,hti,rfl⟩:=size_some hsz
        simp only [bytesT,hti,Option.map_some,Option.some.injEq] at hb
        subst hb
        simp only [evOp,Option.bind_eq_some_iff] at hr
        obtain ⟨n',hn',m',hm',hr⟩:=hr
        obtain ⟨j,hj⟩:=int_rep he hsn hn'
        obtain ⟨k,hk⟩:=int_rep he hsm hm'
        exact sim_mkslice hs hd hti hz (by omega) hj hk hr
    | _=>cases hc
  | slice t x lo hi mx =>
    simp only [compOp,Option.bind_eq_some_iff,under] at hc
    obtain ⟨sx,hsx,sl,hsl,sh,hsh,sm,hsm,hc⟩:=hc
    split at hc
    · cases hc
    · rename_i hcond
      simp only [Option.bind_eq_some_iff] at hc
      obtain ⟨d,hd,hc⟩:=hc
      cases d with
      | slice el =>
        simp only [Option.map_eq_some_iff] at hc
        obtain ⟨n,hn,rfl⟩:=hc
        obtain ⟨ti,hti,rfl⟩:=size_some hn
        simp only [evOp,Option.bind_eq_some_iff] at hr
        obtain ⟨u,hu,m,hm,l,hl,h,hh,mm,hmm,hr⟩:=hr
        refine sim_slice hs hd hti (arg_rep he hsx hu) hm (bd_rep he hsl hl) (bd_rep he hsh hh) (mx_rep he hsm hmm) (fun h1=>?_) hr
        cases mx with
        | none=>cases h1
        | some mx =>
          simp only [compOpt,Option.map_eq_some_iff] at hsm
          obtain ⟨_,_,rfl⟩:=hsm
          cases hi with
          | none =>
            simp only [compOpt,Option.some.injEq] at hsh
            subst hsh
            simp at hcond
          | some hi=>rfl
      | string =>
        simp only at hc
        split at hc
        · cases hc
          simp only [evOp,Option.bind_eq_some_iff] at hr
          obtain ⟨s,hs',l,hl,h,hh,hr⟩:=hr
          split at hr
          · rename_i hb
            cases hr
            cases mx with
            | none=>exact (run_sliceS hd (str_rep he hsx hs') (bd_rep he hsl hl) (bd_rep he hsh hh) hb.1 hb.2.1 hb.2.2).sim hs
            | some mx =>
              simp only [compOpt,Option.map_eq_some_iff] at hsm
              obtain ⟨_,_,h0⟩:=hsm
              cases h0
          · cases hr
        · cases hc
      | array len el =>
        simp only [Option.bind_eq_some_iff] at hc
        obtain ⟨n,hn,hc⟩:=hc
        split at hc
        · rename_i hcond2
          cases hc
          obtain ⟨ti,hti,rfl⟩:=size_some hn
          simp only [evOp,Option.map_eq_some_iff,Option.bind_eq_some_iff,Prod.mk.injEq] at hr
          obtain ⟨u,hu,l,hl,h,hh,r,hr',rfl,rfl⟩:=hr
          cases mx with
          | none=>exact (run_sliceArr hd hti hcond2.1 (arg_rep he hsx hu) (bd_rep he hsl hl) (bd_rep he hsh hh) hr').sim hs
          | some mx =>
            simp only [compOpt,Option.map_eq_some_iff] at hsm
            obtain ⟨_,_,rfl⟩:=hsm
            simp at hcond2
        · cases hc
      | _=>cases hc
  | fieldAddr t x i =>
    simp only [compOp,Option.bind_eq_some_iff,under] at hc
    obtain ⟨sx,hsx,d,hd,hc⟩:=hc
    cases d with
    | struct fs =>
      simp only [Option.bind_eq_some_iff] at hc
      obtain ⟨f,hf,n,hn,hc⟩:=hc
      obtain ⟨ti,hti,rfl⟩:=size_some hn
      split at hc
      · cases hc
      · rename_i hne
        cases hc
        simp only [evOp,Option.map_eq_some_iff,Option.bind_eq_some_iff,Prod.mk.injEq] at hr
        obtain ⟨u,hu,r,hr',rfl,rfl⟩:=hr
        exact (run_fadr hd hf hti hne (arg_rep he hsx hu) hr').sim hs
    | _=>cases hc
  | indexAddr t x y =>
    simp only [compOp,Option.bind_eq_some_iff,under] at hc
    obtain ⟨sx,hsx,sy,hsy,d,hd,hc⟩:=hc
    cases d with
    | slice el =>
      simp only [Option.map_eq_some_iff] at hc
      obtain ⟨n,hn,rfl⟩:=hc
      obtain ⟨ti,hti,rfl⟩:=size_some hn
      simp only [evOp,Option.map_eq_some_iff,Option.bind_eq_some_iff,Prod.mk.injEq] at hr
      obtain ⟨u,hu,m,hm,r,hr',rfl,rfl⟩:=hr
      obtain ⟨k,hk⟩:=int_rep he hsy hm
      exact (run_idx hs hd hti (arg_rep he hsx hu) hk hr').sim hs
    | array len el =>
      simp only [Option.map_eq_some_iff] at hc
      obtain ⟨n,hn,rfl⟩:=hc
      obtain ⟨ti,hti,rfl⟩:=size_some hn
      simp only [evOp,Option.map_eq_some_iff,Option.bind_eq_some_iff,Prod.mk.injEq] at hr
      obtain ⟨u,hu,m,hm,r,hr',rfl,rfl⟩:=hr
      obtain ⟨k,hk⟩:=int_rep he hsy hm
      exact (run_idxA hd hti (arg_rep he hsx hu) hk hr').sim hs
    | _=>cases hc
  | index t x y =>
    simp only [compOp,Option.bind_eq_some_iff,under] at hc
    obtain ⟨sx,hsx,sy,hsy,d,hd,hc⟩:=hc
    cases d with
    | string =>
      simp only [Option.some.injEq] at hc
      subst hc
      simp only [evOp,Option.map_eq_some_iff,Option.bind_eq_some_iff,Prod.mk.injEq] at hr
      obtain ⟨s,hs',m,hm,r,hr',rfl,rfl⟩:=hr
      obtain ⟨k,hk⟩:=int_rep he hsy hm
      exact (run_idxS hd (str_rep he hsx hs') hk hr').sim hs
    | array len el =>
      simp only [Option.bind_eq_some_iff,Option.map_eq_some_iff] at hc
      obtain ⟨gg,hgg,n,hn,rfl⟩:=hc
      obtain ⟨ti,hti,rfl⟩:=size_some hn
      obtain ⟨d,hd',rfl⟩:=agg_some hgg
      simp only [evOp,Option.map_eq_some_iff,Option.bind_eq_some_iff,Prod.mk.injEq] at hr
      obtain ⟨u,hu,m,hm,r,hr',rfl,rfl⟩:=hr
      obtain ⟨k,hk⟩:=int_rep he hsy hm
      exact (run_idxV hd hti hd' (arg_rep he hsx hu) hk hr').sim hs
    | _=>cases hc
  | lookup t x y ok =>
    simp only [compOp,Option.bind_eq_some_iff,Option.map_eq_some_iff] at hc
    obtain ⟨q,hq,el,hel,z,hz,sx,hsx,sy,hsy,rfl⟩:=hc
    simp only [evOp,evMap,evKey,Option.bind_eq_some_iff] at hr
    obtain ⟨r,⟨u,hu,hr1⟩,k,⟨uk,huk,hk1⟩,es,hes,hr⟩:=hr
    split at hr
    · rename_i hok
      simp only [Option.map_eq_some_iff,Prod.mk.injEq] at hr
      obtain ⟨o,ho,rfl,rfl⟩:=hr
      obtain ⟨key,d,hT⟩:=keyTy_some hq hel
      exact (run_mapget (uk:=uk) hs hT (zeroE_rep hz) (arg_rep he hsx hu) hr1 (key_rep (arg_rep he hsy huk) hk1) hes hok ho).sim hs
    · cases hr
  | mapUpdate t x y z =>
    simp only [compOp] at hc
    split at hc
    · cases hc
    · rename_i hk
      have:dst = none:=by cases dst <;> simp at hk ⊢
      subst this
      simp only [Option.bind_eq_some_iff,Option.map_eq_some_iff] at hc
      obtain ⟨q,hq,el,hel,sx,hsx,sy,hsy,sz,hsz,rfl⟩:=hc
      simp only [evOp,evMap,evKey,Option.bind_eq_some_iff] at hr
      obtain ⟨r,⟨u,hu,hr1⟩,k,⟨uk,huk,hk1⟩,v',hv1,l,rfl,es,hes,hr⟩:=hr
      split at hr
      · rename_i hok
        simp only [Option.map_eq_some_iff,Prod.mk.injEq] at hr
        obtain ⟨es',hes',rfl,rfl⟩:=hr
        obtain ⟨key,d,hT⟩:=keyTy_some hq hel
        exact sim_mapset hs hT (arg_rep he hsx hu) hr1 (key_rep (arg_rep he hsy huk) hk1) (arg_rep he hsz hv1) hes hok hes'
      · cases hr
  | extract x i =>
    simp only [compOp,Option.map_eq_some_iff] at hc
    obtain ⟨sa,hsa,rfl⟩:=hc
    simp only [evOp,Option.map_eq_some_iff,Option.bind_eq_some_iff,Prod.mk.injEq] at hr
    obtain ⟨u,hu,r,hr',rfl,rfl⟩:=hr
    exact (run_extract (arg_rep he hsa hu) hr').sim hs
  | call c =>
    simp only [compOp] at hc
    split at hc
    · simp only [Option.bind_eq_some_iff,Option.map_eq_some_iff] at hc
      obtain ⟨_,_,_,_,rfl⟩:=hc
      simp [evOp] at hr
    · rename_i hcal
      split at hc
      · rename_i x t ts hargs hts
        simp only [Option.bind_eq_some_iff,under] at hc
        obtain ⟨sx,hsx,d,hd,hc⟩:=hc
        have h0:c.argTypes[0]? = some t:=by rw [← Array.getElem?_toList,hts]; rfl
        cases d with
        | slice el =>
          cases hc
          simp only [evOp,Option.map_eq_some_iff,Option.bind_eq_some_iff,Prod.mk.injEq] at hr
          obtain ⟨u,hu,n,hn,rfl,rfl⟩:=hr
          exact (run_len hcal hargs h0 hd (arg_rep he hsx hu) hn).sim hs
        | string =>
          cases hc
          simp only [evOp,Option.map_eq_some_iff,Prod.mk.injEq] at hr
          obtain ⟨s,hs',rfl,rfl⟩:=hr
          exact (run_lenS hcal hargs h0 hd (str_rep he hsx hs')).sim hs
        | map key el =>
          cases hc
          simp only [evOp,evMap,Option.map_eq_some_iff,Option.bind_eq_some_iff,Prod.mk.injEq] at hr
          obtain ⟨r,⟨u,hu,hr1⟩,es,hes,rfl,rfl⟩:=hr
          exact (run_lenM hs hcal hargs h0 hd (arg_rep he hsx hu) hr1 hes).sim hs
        | _=>cases hc
      · cases hc
    · rename_i hcal
      split at hc
      · rename_i x t ts hargs hts
        simp only [Option.bind_eq_some_iff,under] at hc
        obtain ⟨sx,hsx,d,hd,hc⟩:=hc
        have h0:c.argTypes[0]? = some t:=by rw [← Array.getElem?_toList,hts]; rfl
        cases d with
        | slice el =>
          cases hc
          simp only [evOp,Option.map_eq_some_iff,Option.bind_eq_some_iff,Prod.mk.injEq] at hr
          obtain ⟨u,hu,n,hn,rfl,rfl⟩:=hr
          exact (run_cap hcal hargs h0 hd (arg_rep he hsx hu) hn).sim hs
        | _=>cases hc
      · cases hc
    · rename_i hcal
      split at hc
      · rename_i x y t t' hargs hts
        split at hc
        · simp only [Option.bind_eq_some_iff,under] at hc
          obtain ⟨d,hd,hc⟩:=hc
          cases d with
          | slice el =>
            simp only [Option.bind_eq_some_iff] at hc
            obtain ⟨d',hd',hc⟩:=hc
            cases d' with
            | int k =>
              simp only [Option.bind_eq_some_iff] at hc
              obtain ⟨b,hb,n,hn,z,hz,hc⟩:=hc
              split at hc
              · cases hc
              · rename_i hcond
                simp only [Option.bind_eq_some_iff,Option.map_eq_some_iff] at hc
                obtain ⟨sx,hsx,sy,hsy,rfl⟩:=hc
                obtain ⟨ti,hti,rfl⟩:=size_some hn
                simp only [bytesT,hti,Option.map_some,Option.some.injEq] at hb
                subst hb
                rw [not_or,not_or,Decidable.not_not] at hcond
                simp only [evOp,Option.bind_eq_some_iff] at hr
                obtain ⟨u,hu,m,hm,hr⟩:=hr
                obtain ⟨j,hj⟩:=int_rep he hsy hm
                exact sim_appendZ hs hcal hargs hts hd hd' hti hz hcond.2.2 hcond.1 hcond.2.1 (arg_rep he hsx hu) hj hr
            | _=>cases hc
          | _=>cases hc
        · rename_i htt
          have htt':t = t':=Classical.byContradiction htt
          subst htt'
          simp only [Option.bind_eq_some_iff,under] at hc
          obtain ⟨sx,hsx,sy,hsy,d,hd,hc⟩:=hc
          cases d with
          | slice el =>
            simp only [Option.bind_eq_some_iff] at hc
            obtain ⟨b,hb,n,hn,hc⟩:=hc
            split at hc
            · cases hc
            · rename_i hcond
              cases hc
              obtain ⟨ti,hti,rfl⟩:=size_some hn
              simp only [bytesT,hti,Option.map_some,Option.some.injEq] at hb
              subst hb
              rw [not_or] at hcond
              obtain ⟨hb0,hzc⟩:=hcond
              rw [hti] at hzc
              simp only [Option.bind_some,Decidable.not_not,Option.map_eq_some_iff] at hzc
              obtain ⟨z,hz,hzs⟩:=hzc
              simp only [evOp,Option.bind_eq_some_iff] at hr
              obtain ⟨u,hu,v',hv',hr⟩:=hr
              exact sim_append hs hcal hargs hts hd hti hz hzs hb0 (arg_rep he hsx hu) (arg_rep he hsy hv') hr
          | _=>cases hc
      · cases hc
    · rename_i hcal
      split at hc
      · rename_i x y t ts hargs hts
        have h0:c.argTypes[0]? = some t:=by rw [← Array.getElem?_toList,hts]; rfl
        simp only [Option.bind_eq_some_iff,under] at hc
        obtain ⟨sx,hsx,sy,hsy,d,hd,hc⟩:=hc
        cases d with
        | slice el =>
          simp only [Option.map_eq_some_iff] at hc
          obtain ⟨n,hn,rfl⟩:=hc
          obtain ⟨ti,hti,rfl⟩:=size_some hn
          simp only [evOp,Option.bind_eq_some_iff] at hr
          obtain ⟨u,hu,v',hv',hr⟩:=hr
          exact sim_copy hs hcal hargs h0 hd hti (arg_rep he hsx hu) (arg_rep he hsy hv') hr
        | _=>cases hc
      · cases hc
    · rename_i hcal
      split at hc
      · rename_i x y hargs
        simp only [Option.bind_eq_some_iff,Option.map_eq_some_iff] at hc
        obtain ⟨sx,hsx,sy,hsy,rfl⟩:=hc
        simp only [evOp,Option.map_eq_some_iff,Option.bind_eq_some_iff,Prod.mk.injEq] at hr
        obtain ⟨u,hu,v',hv',r,hr',rfl,rfl⟩:=hr
        exact (run_maxmin (mx:=true) hcal hargs (val_rep he hsx hu) (val_rep he hsy hv') hr').sim hs
      · cases hc
    · rename_i hcal
      split at hc
      · rename_i x y hargs
        simp only [Option.bind_eq_some_iff,Option.map_eq_some_iff] at hc
        obtain ⟨sx,hsx,sy,hsy,rfl⟩:=hc
        simp only [evOp,Option.map_eq_some_iff,Option.bind_eq_some_iff,Prod.mk.injEq] at hr
        obtain ⟨u,hu,v',hv',r,hr',rfl,rfl⟩:=hr
        exact (run_maxmin (mx:=false) hcal hargs (val_rep he hsx hu) (val_rep he hsy hv') hr').sim hs
      · cases hc
    · cases hc
  | _=>cases hc
end
end Go.Proofs.YtepbfecmageleaaGreatDoor
namespace Go.Proofs.YtepbfecmageleaaGreatDoor
open Go
variable [Sub]
theorem lk_upd:∀ (e:Env) (n m:Nat) (v:AV),lk (upd e n v) m = if n = m then some v else lk e m
  | [],n,m,v=>by simp [upd,lk]
  | (k,u)::e,n,m,v=>by
    simp only [upd]
    split
    · rename_i h; subst h; simp only [lk]; split <;> rfl
    · rename_i h
      simp only [lk,lk_upd e n m v]
      by_cases h1:k = m
      · subst h1; simp [Ne.symm h]
      · simp [h1]
structure FrOk (vars:List Nat) (e:Fr):Prop where
  loc:∀ n v,lk e.loc n = some v→n ∉ vars
  env:∀ n v,lk e.env n = some v→n ∈ vars
def DstOk (nt:Nat) (vars:List Nat) (d:Option Tmp) (sd:SD):Prop :=
  (d = none∧sd = .no)∨∃ n,d = some n∧n < nt∧((n ∈ vars∧sd = .x n)∨(n ∉ vars∧sd = .t n))
def ArgsRep (w:World) (g:Gh) (H:List Obj) (cs:Array Value) (aZ:List AV):Prop :=
  cs.size = aZ.length∧∀ (i:Nat) (c:Value) (x:AV),cs[i]? = some c→aZ[i]? = some x→Rep w g H c x
def CD (P:Program) (kn:TypeId→Bool):Code→SCode→Nat→List Nat→Prop:=fun c s nt vars=>∃ lone,comp P kn lone nt vars c = some s
def CallSim (P:Program) (kn:TypeId→Bool) (f:FuncId) (args:List AV) (H:List Obj) (r:AV×List Obj):Prop :=
  ∀ w g cs,g.cd = CD P kn→StRel w g H→ArgsRep w g H cs args →
    Calls P f cs w fun e w'=>∃ v g',e = .returned v∧Evo w g H w' g' r.2∧StRel w' g' r.2∧Rep w' g' r.2 v r.1
def FR (r:Option Nat):Fence:={ fn:=fun _=>True,depth:=none,alive:=false,round:=r }
theorem callsIn_FR {r:Option Nat} {n:Nat} {P:Program} {f:FuncId} {args:Array Value} {w:World} {R:Ending→World→Prop} (h:Calls P f args w R):CallsIn (FR r) n P f args w R:=by
  have h0:CallsIn Fence.wide n P f args w R:=callsIn_wide.2 h
  cases r with
  | none=>exact h0
  | some l=>exact h0.inRound l
def YieldSim (P:Program) (kn:TypeId→Bool) (l:Nat) (args:List AV) (H:List Obj) (r:AV×List Obj):Prop :=
  ∀ w g cs,g.cd = CD P kn→StRel w g H→ArgsRep w g H cs args→∀ r0:Option Nat,
    ∃ fn tmps assign body,(Instr.yield (g.blk l) cs).run P w = .ok (.round (g.blk l) fn tmps assign body) w ∧
      RoundIn (FR r0) 0 P (g.blk l) fn tmps assign body w fun e w'=>∃ v g',e = .returned v∧Evo w g H w' g' r.2∧StRel w' g' r.2∧Rep w' g' r.2 v r.1
section
variable {P:Program} {kn:TypeId→Bool} {w w':World} {g g':Gh} {H H':List Obj} {a:Act} {e:Fr} {vars:List Nat} {nt:Nat}
theorem EnvRel.evo (he:EnvRel w g H a.tmps e) (hv:Evo w g H w' g' H'):EnvRel w' g' H' a.tmps e :=
  ⟨fun t v h=>hv.rep _ _ (he.loc t v h),fun t v h=>hv.rep _ _ (he.env t v h)⟩
theorem put_rel {d:Option Tmp} {sd:SD} {cv:Value} {v:AV} (he:EnvRel w g H a.tmps e) (hf:FrOk vars e) (hd:DstOk nt vars d sd) (hn:nt ≤ a.tmps.size) (hr:d = none∨Rep w g H cv v) :
    EnvRel w g H (a.put d cv).tmps (dstPut sd e v)∧FrOk vars (dstPut sd e v)∧(a.put d cv).tmps.size = a.tmps.size∧(a.put d cv).defers = a.defers:=by
  rcases hd with ⟨rfl,rfl⟩ | ⟨n,rfl,hlt,hd⟩
  · exact ⟨he,hf,rfl,rfl⟩
  · have hr':Rep w g H cv v:=hr.resolve_left (by simp)
    have hget:∀ t,(a.put (some n) cv).tmps.getD t undef = if n = t then cv else a.tmps.getD t undef:=fun t=>by
      simp only [Act.put,Array.getD_eq_getD_getElem?,Array.getElem?_setIfInBounds]
      by_cases h:n = t
      · subst h; simp [Nat.lt_of_lt_of_le hlt hn]
      · simp [h]
    rcases hd with ⟨hin,rfl⟩ | ⟨hin,rfl⟩
    · refine ⟨⟨fun t u h=>?_,fun t u h=>?_⟩,⟨hf.loc,fun t u h=>?_⟩,by simp [Act.put],rfl⟩
      · rw [hget,if_neg (fun e1:n = t=>hf.loc t u h (by rw [← e1]; exact hin))]; exact he.loc t u h
      · simp only [dstPut,lk_upd] at h
        rw [hget]
        split at h
        · rename_i e1; cases h; rw [if_pos e1]; exact hr'
        · rename_i e1; rw [if_neg e1]; exact he.env t u h
      · simp only [dstPut,lk_upd] at h
        split at h
        · rename_i e1; exact e1 ▸ hin
        · exact hf.env t u h
    · refine ⟨⟨fun t u h=>?_,fun t u h=>?_⟩,⟨fun t u h=>?_,hf.env⟩,by simp [Act.put],rfl⟩
      · simp only [dstPut,lk] at h
        rw [hget]
        split at h
        · rename_i e1; cases h; rw [if_pos e1]; exact hr'
        · rename_i e1; rw [if_neg e1]; exact he.loc t u h
      · rw [hget,if_neg (fun e1:n = t=>hin (by rw [e1]; exact hf.env t u h))]; exact he.env t u h
      · simp only [dstPut,lk] at h
        split at h
        · rename_i e1; exact e1 ▸ hin
        · exact hf.loc t u h
theorem undef_rep:Rep w g H undef (.tup []):=.tup (a:=#[]) rfl (fun i c x h=>by simp at h)
def OneSim (P:Program) (a:Act) (w:World) (g:Gh) (H:List Obj) (o:Oper) (v:AV) (H':List Obj):Prop :=
  ∀ (r0:Option Nat) (K:Act→World→Prop) (Q:Exit→Act→World→Prop),(∀ cv w' g',Evo w g H w' g' H'→StRel w' g' H'→(o.dst = none∨Rep w' g' H' cv v)→K (a.put o.dst cv) w')→o.wpIn (FR r0) 0 P a w K Q
theorem OpSim.one {o:Oper} {v:AV} (h:OpSim P a w g H o v H'):OneSim P a w g H o v H':=fun r0 K Q hK=>by
  obtain ⟨cv,w',g',hr,h1,h2,h3⟩:=h
  have hnd:∀ c,o.op ≠ .defer c:=fun c hc=>by
    obtain ⟨dst,op,ty,pos,after,gd⟩:=o
    cases hc
    simp only [execOp,Sem.run_bind,Sem.run_pure] at hr
    generalize (resolve a.eval c ty).run P w = x at hr
    cases x <;> simp [Result.andThen] at hr
  refine ⟨fun _ _=>trivial,?_⟩
  rw [Oper.semAt_eq _ _ _ hnd]
  rcases hr with hr | ⟨hr,rfl⟩
  · rw [hr]; exact hK cv w' g' h1 h2 h3
  · rw [hr]; exact hK undef w' g' h1 h2 h3
def FnOk (P:Program) (f:FuncId):Prop:=∃ fn c,P.funcs[f]? = some fn∧(fn.name == "runtime.NumGoroutine") = false∧fn.body = some c
theorem args_append {c1 c2:Array Value} {l1 l2:List AV} (h1:ArgsRep w g H c1 l1) (h2:ArgsRep w g H c2 l2):ArgsRep w g H (c1++c2) (l1++l2):=by
  refine ⟨by simp [h1.1,h2.1],fun i c x hc hx=>?_⟩
  rw [Array.getElem?_append] at hc
  rw [List.getElem?_append] at hx
  split at hc
  · rename_i hlt
    rw [if_pos (by rw [← h1.1]; exact hlt)] at hx
    exact h1.2 i c x hc hx
  · rename_i hlt
    rw [if_neg (by rw [← h1.1]; exact hlt),← h1.1] at hx
    exact h2.2 _ c x hc hx
theorem one_call {o:Oper} {c:Call} {f:Operand} {fid:FuncId} {first args cap:List AV} {v:AV} (ho:o.op = .call c) (hcal:c.callee = .value f) (hok:FnOk P fid) (hs:StRel w g H)
    (hf:Rep w g H (a.eval f) (.fn (.func fid) first cap)) (ha:c.args.toList.length = args.length∧∀ (i:Nat) (x:Operand) (u:AV),c.args.toList[i]? = some x→args[i]? = some u→Rep w g H (a.eval x) u)
    (hcd:g.cd = CD P kn) (hsim:CallSim P kn fid (first++args++cap) H (v,H')):OneSim P a w g H o v H':=fun r0 K Q hK=>by
  obtain ⟨fn,code,h1,h2,h3⟩:=hok
  generalize hfv:a.eval f = fv at hf
  cases hf with
  | @fn _ cf cc _ _ e1 e2 r1 r2 =>
    obtain ⟨e3,r3⟩:=map_rep ha.1 ha.2
    have hargs:ArgsRep w g H (cf++c.args.map a.eval++cc) (first++args++cap):=args_append (args_append ⟨e1,r1⟩ ⟨e3,r3⟩) ⟨e2,r2⟩
    have hrun:(execOp a.eval o).run P w = .ok (.enter fid (cf++c.args.map a.eval++cc)) w:=by
      obtain ⟨dst,op,ty,pos,after,gd⟩:=o
      cases ho
      simp [execOp,resolve,hcal,hfv,Deferred.ofValue,Go.invoke,callFunc,h1,h3]
      simp at h2
      simp [h2]
    refine ⟨fun _ _=>trivial,?_⟩
    rw [Oper.semAt_eq _ _ _ (fun c' hc'=>by rw [ho] at hc'; cases hc'),hrun,Oper.uponIn_enter]
    refine ⟨fun h=>(by cases h),callsIn_FR ((hsim w g _ hcd hs hargs).mono fun e w'' he=>?_)⟩
    obtain ⟨cv,g',rfl,k1,k2,k3⟩:=he
    exact hK cv w'' g' k1 k2 (.inr k3)
theorem one_yield {o:Oper} {c:Call} {f:Operand} {l:Nat} {args:List AV} {v:AV} (ho:o.op = .call c) (hcal:c.callee = .value f) (hs:StRel w g H)
    (hf:Rep w g H (a.eval f) (.yld l)) (ha:c.args.toList.length = args.length∧∀ (i:Nat) (x:Operand) (u:AV),c.args.toList[i]? = some x→args[i]? = some u→Rep w g H (a.eval x) u)
    (hcd:g.cd = CD P kn) (hsim:YieldSim P kn l args H (v,H')):OneSim P a w g H o v H':=fun r0 K Q hK=>by
  generalize hfv:a.eval f = fv at hf
  cases hf with
  | yld hl =>
    obtain ⟨e3,r3⟩:=map_rep ha.1 ha.2
    obtain ⟨fn,tmps,assign,body,h1,h2⟩:=hsim w g (c.args.map a.eval) hcd hs ⟨e3,r3⟩ r0
    have hrun:(execOp a.eval o).run P w = .ok (.round (g.blk l) fn tmps assign body) w:=by
      obtain ⟨dst,op,ty,pos,after,gd⟩:=o
      cases ho
      simp [execOp,resolve,hcal,hfv,Deferred.ofValue,Go.invoke,h1]
    refine ⟨fun _ _=>trivial,?_⟩
    rw [Oper.semAt_eq _ _ _ (fun c' hc'=>by rw [ho] at hc'; cases hc'),hrun,Oper.uponIn_round]
    refine ⟨fun h=>(by cases h),h2.mono fun e w'' he=>?_⟩
    obtain ⟨cv,g',rfl,k1,k2,k3⟩:=he
    exact hK cv w'' g' k1 k2 (.inr k3)
theorem wanted_rep {ops:Array Oper} {o:Oper} {so:SO} {own:List Nat} {t:Bool} (he:EnvRel w g H a.tmps e)
    (hg:(match o.guard with
      | none=>some none
      | some (j,b)=>((ops[j]?).bind (·.dst)).map fun t=>some (if own.contains t then SA.t t else SA.x t,b)) = some so.guard) (hw:wanted so e = some t) :
    Region.wanted o (yielded ops a.tmps) = t:=by
  unfold Region.wanted
  cases ho:o.guard with
  | none =>
    rw [ho] at hg
    simp only [Option.some.injEq] at hg
    simp only [wanted,← hg,Option.some.injEq] at hw
    exact hw
  | some jb =>
    obtain ⟨j,b⟩:=jb
    rw [ho] at hg
    simp only [Option.map_eq_some_iff] at hg
    obtain ⟨d,hd,hg⟩:=hg
    simp only [wanted,← hg] at hw
    have key:∀ v,ev e (if own.contains d then SA.t d else SA.x d) = some v→Rep w g H (a.tmps.getD d undef) v:=fun v hv=>by
      split at hv
      · exact he.loc d v hv
      · exact he.env d v hv
    have hy:∀ c,a.tmps.getD d undef = c→c ≠ undef→yielded ops a.tmps j = (match c with | .bool b=>some b | _=>none):=fun c hc hne=>by
      unfold yielded
      rw [hd,Option.bind_some]
      rw [Array.getD_eq_getD_getElem?] at hc
      cases ht:a.tmps[d]? with
      | none=>rw [ht] at hc; exact absurd hc.symm hne
      | some c'=>rw [ht] at hc; simp only [Option.getD_some] at hc; subst hc; cases c' <;> rfl
    split at hw
    · rename_i t' hev
      have:=(key _ hev).val.1
      cases hw
      show (yielded ops a.tmps j == some b) = (t' == b)
      rw [hy _ this (by intro h; cases h)]
      cases t' <;> cases b <;> rfl
    · rename_i hev
      have hr:=key _ hev
      cases hw
      have hn:yielded ops a.tmps j = none:=by
        unfold yielded
        rw [hd,Option.bind_some]
        generalize hc:a.tmps.getD d undef = c at hr
        cases hr with
        | tup h0 _ =>
          rw [Array.getD_eq_getD_getElem?] at hc
          cases ht:a.tmps[d]? with
          | none=>rfl
          | some c'=>rw [ht] at hc; simp only [Option.getD_some] at hc; subst hc; rfl
      show (yielded ops a.tmps j == some b) = false
      rw [hn]; rfl
    · cases hw
theorem compOps_cons {ops:Array Oper} {o:Oper} {os:List Oper} {own:List Nat} {sos:List SO} (h:compOps P kn nt vars ops (o::os) own = some sos) :
    ∃ so rest own',sos = so::rest∧compOp P kn own o = some so.op∧DstOk nt vars o.dst so.dst∧compOps P kn nt vars ops os own' = some rest ∧
      (match o.guard with
      | none=>some none
      | some (j,b)=>((ops[j]?).bind (·.dst)).map fun t=>some (if own.contains t then SA.t t else SA.x t,b)) = some so.guard:=by
  simp only [compOps,Option.bind_eq_some_iff] at h
  obtain ⟨op,hop,g,hg,h⟩:=h
  cases hd:o.dst with
  | none =>
    simp only [hd,Option.map_eq_some_iff] at h
    obtain ⟨rest,hrest,rfl⟩:=h
    exact ⟨_,rest,own,rfl,hop,.inl ⟨rfl,rfl⟩,hrest,hg⟩
  | some d =>
    simp only [hd] at h
    split at h
    · rename_i hlt
      split at h
      · rename_i hin
        simp only [Option.map_eq_some_iff] at h
        obtain ⟨rest,hrest,rfl⟩:=h
        exact ⟨_,rest,own,rfl,hop,.inr ⟨d,rfl,hlt,.inl ⟨by simpa using hin,rfl⟩⟩,hrest,hg⟩
      · rename_i hin
        simp only [Option.map_eq_some_iff] at h
        obtain ⟨rest,hrest,rfl⟩:=h
        exact ⟨_,rest,d::own,rfl,hop,.inr ⟨d,rfl,hlt,.inr ⟨by simpa using hin,rfl⟩⟩,hrest,hg⟩
    · cases h
theorem evs_congr {e e':Fr}:∀ {xs:List SA},(∀ x ∈ xs,ev e' x = ev e x)→evs e' xs = evs e xs
  | [],_=>rfl
  | x::xs,h=>by simp only [evs,h x (List.mem_cons_self ..),evs_congr (fun y hy=>h y (List.mem_cons_of_mem _ hy))]
theorem fill_congr {e e':Fr}:∀ {ps:List (Nat×Nat×SA)} {z:List AV},(∀ x ∈ ps.map (·.2.2),ev e' x = ev e x)→fill e' z ps = fill e z ps
  | [],z,_=>rfl
  | (off,n,x)::ps,z,h=>by
    simp only [fill,h x (by simp)]
    congr 1; funext a; congr 1; funext cs; split
    · congr 1; funext z'; exact fill_congr (fun y hy=>h y (by simp at hy ⊢; exact .inr hy))
    · rfl
theorem fillRows_congr {e e':Fr} {H:List Obj} {n:Nat}:∀ {ps:List (Nat×SA)} {z:List (List PV)},(∀ x ∈ ps.map (·.2),ev e' x = ev e x)→fillRows H e' n z ps = fillRows H e n z ps
  | [],z,_=>rfl
  | (off,x)::ps,z,h=>by
    simp only [fillRows,h x (by simp)]
    congr 1; funext a; congr 1; funext cs; congr 1; funext r; split
    · congr 1; funext z'; exact fillRows_congr (fun y hy=>h y (by simp at hy ⊢; exact .inr hy))
    · rfl
theorem partArs_congr {e e':Fr}:∀ {ps:List (Nat×SA)},(∀ x ∈ ps.map (·.2),ev e' x = ev e x)→partArs e' ps = partArs e ps
  | [],_=>rfl
  | (off,x)::ps,h=>by
    simp only [partArs,h x (by simp)]
    rw [partArs_congr (fun y hy=>h y (by simp at hy ⊢; exact .inr hy))]
theorem evOp_congr {e e':Fr} {op:SOp} {H:List Obj} (h:∀ x ∈ opKeys op,ev e' x = ev e x):evOp e' H op = evOp e H op:=by
  cases op with
  | build z ps=>simp only [evOp,fill_congr (e:=e) (e':=e') h]
  | slit z n ps=>simp only [evOp,fillRows_congr (e:=e) (e':=e') h,partArs_congr (e:=e) (e':=e') h]
  | slitA z n ps=>simp only [evOp,fillRows_congr (e:=e) (e':=e') h,partArs_congr (e:=e) (e':=e') h]
  | mkfn fn a b =>
    simp only [evOp,evs_congr (e:=e) (e':=e') (xs:=a) (fun x hx=>h x (by simp [opKeys,hx])),evs_congr (e:=e) (e':=e') (xs:=b) (fun x hx=>h x (by simp [opKeys,hx]))]
  | slice es x l hi m =>
    have hx:=h x (by simp [opKeys])
    have hl:∀ d,evIntO e' d l = evIntO e d l:=fun d=>by
      cases l with
      | none=>rfl
      | some y=>simp only [evIntO,evInt,h y (by simp [opKeys])]
    have hh:∀ d,evIntO e' d hi = evIntO e d hi:=fun d=>by
      cases hi with
      | none=>rfl
      | some y=>simp only [evIntO,evInt,h y (by simp [opKeys])]
    have hm:evIntOO e' m = evIntOO e m:=by
      cases m with
      | none=>rfl
      | some y=>simp only [evIntOO,evInt,h y (by simp [opKeys])]
    simp only [evOp,hx,hl,hh,hm]
  | sliceS x l hi =>
    have hx:=h x (by simp [opKeys])
    have hl:∀ d,evIntO e' d l = evIntO e d l:=fun d=>by
      cases l with
      | none=>rfl
      | some y=>simp only [evIntO,evInt,h y (by simp [opKeys])]
    have hh:∀ d,evIntO e' d hi = evIntO e d hi:=fun d=>by
      cases hi with
      | none=>rfl
      | some y=>simp only [evIntO,evInt,h y (by simp [opKeys])]
    simp only [evOp,evStr,hx,hl,hh]
  | sliceArr n x l hi =>
    have hx:=h x (by simp [opKeys])
    have hl:∀ d,evIntO e' d l = evIntO e d l:=fun d=>by
      cases l with
      | none=>rfl
      | some y=>simp only [evIntO,evInt,h y (by simp [opKeys])]
    have hh:∀ d,evIntO e' d hi = evIntO e d hi:=fun d=>by
      cases hi with
      | none=>rfl
      | some y=>simp only [evIntO,evInt,h y (by simp [opKeys])]
    simp only [evOp,hx,hl,hh]
  | _=>simp only [opKeys,List.mem_cons,List.not_mem_nil,or_false,forall_eq_or_imp,forall_eq] at h <;> simp [evOp,evVal,evInt,evBool,evStr,evMap,evKey,h]
end
def OneM (P:Program) (kn:TypeId→Bool) (op:SOp) (e:Fr) (H:List Obj) (r:AV×List Obj):Prop :=
  ∀ (e':Fr),(∀ x ∈ opKeys op,ev e' x = ev e x)→∀ (o:Oper) (own:List Nat) (a:Act) (w:World) (g:Gh),compOp P kn own o = some op→EnvRel w g H a.tmps e'→g.cd = CD P kn→StRel w g H→OneSim P a w g H o r.1 r.2
def OpsM (P:Program) (kn:TypeId→Bool) (sos:List SO) (e:Fr) (H:List Obj) (r:St):Prop :=
  ∀ (nt:Nat) (vars:List Nat) (ops:Array Oper) (l:List Oper) (own:List Nat) (k:Nat),compOps P kn nt vars ops l own = some sos→(∀ j,j < l.length→ops[k + j]? = l[j]?) →
  ∀ (a:Act) (w:World) (g:Gh) (r0:Option Nat) (Q:Exit→Act→World→Prop),EnvRel w g H a.tmps e→FrOk vars e→nt ≤ a.tmps.size→g.cd = CD P kn→StRel w g H →
    (∀ a' w' g',Evo w g H w' g' r.H→StRel w' g' r.H→EnvRel w' g' r.H a'.tmps ⟨[],r.env⟩→FrOk vars ⟨[],r.env⟩→a'.defers = a.defers→a'.tmps.size = a.tmps.size→Q .normal a' w') →
    wpOpsIn (FR r0) 0 P ops Q (List.range' k l.length) a w
theorem opsM_nil {P:Program} {kn:TypeId→Bool} {e:Fr} {H:List Obj}:OpsM P kn [] e H ⟨e.env,H⟩:=by
  intro nt vars ops l own k hc _ a w g r0 Q he hf hn hcd hs hQ
  cases l with
  | nil =>
    simp only [List.length_nil,List.range'_zero,wpOpsIn]
    exact hQ a w g (.refl _ _ _) hs ⟨fun t v h=>(by cases h),he.env⟩ ⟨fun t v h=>(by cases h),hf.env⟩ rfl rfl
  | cons o os =>
    obtain ⟨_,_,_,h,_⟩:=compOps_cons hc
    cases h
theorem opsM_cons {P:Program} {kn:TypeId→Bool} {so:SO} {sos:List SO} {e:Fr} {H:List Obj} {t:Bool} {r:St} (hw:wanted so e = some t)
    (h:if t then ∃ v,OneM P kn so.op e H v∧OpsM P kn sos (dstPut so.dst e v.1) v.2 r else OpsM P kn sos (dstDrop so.dst e) H r):OpsM P kn (so::sos) e H r:=by
  intro nt vars ops l own k hc hl a w g r0 Q he hf hn hcd hs hQ
  cases l with
  | nil=>simp [compOps] at hc
  | cons o os =>
    obtain ⟨so',rest,own',heq,hop,hdst,hrest,hg⟩:=compOps_cons hc
    cases heq
    have ho:ops[k]? = some o:=by have:=hl 0 (by simp); simpa using this
    have hl':∀ j,j < os.length→ops[k + 1 + j]? = os[j]?:=fun j hj=>by
      have:=hl (j + 1) (by simpa using hj)
      rw [List.getElem?_cons_succ] at this
      rw [← this]; congr 1; omega
    rw [List.length_cons,List.range'_succ]
    simp only [wpOpsIn,ho]
    have hwr:=wanted_rep (ops:=ops) he hg hw
    rw [hwr]
    cases t with
    | false =>
      simp only [Bool.false_eq_true,if_false] at h ⊢
      obtain ⟨p1,p2,p3,p4⟩:=put_rel (d:=o.dst) (sd:=so.dst) (cv:=undef) (v:=.tup []) he hf hdst hn (.inr undef_rep)
      exact ⟨fun _ _=>trivial,h nt vars ops os own' (k + 1) hrest hl' _ w g r0 Q p1 p2 (by rw [p3]; exact hn) hcd hs (fun a' w' g' q1 q2 q3 q4 q5 q6=>hQ a' w' g' q1 q2 q3 q4 (q5.trans p4) (q6.trans p3))⟩
    | true =>
      simp only [if_true] at h ⊢
      obtain ⟨v,h1,h2⟩:=h
      refine h1 e (fun _ _=>rfl) o own a w g hop he hcd hs _ _ _ fun cv w' g' e1 s1 hr=>?_
      obtain ⟨p1,p2,p3,p4⟩:=put_rel (d:=o.dst) (sd:=so.dst) (cv:=cv) (v:=v.1) (he.evo e1) hf hdst hn hr
      exact h2 nt vars ops os own' (k + 1) hrest hl' _ w' g' r0 Q p1 p2 (by rw [p3]; exact hn) (e1.cd.trans hcd) s1 (fun a' w'' g'' q1 q2 q3 q4 q5 q6=>hQ a' w'' g'' (e1.trans q1) q2 q3 q4 (q5.trans p4) (q6.trans p3))
end Go.Proofs.YtepbfecmageleaaGreatDoor
