/- Part of the proof of Rows.ProverMiddlesCardSaid: EvC, EvO, EvO2. -/
import Derived.Laws.CopyRow
import Derived.Laws.Entries
import Derived.Laws.AppendOwn
import Derived.Laws.Slices
import Derived.Laws.BytesArg
import Derived.Test.YtepbfecmageleaaGreatDoorP01
import Derived.Test.YtepbfecmageleaaGreatDoorP04
set_option linter.all false
namespace Go.Proofs.YtepbfecmageleaaGreatDoor
open Go
section
variable (P:Program) (kn:TypeId→Bool)
def cvt (keep:Bool):Value→Option AV
  | .slice none 0 0=>some (if keep then .p .nsl else .lit [])
  | .slice .. | .agg _ | .tuple _ | .func .. | .iface .. | .map (some _) | .chan (some _) | .pointer (some _)=>none
  | v=>some (.p (.v v))
def cvtP (keep:Bool):Value→Option PV
  | .slice none 0 0=>some (if keep then .nsl else .sl [])
  | .slice .. | .agg _ | .tuple _ | .func .. | .iface .. | .map (some _) | .chan (some _) | .pointer (some _)=>none
  | v=>some (.v v)
def under (t:TypeId):Option TypeDesc:=P.underlying t
def sizeT (t:TypeId):Option Nat:=(P.info? t).map (·.size)
def bytesT (t:TypeId):Option Nat:=(P.info? t).map (·.bytes)
def aggT:TypeDesc→Bool | .struct _=>true | .array _ _=>true | _=>false
def isAggT (t:TypeId):Option Bool:=(under P t).map aggT
def zeroT (t:TypeId):Option (List AV):=((P.info? t).bind (·.zero)).bind fun z=>z.cells.toList.mapM (cvt (kn t))
def zeroP (t:TypeId):Option (List PV):=((P.info? t).bind (·.zero)).bind fun z=>z.cells.toList.mapM (cvtP (kn t))
def compArg (own:List Nat) (keep:Bool):Operand→Option SA
  | .tmp t=>some (if own.contains t then .t t else .x t)
  | .const v=>(cvt keep v).map .c
  | .func f=>some (.f f)
  | .global _=>none
def compArgs (own:List Nat):List Operand→List TypeId→Option (List SA)
  | [],_=>some []
  | x::xs,ts=>(compArg own (((ts.head?).map kn).getD false) x).bind fun a=>(compArgs own xs ts.tail).map fun aZ=>a::aZ
def compParts (own:List Nat) (place:Nat→Option (Nat×TypeId)):List (Nat×Operand)→Option (List (Nat×SA))
  | []=>some []
  | (i,x)::ps=>(place i).bind fun (off,t)=>(compArg own (kn t) x).bind fun a=>(compParts own place ps).map fun aZ=>(off,a)::aZ
def compFields (own:List Nat) (place:Nat→Option (Nat×TypeId)):List (Nat×Operand)→Option (List (Nat×Nat×SA))
  | []=>some []
  | (i,x)::ps=>(place i).bind fun (off,t)=>(sizeT P t).bind fun n=>(compArg own (kn t) x).bind fun a=>(compFields own place ps).map fun aZ=>(off,n,a)::aZ
def leavesFs (lv:TypeId→Option (List LK)):List Field→Nat→Option (List LK)
  | [],_=>some []
  | f::fs,n=>if f.name = "_"∨f.offset ≠ n then none else (lv f.type).bind fun l=>(leavesFs lv fs (n + l.length)).map fun m=>l++m
def leaves:Nat→TypeId→Option (List LK)
  | 0,_=>none
  | d + 1,t=>(under P t).bind fun
    | .int _=>if sizeT P t = some 1 then some [.int] else none
    | .bool=>if sizeT P t = some 1 then some [.bool] else none
    | .string=>if sizeT P t = some 1 then some [.str] else none
    | .struct fs=>if P.stoodInHeld t then none else (leavesFs (leaves d) fs.toList 0).bind fun l=>if sizeT P t = some l.length then some l else none
    | .array len e=>(leaves d e).bind fun l=>if sizeT P e = some l.length∧sizeT P t = some (len * l.length) then some (List.replicate len l).flatten else none
    | _=>none
def keyT (t:TypeId):Option (Bool×List LK):=match under P t with
  | some (.map k _)=>(under P k).bind fun d=>(leaves P 10 k).bind fun ks=>some (aggT d,ks)
  | _=>none
def elemT (t:TypeId):Option TypeId:=match under P t with
  | some (.map _ e)=>some e
  | _=>none
def zeroE (e:TypeId):Option AV:=((P.info? e).bind (·.zero)).bind fun
  | .agg cs=>(cs.toList.mapM (cvt (kn e))).map .agg
  | z=>cvt (kn e) z
def compOpt (own:List Nat):Option Operand→Option (Option SA)
  | none=>some none
  | some y=>(compArg own false y).map some
def compOp (own:List Nat) (o:Oper):Option SOp :=
  let arg:=compArg own
  match o.op with
  | .move x | .assign x=>(arg (kn o.type) x).map .mov
  | .pick c a b=>(arg false c).bind fun c=>(arg false a).bind fun a=>(arg false b).map fun b=>.pick c a b
  | .alloc t=>(zeroT P kn t).map .alloc
  | .box t x=>(arg (kn t) x).map .box
  | .build t ps=>(zeroT P kn t).bind fun z=>(under P t).bind fun
    | .struct fs=>if (fs.toList.mapM fun f=>(P.info? f.type).map fun i=>(f.offset,i.size)).isNone then none else (compFields P kn own (fun i=>(fs[i]?).map fun f=>(f.offset,f.type)) ps.toList).map fun ps=>.build z ps
    | .array _ e=>(sizeT P e).bind fun n=>(compFields P kn own (fun i=>some (i * n,e)) ps.toList).map fun ps=>.build z ps
    | _=>none
  | .buildSlice t n ps=>(under P t).bind fun
    | .slice e=>(sizeT P e).bind fun sz=>(zeroP P kn e).bind fun z=>if z.length ≠ sz∨n * sz > 16777216 then none else (compParts kn own (fun i=>some (i,e)) ps.toList).map fun ps=>if kn (t + 1000000) then .slitA z n ps else .slit z n ps
    | _=>none
  | .load t a=>(arg false a).bind fun a=>(isAggT P t).bind fun g=>if g then (sizeT P t).map fun n=>.loadn n a else some (.load1 a)
  | .store t a x=>if o.dst.isSome then none else (arg false a).bind fun a=>(arg (kn t) x).bind fun x=>(sizeT P t).map fun n=>.store n a x
  | .nilCheck x=>(arg false x).map .nilck
  | .binOp op t x y _=>(under P t).bind fun
    | .bool=>(arg false x).bind fun x=>(arg false y).map fun y=>.binB op x y
    | .slice _=>match op,y with
      | .eql,.const (.slice none 0 0)=>(arg true x).map fun x=>.isnil false x
      | .neq,.const (.slice none 0 0)=>(arg true x).map fun x=>.isnil true x
      | _,_=>none
    | .interface _=>match op,y with
      | .eql,.const .nilIface=>(arg false x).map fun x=>.isnilI false x
      | .neq,.const .nilIface=>(arg false x).map fun x=>.isnilI true x
      | _,_=>none
    | .pointer _=>match op,y with
      | .eql,.const (.pointer none)=>(arg false x).map fun x=>.isnilG 0 false x
      | .neq,.const (.pointer none)=>(arg false x).map fun x=>.isnilG 0 true x
      | _,_=>none
    | .func ..=>match op,y with
      | .eql,.const .nilFunc=>(arg false x).map fun x=>.isnilG 1 false x
      | .neq,.const .nilFunc=>(arg false x).map fun x=>.isnilG 1 true x
      | _,_=>none
    | .map ..=>match op,y with
      | .eql,.const (.map none)=>(arg false x).map fun x=>.isnilG 2 false x
      | .neq,.const (.map none)=>(arg false x).map fun x=>.isnilG 2 true x
      | _,_=>none
    | .struct _=>if P.eqGuardType P.depth t then none else match leaves P 10 t,op with
      | some n,.eql=>(arg false x).bind fun x=>(arg false y).map fun y=>.eqs n false x y
      | some n,.neq=>(arg false x).bind fun x=>(arg false y).map fun y=>.eqs n true x y
      | _,_=>none
    | _=>(arg false x).bind fun x=>(arg false y).map fun y=>.bin op x y
  | .unOp op _ x=>(arg false x).map fun x=>.un op x
  | .convert s d x=>(arg false x).bind fun x=>(under P s).bind fun
    | .int _=>(under P d).bind fun | .int k=>some (.conv k x) | _=>none
    | .slice e=>(under P e).bind fun te=>(under P d).bind fun td=>match te,td with
      | .int .u8,.string=>some (.b2s x)
      | _,_=>none
    | .string=>(under P d).bind fun
      | .slice e=>(under P e).bind fun | .int .u8=>some (.s2b x) | _=>none
      | _=>none
    | _=>none
  | .makeFunc fn a b=>(compArgs kn own a.toList []).bind fun a=>(compArgs kn own b.toList []).map fun b=>.mkfn fn a b
  | .makeMap _ none=>some .mkmap
  | .makeSlice t n m=>(under P t).bind fun
    | .slice e=>(bytesT P e).bind fun b=>(sizeT P e).bind fun sz=>(zeroP P kn e).bind fun z=>if z.length ≠ sz then none else (arg false n).bind fun n=>(arg false m).map fun m=>.mkslice b z n m
    | _=>none
  | .slice t x l h m=>(arg false x).bind fun x=>(compOpt own l).bind fun l=>(compOpt own h).bind fun h=>(compOpt own m).bind fun m=>if m.isSome && h.isNone then none else (under P t).bind fun
    | .slice e=>(sizeT P e).map fun n=>.slice n x l h m
    | .string=>match m with | none=>some (.sliceS x l h) | some _=>none
    | .array len e=>(sizeT P e).bind fun n=>if n = 1∧m.isNone then some (.sliceArr len x l h) else none
    | _=>none
  | .fieldAddr t x i=>(arg false x).bind fun x=>(under P t).bind fun
    | .struct fs=>(fs[i]?).bind fun f=>(sizeT P f.type).bind fun n=>if n = 0 then none else some (.fadr f.offset x)
    | _=>none
  | .indexAddr t x i=>(arg false x).bind fun x=>(arg false i).bind fun i=>(under P t).bind fun
    | .slice e=>(sizeT P e).map fun n=>.idx n x i
    | .array len e=>(sizeT P e).map fun n=>.idxA len n x i
    | _=>none
  | .index t x i=>(arg false x).bind fun x=>(arg false i).bind fun i=>(under P t).bind fun
    | .string=>some (.idxS x i)
    | .array len e=>(isAggT P e).bind fun g=>(sizeT P e).map fun n=>.idxV len g n x i
    | _=>none
  | .lookup t x k ok=>(keyT P t).bind fun g=>(elemT P t).bind fun e=>(zeroE P kn e).bind fun z=>(arg false x).bind fun x=>(arg false k).map fun k=>.mapget g.1 g.2 z ok x k
  | .mapUpdate t m k v=>if o.dst.isSome then none else (keyT P t).bind fun g=>(elemT P t).bind fun e=>(arg false m).bind fun m=>(arg false k).bind fun k=>(arg (kn e) v).map fun v=>.mapset g.1 g.2 m k v
  | .extract x i=>(arg false x).map fun x=>.extract x i
  | .call c=>match c.callee with
    | .value f=>(arg false f).bind fun f=>(compArgs kn own c.args.toList c.argTypes.toList).map fun aZ=>.call f aZ
    | .builtin .len=>match c.args.toList,c.argTypes.toList with
      | [x],t::_=>(arg false x).bind fun x=>(under P t).bind fun
        | .slice _=>some (.len x)
        | .string=>some (.lenS x)
        | .map ..=>some (.lenM x)
        | _=>none
      | _,_=>none
    | .builtin .cap=>match c.args.toList,c.argTypes.toList with
      | [x],t::_=>(arg false x).bind fun x=>(under P t).bind fun
        | .slice _=>some (.capN x)
        | _=>none
      | _,_=>none
    | .builtin .append=>match c.args.toList,c.argTypes.toList with
      | [x,y],[t,t']=>if t ≠ t' then (under P t).bind fun
        | .slice e=>(under P t').bind fun
          | .int _=>(bytesT P e).bind fun b=>(sizeT P e).bind fun n=>(zeroP P kn e).bind fun z=>if b = 0∨n = 0∨z.length ≠ n then none else (arg false x).bind fun x=>(arg false y).map fun y=>.appendZ b z x y
          | _=>none
        | _=>none
       else (arg false x).bind fun x=>(arg false y).bind fun y=>(under P t).bind fun
        | .slice e=>(bytesT P e).bind fun b=>(sizeT P e).bind fun n=>if b = 0∨((P.info? e).bind (·.zero)).map (·.cells.size) ≠ some n then none else some (.append b n x y)
        | _=>none
      | _,_=>none
    | .builtin .copy=>match c.args.toList,c.argTypes.toList with
      | [x,y],t::_=>(arg false x).bind fun x=>(arg false y).bind fun y=>(under P t).bind fun
        | .slice e=>(sizeT P e).map fun n=>.copy n x y
        | _=>none
      | _,_=>none
    | .builtin .max=>match c.args.toList with | [x,y]=>(arg false x).bind fun x=>(arg false y).map fun y=>.maxmin true x y | _=>none
    | .builtin .min=>match c.args.toList with | [x,y]=>(arg false x).bind fun x=>(arg false y).map fun y=>.maxmin false x y | _=>none
    | _=>none
  | _=>none
def compOps (nt:Nat) (vars:List Nat) (ops:Array Oper):List Oper→List Nat→Option (List SO)
  | [],_=>some []
  | o::os,own=>(compOp P kn own o).bind fun op =>
      let g:Option (Option (SA×Bool)):=match o.guard with
        | none=>some none
        | some (j,b)=>((ops[j]?).bind (·.dst)).map fun t=>some (if own.contains t then .t t else .x t,b)
      g.bind fun g =>
      match o.dst with
      | none=>(compOps nt vars ops os own).map fun r=>⟨.no,op,g⟩::r
      | some d=>if d < nt then
          if vars.contains d then (compOps nt vars ops os own).map fun r=>⟨.x d,op,g⟩::r
          else (compOps nt vars ops os (d::own)).map fun r=>⟨.t d,op,g⟩::r
        else none
inductive K0 where | free | read | write | may deriving DecidableEq
def kind0:SOp→K0
  | .mov _ | .pick .. | .build .. | .nilck _ | .bin .. | .binB .. | .isnil .. | .un .. | .conv .. | .mkfn .. | .fadr .. | .idxA .. | .idxS .. | .idxV .. | .sliceS .. | .extract .. | .len _ | .lenS _ | .maxmin ..=>.free
  | .capN _ | .sliceArr .. | .eqs .. | .isnilI .. | .isnilG ..=>.free
  | .load1 _ | .loadn .. | .idx .. | .b2s _ | .mapget .. | .lenM _=>.read
  | .slice _ _ _ _ none=>.read
  | .call .. | .slit .. | .slice _ _ _ _ (some _)=>.may
  | _=>.write
def befs:List Oper→List Nat→List Nat
  | [],acc=>acc
  | o::os,acc=>befs os (acc++[o.after.toList.foldl (fun s e=>if Region.binds .any e then s ||| 2 ^ e.on ||| acc.getD e.on 0 else s) 0])
def waits (B:List Nat) (i j:Nat):Bool:=(B.getD i 0).testBit j
def ordered (B:List Nat) (i j:Nat):Bool:=waits B i j || waits B j i
def SD.key:SD→List Nat
  | .no=>[]
  | .t n=>[n]
  | .x n=>[n]
def soKeys (o:SO):List Nat:=o.dst.key++(opKeys o.op).flatMap SA.key++(match o.guard with | some (a,_)=>a.key | none=>[])
def loneOp (lone:FuncId→Bool):SOp→Bool
  | .call (.f g) _=>lone g
  | .slit ..=>true
  | .slice _ _ _ _ (some _)=>true
  | _=>false
def isCut:SOp→Bool
  | .slice _ _ _ _ (some _)=>true
  | _=>false
def isW (ds:List DO) (j:Nat):Bool:=match ds[j]? with | some d=>d.k.seq | none=>false
def isF (ds:List DO) (j:Nat):Bool:=match ds[j]? with | some d=>d.k == .fresh | none=>false
def isFresh:SOp→Bool
  | .alloc _ | .box _ | .mkslice ..=>true
  | _=>false
def mkDs (sos:List SO) (k:Nat→DK) (lo hi:Nat→Nat):List DO:=sos.zipIdx.map fun p=>⟨p.1,k p.2,lo p.2,hi p.2⟩
def keysB (B:List Nat) (sos:List SO) (i d:Nat):Bool:=d == i || ordered B i d || match sos[i]?,sos[d]? with
  | some so,some so'=>!(so'.dst.key.any fun t=>(soKeys so).contains t)
  | _,_=>true
def kindB (B:List Nat) (ds:List DO) (i:Nat):Bool:=match ds[i]? with
  | none=>true
  | some d =>
    let rd:=kind0 d.o.op == .read && decide (d.lo ≤ ((List.range ds.length).filter fun j=>isW ds j && waits B i j).length) && decide (((List.range ds.length).filter fun j=>isW ds j && !(waits B j i)).length ≤ d.hi)
    match d.k with
    | .free=>kind0 d.o.op == .free
    | .here=>rd && d.lo == d.hi
    | .read=>rd
    | .fresh=>isFresh d.o.op && d.o.guard.isNone
    | _=>true
def drawB (ops:Array Oper) (sos:List SO) (ds:List DO):Bool :=
  let B:=befs ops.toList []
  let r:=List.range sos.length
  (r.all fun i=>r.all fun d=>keysB B sos i d) &&
  (r.all fun i=>r.all fun j=>!decide (j < i) || isF ds i || !(isW ds i && isW ds j) || waits B i j) &&
  (ops.toList.zipIdx.all fun p=>p.1.after.toList.all fun e=>!Region.binds .any e || !isF ds e.on || r.all fun k=>!decide (k < e.on) || !isW ds k || waits B p.2 k) &&
  (ops.toList.zipIdx.all fun p=>p.1.after.toList.all fun e=>!Region.binds .any e || decide (e.on < p.2)) &&
  (r.all fun i=>kindB B ds i)
def compDraw (lone:FuncId→Bool) (ops:Array Oper) (sos:List SO):Option (List DO) :=
  let B:=befs ops.toList []
  let n:=sos.length
  let ks:=sos.map fun o=>kind0 o.op
  let k1:List K0:=sos.zipIdx.map fun (o,i)=>match kind0 o.op with
    | .may=>if !isCut o.op && loneOp lone o.op && (List.range n).any (fun j=>j != i && ks.getD j .free != .free && !ordered B i j) then .may else .write
    | k=>k
  let kinds:List K0:=sos.zipIdx.map fun (o,i)=>if isCut o.op && (List.range n).any (fun j=>j != i && k1.getD j .free == .write && !ordered B i j) then .may else k1.getD i .free
  let fr:List Bool:=sos.zipIdx.map fun (o,i)=>isFresh o.op && o.guard.isNone && (List.range n).any fun j=>j != i && kinds.getD j .free == .write && !ordered B i j
  let ws:=(List.range n).filter fun i=>kinds.getD i .free == .write
  let los:=(List.range n).map fun i=>(ws.filter fun j=>waits B i j).length
  let his:=(List.range n).map fun i=>(ws.filter fun j=>!waits B j i).length
  let ds:=mkDs sos (fun i=>match kinds.getD i .free with
    | .free=>.free
    | .read=>if los.getD i 0 = his.getD i 0 then .here else .read
    | .write=>if fr.getD i false then .fresh else .write
    | .may=>.lone) (fun i=>los.getD i 0) (fun i=>his.getD i 0)
  if drawB ops sos ds then some ds else none
def loneVars (ds:List DO):List Nat:=if ds.any fun d=>d.k == .lone then ds.flatMap fun d=>(opKeys d.o.op).flatMap fun | .x n=>[n] | _=>[] else []
def comp (lone:FuncId→Bool) (nt:Nat) (vars:List Nat):Code→Option SCode
  | .skip=>some .skip
  | .region _ ops draw=>some (((compOps P kn nt vars ops ops.toList []).bind fun sos=>if draw then (compDraw lone ops sos).map fun ds=>match (if lone 1000001 then loneVars ds else []) with | []=>.draw ds | ns=>.still ns (.draw ds) else some (.region sos)).getD .refuse)
  | .seq a b=>(comp lone nt vars a).bind fun a=>(comp lone nt vars b).map fun b=>.seq a b
  | .cond c a b=>(compArg [] false c).bind fun c=>(comp lone nt vars a).bind fun a=>(comp lone nt vars b).map fun b=>.cond c a b
  | .block id b=>(comp lone nt vars b).map fun b=>.block id b
  | .loop b=>(comp lone nt vars b).map .loop
  | .exit id=>some (.exit id)
  | .ret=>some .ret
  | .rangeFunc f ps a b=>if ps.toList.all (fun p=>vars.contains p && decide (p < nt)) then
      (compArg [] false f).bind fun f=>(comp lone nt vars a).bind fun a=>(comp lone nt vars b).map fun b=>.range f ps.toList a b else none
  | _=>some .refuse
def opTmps (o:Oper):List Nat:=o.op.operands.toList.filterMap fun | .tmp t=>some t | _=>none
def exposed:List Oper→List Nat→List Nat
  | [],_=>[]
  | o::os,own=>(opTmps o).filter (!own.contains ·)++exposed os (o.dst.toList++own)
def exposedC:Code→List Nat
  | .region _ ops _=>exposed ops.toList []
  | .seq a b=>exposedC a++exposedC b
  | .cond c a b=>(match c with | .tmp t=>[t] | _=>[])++exposedC a++exposedC b
  | .block _ b=>exposedC b
  | .loop b=>exposedC b
  | .rangeFunc f ps a b=>(match f with | .tmp t=>[t] | _=>[])++ps.toList++exposedC a++exposedC b
  | _=>[]
def varsOf (fn:Func):List Nat :=
  (List.range (fn.params.size + fn.nfree)++(fn.results.toList.map fun | ResultVar.tmp t=>t | ResultVar.cell t _=>t)++((fn.body.map exposedC).getD [])).eraseDups
end
end Go.Proofs.YtepbfecmageleaaGreatDoor
namespace Go.Proofs.YtepbfecmageleaaGreatDoor
open Go
variable [Sub]
structure EnvRel (w:World) (g:Gh) (H:List Obj) (tmps:Array Value) (e:Fr):Prop where
  loc:∀ t v,lk e.loc t = some v→Rep w g H (tmps.getD t undef) v
  env:∀ t v,lk e.env t = some v→Rep w g H (tmps.getD t undef) v
theorem cvt_rep {w:World} {g:Gh} {H:List Obj} {keep:Bool} {v:Value} {a:AV} (h:cvt keep v = some a):Rep w g H v a:=by
  unfold cvt at h
  split at h
  · cases h
    cases keep
    · exact .lit .nil
    · exact .p .nsl
  all_goals first | (cases h; done) | skip
  cases h
  refine .p (.v ?_)
  cases v <;> first | rfl | skip
  case chan r _ _ _ _ _ _ _ _ _=>cases r <;> simp_all [Scalar]
  all_goals simp_all
theorem arg_rep {w:World} {g:Gh} {H:List Obj} {a:Act} {e:Fr} (he:EnvRel w g H a.tmps e) {own:List Nat} {keep:Bool} {x:Operand} {sa:SA} {v:AV}
    (hc:compArg own keep x = some sa) (hv:ev e sa = some v):Rep w g H (a.eval x) v:=by
  cases x with
  | tmp t =>
    simp only [compArg] at hc
    split at hc
    · cases hc; exact he.loc t v hv
    · cases hc; exact he.env t v hv
  | const c =>
    simp only [compArg,Option.map_eq_some_iff] at hc
    obtain ⟨b,hb,rfl⟩:=hc
    simp only [ev,Option.some.injEq] at hv
    subst hv
    exact cvt_rep hb
  | global n=>simp [compArg] at hc
  | func f =>
    simp only [compArg,Option.some.injEq] at hc
    subst hc
    simp only [ev,Option.some.injEq] at hv
    subst hv
    exact .fn rfl rfl (fun i c x h=>by simp at h) (fun i c x h=>by simp at h)
def OpSim (P:Program) (a:Act) (w:World) (g:Gh) (H:List Obj) (o:Oper) (v:AV) (H':List Obj):Prop :=
  ∃ cv w' g',((execOp a.eval o).run P w = .ok (.value cv) w'∨((execOp a.eval o).run P w = .ok .skip w'∧cv = undef)) ∧
    Evo w g H w' g' H'∧StRel w' g' H'∧(o.dst = none∨Rep w' g' H' cv v)
theorem OpSim.quiet {P:Program} {a:Act} {w:World} {g:Gh} {H:List Obj} {o:Oper} {v:AV} {cv:Value} (hs:StRel w g H) (hr:(execOp a.eval o).run P w = .ok (.value cv) w) (h:Rep w g H cv v):OpSim P a w g H o v H :=
  ⟨cv,w,g,.inl hr,.refl _ _ _,hs,.inr h⟩
section
variable {P:Program} {w:World} {g:Gh} {H:List Obj}
theorem RepP.int {D:Nat→Nat→Prop} {c:Value} {k:IntKind} {n:Int} (h:RepP w D c (.v (.int k n))):c = .int k n:=by cases h; rfl
theorem RepP.val {D:Nat→Nat→Prop} {c x:Value} (h:RepP w D c (.v x)):c = x∧Scalar x = true:=by cases h with | v h=>exact ⟨rfl,h⟩
theorem Rep.val {c x:Value} (h:Rep w g H c (.p (.v x))):c = x∧Scalar x = true:=by cases h with | p h=>exact h.val
theorem Rep.v {x:Value} (h:Scalar x = true):Rep w g H x (.p (.v x)):=.p (.v h)
theorem run_shift {op:BinOp} {k j:IntKind} {m n:Int} {r:Value} (t:TypeId) (hop:op = .shl∨op = .shr) (h:shift op k m n = some r) :
    (Go.binOp op t (.int k m) (.int j n)).run P w = .ok r w∧Scalar r = true:=by
  unfold shift at h
  split at h
  · cases h
  · rename_i hn
    rcases hop with rfl | rfl <;> cases h <;> exact ⟨by simp [Go.binOp,Op.shift,hn],rfl⟩
theorem run_int {op:BinOp} {k:IntKind} {m n:Int} {r:Value} (t:TypeId) (h1:op ≠ .shl) (h2:op ≠ .shr) (h:binInt op k m n = some r) :
    (Go.binOp op t (.int k m) (.int k n)).run P w = .ok r w∧Scalar r = true:=by
  cases op <;> simp only [binInt,bits] at h
  case quo | rem =>
    split at h
    · cases h
    · rename_i hne; cases h; exact ⟨by simp [Go.binOp,Op.intDiv,hne],rfl⟩
  case shl=>exact absurd rfl h1
  case shr=>exact absurd rfl h2
  all_goals (cases h; exact ⟨by simp [Go.binOp,Op.intArith,Op.intBits,Op.intCmp],rfl⟩)
theorem run_str {op:BinOp} {a b:ByteArray} {r:Value} (t:TypeId) (h:binV op (.string a) (.string b) = some r) :
    (Go.binOp op t (.string a) (.string b)).run P w = .ok r w∧Scalar r = true:=by
  cases op <;> simp only [binV] at h
  case add =>
    split at h
    · rename_i hlt; cases h
      refine ⟨?_,rfl⟩
      have:¬ (9223372036854775807 < (a.size:Int) + (b.size:Int)):=by omega
      simp [Go.binOp,Op.stringOp,IntKind.max,IntKind.bits,IntKind.signed,this]
    · cases h
  case eql | neq=>cases h; exact ⟨by simp [Go.binOp,Op.stringOp],rfl⟩
  all_goals cases h
theorem run_equalIn_bool (d:Nat) {t:TypeId} (a b:Bool) (ht:P.underlying t = some .bool):(Op.equalIn (d + 1) t (.bool a) (.bool b)).run P w = .ok (a == b) w:=by
  simp [Op.equalIn,run_underlying ht]
theorem run_binB {op:BinOp} {u v r:Value} {t:TypeId} (ht:P.underlying t = some .bool) (h:binB op u v = some r) :
    (Go.binOp op t u v).run P w = .ok r w∧Scalar r = true:=by
  unfold binB at h
  split at h
  · rename_i a b
    cases op <;> simp only at h
    case eql=>cases h; exact ⟨by simp only [Go.binOp,Op.equal,Op.maxDepth,Sem.run_bind,run_equalIn_bool (w:=w) 9999 a b ht]; rfl,rfl⟩
    case neq=>cases h; exact ⟨by simp only [Go.binOp,Op.equal,Op.maxDepth,Sem.run_bind,run_equalIn_bool (w:=w) 9999 a b ht]; rfl,rfl⟩
    all_goals cases h
  · cases h
theorem run_binV {op:BinOp} {u v r:Value} {t:TypeId} (h:binV op u v = some r) :
    (Go.binOp op t u v).run P w = .ok r w∧Scalar r = true:=by
  cases u with
  | int k m =>
    cases v with
    | int j n =>
      by_cases h1:op = .shl
      · subst h1; exact run_shift t (.inl rfl) h
      · by_cases h2:op = .shr
        · subst h2; exact run_shift t (.inr rfl) h
        · have h':(if k = j then binInt op k m n else none) = some r:=by
            cases op <;> first | exact absurd rfl h1 | exact absurd rfl h2 | exact h
          split at h'
          · rename_i hk; subst hk; exact run_int t h1 h2 h'
          · cases h'
    | _=>simp [binV] at h
  | string s =>
    cases v with
    | string t'=>exact run_str t h
    | _=>simp [binV] at h
  | _=>simp [binV] at h
theorem guard_binV {op:BinOp} {u v r:Value} {xt:TypeId} {x y:Operand} (h:binV op u v = some r):(eqGuard op xt x y u v).run P w = .ok () w:=by
  cases u <;> cases v <;> first
    | (simp [binV] at h; done)
    | (clear h; cases op <;> rfl)
theorem guard_binB {op:BinOp} {u v r:Value} {xt:TypeId} {x y:Operand} (h:binB op u v = some r):(eqGuard op xt x y u v).run P w = .ok () w:=by
  cases u <;> cases v <;> first
    | (simp [binB] at h; done)
    | (clear h; cases op <;> rfl)
theorem evVal_some {e:Fr} {x:SA} {v:Value} (h:evVal e x = some v):ev e x = some (.p (.v v)):=by
  unfold evVal at h
  cases he:ev e x with
  | none=>rw [he] at h; cases h
  | some a =>
    rw [he] at h
    simp only [Option.bind_some] at h
    unfold asVal at h
    split at h
    · cases h; rfl
    · cases h
theorem evInt_some {e:Fr} {x:SA} {n:Int} (h:evInt e x = some n):∃ k,ev e x = some (.p (.v (.int k n))):=by
  unfold evInt at h
  cases he:ev e x with
  | none=>rw [he] at h; cases h
  | some a =>
    rw [he] at h
    simp only [Option.bind_some] at h
    unfold asInt at h
    split at h
    · cases h; exact ⟨_,rfl⟩
    · cases h
theorem evStr_some {e:Fr} {x:SA} {s:ByteArray} (h:evStr e x = some s):ev e x = some (.p (.v (.string s))):=by
  unfold evStr at h
  cases he:ev e x with
  | none=>rw [he] at h; cases h
  | some a =>
    rw [he] at h
    simp only [Option.bind_some] at h
    unfold asStr at h
    split at h
    · cases h; rfl
    · cases h
theorem evBool_some {e:Fr} {x:SA} {s:Bool} (h:evBool e x = some s):ev e x = some (.p (.v (.bool s))):=by
  unfold evBool at h
  cases he:ev e x with
  | none=>rw [he] at h; cases h
  | some a =>
    rw [he] at h
    simp only [Option.bind_some] at h
    unfold asBoolA at h
    split at h
    · cases h; rfl
    · cases h
def RunV (P:Program) (a:Act) (w:World) (g:Gh) (H:List Obj) (o:Oper) (v:AV):Prop:=∃ cv,(execOp a.eval o).run P w = .ok (.value cv) w∧Rep w g H cv v
theorem RunV.sim {a:Act} {o:Oper} {v:AV} (hs:StRel w g H) (h:RunV P a w g H o v):OpSim P a w g H o v H:=let ⟨_,h1,h2⟩:=h; .quiet hs h1 h2
variable {a:Act} {dst:Option Tmp} {ty:TypeId} {pos:String} {after:Array Edge} {gd:Option (Nat×Bool)}
theorem run_move {x:Operand} {v:AV} (h:Rep w g H (a.eval x) v):RunV P a w g H ⟨dst,.move x,ty,pos,after,gd⟩ v:=⟨_,by simp [execOp],h⟩
theorem run_assign {x:Operand} {v:AV} (h:Rep w g H (a.eval x) v):RunV P a w g H ⟨dst,.assign x,ty,pos,after,gd⟩ v:=⟨_,by simp [execOp],h⟩
theorem run_pick {c x y:Operand} {t:Bool} {v:AV} (hc:Rep w g H (a.eval c) (.p (.v (.bool t)))) (h:Rep w g H (if t then a.eval x else a.eval y) v) :
    RunV P a w g H ⟨dst,.pick c x y,ty,pos,after,gd⟩ v:=⟨if t then a.eval x else a.eval y,by simp [execOp,hc.val.1,asBool],h⟩
theorem run_bin {op:BinOp} {xt yt:TypeId} {x y:Operand} {u v r:Value} (hx:Rep w g H (a.eval x) (.p (.v u))) (hy:Rep w g H (a.eval y) (.p (.v v))) (h:binV op u v = some r) :
    RunV P a w g H ⟨dst,.binOp op xt x y yt,ty,pos,after,gd⟩ (.p (.v r)):=by
  have key:=run_binV (w:=w) (P:=P) (t:=xt) h
  exact ⟨r,by simp [execOp,hx.val.1,hy.val.1,guard_binV (w:=w) (P:=P) (xt:=xt) (x:=x) (y:=y) h,key.1],.v key.2⟩
theorem run_binBool {op:BinOp} {xt yt:TypeId} {x y:Operand} {u v r:Value} (ht:P.underlying xt = some .bool) (hx:Rep w g H (a.eval x) (.p (.v u))) (hy:Rep w g H (a.eval y) (.p (.v v))) (h:binB op u v = some r) :
    RunV P a w g H ⟨dst,.binOp op xt x y yt,ty,pos,after,gd⟩ (.p (.v r)):=by
  have key:=run_binB (w:=w) (P:=P) ht h
  exact ⟨r,by simp [execOp,hx.val.1,hy.val.1,guard_binB (w:=w) (P:=P) (xt:=xt) (x:=x) (y:=y) h,key.1],.v key.2⟩
theorem run_un {op:UnOp} {xt:TypeId} {x:Operand} {u r:Value} (hx:Rep w g H (a.eval x) (.p (.v u))) (h:un op u = some r) :
    RunV P a w g H ⟨dst,.unOp op xt x,ty,pos,after,gd⟩ (.p (.v r)):=by
  have key:(Op.unary op u).run P w = .ok r w∧Scalar r = true:=by
    cases u <;> cases op <;> first
      | (simp only [un] at h; cases h; exact ⟨rfl,rfl⟩)
      | (simp [un] at h; done)
  exact ⟨r,by simp [execOp,hx.val.1,key.1],.v key.2⟩
theorem run_conv {s d:TypeId} {x:Operand} {k:IntKind} {n:Int} {j:IntKind} {u:TypeDesc} (hsu:P.underlying s = some u) (hd:P.underlying d = some (.int k)) (hx:Rep w g H (a.eval x) (.p (.v (.int j n)))) :
    RunV P a w g H ⟨dst,.convert s d x,ty,pos,after,gd⟩ (.p (.v (.int k (k.wrap n)))) :=
  ⟨_,by simp [execOp,hx.val.1,Go.convert,run_underlying hsu,run_underlying hd,Conv.intToInt],.v rfl⟩
theorem run_nilck {x:Operand} {u v:AV} (hx:Rep w g H (a.eval x) u) (h:nilckV u = some v):RunV P a w g H ⟨dst,.nilCheck x,ty,pos,after,gd⟩ v:=by
  have key:v = u∧(execOp a.eval ⟨dst,.nilCheck x,ty,pos,after,gd⟩).run P w = .ok (.value (a.eval x)) w:=by
    generalize hc:a.eval x = c at hx
    cases hx with
    | ptr h1=>cases h; exact ⟨rfl,by simp [execOp,hc]⟩
    | elp h1=>cases h; exact ⟨rfl,by simp [execOp,hc]⟩
    | imm=>cases h; exact ⟨rfl,by simp [execOp,hc]⟩
    | fn h1 h2 h3 h4 =>
      rename_i f _ _ _ _
      cases f with
      | func f=>cases h; exact ⟨rfl,by simp [execOp,hc]⟩
      | _=>simp [nilckV] at h
    | yld=>cases h; exact ⟨rfl,by simp [execOp,hc]⟩
    | _=>simp [nilckV] at h
  exact ⟨_,key.2,by rw [key.1]; exact hx⟩
theorem args_rep {kn:TypeId→Bool} {e:Fr} (he:EnvRel w g H a.tmps e) {own:List Nat}:∀ {xs:List Operand} {ts:List TypeId} {sas:List SA} {vs:List AV},
    compArgs kn own xs ts = some sas→evs e sas = some vs→xs.length = vs.length∧∀ (i:Nat) (x:Operand) (v:AV),xs[i]? = some x→vs[i]? = some v→Rep w g H (a.eval x) v
  | [],ts,sas,vs,h1,h2=>by
    simp only [compArgs,Option.some.injEq] at h1
    subst h1
    simp only [evs,Option.some.injEq] at h2
    subst h2
    exact ⟨rfl,fun i x v h=>by simp at h⟩
  | x::xs,ts,sas,vs,h1,h2=>by
    simp only [compArgs,Option.bind_eq_some_iff,Option.map_eq_some_iff] at h1
    obtain ⟨sa,h3,sas',h4,rfl⟩:=h1
    simp only [evs,Option.bind_eq_some_iff,Option.some.injEq] at h2
    obtain ⟨v,h5,vs',h6,rfl⟩:=h2
    obtain ⟨ih1,ih2⟩:=args_rep he h4 h6
    refine ⟨by simp [ih1],fun i y u hy hu=>?_⟩
    cases i with
    | zero=>simp at hy hu; subst hy; subst hu; exact arg_rep he h3 h5
    | succ i=>simp at hy hu; exact ih2 i y u hy hu
theorem map_rep {xs:Array Operand} {vs:List AV} (h1:xs.toList.length = vs.length) (h2:∀ (i:Nat) (x:Operand) (v:AV),xs.toList[i]? = some x→vs[i]? = some v→Rep w g H (a.eval x) v) :
    (xs.map a.eval).size = vs.length∧∀ (i:Nat) (c:Value) (v:AV),(xs.map a.eval)[i]? = some c→vs[i]? = some v→Rep w g H c v:=by
  refine ⟨by simpa using h1,fun i c v hc hv=>?_⟩
  simp only [Array.getElem?_map,Option.map_eq_some_iff] at hc
  obtain ⟨x,hx,rfl⟩:=hc
  exact h2 i x v (by simpa using hx) hv
theorem run_mkfn {fn:Fn} {x y:Array Operand} {us vs:List AV} (hx:x.toList.length = us.length) (hx2:∀ (i:Nat) (o:Operand) (v:AV),x.toList[i]? = some o→us[i]? = some v→Rep w g H (a.eval o) v)
    (hy:y.toList.length = vs.length) (hy2:∀ (i:Nat) (o:Operand) (v:AV),y.toList[i]? = some o→vs[i]? = some v→Rep w g H (a.eval o) v) :
    RunV P a w g H ⟨dst,.makeFunc fn x y,ty,pos,after,gd⟩ (.fn fn us vs):=by
  obtain ⟨e1,e2⟩:=map_rep hx hx2
  obtain ⟨f1,f2⟩:=map_rep hy hy2
  exact ⟨_,by simp [execOp,Instr.makeFunc],.fn e1 f1 e2 f2⟩
theorem run_extract {x:Operand} {i:Nat} {u v:AV} (hx:Rep w g H (a.eval x) u) (h:extractV i u = some v):RunV P a w g H ⟨dst,.extract x i,ty,pos,after,gd⟩ v:=by
  generalize hc:a.eval x = c at hx
  cases hx with
  | tup ha hr =>
    simp only [extractV] at h
    rename_i arr aZ
    have hi:i < arr.size:=by have:=(List.getElem?_eq_some_iff.1 h).1; omega
    exact ⟨arr[i],by simp [execOp,Instr.extract,hc,hi],hr i _ _ (by simp [hi]) h⟩
  | _=>simp [extractV] at h
theorem addr_add (b o n:Nat):(⟨b,o,none⟩:Addr).add n = ⟨b,o + n,none⟩:=by unfold Addr.add; split <;> simp_all
theorem fadrV_rep {n:Nat} {c:Value} {u v:AV} (hx:Rep w g H c u) (h:fadrV n u = some v):∃ p:Addr,c = .pointer (some p)∧Rep w g H (.pointer (some (p.add n))) v:=by
  cases hx with
  | ptr h1=>cases h; exact ⟨_,rfl,by rw [addr_add]; exact .ptr h1⟩
  | elp h1 =>
    cases h
    refine ⟨_,rfl,?_⟩
    rw [addr_add]
    obtain ⟨es,fz,ver,rows,hH,hv,hi,hf⟩:=h1
    refine .elp ⟨es,fz,ver,rows,hH,hv,hi,fun hs=>?_⟩
    have h2:=hf hs
    cases fz with
    | none=>obtain ⟨e1,e2⟩:=h2; exact ⟨e1,by rw [e2,Nat.add_assoc]⟩
    | some f=>exact fun row hr j x hx=>by rw [Nat.add_assoc]; exact h2 row hr (n + j) x (by rw [← Nat.add_assoc]; exact hx)
  | imm cs hD hcell hr=>cases h; exact ⟨_,rfl,by rw [addr_add,Nat.add_assoc]; exact .imm cs hD hcell hr⟩
  | _=>simp [fadrV] at h
theorem run_fadr {t:TypeId} {x:Operand} {f:Nat} {fs:Array Field} {fd:Field} {i:TypeInfo} {u v:AV} (ht:P.underlying t = some (.struct fs)) (hf:fs[f]? = some fd) (hi:P.info? fd.type = some i) (hz:i.size ≠ 0)
    (hx:Rep w g H (a.eval x) u) (h:fadrV fd.offset u = some v):RunV P a w g H ⟨dst,.fieldAddr t x f,ty,pos,after,gd⟩ v:=by
  obtain ⟨p,hc,hr⟩:=fadrV_rep hx h
  exact ⟨_,by simp [execOp,hc,Instr.fieldAt,run_underlying ht,hf,Instr.sureAddr,fieldPlace,sizeOf,typeInfo,hi,hz],hr⟩
theorem RepP.one {D:Nat→Nat→Prop} {c:Value} {x:PV} (h:RepP w D c x):c.oneCell' = true:=by
  induction h with
  | @v c h=>cases c <;> first | rfl | (simp [Scalar] at h; done)
  | h _ ih=>exact ih
  | _=>rfl
theorem cellsOf_rep {c:Value} {v:AV} {cs:List AV} (h:Rep w g H c v) (hc:cellsOf v = some cs) :
    c.cells.size = cs.length∧∀ (i:Nat) (u:Value) (x:AV),c.cells[i]? = some u→cs[i]? = some x→Rep w g H u x∧u.oneCell' = true:=by
  have one:c.oneCell' = true→cellsOf v = some [v]→c.cells = #[c]→c.cells.size = cs.length∧∀ (i:Nat) (u:Value) (x:AV),c.cells[i]? = some u→cs[i]? = some x→Rep w g H u x∧u.oneCell' = true:=fun h1 h2 h3=>by
    rw [h2] at hc; cases hc
    rw [h3]
    refine ⟨rfl,fun i u x hu hx=>?_⟩
    cases i with
    | zero=>simp at hu hx; subst hu; subst hx; exact ⟨h,h1⟩
    | succ i=>simp at hx
  cases h with
  | agg ha h1 hr=>cases hc; exact ⟨ha,fun i u x hu hx=>⟨hr i u x hu hx,h1 i u hu⟩⟩
  | tup=>cases hc
  | p h' =>
    have h1:=h'.one
    refine one h1 rfl ?_
    cases c <;> first | rfl | (simp [Value.oneCell'] at h1; done)
  | lit _=>exact one rfl rfl rfl
  | ar _=>exact one rfl rfl rfl
  | ptr _=>exact one rfl rfl rfl
  | elp _=>exact one rfl rfl rfl
  | imm _ _ _ _=>exact one rfl rfl rfl
  | fn _ _ _ _=>exact one rfl rfl rfl
  | map _=>exact one rfl rfl rfl
  | yld _=>exact one rfl rfl rfl
  | emp=>exact one rfl rfl rfl
  | csl _ _=>exact one rfl rfl rfl
theorem len_rep {c:Value} {v:AV} {n:Nat} (h:Rep w g H c v) (hn:lenOf v = some n):∃ p cap,c = .slice p n cap∧n ≤ cap:=by
  cases h with
  | p h=>cases h <;> simp only [lenOf] at hn <;> cases hn <;> first | exact ⟨_,_,rfl,Nat.le_refl _⟩ | (rename_i hl hc _ _ _ _; subst hl; exact ⟨_,_,rfl,hc⟩)
  | lit h=>simp only [lenOf] at hn; cases hn; cases h with
    | nil=>exact ⟨_,_,rfl,Nat.le_refl _⟩
    | sl cs hl hc=>subst hl; exact ⟨_,_,rfl,hc⟩
  | ar h=>simp only [lenOf] at hn; cases hn; exact ⟨_,_,rfl,h.1⟩
  | emp=>simp only [lenOf] at hn; cases hn; exact ⟨_,_,rfl,Nat.zero_le _⟩
  | csl h hle=>simp only [lenOf] at hn; cases hn; exact ⟨_,_,rfl,hle⟩
  | _=>simp [lenOf] at hn
theorem run_len {c:Call} {x:Operand} {t e:TypeId} {v:AV} {n:Nat} (hc:c.callee = .builtin .len) (ha:c.args.toList = [x]) (ht:c.argTypes[0]? = some t) (hu:P.underlying t = some (.slice e))
    (hx:Rep w g H (a.eval x) v) (h:lenOf v = some n):RunV P a w g H ⟨dst,.call c,ty,pos,after,gd⟩ (.p (.v (.int .i64 n))):=by
  obtain ⟨p,cap,hv,_⟩:=len_rep hx h
  have ha':c.args = #[x]:=by rw [← Array.toList_inj]; exact ha
  exact ⟨_,by simp [execOp,resolve,hc,ha',Go.invoke,Go.builtin,Builtin.len_,ht,run_underlying hu,hv,goInt],.v rfl⟩
theorem run_lenS {c:Call} {x:Operand} {t:TypeId} {s:ByteArray} (hc:c.callee = .builtin .len) (ha:c.args.toList = [x]) (ht:c.argTypes[0]? = some t) (hu:P.underlying t = some .string)
    (hx:Rep w g H (a.eval x) (.p (.v (.string s)))):RunV P a w g H ⟨dst,.call c,ty,pos,after,gd⟩ (.p (.v (.int .i64 s.size))):=by
  have ha':c.args = #[x]:=by rw [← Array.toList_inj]; exact ha
  exact ⟨_,by simp [execOp,resolve,hc,ha',Go.invoke,Go.builtin,Builtin.len_,ht,run_underlying hu,hx.val.1,goInt],.v rfl⟩
theorem load_rep {c:Value} {v:AV} {n:Nat} {cs:List AV} (hs:StRel w g H) (h:Rep w g H c v) (hl:loadC H n v = some cs) :
    ∃ p:Addr,c = .pointer (some p)∧cs.length = n∧∃ f:Nat→Value,∀ j,j < n→w.cell? (p.add j) = some (f j)∧(f j).oneCell' = true∧∀ x,cs[j]? = some x→Rep w g H (f j) x:=by
  have fin:∀ (b o:Nat) (cs:List AV),cs.length = n→(∀ (j:Nat) (x:AV),cs[j]? = some x→∃ cv,cellAt w b (o + j) = some cv∧cv.oneCell' = true∧Rep w g H cv x) →
      ∃ f:Nat→Value,∀ j,j < n→w.cell? ((⟨b,o,none⟩:Addr).add j) = some (f j)∧(f j).oneCell' = true∧∀ x,cs[j]? = some x→Rep w g H (f j) x:=fun b o cs hn hcs=>by
    refine ⟨fun j=>(cellAt w b (o + j)).getD undef,fun j hj=>?_⟩
    obtain ⟨cv,h1,h2,h3⟩:=hcs j cs[j] (by simp [hn,hj])
    rw [addr_add]
    have hv:(cellAt w b (o + j)).getD undef = cv:=by rw [h1]; rfl
    show w.cell? ⟨b,o + j,none⟩ = some ((cellAt w b (o + j)).getD undef)∧((cellAt w b (o + j)).getD undef).oneCell' = true∧∀ x,cs[j]? = some x→Rep w g H ((cellAt w b (o + j)).getD undef) x
    rw [hv]
    refine ⟨h1,h2,fun x hx=>?_⟩
    have:cs[j]? = some cs[j]:=by simp [hn,hj]
    rw [this] at hx; cases hx; exact h3
  cases h with
  | ptr hH =>
    simp only [loadC,hH] at hl
    split at hl
    · rename_i hle
      cases hl
      obtain ⟨vs,e,h1,h2,h3⟩:=hs.objs _ _ hH
      refine ⟨_,rfl,by simp; omega,fin _ _ _ (by simp; omega) (fun j x hx=>?_)⟩
      rw [List.getElem?_take] at hx
      split at hx
      · rw [List.getElem?_drop] at hx
        rename_i off c hj
        have hlt:off + j < vs.size:=by have:=(List.getElem?_eq_some_iff.1 hx).1; omega
        have:=h3 (off + j) vs[off + j] x (by simp [hlt]) hx
        exact ⟨vs[off + j],by rw [cellAt_cells h1]; simp [hlt],this.2,this.1⟩
      · cases hx
    · cases hl
  | elp he =>
    obtain ⟨es,fz,ver,rows,hH,hv,hi,hf⟩:=he
    simp only [loadC,hH] at hl
    split at hl
    · rename_i hsn
      have h2:=hf hsn
      simp only [Option.bind_eq_some_iff] at hl
      obtain ⟨row,hrow,hl⟩:=hl
      split at hl
      · rename_i hle
        cases hl
        obtain ⟨_,_,_,h5,_⟩:=hs.objs _ _ hH
        refine ⟨_,rfl,by simp; omega,fin _ _ _ (by simp; omega) (fun j x hx=>?_)⟩
        simp only [List.getElem?_map,Option.map_eq_some_iff] at hx
        obtain ⟨y,hy,rfl⟩:=hx
        rw [List.getElem?_take] at hy
        split at hy
        · rw [List.getElem?_drop] at hy
          cases fz with
          | none =>
            obtain ⟨e1,e2⟩:=h2
            obtain ⟨cv,e3,e4⟩:=h5 _ _ row y hrow hy
            exact ⟨cv,by rw [e1,e2,Nat.add_assoc]; exact e3,e4.one,.p e4⟩
          | some f =>
            obtain ⟨_,cv,e3,e4⟩:=h2 row hrow j y hy
            exact ⟨cv,e3,e4.one,.p e4⟩
        · cases hy
      · cases hl
    · cases hl
  | imm cs' hD hcell hr =>
    simp only [loadC] at hl
    split at hl
    · rename_i hle
      cases hl
      refine ⟨_,rfl,by simp; omega,fin _ _ _ (by simp; omega) (fun j x hx=>?_)⟩
      simp only [List.getElem?_map,Option.map_eq_some_iff] at hx
      obtain ⟨y,hy,rfl⟩:=hx
      rw [List.getElem?_take] at hy
      split at hy
      · rw [List.getElem?_drop] at hy
        have hlt:=(List.getElem?_eq_some_iff.1 hy).1
        exact ⟨cs' _,by rw [Nat.add_assoc]; exact hcell _ hlt,(hr _ y hy).one,.p (hr _ y hy)⟩
      · cases hy
    · cases hl
  | _=>simp [loadC] at hl
theorem run_load1 {t:TypeId} {x:Operand} {d:TypeDesc} {u v:AV} (hs:StRel w g H) (hu:P.underlying t = some d) (hd:aggT d = false)
    (hx:Rep w g H (a.eval x) u) (h:load1V H u = some v):RunV P a w g H ⟨dst,.load t x,ty,pos,after,gd⟩ v:=by
  unfold load1V at h
  split at h
  · rename_i c hl
    cases h
    obtain ⟨p,hc,hn,f,hf⟩:=load_rep hs hx hl
    obtain ⟨h1,h2,h3⟩:=hf 0 (by omega)
    have h1':w.cell? p = some (f 0):=by simpa [Addr.add] using h1
    refine ⟨f 0,?_,h3 _ rfl⟩
    have hagg:(isAgg t).run P w = .ok false w:=by
      simp only [isAgg,Sem.run_bind,run_underlying hu,Result.andThen_ok]
      cases d <;> first | rfl | (simp [aggT] at hd; done)
    simp [execOp,hc,Instr.loadAt,Instr.sureAddr,loadVar,hagg,h1']
  · cases h
theorem run_loadn {t:TypeId} {x:Operand} {d:TypeDesc} {i:TypeInfo} {u:AV} {cs:List AV} (hs:StRel w g H) (hu:P.underlying t = some d) (hd:aggT d = true)
    (hi:P.info? t = some i) (hx:Rep w g H (a.eval x) u) (h:loadC H i.size u = some cs):RunV P a w g H ⟨dst,.load t x,ty,pos,after,gd⟩ (.agg cs):=by
  obtain ⟨p,hc,hn,f,hf⟩:=load_rep hs hx h
  have hagg:(isAgg t).run P w = .ok true w:=by
    simp only [isAgg,Sem.run_bind,run_underlying hu,Result.andThen_ok]
    cases d <;> first | rfl | (simp [aggT] at hd; done)
  have hld:=run_loadCells (P:=P) w p i.size f (fun j hj=>(hf j hj).1)
  refine ⟨.agg ((List.range i.size).map f).toArray,by simp [execOp,hc,Instr.loadAt,Instr.sureAddr,loadVar,hagg,sizeOf,typeInfo,hi,hld],.agg (by simp [hn]) (fun j c hj=>?_) (fun j c y hj hy=>?_)⟩
  · simp only [List.getElem?_toArray,List.getElem?_map,Option.map_eq_some_iff] at hj
    obtain ⟨k,hk,rfl⟩:=hj
    obtain ⟨hlt,rfl⟩:=List.getElem?_eq_some_iff.1 hk
    simp only [List.getElem_range,List.length_range] at hlt ⊢
    exact (hf j hlt).2.1
  · simp only [List.getElem?_toArray,List.getElem?_map,Option.map_eq_some_iff] at hj
    obtain ⟨k,hk,rfl⟩:=hj
    obtain ⟨hlt,rfl⟩:=List.getElem?_eq_some_iff.1 hk
    simp only [List.getElem_range,List.length_range] at hlt ⊢
    exact (hf j hlt).2.2 y hy
end
end Go.Proofs.YtepbfecmageleaaGreatDoor
namespace Go.Proofs.YtepbfecmageleaaGreatDoor
open Go
variable [Sub]
section
variable {P:Program} {w:World} {g:Gh} {H:List Obj}
variable {a:Act} {dst:Option Tmp} {ty:TypeId} {pos:String} {after:Array Edge} {gd:Option (Nat×Bool)}
theorem isNil_rep {c:Value} {v:AV} {t:Bool} (h:Rep w g H c v) (hn:isNil v = some t):∃ p n cap,c = .slice p n cap∧p.isNone = t:=by
  cases h with
  | p h =>
    cases h with
    | nsl=>cases hn; exact ⟨_,_,_,rfl,rfl⟩
    | nil=>cases hn
    | @sl _ _ _ _ _ rows=>cases rows <;> cases hn; exact ⟨_,_,_,rfl,rfl⟩
    | v=>cases hn
    | @h _ s n h =>
      cases s with
      | false=>cases hn
      | true =>
        cases hn
        obtain ⟨r,rs,e⟩:=Sub.ne n
        rw [e] at h
        cases h
        exact ⟨_,_,_,rfl,rfl⟩
  | @lit _ _ rows h =>
    cases rows with
    | nil=>cases hn
    | cons r rs=>cases hn; cases h; exact ⟨_,_,_,rfl,rfl⟩
  | @ar l v off len p cap h =>
    cases len with
    | zero=>cases hn
    | succ n =>
      cases hn
      obtain ⟨h1,h2,_⟩:=h
      rcases h2 with ⟨rfl,rfl⟩ | ⟨b,o,rfl⟩
      · omega
      · exact ⟨_,_,_,rfl,rfl⟩
  | emp=>cases hn; exact ⟨_,_,_,rfl,rfl⟩
  | _=>cases hn
theorem run_equal_nil {t e:TypeId} (ht:P.underlying t = some (.slice e)) (p:Option Addr) (n cap:Nat) :
    (Op.equal t (.slice p n cap) (.slice none 0 0)).run P w = .ok p.isNone w:=by
  have key:∀ d:Nat,(Op.equalIn (d + 1) t (.slice p n cap) (.slice none 0 0)).run P w = .ok p.isNone w:=fun d=>by cases p <;> simp [Op.equalIn,run_underlying ht]
  exact key 9999
theorem run_isnil {t e:TypeId} {x:Operand} {yt:TypeId} {op:BinOp} {neg:Bool} {u:AV} {r:Bool} (ht:P.underlying t = some (.slice e)) (hop:op = if neg then .neq else .eql)
    (hx:Rep w g H (a.eval x) u) (h:isNil u = some r):RunV P a w g H ⟨dst,.binOp op t x (.const (.slice none 0 0)) yt,ty,pos,after,gd⟩ (.p (.v (.bool (if neg then !r else r)))):=by
  obtain ⟨p,n,cap,hc,hp⟩:=isNil_rep hx h
  have hq:=run_equal_nil (w:=w) (P:=P) ht p n cap
  have he:a.eval (.const (.slice none 0 0)) = .slice none 0 0:=rfl
  subst hop
  cases neg
  · refine ⟨.bool r,?_,.v rfl⟩
    simp [execOp,hc,he,eqGuard,Go.binOp,hq,hp]
  · refine ⟨.bool (!r),?_,.v rfl⟩
    simp [execOp,hc,he,eqGuard,Go.binOp,hq,hp]
theorem RepP.rows {D:Nat→Nat→Prop} {p:Option Addr} {n cap es:Nat} {rows:List (List PV)} (h:RepP w D (.slice p n cap) (.sl rows)) (hes:∀ r ∈ rows,r.length = es) :
    rows.length = n∧n ≤ cap∧AddrOk p cap∧(0 < n→∃ b o,p = some ⟨b,o,none⟩∧∀ (i j:Nat) (row:List PV) (x:PV),rows[i]? = some row→row[j]? = some x →
      D b (o + i * es + j)∧∃ c,cellAt w b (o + i * es + j) = some c∧RepP w D c x):=by
  cases h with
  | nil=>exact ⟨rfl,Nat.le_refl _,.inl ⟨rfl,rfl⟩,fun h=>by omega⟩
  | @sl b o _ _ es' _ cs hn hc hes' hD hcell hr =>
    refine ⟨hn,hc,.inr ⟨b,o,rfl⟩,fun h0=>⟨b,o,rfl,fun i j row x hi hj=>?_⟩⟩
    have he:es' = es:=by
      have h1:0 < rows.length:=by omega
      rw [← hes' rows[0] (List.getElem_mem h1),← hes rows[0] (List.getElem_mem h1)]
    subst he
    have hi':i < n:=by have:=(List.getElem?_eq_some_iff.1 hi).1; omega
    have hj':j < es':=by have:=(List.getElem?_eq_some_iff.1 hj).1; rw [hes' row (List.mem_of_getElem? hi)] at this; exact this
    exact ⟨hD i j hi' hj',cs i j,hcell i j hi' hj',hr i j row x hi hj⟩
theorem all_len {rows:List (List PV)} {es:Nat} (h:rows.all (fun r=>r.length == es) = true):∀ r ∈ rows,r.length = es:=fun r hr=>by
  have:=List.all_eq_true.1 h r hr
  simpa using this
theorem RepP.sub {D:Nat→Nat→Prop} {p:Option Addr} {n cap cap' es l h:Nat} {rows:List (List PV)} (hr:RepP w D (.slice p n cap) (.sl rows)) (hes:∀ r ∈ rows,r.length = es)
    (hlh:l ≤ h) (hh:h ≤ n) (m:Nat) (hm:h ≤ m) (hmc:m ≤ cap) (hc':cap' = m - l) :
    RepP w D (.slice (if m = l then p else p.map (·.add (l * es))) (h - l) cap') (.sl ((rows.drop l).take (h - l))):=by
  obtain ⟨h1,h2,h3,h4⟩:=hr.rows hes
  rcases h3 with ⟨rfl,rfl⟩ | ⟨b,o,rfl⟩
  · have:h - l = 0:=by omega
    have h0:cap' = 0:=by omega
    rw [this,h0]
    simp only [List.take_zero]
    split
    · exact .nil
    · exact .nil
  · have hlen:((rows.drop l).take (h - l)).length = h - l:=by simp; omega
    have hmem:∀ r ∈ (rows.drop l).take (h - l),r.length = es:=fun r hr=>hes r (List.mem_of_mem_drop (List.mem_of_mem_take hr))
    by_cases e:m = l
    · rw [if_pos e]
      have h0:h - l = 0:=by omega
      refine RepP.of_rows (es:=es) hlen (by omega) hmem (fun i j row x hi _=>?_)
      rw [h0] at hi
      simp at hi
    · rw [if_neg e]
      simp only [Option.map_some,addr_add]
      refine RepP.of_rows (es:=es) hlen (by omega) hmem (fun i j row x hi hj=>?_)
      have hi':rows[l + i]? = some row:=by
        rw [List.getElem?_take] at hi
        split at hi
        · rwa [List.getElem?_drop] at hi
        · cases hi
      have hlt:l + i < rows.length:=(List.getElem?_eq_some_iff.1 hi').1
      obtain ⟨b',o',he,hcell⟩:=h4 (by omega)
      cases he
      have:=hcell (l + i) j row x hi' hj
      rwa [show o + (l + i) * es + j = o + l * es + i * es + j by rw [Nat.add_mul]; omega] at this
theorem run_idx {t e:TypeId} {ti:TypeInfo} {x y:Operand} {u v:AV} {k:IntKind} {n:Int} (hs0:StRel w g H) (ht:P.underlying t = some (.slice e)) (hi:P.info? e = some ti)
    (hx:Rep w g H (a.eval x) u) (hy:Rep w g H (a.eval y) (.p (.v (.int k n)))) (h:idxSl H ti.size u n = some v):RunV P a w g H ⟨dst,.indexAddr t x y,ty,pos,after,gd⟩ v:=by
  unfold idxSl at h
  split at h
  · rename_i hn
    have run:∀ (p:Addr) (len cap:Nat),a.eval x = .slice (some p) len cap→n.toNat < len →
        (execOp a.eval ⟨dst,.indexAddr t x y,ty,pos,after,gd⟩).run P w = .ok (.value (.pointer (some (p.add (n.toNat * ti.size))))) w:=fun p len cap hc hlt=>by
      have:0 ≤ n∧n < len:=⟨hn,by omega⟩
      simp [execOp,Instr.indexAt,hc,hy.val.1,asIntOf,run_underlying ht,this,sizeOf,typeInfo,hi]
    have still:∀ (p:Option Addr) (len cap:Nat) (rows:List (List PV)) (row:List PV),a.eval x = .slice p len cap→RepP w g.D (.slice p len cap) (.sl rows)→rows[n.toNat]? = some row→row.length = ti.size →
        RunV P a w g H ⟨dst,.indexAddr t x y,ty,pos,after,gd⟩ (.imm row 0):=fun p len cap rows row hc hr hrow hl=>by
      cases hr with
      | nil=>simp at hrow
      | @sl b o _ _ es' _ cs hn' hc' hes' hD hcell hr' =>
        have hlt:n.toNat < len:=by have:=(List.getElem?_eq_some_iff.1 hrow).1; omega
        have he:es' = ti.size:=by rw [← hes' row (List.mem_of_getElem? hrow),hl]
        subst he
        refine ⟨_,run _ _ _ hc hlt,?_⟩
        rw [addr_add]
        exact .imm (i:=o + n.toNat * ti.size) (off:=0) (fun j=>cs n.toNat j) (fun j hj=>hD _ _ hlt (by omega)) (fun j hj=>hcell _ _ hlt (by omega)) (fun j x hx=>hr' _ _ row x hrow hx)
    generalize hc:a.eval x = c at hx
    cases hx with
    | @ar l v' off len p cap hA =>
      obtain ⟨h1,h2,es,fz,ver,rows,hH,hv,hoff,hf⟩:=hA
      simp only [hH] at h
      split at h
      · rename_i hcond
        obtain ⟨hs,rfl,hlt⟩:=hcond
        cases h
        obtain ⟨h3,_⟩:=hf hs
        cases fz with
        | none =>
          have:=h3 (by omega)
          subst this
          refine ⟨_,run _ _ _ hc hlt,?_⟩
          rw [addr_add]
          exact .elp ⟨_,none,ver,rows,hH,hv,by omega,fun _=>⟨rfl,by rw [Nat.add_mul]; omega⟩⟩
        | some f =>
          have hr:RepP w g.D (.slice p len cap) (.sl ((rows.drop off).take len)):=h3
          cases hr':(rows.drop off).take len with
          | nil =>
            have:((rows.drop off).take len).length = 0:=by rw [hr']; rfl
            simp at this; omega
          | cons r0 rs =>
            rw [hr'] at hr
            cases hr with
            | @sl b o _ _ es' _ cs hn' hc' hes' hD hcell hr2 =>
              refine ⟨_,run _ _ _ hc hlt,?_⟩
              rw [addr_add]
              refine .elp ⟨_,some f,ver,rows,hH,hv,by omega,fun _=>?_⟩
              intro row hrow j x' hx'
              have hrow':(r0::rs)[n.toNat]? = some row:=by
                rw [← hr',List.getElem?_take,if_pos hlt,List.getElem?_drop]; exact hrow
              have hx2:row[j]? = some x':=by simpa using hx'
              have hjl:j < es':=by have:=(List.getElem?_eq_some_iff.1 hx2).1; rw [hes' row (List.mem_of_getElem? hrow')] at this; exact this
              have he:es' = ti.size:=by
                obtain ⟨_,hes,_⟩:=hs0.objs _ _ hH
                rw [← hes' row (List.mem_of_getElem? hrow'),hes row (List.mem_of_getElem? hrow)]
              subst he
              exact ⟨hD _ _ hlt hjl,_,hcell _ _ hlt hjl,hr2 _ _ row x' hrow' hx2⟩
      · cases h
    | p hp =>
      cases hp with
      | v=>cases h
      | nsl=>cases h
      | nil=>simp at h
      | h=>cases h
      | sl cs hn' hc' hes' hD hcell hr' =>
        simp only [Option.bind_eq_some_iff] at h
        obtain ⟨row,hrow,h⟩:=h
        split at h
        · rename_i hl; cases h
          exact still _ _ _ _ _ hc (.sl cs hn' hc' hes' hD hcell hr') hrow hl
        · cases h
    | lit hp =>
      simp only [Option.bind_eq_some_iff] at h
      obtain ⟨row,hrow,h⟩:=h
      split at h
      · rename_i hl; cases h
        exact still _ _ _ _ _ hc hp hrow hl
      · cases h
    | csl hH hn' =>
      simp only at h
      split at h
      · rename_i hc2
        obtain ⟨he,hlt⟩:=hc2
        cases h
        refine ⟨_,run _ _ _ hc hlt,?_⟩
        rw [addr_add,he,Nat.mul_one]
        exact .ptr hH
      · cases h
    | _=>cases h
  · cases h
theorem run_idxA {t e:TypeId} {len:Nat} {ti:TypeInfo} {x y:Operand} {u v:AV} {k:IntKind} {n:Int} (ht:P.underlying t = some (.array len e)) (hi:P.info? e = some ti)
    (hx:Rep w g H (a.eval x) u) (hy:Rep w g H (a.eval y) (.p (.v (.int k n)))) (h:idxArr len ti.size u n = some v):RunV P a w g H ⟨dst,.indexAddr t x y,ty,pos,after,gd⟩ v:=by
  unfold idxArr at h
  split at h
  · rename_i hn
    obtain ⟨p,hc,hr⟩:=fadrV_rep hx h
    exact ⟨_,by simp [execOp,Instr.indexAt,hc,hy.val.1,asIntOf,run_underlying ht,hn,Instr.sureAddr,sizeOf,typeInfo,hi],hr⟩
  · cases h
theorem run_idxS {t:TypeId} {x y:Operand} {s:ByteArray} {v:AV} {k:IntKind} {n:Int} (ht:P.underlying t = some .string)
    (hx:Rep w g H (a.eval x) (.p (.v (.string s)))) (hy:Rep w g H (a.eval y) (.p (.v (.int k n)))) (h:idxStr s n = some v):RunV P a w g H ⟨dst,.index t x y,ty,pos,after,gd⟩ v:=by
  unfold idxStr at h
  split at h
  · rename_i hn
    simp only [Option.map_eq_some_iff] at h
    obtain ⟨b,hb,rfl⟩:=h
    exact ⟨.int .u8 b.toNat,by simp [execOp,Instr.index,hx.val.1,hy.val.1,asIntOf,run_underlying ht,hn,hb],.v rfl⟩
  · cases h
theorem run_isAgg {t:TypeId} {d:TypeDesc} (hu:P.underlying t = some d):(isAgg t).run P w = .ok (aggT d) w:=by
  simp only [isAgg,Sem.run_bind,run_underlying hu,Result.andThen_ok]
  cases d <;> rfl
theorem run_idxV {t e:TypeId} {len:Nat} {ti:TypeInfo} {d:TypeDesc} {x y:Operand} {u v:AV} {k:IntKind} {n:Int} (ht:P.underlying t = some (.array len e)) (hi:P.info? e = some ti) (hd:P.underlying e = some d)
    (hx:Rep w g H (a.eval x) u) (hy:Rep w g H (a.eval y) (.p (.v (.int k n)))) (h:idxAgg len (aggT d) ti.size u n = some v) :
    RunV P a w g H ⟨dst,.index t x y,ty,pos,after,gd⟩ v:=by
  generalize hc:a.eval x = c at hx
  generalize hg:aggT d = gg at h
  cases hx with
  | @agg arr aZ ha h1 hr =>
    simp only [idxAgg] at h
    split at h
    · rename_i hn
      obtain ⟨hn0,hn1,hn2⟩:=hn
      have ix:(execOp a.eval ⟨dst,.index t x y,ty,pos,after,gd⟩).run P w = ((part e arr (n.toNat * ti.size)).run P w).andThen fun r w=>.ok (.value r) w:=by
        simp [execOp,Instr.index,hc,hy.val.1,asIntOf,run_underlying ht,hn0,hn1,sizeOf,typeInfo,hi]
      have hag:=run_isAgg (w:=w) hd
      rw [hg] at hag
      cases gg with
      | true =>
        cases h
        refine ⟨.agg (arr.extract (n.toNat * ti.size) (n.toNat * ti.size + ti.size)),by rw [ix]; simp [part,hag,sizeOf,typeInfo,hi],.agg ?_ (fun i c hi'=>?_) (fun i c y hi' hy'=>?_)⟩
        · simp; omega
        · rw [Array.getElem?_extract] at hi'
          split at hi'
          · exact h1 _ _ hi'
          · cases hi'
        · rw [Array.getElem?_extract] at hi'
          rw [List.getElem?_take] at hy'
          split at hi'
          · split at hy'
            · rw [List.getElem?_drop] at hy'
              exact hr _ _ _ hi' hy'
            · cases hy'
          · cases hi'
      | false =>
        simp only [Bool.false_eq_true,if_false] at h
        split at h
        · have hlt:n.toNat * ti.size < arr.size:=by have:=(List.getElem?_eq_some_iff.1 h).1; omega
          exact ⟨arr[n.toNat * ti.size],by rw [ix]; simp [part,hag,hlt],hr _ _ _ (by simp [hlt]) h⟩
        · cases h
    · cases h
  | _=>simp [idxAgg] at h
theorem run_maxmin {c:Call} {x y:Operand} {mx:Bool} {u v r:Value} (hc:c.callee = .builtin (if mx then .max else .min)) (ha:c.args.toList = [x,y])
    (hx:Rep w g H (a.eval x) (.p (.v u))) (hy:Rep w g H (a.eval y) (.p (.v v))) (h:maxmin mx u v = some r):RunV P a w g H ⟨dst,.call c,ty,pos,after,gd⟩ (.p (.v r)):=by
  have ha':c.args = #[x,y]:=by rw [← Array.toList_inj]; exact ha
  unfold maxmin at h
  split at h
  · split at h
    · rename_i hk
      subst hk
      cases h
      refine ⟨_,?_,.v rfl⟩
      cases mx <;> simp [execOp,resolve,hc,ha',Go.invoke,Go.builtin,Builtin.max_,Builtin.min_,hx.val.1,hy.val.1,Builtin.max2,Builtin.min2]
    · cases h
  · cases h
end
end Go.Proofs.YtepbfecmageleaaGreatDoor
