/- Part of the proof of Rows.FinderAltitudesCardSaid: EvGl, Ev, EvR, EvT, EvC. -/
import Derived.Calls
import Derived.Laws.Sem
set_option linter.all false
namespace Go.Proofs.YtchgldaddcolhaaGreatDoor
open Go
def glTab:List (Nat×List Value):=[(0,[.int .i64 2,.int .i64 3,.int .i64 5,.int .i64 7])]
end Go.Proofs.YtchgldaddcolhaaGreatDoor
namespace Go.Proofs.YtchgldaddcolhaaGreatDoor
open Go
inductive PV where
 | v (x:Value)
 | nsl
 | sl (rows:List (List PV))
 | h (s:Bool) (n:Nat)
 deriving Inhabited
inductive AV where
 | p (x:PV)
 | lit (rows:List (List PV))
 | ar (l v off len:Nat)
 | ptr (r off:Nat)
 | elp (l v i k:Nat)
 | imm (cells:List PV) (off:Nat)
 | fn (f:Fn) (first captured:List AV)
 | agg (cells:List AV)
 | tup (vs:List AV)
 | map (r:Nat)
 | yld (l:Nat)
 | emp
 | csl (r off n:Nat)
 | sk (l v n:Nat)
 | skp (l v i k:Nat)
 | nk
 deriving Inhabited
inductive SA where
 | t (n:Nat)
 | x (n:Nat)
 | c (a:AV)
 | f (g:FuncId)
 deriving Inhabited
inductive LK where
 | int | bool | str
 deriving Inhabited,DecidableEq
inductive SOp where
 | mov (x:SA)
 | pick (c a b:SA)
 | alloc (zero:List AV)
 | box (x:SA)
 | build (zero:List AV) (parts:List (Nat×Nat×SA))
 | slit (zero:List PV) (n:Nat) (parts:List (Nat×SA))
 | slitA (zero:List PV) (n:Nat) (parts:List (Nat×SA))
 | load1 (a:SA)
 | loadn (n:Nat) (a:SA)
 | store (n:Nat) (a x:SA)
 | nilck (x:SA)
 | bin (op:BinOp) (x y:SA)
 | binB (op:BinOp) (x y:SA)
 | isnil (neg:Bool) (x:SA)
 | un (op:UnOp) (x:SA)
 | conv (k:IntKind) (x:SA)
 | mkfn (fn:Fn) (first cap:List SA)
 | mkmap
 | mkslice (bytes:Nat) (zero:List PV) (len cap:SA)
 | slice (es:Nat) (x:SA) (lo hi mx:Option SA)
 | sliceS (x:SA) (lo hi:Option SA)
 | fadr (off:Nat) (x:SA)
 | idx (es:Nat) (x i:SA)
 | idxA (len es:Nat) (x i:SA)
 | idxS (x i:SA)
 | idxV (len:Nat) (agg:Bool) (es:Nat) (x i:SA)
 | b2s (x:SA)
 | extract (x:SA) (i:Nat)
 | call (f:SA) (args:List SA)
 | len (x:SA)
 | lenS (x:SA)
 | append (bytes:Nat) (es:Nat) (x y:SA)
 | appendZ (bytes:Nat) (zero:List PV) (x n:SA)
 | copy (es:Nat) (x y:SA)
 | maxmin (mx:Bool) (x y:SA)
 | mapget (g:Bool) (ks:List LK) (z:AV) (ok:Bool) (x k:SA)
 | mapset (g:Bool) (ks:List LK) (x k v:SA)
 | lenM (x:SA)
 | capN (x:SA)
 | sliceArr (len:Nat) (x:SA) (lo hi:Option SA)
 | eqs (ks:List LK) (neg:Bool) (x y:SA)
 | s2b (x:SA)
 | isnilI (neg:Bool) (x:SA)
 | isnilG (k:Nat) (neg:Bool) (x:SA)
 deriving Inhabited
inductive SD where
 | no | t (n:Nat) | x (n:Nat)
 deriving Inhabited
structure SO where
 dst:SD
 op:SOp
 guard:Option (SA×Bool):=none
 deriving Inhabited
inductive DK where
 | free
 | here
 | read
 | write
 | lone
 | fresh
 deriving Inhabited,DecidableEq
def DK.seq:DK→Bool
 | .write=>true
 | .fresh=>true
 | _=>false
structure DO where
 o:SO
 k:DK
 lo:Nat:=0
 hi:Nat:=0
 deriving Inhabited
inductive SCode where
 | skip
 | region (ops:List SO)
 | draw (ops:List DO)
 | seq (a b:SCode)
 | cond (c:SA) (a b:SCode)
 | block (id:Nat) (b:SCode)
 | loop (b:SCode)
 | exit (id:Nat)
 | ret
 | refuse
 | range (f:SA) (ps:List Nat) (a b:SCode)
 | still (ns:List Nat) (c:SCode)
 deriving Inhabited
inductive SExit where
 | normal | exit (id:Nat) | ret
 deriving Inhabited
inductive LS where
 | ready | busy | done (x:SExit) | gone
 deriving Inhabited
inductive Obj where
 | cells (c:List AV)
 | arr (es:Nat) (frz:Option Nat) (ver:Nat) (rows:List (List PV))
 | map (es:List (Value×AV))
 | stk (es ver:Nat) (lens:List (Nat×Nat)) (rows:List (List AV))
 | loop (st:LS) (env:List (Nat×AV)) (ps:List Nat) (a b:SCode)
 deriving Inhabited
abbrev Env:=List (Nat×AV)
structure Fr where
 loc:Env
 env:Env
structure St where
 env:Env
 H:List Obj
def lk:Env→Nat→Option AV
 | [],_=>none
 | (m,v)::e,n=>if m = n then some v else lk e n
def upd:Env→Nat→AV→Env
 | [],n,v=>[(n,v)]
 | (m,u)::e,n,v=>if m = n then (n,v)::e else (m,u)::upd e n v
def ev(e:Fr):SA→Option AV
 | .t n=>lk e.loc n
 | .x n=>lk e.env n
 | .c a=>some a
 | .f g=>some (.fn (.func g) [] [])
def evs(e:Fr):List SA→Option (List AV)
 | []=>some []
 | x::xs=>(ev e x).bind fun v=>(evs e xs).bind fun vs=>some (v::vs)
def seen(fz:Option Nat)(ver v:Nat):Bool :=
 match fz with
 | none=>v == ver
 | some f=>decide (f ≤ v)
def plainC:List AV→Option (List PV)
 | []=>some []
 | .p x::aZ=>(plainC aZ).map (x::·)
 | _=>none
def plainR:List (List AV)→Option (List (List PV))
 | []=>some []
 | r::rs=>(plainC r).bind fun r=>(plainR rs).map (r::·)
def lvl(lens:List (Nat×Nat))(v n:Nat):Bool:=lens.any fun p=>p.1 == v && p.2 == n
def rowsOf(H:List Obj):AV→Option (List (List PV))
 | .p .nsl=>some []
 | .p (.sl rows)=>some rows
 | .lit rows=>some rows
 | .emp=>some []
 | .ar l v off len=>match H[l]? with
  | some (.arr _ fz ver rows)=>if seen fz ver v∧off + len ≤ rows.length then some ((rows.drop off).take len) else none
  | _=>none
 | .nk=>some []
 | .sk l v n=>match H[l]? with
  | some (.stk _ _ lens rows)=>if lvl lens v n then plainR (rows.take n) else none
  | _=>none
 | _=>none
def lenOf:AV→Option Nat
 | .emp=>some 0
 | .sk _ _ n=>some n
 | .nk=>some 0
 | .csl _ _ n=>some n
 | .p .nsl=>some 0
 | .p (.sl rows)=>some rows.length
 | .lit rows=>some rows.length
 | .ar _ _ _ len=>some len
 | _=>none
def Scalar:Value→Bool
 | .bool _ | .int .. | .float .. | .complex .. | .string _ | .nilFunc | .nilIface=>true
 | .pointer _ | .map _ | .chan none=>true
 | _=>false
mutual
def canon (H:List Obj):AV→Option AV
 | .lit rows=>some (.p (.sl rows))
 | .nk=>some (.p (.sl []))
 | .ar l v off len=>(rowsOf H (.ar l v off len)).map fun r=>.p (.sl r)
 | .agg cs=>(canons H cs).map .agg
 | .tup cs=>(canons H cs).map .tup
 | a=>some a
def canons (H:List Obj):List AV→Option (List AV)
 | []=>some []
 | a::aZ=>(canon H a).bind fun b=>(canons H aZ).map fun bs=>b::bs
end
mutual
def arsA:AV→List Nat
 | .ar l _ _ _=>[l]
 | .agg cs=>arsOf cs
 | .tup cs=>arsOf cs
 | _=>[]
def arsOf:List AV→List Nat
 | []=>[]
 | a::aZ=>arsA a++arsOf aZ
end
def freeze(H:List Obj):List Nat→List Obj
 | []=>H
 | l::ls=>freeze (match H[l]? with
  | some (.arr es none ver rows)=>H.set l (.arr es (some ver) ver rows)
  | _=>H) ls
def toPV(H:List Obj)(a:AV):Option PV :=
 match canon H a with
 | some (.p x)=>some x
 | _=>none
def toPVs(H:List Obj):List AV→Option (List PV)
 | []=>some []
 | a::aZ=>(toPV H a).bind fun b=>(toPVs H aZ).map fun bs=>b::bs
def cellsOf:AV→Option (List AV)
 | .agg cs=>some cs
 | .tup _=>none
 | a=>some [a]
def loadC(H:List Obj)(n:Nat):AV→Option (List AV)
 | .ptr r off=>match H[r]? with
  | some (.cells c)=>if off + n ≤ c.length then some ((c.drop off).take n) else none
  | _=>none
 | .elp l v i k=>match H[l]? with
  | some (.arr _ fz ver rows)=>if seen fz ver v then (rows[i]?).bind fun row=>if k + n ≤ row.length then some (((row.drop k).take n).map .p) else none else none
  | _=>none
 | .imm cs off=>if off + n ≤ cs.length then some (((cs.drop off).take n).map .p) else none
 | .skp l v i k=>match H[l]? with
  | some (.stk _ _ lens rows)=>if lens.any (fun p=>p.1 == v && decide (i < p.2)) then (rows[i]?).bind fun row=>if k + n ≤ row.length then some ((row.drop k).take n) else none else none
  | _=>none
 | _=>none
def splice{α:Type}:List α→Nat→List α→Option (List α)
 | c::cs,n + 1,xs=>(splice cs n xs).map (c::·)
 | cs,0,[]=>some cs
 | _::cs,0,x::xs=>(splice cs 0 xs).map (x::·)
 | [],_ + 1,_=>none
 | [],0,_::_=>none
def storeC(H:List Obj)(a:AV)(xs:List AV):Option (List Obj) :=
 match a with
 | .ptr r off=>match H[r]? with
  | some (.cells c)=>(splice c off xs).map fun c=>H.set r (.cells c)
  | _=>none
 | .elp l v i k=>if (arsOf xs).contains l then none else match H[l]? with
  | some (.arr es none ver rows)=>if v = ver then (rows[i]?).bind fun row=>(toPVs H xs).bind fun ps=>(splice row k ps).map fun row =>
    (freeze H (arsOf xs)).set l (.arr es none ver (rows.set i row)) else none
  | _=>none
 | _=>none
def fill(e:Fr):List AV→List (Nat×Nat×SA)→Option (List AV)
 | z,[]=>some z
 | z,(off,n,x)::ps=>(ev e x).bind fun a=>(cellsOf a).bind fun cs=>if cs.length = n then (splice z off cs).bind fun z=>fill e z ps else none
def fillRows(H:List Obj)(e:Fr)(n:Nat):List (List PV)→List (Nat×SA)→Option (List (List PV))
 | z,[]=>some z
 | z,(i,x)::ps=>(ev e x).bind fun a=>(cellsOf a).bind fun cs=>(toPVs H cs).bind fun r=>if r.length = n then (splice z i [r]).bind fun z=>fillRows H e n z ps else none
def partArs(e:Fr):List (Nat×SA)→List Nat
 | []=>[]
 | (_,x)::ps=>(match ev e x with | some a=>arsOf [a] | none=>[])++partArs e ps
def bits(op:BinOp)(k:IntKind)(x y:Int):Option Value :=
 let a:=BitVec.ofInt k.bits x
 let b:=BitVec.ofInt k.bits y
 match op with
 | .and=>some (.int k (k.wrap (a &&& b).toNat))
 | .or=>some (.int k (k.wrap (a ||| b).toNat))
 | .xor=>some (.int k (k.wrap (a ^^^ b).toNat))
 | .andNot=>some (.int k (k.wrap (a &&& ~~~b).toNat))
 | _=>none
def binInt(op:BinOp)(k:IntKind)(a b:Int):Option Value :=
 match op with
 | .add=>some (.int k (k.wrap (a + b)))
 | .sub=>some (.int k (k.wrap (a - b)))
 | .mul=>some (.int k (k.wrap (a * b)))
 | .quo=>if b = 0 then none else some (.int k (k.wrap (a.tdiv b)))
 | .rem=>if b = 0 then none else some (.int k (a.tmod b))
 | .eql=>some (.bool (a == b))
 | .neq=>some (.bool (a != b))
 | .lss=>some (.bool (a < b))
 | .leq=>some (.bool (a ≤ b))
 | .gtr=>some (.bool (a > b))
 | .geq=>some (.bool (a ≥ b))
 | op=>bits op k a b
def shift(op:BinOp)(k:IntKind)(a b:Int):Option Value :=
 if b < 0 then none else
 match op with
 | .shl=>some (.int k (k.wrap (a * 2 ^ (min b.toNat k.bits))))
 | .shr=>some (.int k (a.fdiv (2 ^ (min b.toNat k.bits))))
 | _=>none
def isNil:AV→Option Bool
 | .p .nsl=>some true
 | .p (.sl (_::_))=>some false
 | .p (.h true _)=>some false
 | .lit (_::_)=>some false
 | .ar _ _ _ (_ + 1)=>some false
 | .emp=>some false
 | .sk _ _ (_ + 1)=>some false
 | _=>none
def binV(op:BinOp):Value→Value→Option Value
 | .int k a,.int j b =>
  match op with
  | .shl=>shift .shl k a b
  | .shr=>shift .shr k a b
  | op=>if k = j then binInt op k a b else none
 | .string a,.string b=>match op with
  | .eql=>some (.bool (a.toList == b.toList))
  | .neq=>some (.bool !(a.toList == b.toList))
  | .add=>if a.size + b.size < 9223372036854775808 then some (.string (a++b)) else none
  | _=>none
 | _,_=>none
def binB(op:BinOp):Value→Value→Option Value
 | .bool a,.bool b=>match op with
  | .eql=>some (.bool (a == b))
  | .neq=>some (.bool !(a == b))
  | _=>none
 | _,_=>none
def un(op:UnOp):Value→Option Value
 | .int k n=>match op with
  | .neg=>some (.int k (k.wrap (0 - n)))
  | .xor=>bits .xor k (if k.signed then -1 else k.max) n
  | _=>none
 | .bool b=>match op with
  | .not=>some (.bool !b)
  | _=>none
 | _=>none
def asInt:AV→Option Int
 | .p (.v (.int _ n))=>some n
 | _=>none
def evInt(e:Fr)(x:SA):Option Int:=(ev e x).bind asInt
def evIntO(e:Fr)(d:Int):Option SA→Option Int
 | none=>some d
 | some x=>evInt e x
def asVal:AV→Option Value
 | .p (.v x)=>some x
 | _=>none
def evVal(e:Fr)(x:SA):Option Value:=(ev e x).bind asVal
def asMap:AV→Option (Option Nat)
 | .map r=>some (some r)
 | .p (.v (.map none))=>some none
 | _=>none
def evMap(e:Fr)(x:SA):Option (Option Nat):=(ev e x).bind asMap
def mapAt(H:List Obj):Option Nat→Option (List (Value×AV))
 | none=>some []
 | some r=>match H[r]? with
  | some (.map es)=>some es
  | _=>none
def bytesOf:List (List PV)→Option (List UInt8)
 | []=>some []
 | [.v (.int .u8 n)]::r=>(bytesOf r).map (UInt8.ofNat n.toNat::·)
 | _=>none
def maxmin(mx:Bool):Value→Value→Option Value
 | .int k a,.int j b=>if k = j then some (.int k (if mx then (if b > a then b else a) else (if b < a then b else a))) else none
 | _,_=>none
def sliceAV(H:List Obj)(es:Nat)(a:AV)(l h:Nat)(m:Bool):Option (AV×List Obj) :=
 match a with
 | .p .nsl=>if l = 0∧h = 0 then some (.p .nsl,H) else none
 | .p (.sl rows)=>if l ≤ h∧h ≤ rows.length∧rows.all (fun r=>r.length == es) then some (if m then .lit ((rows.drop l).take (h - l)) else .p (.sl ((rows.drop l).take (h - l))),H) else none
 | .lit []=>if l = 0∧h = 0 then some (.lit [],H) else none
 | .lit rows=>if l ≤ h∧h ≤ rows.length∧rows.all (fun r=>r.length == es) then some (if m then .lit ((rows.drop l).take (h - l)) else .p (.sl ((rows.drop l).take (h - l))),H) else none
 | .ar r v off len=>match H[r]? with
  | some (.arr es' fz ver rows)=>if es' = es∧l ≤ h∧h ≤ len∧off + len ≤ rows.length then
   (if m then (if seen fz ver v then some (.lit ((rows.drop (off + l)).take (h - l)),freeze H [r]) else none) else some (.ar r v (off + l) (h - l),H)) else none
  | _=>none
 | .sk r v n=>match H[r]? with
  | some (.stk _ _ lens _)=>if lvl lens v n∧l = 0∧h = 0∧m then some (.lit [],H) else none
  | _=>none
 | _=>none
def asStr:AV→Option ByteArray
 | .p (.v (.string s))=>some s
 | _=>none
def evStr(e:Fr)(x:SA):Option ByteArray:=(ev e x).bind asStr
def asBoolA:AV→Option Bool
 | .p (.v (.bool t))=>some t
 | _=>none
def evBool(e:Fr)(x:SA):Option Bool:=(ev e x).bind asBoolA
def nilckV:AV→Option AV
 | .ptr r o=>some (.ptr r o)
 | .elp l v i k=>some (.elp l v i k)
 | .imm c o=>some (.imm c o)
 | .skp l v i k=>some (.skp l v i k)
 | .fn (.func f) a b=>some (.fn (.func f) a b)
 | .yld l=>some (.yld l)
 | _=>none
def fadrV(off:Nat):AV→Option AV
 | .ptr r o=>some (.ptr r (o + off))
 | .elp l v i k=>some (.elp l v i (k + off))
 | .imm c o=>some (.imm c (o + off))
 | .skp l v i k=>some (.skp l v i (k + off))
 | _=>none
def idxSl(H:List Obj)(es:Nat)(a:AV)(n:Int):Option AV :=
 if 0 ≤ n then
  match a with
  | .ar l v off len=>match H[l]? with
   | some (.arr es' fz ver _)=>if seen fz ver v∧es' = es∧n.toNat < len then some (.elp l v (off + n.toNat) 0) else none
   | _=>none
  | .p (.sl rows)=>(rows[n.toNat]?).bind fun r=>if r.length = es then some (.imm r 0) else none
  | .lit rows=>(rows[n.toNat]?).bind fun r=>if r.length = es then some (.imm r 0) else none
  | .csl r off len=>if es = 1∧n.toNat < len then some (.ptr r (off + n.toNat)) else none
  | .sk l v len=>match H[l]? with
   | some (.stk es' _ lens _)=>if lvl lens v len∧es' = es∧n.toNat < len then some (.skp l v n.toNat 0) else none
   | _=>none
  | _=>none
 else none
def idxArr(len es:Nat)(a:AV)(n:Int):Option AV:=if 0 ≤ n∧n < len then fadrV (n.toNat * es) a else none
def idxStr(s:ByteArray)(n:Int):Option AV:=if 0 ≤ n then (s[n.toNat]?).map fun b=>.p (.v (.int .u8 b.toNat)) else none
def idxAgg(len:Nat)(g:Bool)(es:Nat)(a:AV)(n:Int):Option AV :=
 match a with
 | .agg cs=>if 0 ≤ n∧n < len∧n.toNat * es + es ≤ cs.length then
   (if g then some (.agg ((cs.drop (n.toNat * es)).take es)) else if es = 1 then cs[n.toNat * es]? else none) else none
 | _=>none
def extractV(i:Nat):AV→Option AV
 | .tup vs=>vs[i]?
 | _=>none
def sliceB(H:List Obj)(es:Nat)(a:AV)(l h:Int)(m:Option Int):Option (AV×List Obj) :=
 if 0 ≤ l∧0 ≤ h then
  match m with
  | none=>sliceAV H es a l.toNat h.toNat false
  | some m=>if m = h then sliceAV H es a l.toNat h.toNat true else none
 else none
def evIntOO(e:Fr):Option SA→Option (Option Int)
 | none=>some none
 | some x=>(evInt e x).map some
def mkSlice(H:List Obj)(bytes:Nat)(zero:List PV)(n m:Int):Option (AV×List Obj) :=
 if 0 ≤ n∧n ≤ m∧bytes * m ≤ 281474976710656∧m ≤ 9223372036854775807 then some (.ar H.length 0 0 n.toNat,H++[.arr zero.length none 0 (List.replicate n.toNat zero)]) else none
def rowsA(H:List Obj)(a:AV):Option (List (List AV)) :=
 match a with
 | .sk l v n=>match H[l]? with
  | some (.stk _ _ lens rows)=>if lvl lens v n then some (rows.take n) else none
  | _=>none
 | a=>(rowsOf H a).map fun rows=>rows.map fun r=>r.map .p
def appendK(H:List Obj)(bytes es:Nat)(a b:AV):Option (AV×List Obj) :=
 (rowsA H b).bind fun ys=>if ys.all (fun r=>r.length == es) then
  match a with
  | .nk=>if ys.isEmpty then some (.nk,H) else if ys.length * bytes ≤ 140737488355328 then some (.sk H.length 0 ys.length,H++[.stk es 1 [(0,ys.length)] ys]) else none
  | .p .nsl=>if ys.isEmpty then some (.p .nsl,H) else if ys.length * bytes ≤ 140737488355328 then some (.sk H.length 0 ys.length,H++[.stk es 1 [(0,ys.length)] ys]) else none
  | .lit []=>if ys.isEmpty then some (.lit [],H) else if ys.length * bytes ≤ 140737488355328 then some (.sk H.length 0 ys.length,H++[.stk es 1 [(0,ys.length)] ys]) else none
  | .sk l v len=>match H[l]? with
   | some (.stk es' ver lens rows)=>if lvl lens v len∧es' = es∧len ≤ rows.length∧¬ ys.isEmpty∧(len + ys.length) * bytes ≤ 140737488355328 then
     some (.sk l ver (len + ys.length),H.set l (.stk es (ver + 1) ((lens.filter fun p=>decide (p.2 ≤ len))++[(ver,len + ys.length)]) (rows.take len++ys))) else none
   | _=>none
  | _=>none
 else none
def isK(H:List Obj):AV→AV→Bool
 | .nk,_=>true
 | .sk ..,_=>true
 | .p .nsl,.sk l v n=>(rowsOf H (.sk l v n)).isNone
 | .lit [],.sk l v n=>(rowsOf H (.sk l v n)).isNone
 | _,_=>false
def appendV(H:List Obj)(bytes es:Nat)(a b:AV):Option (AV×List Obj) :=
 if isK H a b then appendK H bytes es a b else
 (rowsOf H b).bind fun ys=>if ys.all (fun r=>r.length == es) then
  match a with
  | .p .nsl=>if ys.isEmpty then some (.p .nsl,H) else if ys.length * bytes ≤ 140737488355328 then some (.ar H.length 0 0 ys.length,H++[.arr es none 0 ys]) else none
  | .lit rows=>if ys.isEmpty then some (.lit rows,H) else if (rows.length + ys.length) * bytes ≤ 140737488355328∧rows.all (fun r=>r.length == es) then some (.ar H.length 0 0 (rows.length + ys.length),H++[.arr es none 0 (rows++ys)]) else none
  | .ar l v 0 len=>match H[l]? with
   | some (.arr es' fz ver rows)=>if v = ver∧rows.length = len∧es' = es∧(len + ys.length) * bytes ≤ 140737488355328 then some (.ar l (ver + 1) 0 (len + ys.length),H.set l (.arr es fz (ver + 1) (rows++ys)))
    else if v = ver∧fz = none∧es' = es∧len + ys.length ≤ rows.length∧(len + ys.length) * bytes ≤ 140737488355328 then some (.ar l ver 0 (len + ys.length),H.set l (.arr es none ver (rows.take len++ys++rows.drop (len + ys.length)))) else none
   | _=>none
  | _=>none
 else none
def emptyNow:AV→Bool
 | .p .nsl=>true
 | .lit []=>true
 | _=>false
def appendZV(H:List Obj)(bytes:Nat)(zero:List PV)(a:AV)(n:Int):Option (AV×List Obj) :=
 if emptyNow a∧0 < n∧n.toNat * bytes ≤ 140737488355328 then some (.ar H.length 0 0 n.toNat,H++[.arr zero.length none 0 (List.replicate n.toNat zero)]) else
 match a with
 | .ar l v 0 len=>match H[l]? with
  | some (.arr es fz ver rows)=>if v = ver∧rows.length = len∧es = zero.length∧0 < n∧(len + n.toNat) * bytes ≤ 140737488355328 then
    some (.ar l (ver + 1) 0 (len + n.toNat),H.set l (.arr es fz (ver + 1) (rows++List.replicate n.toNat zero))) else none
  | _=>none
 | _=>none
def heads:List (List PV)→Option (List PV)
 | []=>some []
 | [x]::r=>(heads r).map (x::·)
 | _=>none
def copyV(H:List Obj)(es:Nat)(a b:AV):Option (AV×List Obj) :=
 (rowsOf H b).bind fun ys=>(lenOf a).bind fun n =>
 if min n ys.length = 0 then some (.p (.v (.int .i64 0)),H) else
 match a with
 | .ar l v off len=>match H[l]? with
  | some (.arr es' none ver rows)=>if es' = es∧v = ver∧off + len ≤ rows.length∧ys.all (fun r=>r.length == es) then
    some (.p (.v (.int .i64 (min len ys.length:Nat))),H.set l (.arr es none ver (rows.take off++ys.take len++rows.drop (off + min len ys.length)))) else none
  | _=>none
 | .csl r off len=>match H[r]? with
  | some (.cells c)=>if es = 1 then (heads ys).bind fun xs=>(splice c off ((xs.take len).map .p)).map fun c=>(.p (.v (.int .i64 (min len ys.length:Nat))),H.set r (.cells c)) else none
  | _=>none
 | _=>none
def capNil:AV→Option Nat
 | .p .nsl=>some 0
 | .lit rows=>some rows.length
 | _=>none
def sliceArrV(len:Nat)(a:AV)(l h:Int):Option AV :=
 match a with
 | .ptr r off=>if 0 ≤ l∧l < len∧l ≤ h∧h ≤ len then some (.csl r (off + l.toNat) (h.toNat - l.toNat)) else none
 | _=>none
def cellVals:List AV→Option (List Value)
 | []=>some []
 | .p (.v x)::aZ=>(cellVals aZ).map (x::·)
 | _=>none
def aggVals:AV→Option (List Value)
 | .agg cs=>cellVals cs
 | _=>none
def sameCells:List LK→List Value→List Value→Option Bool
 | [],_,_=>some true
 | .int::ks,.int k a::xs,.int j b::ys=>if k = j then (if a == b then sameCells ks xs ys else some false) else none
 | .bool::ks,.bool a::xs,.bool b::ys=>if a == b then sameCells ks xs ys else some false
 | .str::ks,.string a::xs,.string b::ys=>if a.toList == b.toList then sameCells ks xs ys else some false
 | _,_,_=>none
def asKey:AV→Option Value
 | .p (.v x)=>some x
 | .agg cs=>(cellVals cs).map fun l=>.agg l.toArray
 | _=>none
def evKey(e:Fr)(x:SA):Option Value:=(ev e x).bind asKey
def keyCells:Value→List Value
 | .agg a=>a.toList
 | v=>[v]
def isAggV:Value→Bool
 | .agg _=>true
 | _=>false
def sameKey(g:Bool)(ks:List LK)(kc:List Value)(j:Value):Option Bool:=if isAggV j = g then sameCells ks kc (keyCells j) else none
def mapFind(g:Bool)(ks:List LK)(kc:List Value):List (Value×AV)→Option (Option AV)
 | []=>some none
 | (j,v)::es=>(sameKey g ks kc j).bind fun t=>if t then some (some v) else mapFind g ks kc es
def mapSet(g:Bool)(ks:List LK)(k:Value)(v:AV):List (Value×AV)→Option (List (Value×AV))
 | []=>some [(k,v)]
 | (j,u)::es=>(sameKey g ks (keyCells k) j).bind fun t=>if t then (if (keyCells j).length = ks.length then some ((k,v)::es) else none) else (mapSet g ks k v es).map ((j,u)::·)
def keyOk(g:Bool)(ks:List LK)(k:Value):Bool:=isAggV k == g && (keyCells k).length == ks.length
def strRows(s:ByteArray):List (List PV):=s.data.toList.map fun b=>[.v (.int .u8 b.toNat)]
def isNilI:Value→Option Bool
 | .nilIface=>some true
 | _=>none
def isNilG:Nat→AV→Option Bool
 | 0,.p (.v (.pointer none))=>some true
 | 0,.ptr ..=>some false
 | 0,.elp ..=>some false
 | 0,.imm ..=>some false
 | 0,.skp ..=>some false
 | 1,.p (.v .nilFunc)=>some true
 | 1,.fn (.func _) _ _=>some false
 | 2,.p (.v (.map none))=>some true
 | 2,.map _=>some false
 | _,_=>none
def load1V(H:List Obj)(a:AV):Option AV :=
 match loadC H 1 a with
 | some [c]=>some c
 | _=>none
def evOp(e:Fr)(H:List Obj):SOp→Option (AV×List Obj)
 | .mov x=>(ev e x).map (·,H)
 | .pick c a b=>(evBool e c).bind fun t=>(if t then ev e a else ev e b).map (·,H)
 | .alloc zero=>some (.ptr H.length 0,H++[.cells zero])
 | .box x=>(ev e x).bind fun a=>(cellsOf a).map fun cs=>(.ptr H.length 0,H++[.cells cs])
 | .build zero ps=>(fill e zero ps).map fun cs=>(.agg cs,H)
 | .slit zero n ps=>(fillRows H e zero.length (List.replicate n zero) ps).map fun rows=>(.lit rows,freeze H (partArs e ps))
 | .slitA zero n ps=>(fillRows H e zero.length (List.replicate n zero) ps).map fun rows=>(.ar (freeze H (partArs e ps)).length 0 0 rows.length,freeze H (partArs e ps)++[.arr zero.length none 0 rows])
 | .load1 a=>(ev e a).bind fun p=>(load1V H p).map (·,H)
 | .loadn n a=>(ev e a).bind fun p=>(loadC H n p).map fun cs=>(.agg cs,H)
 | .store n a x=>(ev e a).bind fun p=>(ev e x).bind fun v=>(cellsOf v).bind fun cs=>if cs.length = n then (storeC H p cs).map fun H=>(.p .nsl,H) else none
 | .nilck x=>(ev e x).bind fun a=>(nilckV a).map (·,H)
 | .bin op x y=>(evVal e x).bind fun a=>(evVal e y).bind fun b=>(binV op a b).map fun r=>(.p (.v r),H)
 | .binB op x y=>(evVal e x).bind fun a=>(evVal e y).bind fun b=>(binB op a b).map fun r=>(.p (.v r),H)
 | .isnil neg x=>(ev e x).bind fun a=>(isNil a).map fun t=>(.p (.v (.bool (if neg then !t else t))),H)
 | .un op x=>(evVal e x).bind fun a=>(un op a).map fun r=>(.p (.v r),H)
 | .conv k x=>(evInt e x).map fun n=>(.p (.v (.int k (k.wrap n))),H)
 | .mkfn fn first cap=>(evs e first).bind fun a=>(evs e cap).map fun b=>(.fn fn a b,H)
 | .mkmap=>some (.map H.length,H++[.map []])
 | .mkslice bytes zero len cap=>(evInt e len).bind fun n=>(evInt e cap).bind fun m=>mkSlice H bytes zero n m
 | .slice es x lo hi mx=>(ev e x).bind fun a=>(lenOf a).bind fun n=>(evIntO e 0 lo).bind fun l=>(evIntO e n hi).bind fun h=>(evIntOO e mx).bind fun m=>sliceB H es a l h m
 | .sliceS x lo hi=>(evStr e x).bind fun s=>(evIntO e 0 lo).bind fun l=>(evIntO e s.size hi).bind fun h =>
   if 0 ≤ l∧l ≤ h∧h ≤ s.size then some (.p (.v (.string (s.extract l.toNat h.toNat))),H) else none
 | .fadr off x=>(ev e x).bind fun a=>(fadrV off a).map (·,H)
 | .idx es x i=>(ev e x).bind fun a=>(evInt e i).bind fun n=>(idxSl H es a n).map (·,H)
 | .idxA len es x i=>(ev e x).bind fun a=>(evInt e i).bind fun n=>(idxArr len es a n).map (·,H)
 | .idxS x i=>(evStr e x).bind fun s=>(evInt e i).bind fun n=>(idxStr s n).map (·,H)
 | .idxV len g es x i=>(ev e x).bind fun a=>(evInt e i).bind fun n=>(idxAgg len g es a n).map (·,H)
 | .b2s x=>(ev e x).bind fun a=>(rowsOf H a).bind fun rows=>(bytesOf rows).map fun l=>(.p (.v (.string ⟨l.toArray⟩)),H)
 | .extract x i=>(ev e x).bind fun a=>(extractV i a).map (·,H)
 | .len x=>(ev e x).bind fun a=>(lenOf a).map fun (n:Nat)=>(.p (.v (.int .i64 (n:Int))),H)
 | .lenS x=>(evStr e x).map fun s=>(.p (.v (.int .i64 s.size)),H)
 | .append bytes es x y=>(ev e x).bind fun a=>(ev e y).bind fun b=>appendV H bytes es a b
 | .copy es x y=>(ev e x).bind fun a=>(ev e y).bind fun b=>copyV H es a b
 | .maxmin mx x y=>(evVal e x).bind fun a=>(evVal e y).bind fun b=>(maxmin mx a b).map fun r=>(.p (.v r),H)
 | .mapget g ks z ok x k=>(evMap e x).bind fun r=>(evKey e k).bind fun k=>(mapAt H r).bind fun es=>if keyOk g ks k then (mapFind g ks (keyCells k) es).map fun v =>
   (if ok then .tup [v.getD z,.p (.v (.bool v.isSome))] else v.getD z,H) else none
 | .mapset g ks x k v=>(evMap e x).bind fun r=>(evKey e k).bind fun k=>(ev e v).bind fun v=>r.bind fun r=>(mapAt H (some r)).bind fun es=>if keyOk g ks k then (mapSet g ks k v es).map fun es=>(.p .nsl,H.set r (.map es)) else none
 | .lenM x=>(evMap e x).bind fun r=>(mapAt H r).map fun es=>(.p (.v (.int .i64 (es.length:Int))),H)
 | .appendZ b z x n=>(ev e x).bind fun a=>(evInt e n).bind fun n=>appendZV H b z a n
 | .capN x=>(ev e x).bind fun a=>(capNil a).map fun (n:Nat)=>(.p (.v (.int .i64 (n:Int))),H)
 | .sliceArr len x lo hi=>(ev e x).bind fun a=>(evIntO e 0 lo).bind fun l=>(evIntO e len hi).bind fun h=>(sliceArrV len a l h).map (·,H)
 | .eqs ks neg x y=>(ev e x).bind fun a=>(ev e y).bind fun b=>(aggVals a).bind fun l=>(aggVals b).bind fun m=>if l.length = ks.length∧m.length = ks.length then (sameCells ks l m).map fun t=>(.p (.v (.bool (if neg then !t else t))),H) else none
 | .s2b x=>(evStr e x).bind fun s=>if s.size < 9223372036854775808 then some (.p (.sl (strRows s)),H) else none
 | .isnilI neg x=>(evVal e x).bind fun v=>(isNilI v).map fun t=>(.p (.v (.bool (if neg then !t else t))),H)
 | .isnilG k neg x=>(ev e x).bind fun a=>(isNilG k a).map fun t=>(.p (.v (.bool (if neg then !t else t))),H)
 | .call _ _=>none
mutual
def refs:AV→List Nat
 | .ar l _ _ _=>[l]
 | .ptr r _=>[r]
 | .elp l _ _ _=>[l]
 | .map r=>[r]
 | .yld l=>[l]
 | .csl r _ _=>[r]
 | .sk l _ _=>[l]
 | .skp l _ _ _=>[l]
 | .fn _ a b=>refsL a++refsL b
 | .agg cs=>refsL cs
 | .tup cs=>refsL cs
 | _=>[]
def refsL:List AV→List Nat
 | []=>[]
 | a::aZ=>refs a++refsL aZ
end
def objRefs:Obj→List Nat
 | .cells c=>refsL c
 | .map es=>refsL (es.map (·.2))
 | .loop _ env _ _ _=>refsL (env.map (·.2))
 | .stk _ _ _ rows=>refsL rows.flatten
 | _=>[]
mutual
def ren (f:Nat→Nat):AV→AV
 | .ar l v o n=>.ar (f l) v o n
 | .ptr r o=>.ptr (f r) o
 | .elp l v i k=>.elp (f l) v i k
 | .map r=>.map (f r)
 | .yld l=>.yld (f l)
 | .csl r o n=>.csl (f r) o n
 | .sk l v n=>.sk (f l) v n
 | .skp l v i k=>.skp (f l) v i k
 | .fn g a b=>.fn g (renL f a) (renL f b)
 | .agg cs=>.agg (renL f cs)
 | .tup cs=>.tup (renL f cs)
 | a=>a
def renL (f:Nat→Nat):List AV→List AV
 | []=>[]
 | a::aZ=>ren f a::renL f aZ
end
def renE(f:Nat→Nat)(env:List (Nat×AV)):List (Nat×AV):=env.map fun p=>(p.1,ren f p.2)
def renO(f:Nat→Nat):Obj→Obj
 | .cells c=>.cells (renL f c)
 | .map es=>.map (es.map fun p=>(p.1,ren f p.2))
 | .loop st env ps a b=>.loop st (renE f env) ps a b
 | .stk es ver lens rows=>.stk es ver lens (rows.map (renL f))
 | o=>o
def reach(H:List Obj):Nat→List Nat→List Nat→List Nat
 | 0,_,acc=>acc
 | _ + 1,[],acc=>acc
 | n + 1,r::todo,acc=>if acc.contains r then reach H n todo acc else
   reach H n (((H[r]?).map objRefs).getD []++todo) (acc++[r])
def within(ks:List Nat)(rs:List Nat):Bool:=rs.all ks.contains
def pickObjs(H:List Obj):List Nat→Option (List Obj)
 | []=>some []
 | r::rs=>(H[r]?).bind fun o=>(pickObjs H rs).map fun os=>o::os
def putBack(H:List Obj):List Nat→List Obj→List Obj
 | r::rs,o::os=>putBack (H.set r o) rs os
 | _,_=>H
def SA.key:SA→List Nat
 | .t n=>[n]
 | .x n=>[n]
 | _=>[]
def opKeys:SOp→List SA
 | .mov x | .box x | .load1 x | .loadn _ x | .nilck x | .isnil _ x | .un _ x | .conv _ x | .fadr _ x | .b2s x | .extract x _ | .len x | .lenS x | .capN x | .s2b x | .isnilI _ x | .lenM x | .isnilG _ _ x=>[x]
 | .pick a b c=>[a,b,c]
 | .build _ ps=>ps.map (·.2.2)
 | .slit _ _ ps | .slitA _ _ ps=>ps.map (·.2)
 | .store _ a x | .bin _ a x | .binB _ a x | .mkslice _ _ a x | .idx _ a x | .idxA _ _ a x | .idxS a x | .idxV _ _ _ a x | .append _ _ a x | .appendZ _ _ a x | .copy _ a x | .maxmin _ a x | .mapget _ _ _ _ a x=>[a,x]
 | .mkfn _ a b=>a++b
 | .slice _ x l h m=>x::(l.toList++h.toList++m.toList)
 | .sliceS x l h=>x::(l.toList++h.toList)
 | .sliceArr _ x l h=>x::(l.toList++h.toList)
 | .eqs _ _ a x=>[a,x]
 | .call f aZ=>f::aZ
 | .mapset _ _ a b c=>[a,b,c]
 | .alloc _ | .mkmap=>[]
def noRefs(e:Fr)(op:SOp):Bool:=(opKeys op).all fun x=>match ev e x with
 | some a=>(refs a).isEmpty
 | none=>true
structure SFunc where
 body:SCode
 results:List SOp
 raw:List Nat:=[]
 own:Bool:=false
 arity:Nat:=0
 deriving Inhabited
def begin0:Nat→List AV→Env
 | _,[]=>[]
 | n,a::aZ=>(n,a)::begin0 (n + 1) aZ
def isCall:SOp→Option (SA×List SA)
 | .call f args=>some (f,args)
 | _=>none
def wanted(o:SO)(e:Fr):Option Bool :=
 match o.guard with
 | none=>some true
 | some (a,b)=>match ev e a with
  | some (.p (.v (.bool t)))=>some (t == b)
  | some (.tup [])=>some false
  | _=>none
def dstPut(d:SD)(e:Fr)(v:AV):Fr :=
 match d with
 | .no=>e
 | .t n=>⟨(n,v)::e.loc,e.env⟩
 | .x n=>⟨e.loc,upd e.env n v⟩
def dstDrop(d:SD)(e:Fr):Fr:=dstPut d e (.tup [])
def toNk:AV→AV
 | .p .nsl=>.nk
 | .lit []=>.nk
 | a=>a
def passArgs(H:List Obj)(raw:List Nat):Nat→List AV→Option (List AV)
 | _,[]=>some []
 | n,a::aZ=>(if raw.contains n then some a else if raw.contains (n + 2000) then some (toNk a) else canon H a).bind fun b=>(passArgs H raw (n + 1) aZ).map fun bs=>b::bs
def passFrz(raw:List Nat):Nat→List AV→List Nat
 | _,[]=>[]
 | n,a::aZ=>(if raw.contains n then [] else arsOf [a])++passFrz raw (n + 1) aZ
def flat:AV→Bool
 | .p (.v _)=>true
 | .p .nsl=>true
 | .tup vs=>vs.all fun | .p (.v _)=>true | .p .nsl=>true | _=>false
 | _=>false
def nodupB:List Nat→Bool
 | []=>true
 | r::rs=>!rs.contains r && nodupB rs
def backTo(n:Nat)(sub news:List Nat)(i:Nat):Nat:=if i < sub.length then sub.getD i 0 else n + news.idxOf i
def comeBack(H H1:List Obj)(sub:List Nat)(own:Bool)(r:AV)(H2:List Obj):Option (AV×List Obj) :=
 (if own then some r else canon H2 r).bind fun r' =>
 if flat r' && sub.isEmpty then some (r',H) else
 let H3:=if own then H2 else freeze H2 (arsOf [r])
 let roots:=refs r'++((H3.take sub.length).map objRefs).flatten
 let seen:=reach H3 (4 * H3.length * H3.length + 4) roots []
 let news:=seen.filter (sub.length ≤ ·)
 if within seen roots && seen.all (fun i=>within seen (((H3[i]?).map objRefs).getD [])) && nodupB news then
  (pickObjs H3 news).map fun os =>
   (ren (backTo H1.length sub news) r',putBack H1 sub ((H3.take sub.length).map (renO (backTo H1.length sub news)))++os.map (renO (backTo H1.length sub news)))
 else none
def loneV(u:AV×List Obj):Option (AV×List Obj):=if u.2.isEmpty then some u else comeBack [] [] [] false u.1 u.2
def stable(op:SOp)(e:Fr)(x:AV):List (List Obj)→Prop
 | []=>True
 | H::Hs=>evOp e H op = some (x,H)∧stable op e x Hs
def stables:List DO→List (Fr×Option AV)→List (List Obj)→Prop
 | o::os,(e,some x)::tr,Hs=>(match o.k with
  | .read=>stable o.o.op e x ((Hs.drop o.lo).take (o.hi + 1 - o.lo))
  | _=>True)∧stables os tr Hs
 | _::os,(_,none)::tr,Hs=>stables os tr Hs
 | _,_,_=>True
open Classical in
noncomputable def checked {α:Type} (p:Prop) (x:α):Option α:=if p then some x else none
structure Tr where
 recs:List (Fr×Option AV)
 stores:List (List Obj)
 s:St
def tupOf:List AV→AV
 | [r]=>r
 | rs=>.tup rs
def evRes(e:Fr)(H:List Obj):List SOp→Option (List AV)
 | []=>some []
 | o::os=>(evOp e H o).bind fun r=>(evRes e H os).map fun rs=>r.1::rs
def isAmb:List AV→Bool
 | [.p (.sl [])]=>true
 | _=>false
def puts:Env→List Nat→List AV→Env
 | e,p::ps,a::aZ=>puts (upd e p a) ps aZ
 | e,_,_=>e
def stillV(H:List Obj):AV→AV
 | .ar l v off len=>match H[l]? with
  | some (.arr _ (some f) _ rows)=>if f ≤ v∧off + len ≤ rows.length then .p (.sl ((rows.drop off).take len)) else .ar l v off len
  | _=>.ar l v off len
 | a=>a
def stillE(ns:List Nat)(H:List Obj)(env:Env):Env:=env.map fun p=>(p.1,if ns.contains p.1 then stillV H p.2 else p.2)
def stillArs(ns:List Nat)(env:Env):List Nat:=env.flatMap fun p=>match p.2 with | .ar l _ _ _=>if ns.contains p.1 then [l] else [] | _=>[]
def stillS(ns:List Nat)(s:St):St:=⟨stillE ns (freeze s.H (stillArs ns s.env)) s.env,freeze s.H (stillArs ns s.env)⟩
def Obj.over:Obj:=.loop .gone [] [] .skip .skip
variable(X:FuncId→List AV→List Obj→Option (AV×List Obj))(Γ:FuncId→Option SFunc)
noncomputable section
abbrev EX:=SCode→St→Option (SExit×St)
section
variable(E:EX)
def callE(f:FuncId)(args:List AV)(H:List Obj):Option (AV×List Obj) :=
 match X f args H with
 | some r=>some r
 | none=>match Γ f with
 | none=>none
 | some fn=>if args.length ≠ fn.arity then none else do
  let r ← E fn.body ⟨begin0 0 args,H⟩
  match r.1 with
  | .exit _=>none
  | _=>(evRes ⟨[],r.2.env⟩ r.2.H fn.results).map fun rs=>(tupOf rs,r.2.H)
def callAtE(g:FuncId)(args:List AV)(H:List Obj):Option (AV×List Obj) :=
 match Γ g with
 | none=>none
 | some fn=>match passArgs H fn.raw 0 args with
  | none=>none
  | some args' =>
   let H1:=freeze H (passFrz fn.raw 0 args)
   let sub:=reach H1 (4 * H1.length * H1.length + 4) (refsL args') []
   match pickObjs H1 sub with
   | none=>none
   | some os =>
    if within sub (refsL args') && os.all (fun o=>within sub (objRefs o)) && nodupB sub then do
     let r ← if fn.raw.contains 1000 && isAmb args' then do
       let r1 ← callE X Γ E g [.p .nsl] []
       let r2 ← callE X Γ E g [.emp] []
       checked (r1 = r2) r1
      else callE X Γ E g (renL sub.idxOf args') (os.map (renO sub.idxOf))
     comeBack H H1 sub fn.own r.1 r.2
    else none
def yieldAtE(l:Nat)(args:List AV)(H:List Obj):Option (AV×List Obj) :=
 match H[l]? with
 | some (.loop .ready env ps a b)=>if args.length ≠ ps.length then none else do
  let r ← E a ⟨puts env ps args,H⟩
  match r.1,r.2.H[l]? with
  | .normal,some (.loop .ready env1 ps1 a1 b1)=>do
   let q ← E b ⟨r.2.env,r.2.H.set l (.loop .busy env1 ps1 a1 b1)⟩
   match q.2.H[l]? with
   | some (.loop .busy env2 ps2 a2 b2)=>match q.1 with
    | .normal=>some (.p (.v (.bool true)),q.2.H.set l (.loop .ready env2 ps2 a2 b2))
    | x=>some (.p (.v (.bool false)),q.2.H.set l (.loop (.done x) env2 ps2 a2 b2))
   | _=>none
  | _,_=>none
 | _=>none
def evOneE(op:SOp)(e:Fr)(H:List Obj):Option (AV×List Obj) :=
 match isCall op with
 | some (f,args)=>match ev e f,evs e args with
  | some (.fn (.func g) first cap),some args=>callAtE X Γ E g (first++args++cap) H
  | some (.yld l),some args=>yieldAtE E l args H
  | _,_=>none
 | none=>evOp e H op
def evOpsE:List SO→Fr→List Obj→Option St
 | [],e,H=>some ⟨e.env,H⟩
 | o::os,e,H=>match wanted o e with
  | none=>none
  | some false=>evOpsE os (dstDrop o.dst e) H
  | some true=>do
   let r ← evOneE X Γ E o.op e H
   evOpsE os (dstPut o.dst e r.1) r.2
def evDrawE:List DO→Fr→List Obj→Option Tr
 | [],e,H=>some ⟨[],[],⟨e.env,H⟩⟩
 | o::os,e,H=>match wanted o.o e with
  | none=>none
  | some false=>do
   let r ← evDrawE os (dstDrop o.o.dst e) H
   some ⟨(e,none)::r.recs,if o.k.seq then H::r.stores else r.stores,r.s⟩
  | some true=>match o.k with
   | .write=>do
    let v ← evOneE X Γ E o.o.op e H
    let r ← evDrawE os (dstPut o.o.dst e v.1) v.2
    some ⟨(e,some v.1)::r.recs,H::r.stores,r.s⟩
   | .lone=>do
    let u ← evOneE X Γ E o.o.op e []
    let v ← loneV u
    if v.2.isEmpty && noRefs e o.o.op then do
     let r ← evDrawE os (dstPut o.o.dst e v.1) H
     some ⟨(e,some v.1)::r.recs,r.stores,r.s⟩
    else none
   | .fresh=>do
    let v ← evOp e H o.o.op
    let r ← evDrawE os (dstPut o.o.dst e v.1) v.2
    some ⟨(e,some v.1)::r.recs,H::r.stores,r.s⟩
   | _=>do
    let v ← evOp e H o.o.op
    let r ← evDrawE os (dstPut o.o.dst e v.1) H
    some ⟨(e,some v.1)::r.recs,r.stores,r.s⟩
def execE(c:SCode)(s:St):Option (SExit×St) :=
 match c with
 | .skip=>some (.normal,s)
 | .region ops=>do let s ← evOpsE X Γ E ops ⟨[],s.env⟩ s.H; some (.normal,s)
 | .draw ops=>do let r ← evDrawE X Γ E ops ⟨[],s.env⟩ s.H; checked (stables ops r.recs (r.stores++[r.s.H])) (.normal,r.s)
 | .seq a b=>do
  let r ← E a s
  match r.1 with
  | .normal=>E b r.2
  | x=>some (x,r.2)
 | .cond c a b=>match ev ⟨[],s.env⟩ c with
  | some (.p (.v (.bool t)))=>if t then E a s else E b s
  | _=>none
 | .block id b=>do
  let r ← E b s
  match r.1 with
  | .exit i=>if i = id then some (.normal,r.2) else some (.exit i,r.2)
  | x=>some (x,r.2)
 | .loop b=>do
  let r ← E b s
  match r.1 with
  | .normal=>E (.loop b) r.2
  | x=>some (x,r.2)
 | .exit id=>some (.exit id,s)
 | .ret=>some (.ret,s)
 | .refuse=>none
 | .range f ps a b=>match ev ⟨[],s.env⟩ f with
  | some (.fn (.func g) first cap)=>do
   let r ← callAtE X Γ E g (first++[.yld s.H.length]++cap) (s.H++[.loop .ready s.env ps a b])
   match r.2[s.H.length]? with
   | some (.loop .ready _ _ _ _)=>some (.normal,⟨s.env,r.2.set s.H.length .over⟩)
   | some (.loop (.done x) _ _ _ _)=>some (x,⟨s.env,r.2.set s.H.length .over⟩)
   | _=>none
  | _=>none
 | .still ns c=>E c (stillS ns s)
end
def execN:Nat→EX
 | 0=>fun _ _=>none
 | n + 1=>execE X Γ (execN n)
open Classical in
def exec (c:SCode) (s:St):Option (SExit×St):=if h:∃ r n,execN X Γ n c s = some r then some (Classical.choose h) else none
def hide{α:Type}(x:α):α:=Classical.choose (⟨x,rfl⟩:∃ y,y = x)
theorem hide_eq{α:Type}(x:α):hide x = x:=Classical.choose_spec (⟨x,rfl⟩:∃ y,y = x)
def call:FuncId→List AV→List Obj→Option (AV×List Obj):=hide (callE X Γ (exec X Γ))
def callAt:FuncId→List AV→List Obj→Option (AV×List Obj):=hide (callAtE X Γ (exec X Γ))
def yieldAt:Nat→List AV→List Obj→Option (AV×List Obj):=hide (yieldAtE (exec X Γ))
def evOne:SOp→Fr→List Obj→Option (AV×List Obj):=hide (evOneE X Γ (exec X Γ))
def evOps:List SO→Fr→List Obj→Option St:=hide (evOpsE X Γ (exec X Γ))
def evDraw:List DO→Fr→List Obj→Option Tr:=hide (evDrawE X Γ (exec X Γ))
theorem call_h:call X Γ = callE X Γ (exec X Γ):=hide_eq _
theorem callAt_h:callAt X Γ = callAtE X Γ (exec X Γ):=hide_eq _
theorem yieldAt_h:yieldAt X Γ = yieldAtE (exec X Γ):=hide_eq _
theorem evOne_h:evOne X Γ = evOneE X Γ (exec X Γ):=hide_eq _
theorem evOps_h:evOps X Γ = evOpsE X Γ (exec X Γ):=hide_eq _
theorem evDraw_h:evDraw X Γ = evDrawE X Γ (exec X Γ):=hide_eq _
structure Lim {α:Type} (F:Nat→Option α) (L:Option α):Prop where
 up:∀ n r,F n = some r→F (n + 1) = some r
 le:∀ n r,F n = some r→L = some r
 ex:∀ r,L = some r→∃ n,F n = some r
section
variable{α β:Type}
theorem Lim.mono{F:Nat→Option α}{L:Option α}(h:Lim F L){n:Nat}{r:α}(hr:F n = some r):∀ k,F (n + k) = some r
 | 0=>hr
 | k + 1=>h.up _ _ (h.mono hr k)
theorem Lim.const(x:Option α):Lim (fun _=>x) x:=⟨fun _ _ h=>h,fun _ _ h=>h,fun _ h=>⟨0,h⟩⟩
theorem Lim.bind{F:Nat→Option α}{L:Option α}{G:Nat→α→Option β}{M:α→Option β}(hF:Lim F L)(hG:∀ x,Lim (fun n=>G n x) (M x)):Lim (fun n=>F n >>= G n) (L >>= M):=by
 refine⟨fun n r h=>?_,fun n r h=>?_,fun r h=>?_⟩
 ·obtain⟨x,h1,h2⟩:=Option.bind_eq_some_iff.1 h
  exact Option.bind_eq_some_iff.2 ⟨x,hF.up n x h1,(hG x).up n r h2⟩
 ·obtain⟨x,h1,h2⟩:=Option.bind_eq_some_iff.1 h
  exact Option.bind_eq_some_iff.2 ⟨x,hF.le n x h1,(hG x).le n r h2⟩
 ·obtain⟨x,h1,h2⟩:=Option.bind_eq_some_iff.1 h
  obtain⟨n,hn⟩:=hF.ex x h1
  obtain⟨m,hm⟩:=(hG x).ex r h2
  refine⟨n + m,Option.bind_eq_some_iff.2 ⟨x,hF.mono hn m,?_⟩⟩
  have:=(hG x).mono hm n
  rwa [Nat.add_comm]at this
end
section
variable{X Γ}
variable{E:Nat→EX}{L:EX}(hE:∀ c s,Lim (fun n=>E n c s) (L c s))
include hE
theorem callE_lim(f:FuncId)(args:List AV)(H:List Obj):Lim (fun n=>callE X Γ (E n) f args H) (callE X Γ L f args H):=by
 unfold callE
 cases X f args H with
 | some r=>exact .const _
 | none =>
  cases Γ f with
  | none=>exact .const _
  | some fn =>
   dsimp only
   by_cases h:args.length ≠ fn.arity
   ·simp only[if_pos h]; exact .const _
   ·simp only[if_neg h]; exact .bind (hE _ _) fun r=>.const _
theorem callAtE_lim(g:FuncId)(args:List AV)(H:List Obj):Lim (fun n=>callAtE X Γ (E n) g args H) (callAtE X Γ L g args H):=by
 unfold callAtE
 cases Γ g with
 | none=>exact .const _
 | some fn =>
  dsimp only
  cases passArgs H fn.raw 0 args with
  | none=>exact .const _
  | some args' =>
   dsimp only
   cases pickObjs (freeze H (passFrz fn.raw 0 args)) (reach (freeze H (passFrz fn.raw 0 args)) (4 * (freeze H (passFrz fn.raw 0 args)).length * (freeze H (passFrz fn.raw 0 args)).length + 4) (refsL args') []) with
   | none=>exact .const _
   | some os =>
    dsimp only
    split
    ·split
     ·exact .bind (callE_lim hE _ _ _) fun r1=>.bind (callE_lim hE _ _ _) fun r2=>.const _
     ·exact .bind (callE_lim hE _ _ _) fun r=>.const _
    ·exact .const _
theorem yieldAtE_lim(l:Nat)(args:List AV)(H:List Obj):Lim (fun n=>yieldAtE (E n) l args H) (yieldAtE L l args H):=by
 unfold yieldAtE
 split
 ·split
  ·exact .const _
  ·refine .bind (hE _ _) fun r=>?_
   split
   ·exact .bind (hE _ _) fun q=>.const _
   ·exact .const _
 ·exact .const _
theorem evOneE_lim(op:SOp)(e:Fr)(H:List Obj):Lim (fun n=>evOneE X Γ (E n) op e H) (evOneE X Γ L op e H):=by
 unfold evOneE
 split
 ·split
  ·exact callAtE_lim hE _ _ _
  ·exact yieldAtE_lim hE _ _ _
  ·exact .const _
 ·exact .const _
theorem evOpsE_lim:∀ (ops:List SO) (e:Fr) (H:List Obj),Lim (fun n=>evOpsE X Γ (E n) ops e H) (evOpsE X Γ L ops e H)
 | [],e,H=>.const _
 | o::os,e,H=>by
  simp only[evOpsE]
  split
  ·exact .const _
  ·exact evOpsE_lim os _ _
  ·exact .bind (evOneE_lim hE _ _ _) fun r=>evOpsE_lim os _ _
theorem evDrawE_lim:∀ (ops:List DO) (e:Fr) (H:List Obj),Lim (fun n=>evDrawE X Γ (E n) ops e H) (evDrawE X Γ L ops e H)
 | [],e,H=>.const _
 | o::os,e,H=>by
  simp only[evDrawE]
  split
  ·exact .const _
  ·exact .bind (evDrawE_lim os _ _) fun r=>.const _
  ·split
   ·exact .bind (evOneE_lim hE _ _ _) fun v=>.bind (evDrawE_lim os _ _) fun r=>.const _
   ·refine .bind (evOneE_lim hE _ _ _) fun u=>.bind (.const _) fun v=>?_
    split
    ·exact .bind (evDrawE_lim os _ _) fun r=>.const _
    ·exact .const _
   ·exact .bind (.const _) fun v=>.bind (evDrawE_lim os _ _) fun r=>.const _
   ·exact .bind (.const _) fun v=>.bind (evDrawE_lim os _ _) fun r=>.const _
theorem execE_lim(c:SCode)(s:St):Lim (fun n=>execE X Γ (E n) c s) (execE X Γ L c s):=by
 cases c with
 | skip=>exact .const _
 | region ops=>exact .bind (evOpsE_lim hE _ _ _) fun s=>.const _
 | draw ops=>exact .bind (evDrawE_lim hE _ _ _) fun s=>.const _
 | seq a b =>
  refine .bind (hE _ _) fun r=>?_
  split
  ·exact hE _ _
  ·exact .const _
 | cond c a b =>
  simp only[execE]
  split
  ·split
   ·exact hE _ _
   ·exact hE _ _
  ·exact .const _
 | block id b=>exact .bind (hE _ _) fun r=>.const _
 | loop b =>
  refine .bind (hE _ _) fun r=>?_
  split
  ·exact hE _ _
  ·exact .const _
 | exit id=>exact .const _
 | ret=>exact .const _
 | refuse=>exact .const _
 | range f ps a b =>
  simp only[execE]
  split
  ·exact .bind (callAtE_lim hE _ _ _) fun r=>.const _
  ·exact .const _
 | still ns c=>exact hE _ _
end
theorem execN_up:∀ (n:Nat) (c:SCode) (s:St) (r:SExit×St),execN X Γ n c s = some r→execN X Γ (n + 1) c s = some r
 | 0,_,_,_,h=>by cases h
 | n + 1,c,s,r,h=>by
  have hE:∀ c s,Lim (fun k=>if k = 0 then execN X Γ n c s else execN X Γ (n + 1) c s) (execN X Γ (n + 1) c s):=fun c s=>by
   refine⟨fun k r h=>?_,fun k r h=>?_,fun r h=>⟨1,h⟩⟩
   ·by_cases hk:k = 0
    ·simp only[hk,if_true]at h; simpa using execN_up n c s r h
    ·simp only[hk,if_false]at h; simpa using h
   ·by_cases hk:k = 0
    ·simp only[hk,if_true]at h; exact execN_up n c s r h
    ·simpa [hk] using h
  have:=(execE_lim (X:=X) (Γ:=Γ) (E:=fun k=>if k = 0 then execN X Γ n else execN X Γ (n + 1)) (L:=execN X Γ (n + 1)) (fun c s=>by
   have:=hE c s
   have e:(fun k=>(if k = 0 then execN X Γ n else execN X Γ (n + 1)) c s) = fun k=>if k = 0 then execN X Γ n c s else execN X Γ (n + 1) c s:=funext fun k=>by split <;> rfl
   rw[e]; exact this) c s).le 0 r h
  exact this
theorem exec_lim(c:SCode)(s:St):Lim (fun n=>execN X Γ n c s) (exec X Γ c s):=by
 have key:∀ n m r q,execN X Γ n c s = some r→execN X Γ m c s = some q→r = q:=fun n m r q h1 h2=>by
  have up:∀ {n r} k,execN X Γ n c s = some r→execN X Γ (n + k) c s = some r:=fun {n r} k h=>by
   induction k with
   | zero=>exact h
   | succ k ih=>exact execN_up X Γ _ c s r ih
  have a:=up m h1
  have b:=up n h2
  rw[Nat.add_comm]at b
  exact Option.some.inj (a.symm.trans b)
 refine⟨fun n=>execN_up X Γ n c s,fun n r h=>?_,fun r h=>?_⟩
 ·have hx:∃ r n,execN X Γ n c s = some r:=⟨r,n,h⟩
  unfold exec
  rw[dif_pos hx]
  obtain⟨m,hm⟩:=Classical.choose_spec hx
  rw[key m n _ _ hm h]
 ·unfold exec at h
  split at h
  ·rename_i hx
   cases h
   exact Classical.choose_spec hx
  ·cases h
theorem exec_eq(c:SCode)(s:St):exec X Γ c s = execE X Γ (exec X Γ) c s:=by
 have h1:=exec_lim X Γ c s
 have h2:=execE_lim (X:=X) (Γ:=Γ) (exec_lim X Γ) c s
 apply Option.ext
 intro r
 constructor
 ·intro h
  obtain⟨n,hn⟩:=h1.ex r h
  exact h2.le n r (h1.up n r hn)
 ·intro h
  obtain⟨n,hn⟩:=h2.ex r h
  exact h1.le (n + 1) r hn
end
section
variable{X:FuncId→List AV→List Obj→Option (AV×List Obj)}{Γ:FuncId→Option SFunc}{s:St}{e:Fr}{H:List Obj}
theorem exq_skip:exec X Γ .skip s = some (.normal,s):=by
 exact exec_eq ..
theorem exq_region{ops:List SO}:exec X Γ (.region ops) s = (do let s ← evOps X Γ ops ⟨[],s.env⟩ s.H; some (.normal,s)):=by
 simp only[call_h,callAt_h,yieldAt_h,evOne_h,evOps_h,evDraw_h]
 exact exec_eq ..
theorem exq_draw{ops:List DO}:exec X Γ (.draw ops) s = (do let r ← evDraw X Γ ops ⟨[],s.env⟩ s.H; checked (stables ops r.recs (r.stores++[r.s.H])) (.normal,r.s)):=by
 simp only[call_h,callAt_h,yieldAt_h,evOne_h,evOps_h,evDraw_h]
 exact exec_eq ..
theorem exq_seq{a b:SCode}:exec X Γ (.seq a b) s = (do
  let r ← exec X Γ a s
  match r.1 with
  | .normal=>exec X Γ b r.2
  | x=>some (x,r.2)):=by
 exact exec_eq ..
theorem exq_cond{c:SA}{a b:SCode}:exec X Γ (.cond c a b) s = match ev ⟨[],s.env⟩ c with
  | some (.p (.v (.bool t)))=>if t then exec X Γ a s else exec X Γ b s
  | _=>none:=by
 exact exec_eq ..
theorem exq_block{id:Nat}{b:SCode}:exec X Γ (.block id b) s = (do
  let r ← exec X Γ b s
  match r.1 with
  | .exit i=>if i = id then some (.normal,r.2) else some (.exit i,r.2)
  | x=>some (x,r.2)):=by
 exact exec_eq ..
theorem exq_loop{b:SCode}:exec X Γ (.loop b) s = (do
  let r ← exec X Γ b s
  match r.1 with
  | .normal=>exec X Γ (.loop b) r.2
  | x=>some (x,r.2)):=by
 exact exec_eq ..
theorem exq_exit{id:Nat}:exec X Γ (.exit id) s = some (.exit id,s):=by
 exact exec_eq ..
theorem exq_ret:exec X Γ .ret s = some (.ret,s):=by
 exact exec_eq ..
theorem exq_range{f:SA}{ps:List Nat}{a b:SCode}:exec X Γ (.range f ps a b) s = match ev ⟨[],s.env⟩ f with
  | some (.fn (.func g) first cap)=>(do
   let r ← callAt X Γ g (first++[.yld s.H.length]++cap) (s.H++[.loop .ready s.env ps a b])
   match r.2[s.H.length]? with
   | some (.loop .ready _ _ _ _)=>some (.normal,⟨s.env,r.2.set s.H.length .over⟩)
   | some (.loop (.done x) _ _ _ _)=>some (x,⟨s.env,r.2.set s.H.length .over⟩)
   | _=>none)
  | _=>none:=by
 simp only[call_h,callAt_h,yieldAt_h,evOne_h,evOps_h,evDraw_h]
 exact exec_eq ..
theorem exq_still{ns:List Nat}{c:SCode}:exec X Γ (.still ns c) s = exec X Γ c (stillS ns s):=by
 exact exec_eq ..
theorem oneq{op:SOp}:evOne X Γ op e H = match isCall op with
 | some (f,args)=>match ev e f,evs e args with
  | some (.fn (.func g) first cap),some args=>callAt X Γ g (first++args++cap) H
  | some (.yld l),some args=>yieldAt X Γ l args H
  | _,_=>none
 | none=>evOp e H op:=by
 simp only[call_h,callAt_h,yieldAt_h,evOne_h,evOps_h,evDraw_h]
 rfl
theorem opsq_nil:evOps X Γ [] e H = some ⟨e.env,H⟩:=by
 rw[evOps_h]
 rfl
theorem opsq_cons{o:SO}{os:List SO}:evOps X Γ (o::os) e H = match wanted o e with
  | none=>none
  | some false=>evOps X Γ os (dstDrop o.dst e) H
  | some true=>(do
   let r ← evOne X Γ o.op e H
   evOps X Γ os (dstPut o.dst e r.1) r.2):=by
 simp only[call_h,callAt_h,yieldAt_h,evOne_h,evOps_h,evDraw_h]
 rfl
theorem drq_nil:evDraw X Γ [] e H = some ⟨[],[],⟨e.env,H⟩⟩:=by
 rw[evDraw_h]
 rfl
theorem drq_cons{o:DO}{os:List DO}:evDraw X Γ (o::os) e H = match wanted o.o e with
  | none=>none
  | some false=>(do
   let r ← evDraw X Γ os (dstDrop o.o.dst e) H
   some ⟨(e,none)::r.recs,if o.k.seq then H::r.stores else r.stores,r.s⟩)
  | some true=>match o.k with
   | .write=>(do
    let v ← evOne X Γ o.o.op e H
    let r ← evDraw X Γ os (dstPut o.o.dst e v.1) v.2
    some ⟨(e,some v.1)::r.recs,H::r.stores,r.s⟩)
   | .lone=>(do
    let u ← evOne X Γ o.o.op e []
    let v ← loneV u
    if v.2.isEmpty && noRefs e o.o.op then do
     let r ← evDraw X Γ os (dstPut o.o.dst e v.1) H
     some ⟨(e,some v.1)::r.recs,r.stores,r.s⟩
    else none)
   | .fresh=>(do
    let v ← evOp e H o.o.op
    let r ← evDraw X Γ os (dstPut o.o.dst e v.1) v.2
    some ⟨(e,some v.1)::r.recs,H::r.stores,r.s⟩)
   | _=>(do
    let v ← evOp e H o.o.op
    let r ← evDraw X Γ os (dstPut o.o.dst e v.1) H
    some ⟨(e,some v.1)::r.recs,r.stores,r.s⟩):=by
 simp only[call_h,callAt_h,yieldAt_h,evOne_h,evOps_h,evDraw_h]
 rfl
theorem yq{l:Nat}{args:List AV}:yieldAt X Γ l args H = match H[l]? with
 | some (.loop .ready env ps a b)=>if args.length ≠ ps.length then none else (do
  let r ← exec X Γ a ⟨puts env ps args,H⟩
  match r.1,r.2.H[l]? with
  | .normal,some (.loop .ready env1 ps1 a1 b1)=>(do
   let q ← exec X Γ b ⟨r.2.env,r.2.H.set l (.loop .busy env1 ps1 a1 b1)⟩
   match q.2.H[l]? with
   | some (.loop .busy env2 ps2 a2 b2)=>match q.1 with
    | .normal=>some (.p (.v (.bool true)),q.2.H.set l (.loop .ready env2 ps2 a2 b2))
    | x=>some (.p (.v (.bool false)),q.2.H.set l (.loop (.done x) env2 ps2 a2 b2))
   | _=>none)
  | _,_=>none)
 | _=>none:=by
 rw[yieldAt_h]
 rfl
theorem caq{g:FuncId}{args:List AV}:callAt X Γ g args H = match Γ g with
 | none=>none
 | some fn=>match passArgs H fn.raw 0 args with
  | none=>none
  | some args' =>
   let H1:=freeze H (passFrz fn.raw 0 args)
   let sub:=reach H1 (4 * H1.length * H1.length + 4) (refsL args') []
   match pickObjs H1 sub with
   | none=>none
   | some os =>
    if within sub (refsL args') && os.all (fun o=>within sub (objRefs o)) && nodupB sub then do
     let r ← if fn.raw.contains 1000 && isAmb args' then do
       let r1 ← call X Γ g [.p .nsl] []
       let r2 ← call X Γ g [.emp] []
       checked (r1 = r2) r1
      else call X Γ g (renL sub.idxOf args') (os.map (renO sub.idxOf))
     comeBack H H1 sub fn.own r.1 r.2
    else none:=by
 simp only[call_h,callAt_h,yieldAt_h,evOne_h,evOps_h,evDraw_h]
 rfl
theorem cq{f:FuncId}{args:List AV}:call X Γ f args H = match X f args H with
 | some r=>some r
 | none=>match Γ f with
 | none=>none
 | some fn=>if args.length ≠ fn.arity then none else (do
  let r ← exec X Γ fn.body ⟨begin0 0 args,H⟩
  match r.1 with
  | .exit _=>none
  | _=>(evRes ⟨[],r.2.env⟩ r.2.H fn.results).map fun rs=>(tupOf rs,r.2.H)):=by
 rw[call_h]
 rfl
end
end Go.Proofs.YtchgldaddcolhaaGreatDoor
namespace Go.Proofs.YtchgldaddcolhaaGreatDoor
open Go
class Sub where
 val:Bool→Nat→PV
 ne:∀ n,∃ r rs,val true n = .sl (r::rs)
instance (priority:=low) noSub:Sub:=⟨fun _ _=>.sl [[]],fun _=>⟨[],[],rfl⟩⟩
variable[Sub]
abbrev cellAt(w:World)(b i:Nat):Option Value:=w.cell? ⟨b,i,none⟩
structure Kin where
 ext:Nat→Prop
 sb:Nat→Nat
 sc:Nat→Nat
def Kin.at(b c:Nat):Kin:=⟨fun _=>False,fun _=>b,fun _=>c⟩
structure Gh where
 blk:Nat→Nat
 base:Nat→Nat
 cap:Nat→Nat
 D:Nat→Nat→Prop
 cd:Code→SCode→Nat→List Nat→Prop
 kin:Nat→Kin
def Gh.Has(g:Gh)(l b:Nat):Prop:=g.blk l = b∨(g.kin l).ext b
def BornOk(ents:Array MapEntry)(ck:Nat):Prop:=ents.toList.Pairwise (fun a b=>a.born < b.born)∧∀ e ∈ ents.toList,e.born < ck
inductive RepP (w:World) (D:Nat→Nat→Prop):Value→PV→Prop
 | v {x:Value} (h:Scalar x = true):RepP w D x (.v x)
 | nsl:RepP w D (.slice none 0 0) .nsl
 | nil:RepP w D (.slice none 0 0) (.sl [])
 | sl {b o n cap es:Nat} {rows:List (List PV)} (cs:Nat→Nat→Value) (hn:rows.length = n) (hc:n ≤ cap)
   (hes:∀ r ∈ rows,r.length = es)
   (hD:∀ i j,i < n→j < es→D b (o + i * es + j))
   (hcell:∀ i j,i < n→j < es→cellAt w b (o + i * es + j) = some (cs i j))
   (hr:∀ (i j:Nat) (row:List PV) (x:PV),rows[i]? = some row→row[j]? = some x→RepP w D (cs i j) x) :
   RepP w D (.slice (some ⟨b,o,none⟩) n cap) (.sl rows)
 | h {c:Value} {s:Bool} {n:Nat} (h:RepP w D c (Sub.val s n)):RepP w D c (.h s n)
theorem RepP.mono{w w':World}{D D':Nat→Nat→Prop}(hD:∀ b i,D b i→D' b i)(hw:∀ b i,D b i→cellAt w' b i = cellAt w b i){c:Value}{x:PV}(h:RepP w D c x):RepP w' D' c x:=by
 induction h with
 | v h=>exact .v h
 | nsl=>exact .nsl
 | nil=>exact .nil
 | h _ ih=>exact .h ih
 | sl cs hn hc hes hDD hcell _ ih=>exact .sl cs hn hc hes (fun i j hi hj=>hD _ _ (hDD i j hi hj)) (fun i j hi hj=>by rw[hw _ _ (hDD i j hi hj)]; exact hcell i j hi hj) ih
def AddrOk(a:Option Addr)(cap:Nat):Prop:=(a = none∧cap = 0)∨∃ b o,a = some ⟨b,o,none⟩
def ArOk(w:World)(g:Gh)(H:List Obj)(l v off len:Nat)(a:Option Addr)(cap:Nat):Prop :=
 len ≤ cap∧AddrOk a cap∧∃ es fz ver rows,H[l]? = some (.arr es fz ver rows)∧v ≤ ver∧off + len ≤ rows.length∧(seen fz ver v = true →
  (match fz with
   | none=>0 < cap→a = some ⟨g.blk l,g.base l + off * es,none⟩
   | some _=>RepP w g.D (.slice a len cap) (.sl ((rows.drop off).take len))) ∧
  (v = ver→off = 0→a = some ⟨g.blk l,g.base l,none⟩∧cap = g.cap l)∧(v = ver→rows.length ≤ off + cap))
def ElpOk(w:World)(g:Gh)(H:List Obj)(l v i k:Nat)(b o:Nat):Prop :=
 ∃ es fz ver rows,H[l]? = some (.arr es fz ver rows)∧v ≤ ver∧i < rows.length∧(seen fz ver v = true →
  (match fz with
   | none=>b = g.blk l∧o = g.base l + i * es + k
   | some _=>∀ row:List PV,rows[i]? = some row→∀ (j:Nat) (x:PV),row[k + j]? = some x→g.D b (o + j)∧∃ c,cellAt w b (o + j) = some c∧RepP w g.D c x))
theorem lvl_mem{lens:List (Nat×Nat)}{v n:Nat}(h:lvl lens v n = true):(v,n) ∈ lens:=by
 unfold lvl at h
 rw[List.any_eq_true]at h
 obtain⟨⟨a,b⟩,hm,he⟩:=h
 simp only[Bool.and_eq_true,beq_iff_eq]at he
 rw[← he.1,← he.2]
 exact hm
theorem plainC_eq:∀ {l:List AV} {r:List PV},plainC l = some r→l = r.map .p
 | [],r,h=>by cases h; rfl
 | a::l,r,h=>by
  cases a with
  | p x =>
   simp only[plainC,Option.map_eq_some_iff]at h
   obtain⟨r',h1,rfl⟩:=h
   rw[List.map_cons,← plainC_eq h1]
  | _=>cases h
theorem plainR_eq:∀ {l:List (List AV)} {r:List (List PV)},plainR l = some r→l = r.map (List.map .p)
 | [],r,h=>by cases h; rfl
 | a::l,r,h=>by
  simp only[plainR,Option.bind_eq_some_iff,Option.map_eq_some_iff]at h
  obtain⟨x,h1,r',h2,rfl⟩:=h
  rw[List.map_cons,← plainC_eq h1,← plainR_eq h2]
def SkOk(g:Gh)(H:List Obj)(l v n:Nat)(a:Option Addr)(cap:Nat):Prop :=
 n ≤ cap∧AddrOk a cap∧∃ es ver lens rows,H[l]? = some (.stk es ver lens rows)∧v < ver∧((v,n) ∈ lens→a = some ⟨(g.kin l).sb v,0,none⟩∧cap = (g.kin l).sc v)
def SkpOk(g:Gh)(H:List Obj)(l v i k b o:Nat):Prop :=
 ∃ es ver lens rows,H[l]? = some (.stk es ver lens rows)∧v < ver∧((∃ n,(v,n) ∈ lens)→b = (g.kin l).sb v∧o = i * es + k)
inductive Rep (w:World) (g:Gh) (H:List Obj):Value→AV→Prop
 | p {c:Value} {x:PV} (h:RepP w g.D c x):Rep w g H c (.p x)
 | lit {a:Option Addr} {n:Nat} {rows:List (List PV)} (h:RepP w g.D (.slice a n n) (.sl rows)):Rep w g H (.slice a n n) (.lit rows)
 | ar {l v off len:Nat} {a:Option Addr} {cap:Nat} (h:ArOk w g H l v off len a cap):Rep w g H (.slice a len cap) (.ar l v off len)
 | ptr {r off:Nat} {c:List AV} (h:H[r]? = some (.cells c)):Rep w g H (.pointer (some ⟨g.blk r,off,none⟩)) (.ptr r off)
 | elp {l v i k b o:Nat} (h:ElpOk w g H l v i k b o):Rep w g H (.pointer (some ⟨b,o,none⟩)) (.elp l v i k)
 | imm {b i off:Nat} {cells:List PV} (cs:Nat→Value) (hD:∀ j,j < cells.length→g.D b (i + j)) (hcell:∀ j,j < cells.length→cellAt w b (i + j) = some (cs j))
   (hr:∀ (j:Nat) (x:PV),cells[j]? = some x→RepP w g.D (cs j) x):Rep w g H (.pointer (some ⟨b,i + off,none⟩)) (.imm cells off)
 | fn {f:Fn} {a b:Array Value} {aZ bs:List AV} (ha:a.size = aZ.length) (hb:b.size = bs.length)
   (hra:∀ (i:Nat) (c:Value) (x:AV),a[i]? = some c→aZ[i]? = some x→Rep w g H c x) (hrb:∀ (i:Nat) (c:Value) (x:AV),b[i]? = some c→bs[i]? = some x→Rep w g H c x):Rep w g H (.func f a b) (.fn f aZ bs)
 | agg {a:Array Value} {aZ:List AV} (ha:a.size = aZ.length) (h1:∀ (i:Nat) (c:Value),a[i]? = some c→c.oneCell' = true) (hra:∀ (i:Nat) (c:Value) (x:AV),a[i]? = some c→aZ[i]? = some x→Rep w g H c x):Rep w g H (.agg a) (.agg aZ)
 | tup {a:Array Value} {aZ:List AV} (ha:a.size = aZ.length) (hra:∀ (i:Nat) (c:Value) (x:AV),a[i]? = some c→aZ[i]? = some x→Rep w g H c x):Rep w g H (.tuple a) (.tup aZ)
 | map {r:Nat} {es:List (Value×AV)} (h:H[r]? = some (.map es)):Rep w g H (.map (some (g.blk r))) (.map r)
 | emp {b o cap:Nat}:Rep w g H (.slice (some ⟨b,o,none⟩) 0 cap) .emp
 | csl {r off n cap:Nat} {c:List AV} (h:H[r]? = some (.cells c)) (hn:n ≤ cap):Rep w g H (.slice (some ⟨g.blk r,off,none⟩) n cap) (.csl r off n)
 | sk {l v n cap:Nat} {a:Option Addr} (h:SkOk g H l v n a cap):Rep w g H (.slice a n cap) (.sk l v n)
 | skp {l v i k b o:Nat} (h:SkpOk g H l v i k b o):Rep w g H (.pointer (some ⟨b,o,none⟩)) (.skp l v i k)
 | nk {a:Option Addr} (h:AddrOk a 0):Rep w g H (.slice a 0 0) .nk
 | yld {l:Nat} {st:LS} {env:List (Nat×AV)} {ps:List Nat} {a b:SCode} (h:H[l]? = some (.loop st env ps a b)):Rep w g H (.func (.yield (g.blk l)) #[] #[]) (.yld l)
def IsBlk(g:Gh)(H:List Obj)(b:Nat):Prop:=∃ l,l < H.length∧g.Has l b
def OwnAny(g:Gh)(H:List Obj)(b i:Nat):Prop:=IsBlk g H b∧¬ g.D b i
def jumpOf:SExit→Option Code
 | .normal=>none
 | .exit i=>some (.exit i)
 | .ret=>some .ret
def stOk(r:Go.Loop):LS→Prop
 | .ready=>r.state = .ready∧r.pending = none
 | .busy=>r.state = .busy
 | .done x=>r.state = .done∧∃ c,jumpOf x = some c∧r.pending = some c
 | .gone=>True
def LoopRel(w:World)(g:Gh)(H:List Obj)(r:Go.Loop)(st:LS)(env:List (Nat×AV))(ps:List Nat)(a b:SCode):Prop :=
 stOk r st∧(st ≠ .gone→r.params.toList = ps∧(∀ (t:Nat) (v:AV),lk env t = some v→Rep w g H (r.tmps.getD t undef) v) ∧
  ∃ nt vars,g.cd r.assign a nt vars∧g.cd r.body b nt vars∧nt ≤ r.tmps.size∧(∀ (t:Nat) (v:AV),lk env t = some v→t ∈ vars)∧∀ p ∈ ps,p ∈ vars∧p < nt)
def ObjRel(w:World)(g:Gh)(H:List Obj)(l:Nat):Obj→Prop
 | .cells c=>∃ vs e,w.heap[g.blk l]? = some (.cells vs e (0,0))∧vs.size = c.length∧∀ (i:Nat) (v:Value) (x:AV),vs[i]? = some v→c[i]? = some x→Rep w g H v x∧v.oneCell' = true
 | .arr es fz _ rows=>rows.length ≤ g.cap l∧(∀ r ∈ rows,r.length = es) ∧
   (∃ vs e,w.heap[g.blk l]? = some (.cells vs e (0,0))∧g.base l + g.cap l * es ≤ vs.size) ∧
   (∀ (i j:Nat) (row:List PV) (x:PV),rows[i]? = some row→row[j]? = some x→∃ c,cellAt w (g.blk l) (g.base l + i * es + j) = some c∧RepP w g.D c x) ∧
   (∀ i j,fz.isSome = true→i < rows.length→j < es→g.D (g.blk l) (g.base l + i * es + j))
 | .map es=>∃ ents ck,(w.heap[g.blk l]? = some (.map ents ck)∧BornOk ents ck)∧ents.size = es.length∧∀ (i:Nat) (e:MapEntry) (p:Value×AV),ents[i]? = some e→es[i]? = some p→e.key = p.1∧Rep w g H e.val p.2
 | .loop st env ps a b=>∃ r,w.heap[g.blk l]? = some (.loop r)∧LoopRel w g H r st env ps a b
 | .stk es ver lens rows=>(∃ vs e,w.heap[g.blk l]? = some (.cells vs e (0,0))∧0 < ver)∧(∀ r ∈ rows,r.length = es) ∧
   ∀ v n,(v,n) ∈ lens→v < ver∧n ≤ rows.length∧n ≤ (g.kin l).sc v∧g.Has l ((g.kin l).sb v) ∧
    (∃ vs e,w.heap[(g.kin l).sb v]? = some (.cells vs e (0,0))∧(g.kin l).sc v * es ≤ vs.size) ∧
    ∀ (i j:Nat) (row:List AV) (x:AV),i < n→rows[i]? = some row→row[j]? = some x→∃ c,cellAt w ((g.kin l).sb v) (i * es + j) = some c∧Rep w g H c x∧c.oneCell' = true
def Stands(g:Gh)(l:Nat):Obj→Prop
 | .arr es (some f) ver rows=>f ≤ ver∧∀ i,g.D (g.blk l) i→i < g.base l + rows.length * es
 | _=>∀ i,¬ g.D (g.blk l) i
def GlobOk(w:World)(g:Gh):Prop:=∀ b cs,(b,cs) ∈ glTab→∀ (j:Nat) (v:Value),cs[j]? = some v→g.D b j∧cellAt w b j = some v
theorem GlobOk.step{w w':World}{g g':Gh}(h:GlobOk w g)(hD:∀ b i,g.D b i→g'.D b i)(hw:∀ b i,g.D b i→cellAt w' b i = cellAt w b i):GlobOk w' g' :=
 fun b cs hm j v hj=>let ⟨d,c⟩:=h b cs hm j v hj; ⟨hD _ _ d,(hw _ _ d).trans c⟩
structure StRel (w:World) (g:Gh) (H:List Obj):Prop where
 objs:∀ l o,H[l]? = some o→ObjRel w g H l o
 inj2:∀ l k,l < H.length→k < H.length→∀ b,g.Has l b→g.Has k b→l = k
 stand:∀ l o,H[l]? = some o→Stands g l o
 dom:∀ b i,g.D b i→b < w.heap.size
 ext:∀ l b,l < H.length→(g.kin l).ext b→b < w.heap.size∧b ≠ g.blk l∧∀ i,¬ g.D b i
 glob:GlobOk w g
theorem StRel.inj{w:World}{g:Gh}{H:List Obj}(hs:StRel w g H)(l k:Nat)(hl:l < H.length)(hk:k < H.length)(e:g.blk l = g.blk k):l = k:=hs.inj2 l k hl hk _ (.inl e) (.inl rfl)
def Keep(O:Nat→Nat→Prop)(w w':World):Prop :=
 w'.os = w.os∧w'.output = w.output∧(w'.tape = w.tape∧w.drawn ≤ w'.drawn)∧w.heap.size ≤ w'.heap.size ∧
 ∀ b,b < w.heap.size→match w.heap[b]? with
  | some (.cells vs e f)=>∃ vs',w'.heap[b]? = some (.cells vs' e f)∧vs'.size = vs.size∧∀ i,¬ O b i→vs'[i]? = vs[i]?
  | o=>¬ O b 0→w'.heap[b]? = o
structure Evo (w:World) (g:Gh) (H:List Obj) (w':World) (g':Gh) (H':List Obj):Prop where
 D:∀ b i,g.D b i→g'.D b i
 cells:∀ b i,g.D b i→cellAt w' b i = cellAt w b i
 rep:∀ c a,Rep w g H c a→Rep w' g' H' c a
 keep:Keep (OwnAny g H) w w'
 own:∀ b i,OwnAny g' H' b i→OwnAny g H b i∨w.heap.size ≤ b
 newD:∀ b i,g'.D b i→g.D b i∨OwnAny g H b i∨w.heap.size ≤ b
 cd:g'.cd = g.cd
inductive OStep (w:World) (g:Gh) (H:List Obj) (w':World) (g':Gh) (H':List Obj) (l:Nat):Prop
 | same (h:H'[l]? = H[l]?) (hb:g'.blk l = g.blk l) (ho:g'.base l = g.base l) (hc:g'.cap l = g.cap l) (hk:g'.kin l = g.kin l:=by rfl)
 | stk {es ver ver':Nat} {lens lens':List (Nat×Nat)} {rows rows':List (List AV)} (h:H[l]? = some (.stk es ver lens rows)) (h':H'[l]? = some (.stk es ver' lens' rows')) (hv:ver ≤ ver')
   (hl:∀ v n,(v,n) ∈ lens'→v < ver→(v,n) ∈ lens∧(g'.kin l).sb v = (g.kin l).sb v∧(g'.kin l).sc v = (g.kin l).sc v)
 | cells {c c':List AV} (h:H[l]? = some (.cells c)) (h':H'[l]? = some (.cells c')) (hb:g'.blk l = g.blk l)
 | map {c c':List (Value×AV)} (h:H[l]? = some (.map c)) (h':H'[l]? = some (.map c')) (hb:g'.blk l = g.blk l)
 | loop {st st':LS} {env env':List (Nat×AV)} {ps ps':List Nat} {a b a' b':SCode} (h:H[l]? = some (.loop st env ps a b)) (h':H'[l]? = some (.loop st' env' ps' a' b')) (hb:g'.blk l = g.blk l)
 | store {es ver:Nat} {rows rows':List (List PV)} (h:H[l]? = some (.arr es none ver rows)) (h':H'[l]? = some (.arr es none ver rows')) (hl:rows'.length = rows.length)
   (hb:g'.blk l = g.blk l) (ho:g'.base l = g.base l) (hc:g'.cap l = g.cap l)
 | frz {es ver:Nat} {rows:List (List PV)} (h:H[l]? = some (.arr es none ver rows)) (h':H'[l]? = some (.arr es (some ver) ver rows))
   (hb:g'.blk l = g.blk l) (ho:g'.base l = g.base l) (hc:g'.cap l = g.cap l) (hes:∀ r ∈ rows,r.length = es)
   (hin:∀ (i j:Nat) (row:List PV) (x:PV),rows[i]? = some row→row[j]? = some x→g'.D (g.blk l) (g.base l + i * es + j)∧∃ c,cellAt w' (g.blk l) (g.base l + i * es + j) = some c∧RepP w' g'.D c x)
 | app {es ver:Nat} {fz:Option Nat} {rows ys:List (List PV)} (h:H[l]? = some (.arr es fz ver rows)) (h':H'[l]? = some (.arr es fz (ver + 1) (rows++ys)))
   (hf:∀ f,fz = some f→f ≤ ver)
theorem RepP.of_rows{w:World}{D:Nat→Nat→Prop}{b o n cap es:Nat}{rows:List (List PV)}(hn:rows.length = n)(hc:n ≤ cap)(hes:∀ r ∈ rows,r.length = es)(hr:∀ (i j:Nat) (row:List PV) (x:PV),rows[i]? = some row→row[j]? = some x→D b (o + i * es + j)∧∃ c,cellAt w b (o + i * es + j) = some c∧RepP w D c x) :
  RepP w D (.slice (some ⟨b,o,none⟩) n cap) (.sl rows):=by
 have key:∀ i j,i < n→j < es→∃ row x,rows[i]? = some row∧row[j]? = some x:=fun i j hi hj=>by
  have hi':i < rows.length:=by omega
  have hrl:(rows[i]).length = es:=hes _ (List.getElem_mem hi')
  exact⟨rows[i],(rows[i])[j]'(by omega),by simp[hi'],by simp[hrl,hj]⟩
 refine .sl (fun i j=>(cellAt w b (o + i * es + j)).getD undef) hn hc hes (fun i j hi hj=>?_) (fun i j hi hj=>?_) (fun i j row x h1 h2=>?_)
 ·obtain⟨row,x,h1,h2⟩:=key i j hi hj
  exact (hr i j row x h1 h2).1
 ·obtain⟨row,x,h1,h2⟩:=key i j hi hj
  obtain⟨_,c,h3,_⟩:=hr i j row x h1 h2
  rw[h3]; rfl
 ·obtain⟨_,c,h3,h4⟩:=hr i j row x h1 h2
  rw[h3]; exact h4
theorem AddrOk.empty{w:World}{D:Nat→Nat→Prop}{a:Option Addr}{cap:Nat}(h:AddrOk a cap):RepP w D (.slice a 0 cap) (.sl []):=by
 rcases h with ⟨rfl,rfl⟩ | ⟨b,o,rfl⟩
 ·exact .nil
 ·exact RepP.of_rows (es:=0) rfl (Nat.zero_le _) (by simp) (by simp)
theorem OStep.ar{w w':World}{g g':Gh}{H H':List Obj}{l:Nat}(s:OStep w g H w' g' H' l)(hD:∀ b i,g.D b i→g'.D b i)(hw:∀ b i,g.D b i→cellAt w' b i = cellAt w b i){v off len:Nat}{a:Option Addr}{cap:Nat}(h:ArOk w g H l v off len a cap):ArOk w' g' H' l v off len a cap:=by
 obtain⟨hlc,hao,es,fz,ver,rows,hH,hv,hoff,hf⟩:=h
 cases s with
 | same h hb ho hc =>
  refine⟨hlc,hao,es,fz,ver,rows,h.trans hH,hv,hoff,fun hs=>?_⟩
  obtain⟨h1,h2,h3⟩:=hf hs
  refine⟨?_,by rw[hb,ho,hc]; exact h2,h3⟩
  cases fz with
  | none=>rw[hb,ho]; exact h1
  | some f=>exact h1.mono hD hw
 | cells h=>rw[hH]at h; cases h
 | map h=>rw[hH]at h; cases h
 | loop h=>rw[hH]at h; cases h
 | stk h=>rw[hH]at h; cases h
 | store h h' hl hb ho hc =>
  rw[hH]at h; cases h
  refine⟨hlc,hao,es,none,ver,_,h',hv,by omega,fun hs=>?_⟩
  obtain⟨h1,h2,h3⟩:=hf hs
  exact⟨by rw[hb,ho]; exact h1,by rw[hb,ho,hc]; exact h2,by rw[hl]; exact h3⟩
 | frz h h' hb ho hc hes hin =>
  rw[hH]at h; cases h
  refine⟨hlc,hao,es,some ver,ver,rows,h',hv,hoff,fun hs=>?_⟩
  have hvv:v = ver:=by simp only[seen,decide_eq_true_eq]at hs; omega
  obtain⟨h1,h2,h3⟩:=hf (by simp[seen,hvv])
  refine⟨?_,by rw[hb,ho,hc]; exact h2,h3⟩
  by_cases h0:0 < len
  ·rw[h1 (by omega)]
   refine RepP.of_rows (es:=es) (by simp; omega) hlc (fun r hr=>hes r (List.mem_of_mem_drop (List.mem_of_mem_take hr))) (fun i j row x hi hj=>?_)
   have hi':rows[off + i]? = some row:=by
    rw[List.getElem?_take]at hi
    split at hi
    ·rwa [List.getElem?_drop]at hi
    ·cases hi
   have:=hin (off + i) j row x hi' hj
   rw[show g.base l + off * es + i * es + j = g.base l + (off + i) * es + j by rw[Nat.add_mul]; omega]
   exact this
  ·have hl0:len = 0:=by omega
   subst hl0
   simp only[List.take_zero]
   rcases hao with ⟨rfl,rfl⟩ | ⟨b,o,rfl⟩
   ·exact .nil
   ·exact RepP.of_rows (es:=0) rfl hlc (by simp) (by simp)
 | app h h' hff =>
  rw[hH]at h; cases h
  refine⟨hlc,hao,es,fz,ver + 1,_,h',by omega,by simp; omega,fun hs=>⟨?_,fun e=>by omega,fun e=>by omega⟩⟩
  cases fz with
  | none=>simp only[seen,beq_iff_eq]at hs; omega
  | some f =>
   obtain⟨h1,_⟩:=hf hs
   show RepP w' g'.D _ (.sl (((rows++_).drop off).take len))
   rw[List.drop_append_of_le_length (by omega),List.take_append_of_le_length (by simp; omega)]
   exact h1.mono hD hw
theorem OStep.elp{w w':World}{g g':Gh}{H H':List Obj}{l:Nat}(s:OStep w g H w' g' H' l)(hD:∀ b i,g.D b i→g'.D b i)(hw:∀ b i,g.D b i→cellAt w' b i = cellAt w b i){v i k b o:Nat}(h:ElpOk w g H l v i k b o):ElpOk w' g' H' l v i k b o:=by
 obtain⟨es,fz,ver,rows,hH,hv,hi,hf⟩:=h
 cases s with
 | same h hb ho hc =>
  refine⟨es,fz,ver,rows,h.trans hH,hv,hi,fun hs=>?_⟩
  have h1:=hf hs
  cases fz with
  | none=>rw[hb,ho]; exact h1
  | some f=>exact fun row hr j x hx=>let ⟨d,c,e1,e2⟩:=h1 row hr j x hx; ⟨hD _ _ d,c,by rw[hw _ _ d]; exact e1,e2.mono hD hw⟩
 | cells h=>rw[hH]at h; cases h
 | map h=>rw[hH]at h; cases h
 | loop h=>rw[hH]at h; cases h
 | stk h=>rw[hH]at h; cases h
 | store h h' hl hb ho hc =>
  rw[hH]at h; cases h
  exact⟨es,none,ver,_,h',hv,by omega,fun hs=>by have h1:=hf hs; rw[hb,ho]; exact h1⟩
 | frz h h' hb ho hc hes hin =>
  rw[hH]at h; cases h
  refine⟨es,some ver,ver,rows,h',hv,hi,fun hs=>?_⟩
  have hvv:v = ver:=by simp only[seen,decide_eq_true_eq]at hs; omega
  obtain⟨e1,e2⟩:=hf (by simp[seen,hvv])
  intro row hr j x hx
  have:=hin i (k + j) row x hr hx
  rw[e1,e2,Nat.add_assoc (g.base l + i * es) k j]
  exact this
 | app h h' hff =>
  rw[hH]at h; cases h
  refine⟨es,fz,ver + 1,_,h',by omega,by simp; omega,fun hs=>?_⟩
  cases fz with
  | none=>simp only[seen,beq_iff_eq]at hs; omega
  | some f =>
   have h1:=hf hs
   intro row hr j x hx
   rw[List.getElem?_append_left hi]at hr
   obtain⟨d,c,e1,e2⟩:=h1 row hr j x hx
   exact⟨hD _ _ d,c,by rw[hw _ _ d]; exact e1,e2.mono hD hw⟩
theorem OStep.ptr{w w':World}{g g':Gh}{H H':List Obj}{l:Nat}(s:OStep w g H w' g' H' l){c:List AV}(h:H[l]? = some (.cells c)) :
  g'.blk l = g.blk l∧∃ c',H'[l]? = some (.cells c'):=by
 cases s with
 | same h1 hb _ _=>exact⟨hb,c,h1.trans h⟩
 | cells _ h1 hb=>exact⟨hb,_,h1⟩
 | map h1=>rw[h]at h1; cases h1
 | loop h1=>rw[h]at h1; cases h1
 | store h1=>rw[h]at h1; cases h1
 | stk h1=>rw[h]at h1; cases h1
 | frz h1=>rw[h]at h1; cases h1
 | app h1=>rw[h]at h1; cases h1
theorem OStep.mp{w w':World}{g g':Gh}{H H':List Obj}{l:Nat}(s:OStep w g H w' g' H' l){c:List (Value×AV)}(h:H[l]? = some (.map c)) :
  g'.blk l = g.blk l∧∃ c',H'[l]? = some (.map c'):=by
 cases s with
 | same h1 hb _ _=>exact⟨hb,c,h1.trans h⟩
 | map _ h1 hb=>exact⟨hb,_,h1⟩
 | loop h1=>rw[h]at h1; cases h1
 | cells h1=>rw[h]at h1; cases h1
 | store h1=>rw[h]at h1; cases h1
 | stk h1=>rw[h]at h1; cases h1
 | frz h1=>rw[h]at h1; cases h1
 | app h1=>rw[h]at h1; cases h1
theorem OStep.lp{w w':World}{g g':Gh}{H H':List Obj}{l:Nat}(s:OStep w g H w' g' H' l){st:LS}{env:List (Nat×AV)}{ps:List Nat}{a b:SCode}(h:H[l]? = some (.loop st env ps a b)) :
  g'.blk l = g.blk l∧∃ st' env' ps' a' b',H'[l]? = some (.loop st' env' ps' a' b'):=by
 cases s with
 | same h1 hb _ _=>exact⟨hb,st,env,ps,a,b,h1.trans h⟩
 | loop _ h1 hb=>exact⟨hb,_,_,_,_,_,h1⟩
 | map h1=>rw[h]at h1; cases h1
 | cells h1=>rw[h]at h1; cases h1
 | store h1=>rw[h]at h1; cases h1
 | stk h1=>rw[h]at h1; cases h1
 | frz h1=>rw[h]at h1; cases h1
 | app h1=>rw[h]at h1; cases h1
theorem OStep.sk{w w':World}{g g':Gh}{H H':List Obj}{l:Nat}(s:OStep w g H w' g' H' l){v n cap:Nat}{a:Option Addr}(h:SkOk g H l v n a cap):SkOk g' H' l v n a cap:=by
 obtain⟨hn,hao,es,ver,lens,rows,hH,hv,hf⟩:=h
 cases s with
 | same h hb ho hc hk=>exact⟨hn,hao,es,ver,lens,rows,h.trans hH,hv,by rw[hk]; exact hf⟩
 | stk h h' hvv hl =>
  rw[hH]at h; cases h
  refine⟨hn,hao,es,_,_,_,h',by omega,fun hm=>?_⟩
  obtain⟨h1,h2,h3⟩:=hl v n hm hv
  rw[h2,h3]
  exact hf h1
 | cells h1=>rw[hH]at h1; cases h1
 | map h1=>rw[hH]at h1; cases h1
 | loop h1=>rw[hH]at h1; cases h1
 | store h1=>rw[hH]at h1; cases h1
 | frz h1=>rw[hH]at h1; cases h1
 | app h1=>rw[hH]at h1; cases h1
theorem OStep.skp{w w':World}{g g':Gh}{H H':List Obj}{l:Nat}(s:OStep w g H w' g' H' l){v i k b o:Nat}(h:SkpOk g H l v i k b o):SkpOk g' H' l v i k b o:=by
 obtain⟨es,ver,lens,rows,hH,hv,hf⟩:=h
 cases s with
 | same h hb ho hc hk=>exact⟨es,ver,lens,rows,h.trans hH,hv,by rw[hk]; exact hf⟩
 | stk h h' hvv hl =>
  rw[hH]at h; cases h
  refine⟨es,_,_,_,h',by omega,fun ⟨n,hm⟩=>?_⟩
  obtain⟨h1,h2,h3⟩:=hl v n hm hv
  rw[h2]
  exact hf ⟨n,h1⟩
 | cells h1=>rw[hH]at h1; cases h1
 | map h1=>rw[hH]at h1; cases h1
 | loop h1=>rw[hH]at h1; cases h1
 | store h1=>rw[hH]at h1; cases h1
 | frz h1=>rw[hH]at h1; cases h1
 | app h1=>rw[hH]at h1; cases h1
theorem Rep.step{w w':World}{g g':Gh}{H H':List Obj}(hD:∀ b i,g.D b i→g'.D b i)(hw:∀ b i,g.D b i→cellAt w' b i = cellAt w b i)(hs:∀ l o,H[l]? = some o→OStep w g H w' g' H' l){c:Value}{a:AV}(h:Rep w g H c a):Rep w' g' H' c a:=by
 induction h with
 | p h=>exact .p (h.mono hD hw)
 | lit h=>exact .lit (h.mono hD hw)
 | ar h=>exact .ar (let ⟨_,_,_,_,_,_,hH,_⟩:=h; (hs _ _ hH).ar hD hw h)
 | ptr h=>obtain⟨hb,c',h'⟩:=(hs _ _ h).ptr h; rw[← hb]; exact .ptr h'
 | elp h=>exact .elp (let ⟨_,_,_,_,hH,_⟩:=h; (hs _ _ hH).elp hD hw h)
 | imm cs hDD hcell hr=>exact .imm cs (fun j hj=>hD _ _ (hDD j hj)) (fun j hj=>by rw[hw _ _ (hDD j hj)]; exact hcell j hj) (fun j x hx=>(hr j x hx).mono hD hw)
 | fn ha hb _ _ ih1 ih2=>exact .fn ha hb ih1 ih2
 | agg ha h1 _ ih=>exact .agg ha h1 ih
 | tup ha _ ih=>exact .tup ha ih
 | map h=>obtain⟨hb,c',h'⟩:=(hs _ _ h).mp h; rw[← hb]; exact .map h'
 | yld h=>obtain⟨hb,_,_,_,_,_,h'⟩:=(hs _ _ h).lp h; rw[← hb]; exact .yld h'
 | emp=>exact .emp
 | nk h=>exact .nk h
 | sk h=>exact .sk (let ⟨_,_,_,_,_,_,hH,_⟩:=h; (hs _ _ hH).sk h)
 | skp h=>exact .skp (let ⟨_,_,_,_,hH,_⟩:=h; (hs _ _ hH).skp h)
 | csl h hn=>obtain⟨hb,c',h'⟩:=(hs _ _ h).ptr h; rw[← hb]; exact .csl h' hn
theorem Keep.refl(O:Nat→Nat→Prop)(w:World):Keep O w w:=by
 refine⟨rfl,rfl,⟨rfl,Nat.le_refl _⟩,Nat.le_refl _,fun b _=>?_⟩
 split
 ·rename_i vs e f h; exact⟨vs,h,rfl,fun _ _=>rfl⟩
 ·intro _; rfl
theorem Keep.trans{O O':Nat→Nat→Prop}{w w' w'':World}(h:Keep O w w')(h':Keep O' w' w'')(hO:∀ b i,O' b i→O b i∨w.heap.size ≤ b):Keep O w w'':=by
 obtain⟨a1,a2,a3,a4,a5⟩:=h
 obtain⟨b1,b2,b3,b4,b5⟩:=h'
 refine⟨b1.trans a1,b2.trans a2,⟨b3.1.trans a3.1,Nat.le_trans a3.2 b3.2⟩,Nat.le_trans a4 b4,fun b hb=>?_⟩
 have h1:=a5 b hb
 have h2:=b5 b (Nat.lt_of_lt_of_le hb a4)
 have hno:∀ i,¬ O b i→¬ O' b i:=fun i hi ho=>by
  rcases hO b i ho with h | h
  ·exact hi h
  ·omega
 split
 ·rename_i vs e f hw
  simp only[hw]at h1
  obtain⟨vs',e1,e2,e3⟩:=h1
  simp only[e1]at h2
  obtain⟨vs'',f1,f2,f3⟩:=h2
  exact⟨vs'',f1,f2.trans e2,fun i hi=>(f3 i (hno i hi)).trans (e3 i hi)⟩
 ·rename_i o hne
  intro hi
  have h3:w'.heap[b]? = w.heap[b]?:=by
   split at h1
   ·rename_i vs e f hw; exact absurd hw (by intro hh; exact hne _ _ _ hh)
   ·exact h1 hi
  rw[← h3]
  split at h2
  ·rename_i vs e f hw
   rw[h3]at hw
   exact absurd hw (by intro hh; exact hne _ _ _ hh)
  ·exact h2 (hno 0 hi)
theorem Evo.refl(w:World)(g:Gh)(H:List Obj):Evo w g H w g H :=
 ⟨fun _ _ h=>h,fun _ _ _=>rfl,fun _ _ h=>h,.refl _ _,fun _ _ h=>.inl h,fun _ _ h=>.inl h,rfl⟩
theorem Evo.trans{w w' w'':World}{g g' g'':Gh}{H H' H'':List Obj}(h:Evo w g H w' g' H')(h':Evo w' g' H' w'' g'' H''):Evo w g H w'' g'' H'':=by
 have hsz:w.heap.size ≤ w'.heap.size:=h.keep.2.2.2.1
 refine⟨fun b i hd=>h'.D _ _ (h.D _ _ hd),fun b i hd=>(h'.cells _ _ (h.D _ _ hd)).trans (h.cells _ _ hd),fun c a hr=>h'.rep _ _ (h.rep _ _ hr),
  h.keep.trans h'.keep h.own,fun b i ho=>?_,fun b i hd=>?_,h'.cd.trans h.cd⟩
 ·rcases h'.own b i ho with h1 | h1
  ·exact h.own b i h1
  ·exact .inr (Nat.le_trans hsz h1)
 ·rcases h'.newD b i hd with h1 | h1 | h1
  ·exact h.newD b i h1
  ·exact .inr (h.own b i h1)
  ·exact .inr (.inr (Nat.le_trans hsz h1))
end Go.Proofs.YtchgldaddcolhaaGreatDoor
namespace Go.Proofs.YtchgldaddcolhaaGreatDoor
open Go
variable[Sub]
theorem cellAt_heap{w w':World}{b:Nat}(h:w'.heap[b]? = w.heap[b]?)(i:Nat):cellAt w' b i = cellAt w b i:=by
 simp only[cellAt,World.cell?,h]
theorem cellAt_cells{w:World}{b:Nat}{vs:Array Value}{e:TypeId}{f:Nat×Nat}(h:w.heap[b]? = some (.cells vs e f))(i:Nat):cellAt w b i = vs[i]?:=by
 simp[cellAt,World.cell?,h]
theorem IsBlk.lt{w:World}{g:Gh}{H:List Obj}(hs:StRel w g H){l:Nat}(hl:l < H.length):g.blk l < w.heap.size:=by
 have h:=hs.objs l _ (List.getElem?_eq_getElem hl)
 have lt:∀ {o:Go.Obj},w.heap[g.blk l]? = some o→g.blk l < w.heap.size:=fun h=>(Array.getElem?_eq_some_iff.1 h).1
 cases ho:H[l] with
 | cells c=>rw[ho]at h; obtain⟨vs,e,h1,_⟩:=h; exact lt h1
 | arr es fz ver rows=>rw[ho]at h; obtain⟨_,_,⟨vs,e,h1,_⟩,_⟩:=h; exact lt h1
 | map es=>rw[ho]at h; obtain⟨_,_,h1,_⟩:=h; exact lt h1.1
 | loop st env ps a b=>rw[ho]at h; obtain⟨_,h1,_⟩:=h; exact lt h1
 | stk es ver lens rows=>rw[ho]at h; obtain⟨⟨_,_,h1,_⟩,_⟩:=h; exact lt h1
theorem StRel.has_lt{w:World}{g:Gh}{H:List Obj}(hs:StRel w g H){l b:Nat}(hl:l < H.length)(h:g.Has l b):b < w.heap.size:=by
 rcases h with rfl | h
 ·exact IsBlk.lt hs hl
 ·exact (hs.ext l b hl h).1
theorem LoopRel.keep{w w':World}{g g':Gh}{H H':List Obj}{r:Go.Loop}{st:LS}{env:List (Nat×AV)}{ps:List Nat}{a b:SCode}(h:LoopRel w g H r st env ps a b)(hcd:g'.cd = g.cd)(hr:∀ c a,Rep w g H c a→Rep w' g' H' c a):LoopRel w' g' H' r st env ps a b:=by
 refine⟨h.1,fun hg=>?_⟩
 obtain⟨h1,h2,nt,vars,h3⟩:=h.2 hg
 exact⟨h1,fun t v hv=>hr _ _ (h2 t v hv),nt,vars,by rw[hcd]; exact h3⟩
theorem ObjRel.keep{w w':World}{g g':Gh}{H H':List Obj}{l:Nat}{o:Obj}(h:ObjRel w g H l o)(hb:g'.blk l = g.blk l)(ho:g'.base l = g.base l)(hc:g'.cap l = g.cap l)(hha:∀ b,g.Has l b→w'.heap[b]? = w.heap[b]?)(hD:∀ b i,g.D b i→g'.D b i)(hw:∀ b i,g.D b i→cellAt w' b i = cellAt w b i)(hr:∀ c a,Rep w g H c a→Rep w' g' H' c a)(hcd:g'.cd = g.cd:=by rfl)(hk:g'.kin l = g.kin l:=by rfl):ObjRel w' g' H' l o:=by
 have hh:=hha _ (.inl rfl)
 cases o with
 | stk es ver lens rows =>
  obtain⟨⟨vs,e,h1,h0⟩,h2,h3⟩:=h
  refine⟨⟨vs,e,by rw[hb,hh]; exact h1,h0⟩,h2,fun v n hm=>?_⟩
  obtain⟨a1,a2,a3,a4,⟨vs',e',a5,a6⟩,a7⟩:=h3 v n hm
  rw[hk]
  refine⟨a1,a2,a3,?_,⟨vs',e',by rw[hha _ a4]; exact a5,a6⟩,fun i j row x q1 q2 q3=>?_⟩
  ·rcases a4 with h | h
   ·exact .inl (by rw[hb]; exact h)
   ·exact .inr (by rw[hk]; exact h)
  ·obtain⟨c,c1,c2,c3⟩:=a7 i j row x q1 q2 q3
   exact⟨c,by rw[cellAt_heap (hha _ a4)]; exact c1,hr _ _ c2,c3⟩
 | cells c =>
  obtain⟨vs,e,h1,h2,h3⟩:=h
  exact⟨vs,e,by rw[hb,hh]; exact h1,h2,fun i v x a b=>⟨hr _ _ (h3 i v x a b).1,(h3 i v x a b).2⟩⟩
 | arr es fz ver rows =>
  obtain⟨h1,h2,⟨vs,e,h3,h4⟩,h5,h6⟩:=h
  refine⟨by rw[hc]; exact h1,h2,⟨vs,e,by rw[hb,hh]; exact h3,by rw[ho,hc]; exact h4⟩,fun i j row x a b=>?_,fun i j a b c=>?_⟩
  ·obtain⟨c,e1,e2⟩:=h5 i j row x a b
   exact⟨c,by rw[hb,ho,cellAt_heap hh]; exact e1,e2.mono hD hw⟩
  ·rw[hb,ho]; exact hD _ _ (h6 i j a b c)
 | map es =>
  obtain⟨ents,ck,h1,h2,h3⟩:=h
  exact⟨ents,ck,⟨by rw[hb,hh]; exact h1.1,h1.2⟩,h2,fun i e p a b=>⟨(h3 i e p a b).1,hr _ _ (h3 i e p a b).2⟩⟩
 | loop st env ps a b =>
  obtain⟨r,h1,h2⟩:=h
  exact⟨r,by rw[hb,hh]; exact h1,h2.keep hcd hr⟩
theorem Stands.keep{g g':Gh}{l:Nat}{o:Obj}(h:Stands g l o)(hb:g'.blk l = g.blk l)(ho:g'.base l = g.base l)(hD:∀ i,g'.D (g.blk l) i→g.D (g.blk l) i):Stands g' l o:=by
 cases o with
 | cells c=>exact fun i hi=>h i (hD i (by rw[← hb]; exact hi))
 | arr es fz ver rows =>
  cases fz with
  | none=>exact fun i hi=>h i (hD i (by rw[← hb]; exact hi))
  | some f=>exact⟨h.1,fun i hi=>by rw[ho]; exact h.2 i (hD i (by rw[← hb]; exact hi))⟩
 | map es=>exact fun i hi=>h i (hD i (by rw[← hb]; exact hi))
 | loop=>exact fun i hi=>h i (hD i (by rw[← hb]; exact hi))
 | stk=>exact fun i hi=>h i (hD i (by rw[← hb]; exact hi))
structure Pushed (w w':World) (ob:Go.Obj):Prop where
 heap:w'.heap = w.heap.push ob
 os:w'.os = w.os
 output:w'.output = w.output
 tape:w'.tape = w.tape∧w.drawn ≤ w'.drawn
theorem Pushed.old{w w':World}{ob:Go.Obj}(h:Pushed w w' ob){b:Nat}(hb:b < w.heap.size):w'.heap[b]? = w.heap[b]?:=by
 rw[h.heap,Array.getElem?_push]
 split
 ·omega
 ·rfl
theorem Pushed.new{w w':World}{ob:Go.Obj}(h:Pushed w w' ob):w'.heap[w.heap.size]? = some ob:=by
 rw[h.heap]; simp
theorem Pushed.size{w w':World}{ob:Go.Obj}(h:Pushed w w' ob):w'.heap.size = w.heap.size + 1:=by rw[h.heap]; simp
theorem Pushed.keep{w w':World}{ob:Go.Obj}(h:Pushed w w' ob)(O:Nat→Nat→Prop):Keep O w w':=by
 refine⟨h.os,h.output,h.tape,by rw[h.size]; omega,fun b hb=>?_⟩
 have e:=h.old hb
 split
 ·rename_i vs e1 f hw; exact⟨vs,by rw[e]; exact hw,rfl,fun _ _=>rfl⟩
 ·intro _; exact e
structure Still (w w':World):Prop where
 heap:w'.heap = w.heap
 os:w'.os = w.os
 output:w'.output = w.output
 tape:w'.tape = w.tape∧w.drawn ≤ w'.drawn
theorem evo_still{w w':World}{g:Gh}{H:List Obj}(h:Still w w')(hs:StRel w g H):Evo w g H w' g H∧StRel w' g H:=by
 have hc:∀ b i,cellAt w' b i = cellAt w b i:=fun b i=>cellAt_heap (by rw[h.heap]) i
 have hr:∀ c a,Rep w g H c a→Rep w' g H c a:=fun c a hr=>hr.step (fun _ _ h=>h) (fun b i _=>hc b i) (fun l o hl=>.same rfl rfl rfl rfl)
 refine⟨⟨fun _ _ h=>h,fun b i _=>hc b i,hr,⟨h.os,h.output,h.tape,by rw[h.heap]; omega,fun b hb=>?_⟩,fun _ _ h=>.inl h,fun _ _ h=>.inl h,rfl⟩,⟨fun l o hl=>?_,hs.inj2,hs.stand,fun b i hd=>by rw[h.heap]; exact hs.dom b i hd,fun l b hl he=>by rw[h.heap]; exact hs.ext l b hl he,hs.glob.step (fun _ _ h=>h) (fun b i _=>hc b i)⟩⟩
 ·rw[h.heap]
  split
  ·rename_i vs e1 f hw; exact⟨vs,hw,rfl,fun _ _=>rfl⟩
  ·intro _; rfl
 ·exact (hs.objs l o hl).keep rfl rfl rfl (fun b _=>by rw[h.heap]) (fun _ _ h=>h) (fun b i _=>hc b i) hr
def Gh.add(g:Gh)(n blk base cap:Nat):Gh :=
 { g with blk:=fun l=>if l = n then blk else g.blk l,base:=fun l=>if l = n then base else g.base l,cap:=fun l=>if l = n then cap else g.cap l,kin:=fun l=>if l = n then Kin.at blk cap else g.kin l }
theorem Gh.add_kin_eq{g:Gh}{n blk base cap:Nat}:(g.add n blk base cap).kin n = Kin.at blk cap:=by simp[Gh.add]
theorem Gh.add_kin{g:Gh}{n blk base cap l:Nat}(h:l ≠ n):(g.add n blk base cap).kin l = g.kin l:=by
 simp[Gh.add,h]
theorem Gh.add_has{g:Gh}{n blk base cap l b:Nat}(h:l ≠ n):(g.add n blk base cap).Has l b↔g.Has l b:=by
 simp[Gh.add,Gh.Has,h]
theorem Gh.add_has_eq{g:Gh}{n blk base cap b:Nat}:(g.add n blk base cap).Has n b↔blk = b:=by
 simp[Gh.add,Gh.Has,Kin.at]
theorem Gh.add_ne{g:Gh}{n blk base cap l:Nat}(h:l ≠ n):(g.add n blk base cap).blk l = g.blk l∧(g.add n blk base cap).base l = g.base l∧(g.add n blk base cap).cap l = g.cap l:=by
 simp[Gh.add,h]
theorem Gh.add_eq{g:Gh}{n blk base cap:Nat}:(g.add n blk base cap).blk n = blk∧(g.add n blk base cap).base n = base∧(g.add n blk base cap).cap n = cap:=by
 simp[Gh.add]
theorem evo_new{w w':World}{g:Gh}{H:List Obj}{ob:Go.Obj}{o:Obj}{cap:Nat}(hp:Pushed w w' ob)(hs:StRel w g H)(hfz:∀ es f v rows,o ≠ .arr es (some f) v rows)(hnew:(∀ c a,Rep w g H c a→Rep w' (g.add H.length w.heap.size 0 cap) (H++[o]) c a)→ObjRel w' (g.add H.length w.heap.size 0 cap) (H++[o]) H.length o) :
  Evo w g H w' (g.add H.length w.heap.size 0 cap) (H++[o])∧StRel w' (g.add H.length w.heap.size 0 cap) (H++[o]):=by
 have hne:∀ l,l < H.length→l ≠ H.length:=fun l h=>by omega
 have hc:∀ b i,g.D b i→cellAt w' b i = cellAt w b i:=fun b i hd=>cellAt_heap (hp.old (hs.dom b i hd)) i
 have hr:∀ c a,Rep w g H c a→Rep w' (g.add H.length w.heap.size 0 cap) (H++[o]) c a:=fun c a h=>h.step (w:=w) (g:=g) (g':=g.add H.length w.heap.size 0 cap) (H':=H++[o]) (fun _ _ h=>h) hc (fun l o' hl=>by
  have hlt:l < H.length:=(List.getElem?_eq_some_iff.1 hl).1
  obtain⟨h1,h2,h3⟩:=Gh.add_ne (g:=g) (blk:=w.heap.size) (base:=0) (cap:=cap) (hne l hlt)
  exact .same (by rw[List.getElem?_append_left hlt]) h1 h2 h3 (Gh.add_kin (hne l hlt)))
 have hlen:(H++[o]).length = H.length + 1:=by simp
 refine⟨⟨fun _ _ h=>h,hc,hr,hp.keep _,fun b i ho=>?_,fun _ _ h=>.inl h,rfl⟩,⟨fun l o' hl=>?_,fun l k hl hk b e1' e2'=>?_,fun l o' hl=>?_,fun b i hd=>?_,fun l b hl he=>?_,hs.glob.step (fun _ _ h=>h) hc⟩⟩
 ·obtain⟨⟨l,hl,hb⟩,hd⟩:=ho
  rw[hlen]at hl
  by_cases e:l = H.length
  ·subst e; right; rw[Gh.add_has_eq]at hb; omega
  ·left; exact⟨⟨l,by omega,(Gh.add_has e).1 hb⟩,hd⟩
 ·rcases Nat.lt_or_ge l H.length with hlt | hge
  ·rw[List.getElem?_append_left hlt]at hl
   obtain⟨h1,h2,h3⟩:=Gh.add_ne (g:=g) (blk:=w.heap.size) (base:=0) (cap:=cap) (hne l hlt)
   exact (hs.objs l o' hl).keep h1 h2 h3 (fun b hb=>hp.old (hs.has_lt hlt hb)) (fun _ _ h=>h) hc hr rfl (Gh.add_kin (hne l hlt))
  ·have hl':l = H.length:=by
    have:=(List.getElem?_eq_some_iff.1 hl).1; omega
   subst hl'
   simp at hl
   subst hl
   exact hnew hr
 ·rw[hlen]at hl hk
  by_cases e1:l = H.length <;> by_cases e2:k = H.length
  ·omega
  ·subst e1; rw[Gh.add_has_eq]at e1'; have:=hs.has_lt (show k < H.length by omega) ((Gh.add_has e2).1 e2'); omega
  ·subst e2; rw[Gh.add_has_eq]at e2'; have:=hs.has_lt (show l < H.length by omega) ((Gh.add_has e1).1 e1'); omega
  ·exact hs.inj2 l k (by omega) (by omega) b ((Gh.add_has e1).1 e1') ((Gh.add_has e2).1 e2')
 ·rcases Nat.lt_or_ge l H.length with hlt | hge
  ·rw[List.getElem?_append_left hlt]at hl
   obtain⟨h1,h2,h3⟩:=Gh.add_ne (g:=g) (blk:=w.heap.size) (base:=0) (cap:=cap) (hne l hlt)
   exact (hs.stand l o' hl).keep h1 h2 (fun _ h=>h)
  ·have hl':l = H.length:=by
    have:=(List.getElem?_eq_some_iff.1 hl).1; omega
   subst hl'
   simp at hl
   subst hl
   have hno:∀ i,¬ (g.add H.length w.heap.size 0 cap).D ((g.add H.length w.heap.size 0 cap).blk H.length) i:=fun i hd=>by
    rw[Gh.add_eq.1]at hd
    have:w.heap.size < w.heap.size:=hs.dom _ i hd
    omega
   cases o with
   | cells c=>exact hno
   | arr es fz ver rows =>
    cases fz with
    | none=>exact hno
    | some f=>exact absurd rfl (hfz es f ver rows)
   | map es=>exact hno
   | loop=>exact hno
   | stk=>exact hno
 ·rw[hp.size]; have:=hs.dom b i hd; omega
 ·rw[hlen]at hl
  by_cases e:l = H.length
  ·subst e; simp[Gh.add,Kin.at]at he
  ·rw[Gh.add_kin e]at he
   have:=hs.ext l b (by omega) he
   exact⟨by rw[hp.size]; omega,by rw[(Gh.add_ne e).1]; exact this.2.1,this.2.2⟩
theorem evo_lit{w w':World}{g:Gh}{H:List Obj}{ob:Go.Obj}(hp:Pushed w w' ob)(hs:StRel w g H) :
  Evo w g H w' { g with D:=fun b i=>g.D b i∨b = w.heap.size } H∧StRel w' { g with D:=fun b i=>g.D b i∨b = w.heap.size } H:=by
 have hc:∀ b i,g.D b i→cellAt w' b i = cellAt w b i:=fun b i hd=>cellAt_heap (hp.old (hs.dom b i hd)) i
 have hD:∀ b i,g.D b i→g.D b i∨b = w.heap.size:=fun _ _ h=>.inl h
 have hr:∀ c a,Rep w g H c a→Rep w' { g with D:=fun b i=>g.D b i∨b = w.heap.size } H c a:=fun c a h=>h.step (g':={ g with D:=fun b i=>g.D b i∨b = w.heap.size }) (H':=H) hD hc (fun l o' hl=>.same rfl rfl rfl rfl)
 refine⟨⟨hD,hc,hr,hp.keep _,fun b i ho=>?_,fun b i h=>?_,rfl⟩,⟨fun l o' hl=>?_,hs.inj2,fun l o' hl=>?_,fun b i hd=>?_,fun l b hl he=>?_,hs.glob.step hD hc⟩⟩
 ·obtain⟨⟨l,hl,hb⟩,hd⟩:=ho
  exact .inl ⟨⟨l,hl,hb⟩,fun h=>hd (.inl h)⟩
 ·rcases h with h | h
  ·exact .inl h
  ·exact .inr (.inr (by omega))
 ·have hlt:l < H.length:=(List.getElem?_eq_some_iff.1 hl).1
  exact (hs.objs l o' hl).keep rfl rfl rfl (fun b hb=>hp.old (hs.has_lt hlt hb)) hD hc hr
 ·have hlt:l < H.length:=(List.getElem?_eq_some_iff.1 hl).1
  refine (hs.stand l o' hl).keep rfl rfl (fun i h=>?_)
  rcases h with h | h
  ·exact h
  ·have:=IsBlk.lt hs hlt; omega
 ·rw[hp.size]
  rcases hd with h | h
  ·have:=hs.dom b i h; omega
  ·omega
 ·obtain⟨h1,h0,h2⟩:=hs.ext l b hl he
  exact⟨by rw[hp.size]; omega,h0,fun i hd=>hd.elim (h2 i) fun h=>by omega⟩
structure Only (w w':World) (B:Nat) (D:Nat→Nat→Prop):Prop where
 heap:∀ b,b ≠ B→w'.heap[b]? = w.heap[b]?
 size:w'.heap.size = w.heap.size
 os:w'.os = w.os
 output:w'.output = w.output
 tape:w'.tape = w.tape∧w.drawn ≤ w'.drawn
 at_:∀ vs e f,w.heap[B]? = some (.cells vs e f)→∃ vs',w'.heap[B]? = some (.cells vs' e f)∧vs'.size = vs.size∧∀ i,D B i→vs'[i]? = vs[i]?
 none_:(∀ vs e f,w.heap[B]? ≠ some (.cells vs e f))→∀ i,¬ D B i
theorem Only.cells{w w':World}{B:Nat}{D:Nat→Nat→Prop}(h:Only w w' B D)(b i:Nat)(hd:D b i):cellAt w' b i = cellAt w b i:=by
 by_cases hb:b = B
 ·subst hb
  cases hh:w.heap[b]? with
  | none=>exact absurd hd (h.none_ (fun vs e f he=>by rw[hh]at he; cases he) i)
  | some o =>
   cases o with
   | cells vs e f =>
    obtain⟨vs',h1,_,h3⟩:=h.at_ vs e f hh
    rw[cellAt_cells h1,cellAt_cells hh]
    exact h3 i hd
   | _=>exact absurd hd (h.none_ (fun vs e f he=>by rw[hh]at he; cases he) i)
 ·exact cellAt_heap (h.heap b hb) i
theorem Only.rfl'{w:World}{B:Nat}{D:Nat→Nat→Prop}(h:∀ i,D B i→∃ vs e f,w.heap[B]? = some (.cells vs e f)):Only w w B D :=
 ⟨fun _ _=>rfl,rfl,rfl,rfl,⟨rfl,Nat.le_refl _⟩,fun vs _ _ h=>⟨vs,h,rfl,fun _ _=>rfl⟩,fun hn i hd=>let ⟨vs,e,f,he⟩:=h i hd; hn vs e f he⟩
theorem Keep.of_only{w w':World}{B:Nat}{D O:Nat→Nat→Prop}(h:Only w w' B D)(hO:∀ i,¬ D B i→O B i):Keep O w w':=by
 refine⟨h.os,h.output,h.tape,by rw[h.size]; exact Nat.le_refl _,fun b hb=>?_⟩
 by_cases e:b = B
 ·subst e
  split
  ·rename_i vs e1 f hw
   obtain⟨vs',h1,h2,h3⟩:=h.at_ vs e1 f hw
   exact⟨vs',h1,h2,fun i hi=>h3 i (Classical.byContradiction fun hd=>hi (hO i hd))⟩
  ·rename_i o hne
   intro hi
   exact absurd (hO 0 (h.none_ (fun vs e f he=>hne vs e f he) 0)) hi
 ·have e1:=h.heap b e
  split
  ·rename_i vs e2 f hw; exact⟨vs,by rw[e1]; exact hw,rfl,fun _ _=>rfl⟩
  ·intro _; exact e1
theorem evo_obj{w w':World}{g g':Gh}{H:List Obj}{l:Nat}{o o':Obj}{Q:Nat→Prop}(hs:StRel w g H)(hl:H[l]? = some o)(hb:g'.blk = g.blk)(ho:g'.base = g.base)(hc:g'.cap = g.cap)(hD:∀ b i,g'.D b i↔g.D b i∨(b = g.blk l∧Q i))(hw:Only w w' (g.blk l) g.D)(hstep:OStep w g H w' g' (H.set l o') l)(hnew:(∀ c a,Rep w g H c a→Rep w' g' (H.set l o') c a)→ObjRel w' g' (H.set l o') l o')(hst:Stands g' l o')(hcd:g'.cd = g.cd:=by rfl)(hki:g'.kin = g.kin:=by rfl) :
  Evo w g H w' g' (H.set l o')∧StRel w' g' (H.set l o'):=by
 have hhas:∀ k b,g'.Has k b↔g.Has k b:=fun k b=>by rw[Gh.Has,Gh.Has,hb,hki]
 have hlt:l < H.length:=(List.getElem?_eq_some_iff.1 hl).1
 have hD':∀ b i,g.D b i→g'.D b i:=fun b i h=>(hD b i).2 (.inl h)
 have hset:∀ k,k ≠ l→(H.set l o')[k]? = H[k]?:=fun k hk=>List.getElem?_set_ne (Ne.symm hk)
 have hr:∀ c a,Rep w g H c a→Rep w' g' (H.set l o') c a:=fun c a h=>h.step (w:=w) (g:=g) (g':=g') (H':=H.set l o') hD' hw.cells (fun k ok hk=>by
  by_cases e:k = l
  ·subst e; exact hstep
  ·exact .same (hset k e) (by rw[hb]) (by rw[ho]) (by rw[hc]) (by rw[hki]))
 refine⟨⟨hD',hw.cells,hr,Keep.of_only hw (fun i hi=>⟨⟨l,hlt,.inl rfl⟩,hi⟩),fun b i h=>?_,fun b i h=>?_,hcd⟩,⟨fun k ok hk=>?_,fun k m hk hm b e1 e2=>?_,fun k ok hk=>?_,fun b i hd=>?_,fun k b hk he=>?_,hs.glob.step hD' hw.cells⟩⟩
 ·obtain⟨⟨k,hk,hb'⟩,hd⟩:=h
  rw[List.length_set]at hk
  exact .inl ⟨⟨k,hk,(hhas k b).1 hb'⟩,fun h=>hd (hD' _ _ h)⟩
 ·rcases (hD b i).1 h with h | ⟨rfl,_⟩
  ·exact .inl h
  ·by_cases hd:g.D (g.blk l) i
   ·exact .inl hd
   ·exact .inr (.inl ⟨⟨l,hlt,.inl rfl⟩,hd⟩)
 ·by_cases e:k = l
  ·subst e
   rw[List.getElem?_set_self hlt]at hk
   cases hk
   exact hnew hr
  ·rw[hset k e]at hk
   have hkl:k < H.length:=(List.getElem?_eq_some_iff.1 hk).1
   exact (hs.objs k ok hk).keep (by rw[hb]) (by rw[ho]) (by rw[hc]) (fun b hb'=>hw.heap _ fun he=>e (hs.inj2 k l hkl hlt b hb' (.inl he.symm))) hD' hw.cells hr hcd (by rw[hki])
 ·rw[List.length_set]at hk hm
  exact hs.inj2 k m hk hm b ((hhas k b).1 e1) ((hhas m b).1 e2)
 ·by_cases e:k = l
  ·subst e
   rw[List.getElem?_set_self hlt]at hk
   cases hk
   exact hst
  ·rw[hset k e]at hk
   have hkl:k < H.length:=(List.getElem?_eq_some_iff.1 hk).1
   refine (hs.stand k ok hk).keep (by rw[hb]) (by rw[ho]) (fun i h=>?_)
   rcases (hD _ _).1 h with h | ⟨he,_⟩
   ·exact h
   ·exact absurd (hs.inj k l hkl hlt he) e
 ·rw[hw.size]
  rcases (hD b i).1 hd with h | ⟨rfl,_⟩
  ·exact hs.dom b i h
  ·exact IsBlk.lt hs hlt
 ·rw[List.length_set]at hk
  rw[hki]at he
  obtain⟨h1,h0,h2⟩:=hs.ext k b hk he
  refine⟨by rw[hw.size]; exact h1,by rw[hb]; exact h0,fun i hd=>?_⟩
  rcases (hD b i).1 hd with h | ⟨rfl,hq⟩
  ·exact h2 i h
  ·have:=hs.inj2 k l hk hlt _ (.inr he) (.inl rfl)
   subst this
   exact h0 rfl
theorem evo_freeze1{w:World}{g:Gh}{H:List Obj}{l es ver:Nat}{rows:List (List PV)}(hs:StRel w g H)(hl:H[l]? = some (.arr es none ver rows)) :
  ∃ g',Evo w g H w g' (H.set l (.arr es (some ver) ver rows))∧StRel w g' (H.set l (.arr es (some ver) ver rows)):=by
 obtain⟨h1,h2,⟨vs,e,h3,h4⟩,h5,_⟩:=hs.objs l _ hl
 have hnoD:=hs.stand l _ hl
 have hD:∀ b i,g.D b i→g.D b i∨(b = g.blk l∧(g.base l ≤ i∧i < g.base l + rows.length * es)):=fun _ _ h=>.inl h
 refine⟨{ g with D:=fun b i=>g.D b i∨(b = g.blk l∧(g.base l ≤ i∧i < g.base l + rows.length * es)) },
  evo_obj (Q:=fun i=>g.base l ≤ i∧i < g.base l + rows.length * es) hs hl rfl rfl rfl (fun _ _=>Iff.rfl) (.rfl' fun i _=>⟨vs,e,_,h3⟩) ?_ (fun hr=>?_) ?_⟩
 ·refine .frz hl (List.getElem?_set_self (List.getElem?_eq_some_iff.1 hl).1) rfl rfl rfl h2 (fun i j row x hi hj=>?_)
  obtain⟨c,e1,e2⟩:=h5 i j row x hi hj
  have hi':i < rows.length:=(List.getElem?_eq_some_iff.1 hi).1
  have hj':j < es:=by
   have:=(List.getElem?_eq_some_iff.1 hj).1
   rw[h2 row (List.mem_of_getElem? hi)]at this; exact this
  have hm:i * es + es ≤ rows.length * es:=by
   have:=Nat.mul_le_mul_right es (show i + 1 ≤ rows.length by omega); rw[Nat.add_mul,Nat.one_mul]at this; exact this
  exact⟨.inr ⟨rfl,by omega,by omega⟩,c,e1,e2.mono hD (fun _ _ _=>rfl)⟩
 ·refine⟨h1,h2,⟨vs,e,h3,h4⟩,fun i j row x hi hj=>?_,fun i j _ hi hj=>?_⟩
  ·obtain⟨c,e1,e2⟩:=h5 i j row x hi hj
   exact⟨c,e1,e2.mono hD (fun _ _ _=>rfl)⟩
  ·have hm:i * es + es ≤ rows.length * es:=by
    have:=Nat.mul_le_mul_right es (show i + 1 ≤ rows.length by omega); rw[Nat.add_mul,Nat.one_mul]at this; exact this
   exact .inr ⟨rfl,by show g.base l ≤ g.base l + i * es + j; omega,by show g.base l + i * es + j < g.base l + rows.length * es; omega⟩
 ·refine⟨Nat.le_refl _,fun i hd=>?_⟩
  rcases hd with h | ⟨_,_,h⟩
  ·exact absurd h (hnoD i)
  ·exact h
theorem evo_freeze{w:World}:∀ (ls:List Nat) {g:Gh} {H:List Obj},StRel w g H→∃ g',Evo w g H w g' (freeze H ls)∧StRel w g' (freeze H ls)
 | [],g,H,hs=>⟨g,Evo.refl _ _ _,hs⟩
 | l::ls,g,H,hs=>by
  simp only[freeze]
  split
  ·rename_i es ver rows hl
   obtain⟨g1,e1,s1⟩:=evo_freeze1 hs hl
   obtain⟨g2,e2,s2⟩:=evo_freeze ls s1
   exact⟨g2,e1.trans e2,s2⟩
  ·exact evo_freeze ls hs
theorem evo_grow{w w':World}{g:Gh}{H:List Obj}{l es ver cap:Nat}{fz:Option Nat}{rows ys:List (List PV)}{vs:Array Value}{e:TypeId}(hs:StRel w g H)(hl:H[l]? = some (.arr es fz ver rows))(hp:Pushed w w' (.cells vs e (0,0)))(hys:∀ r ∈ ys,r.length = es)(hcap:rows.length + ys.length ≤ cap)(hsz:cap * es ≤ vs.size)(hcell:∀ (i j:Nat) (row:List PV) (x:PV),(rows++ys)[i]? = some row→row[j]? = some x→∃ c,vs[i * es + j]? = some c∧RepP w g.D c x) :
  ∃ g',Evo w g H w' g' (H.set l (.arr es fz (ver + 1) (rows++ys)))∧StRel w' g' (H.set l (.arr es fz (ver + 1) (rows++ys))) ∧
   g'.blk l = w.heap.size∧g'.base l = 0∧g'.cap l = cap∧(fz.isSome = true→∀ i j,i < (rows++ys).length→j < es→g'.D w.heap.size (i * es + j)):=by
 have hlt:l < H.length:=(List.getElem?_eq_some_iff.1 hl).1
 obtain⟨h1,h2,⟨ovs,oe,h3,h4⟩,h5,h6⟩:=hs.objs l _ hl
 have hc:∀ b i,g.D b i→cellAt w' b i = cellAt w b i:=fun b i hd=>cellAt_heap (hp.old (hs.dom b i hd)) i
 let D':Nat→Nat→Prop:=fun b i=>g.D b i∨(b = w.heap.size∧fz.isSome = true∧i < (rows++ys).length * es)
 let g':Gh:={ blk:=fun k=>if k = l then w.heap.size else g.blk k,base:=fun k=>if k = l then 0 else g.base k,cap:=fun k=>if k = l then cap else g.cap k,D:=D',cd:=g.cd,kin:=g.kin }
 have hhas:∀ k b,k ≠ l→(g'.Has k b↔g.Has k b):=fun k b hk=>by simp[g',Gh.Has,hk]
 have hhasl:∀ b,g'.Has l b→b = w.heap.size∨g.Has l b:=fun b h=>by
  rcases h with h | h
  ·left; rw[← h]; simp[g']
  ·exact .inr (.inr h)
 have hb0:g'.blk l = w.heap.size:=by simp[g']
 have hb1:g'.base l = 0:=by simp[g']
 have hb2:g'.cap l = cap:=by simp[g']
 have hne:∀ k,k ≠ l→g'.blk k = g.blk k∧g'.base k = g.base k∧g'.cap k = g.cap k:=fun k hk=>by simp[g',hk]
 have hD:∀ b i,g.D b i→g'.D b i:=fun _ _ h=>.inl h
 have hset:∀ k,k ≠ l→(H.set l (.arr es fz (ver + 1) (rows++ys)))[k]? = H[k]?:=fun k hk=>List.getElem?_set_ne (Ne.symm hk)
 have hself:(H.set l (.arr es fz (ver + 1) (rows++ys)))[l]? = some (.arr es fz (ver + 1) (rows++ys)):=List.getElem?_set_self hlt
 have hfv:∀ f,fz = some f→f ≤ ver:=fun f hf=>by subst hf; exact (hs.stand l _ hl).1
 have hr:∀ c a,Rep w g H c a→Rep w' g' (H.set l (.arr es fz (ver + 1) (rows++ys))) c a:=fun c a h =>
  h.step (w:=w) (g:=g) (g':=g') (H':=H.set l (.arr es fz (ver + 1) (rows++ys))) hD hc (fun k ok hk=>by
   by_cases e:k = l
   ·subst e; exact .app hl hself hfv
   ·exact .same (hset k e) (hne k e).1 (hne k e).2.1 (hne k e).2.2)
 have hrows:∀ r ∈ rows++ys,r.length = es:=fun r hr=>by
  rcases List.mem_append.1 hr with h | h
  ·exact h2 r h
  ·exact hys r h
 have hlen:(rows++ys).length = rows.length + ys.length:=List.length_append
 have hm:∀ i,i < (rows++ys).length→i * es + es ≤ (rows++ys).length * es:=fun i hi=>by
  have:=Nat.mul_le_mul_right es (show i + 1 ≤ (rows++ys).length by omega)
  rwa [Nat.add_mul,Nat.one_mul]at this
 refine⟨g',⟨hD,hc,hr,hp.keep _,fun b i h=>?_,fun b i h=>?_,rfl⟩,⟨fun k ok hk=>?_,fun k m hk hm b e1' e2'=>?_,fun k ok hk=>?_,fun b i hd=>?_,fun k b hk he=>?_,hs.glob.step hD hc⟩,hb0,hb1,hb2,fun hf i j hi hj=>.inr ⟨rfl,hf,by have:=hm i hi; omega⟩⟩
 ·obtain⟨⟨k,hk,hb'⟩,hd⟩:=h
  rw[List.length_set]at hk
  by_cases e:k = l
  ·subst e
   rcases hhasl b hb' with h | h
   ·right; omega
   ·exact .inl ⟨⟨k,hk,h⟩,fun h=>hd (hD _ _ h)⟩
  ·exact .inl ⟨⟨k,hk,(hhas k b e).1 hb'⟩,fun h=>hd (hD _ _ h)⟩
 ·rcases h with h | ⟨rfl,_⟩
  ·exact .inl h
  ·exact .inr (.inr (Nat.le_refl _))
 ·by_cases e:k = l
  ·subst e
   rw[hself]at hk
   cases hk
   refine⟨by rw[hb2,hlen]; exact hcap,hrows,⟨vs,_,by rw[hb0]; exact hp.new,by rw[hb1,hb2]; omega⟩,fun i j row x hi hj=>?_,fun i j hf hi hj=>?_⟩
   ·obtain⟨c,e1,e2⟩:=hcell i j row x hi hj
    exact⟨c,by rw[hb0,hb1,cellAt_cells hp.new,Nat.zero_add]; exact e1,e2.mono hD hc⟩
   ·rw[hb0,hb1,Nat.zero_add]
    exact .inr ⟨rfl,hf,by have:=hm i hi; omega⟩
  ·rw[hset k e]at hk
   have hkl:k < H.length:=(List.getElem?_eq_some_iff.1 hk).1
   exact (hs.objs k ok hk).keep (hne k e).1 (hne k e).2.1 (hne k e).2.2 (fun b hb=>hp.old (hs.has_lt hkl hb)) hD hc hr
 ·rw[List.length_set]at hk hm
  by_cases e1:k = l <;> by_cases e2:m = l
  ·omega
  ·subst e1
   have h2:=(hhas m b e2).1 e2'
   rcases hhasl b e1' with h | h
   ·have:=hs.has_lt hm h2; omega
   ·exact hs.inj2 k m hk hm b h h2
  ·subst e2
   have h1:=(hhas k b e1).1 e1'
   rcases hhasl b e2' with h | h
   ·have:=hs.has_lt hk h1; omega
   ·exact hs.inj2 k m hk hm b h1 h
  ·exact hs.inj2 k m hk hm b ((hhas k b e1).1 e1') ((hhas m b e2).1 e2')
 ·by_cases e:k = l
  ·subst e
   rw[hself]at hk
   cases hk
   have hno:∀ i,¬ g.D w.heap.size i:=fun i hd=>by have:=hs.dom _ i hd; omega
   cases fz with
   | none =>
    intro i hd
    rw[hb0]at hd
    rcases hd with h | ⟨_,h,_⟩
    ·exact hno i h
    ·cases h
   | some f =>
    refine⟨Nat.le_succ_of_le (hfv f rfl),fun i hd=>?_⟩
    rw[hb0]at hd
    rw[hb1,Nat.zero_add]
    rcases hd with h | ⟨_,_,h⟩
    ·exact absurd h (hno i)
    ·exact h
  ·rw[hset k e]at hk
   have hkl:k < H.length:=(List.getElem?_eq_some_iff.1 hk).1
   refine (hs.stand k ok hk).keep (hne k e).1 (hne k e).2.1 (fun i h=>?_)
   rcases h with h | ⟨h,_⟩
   ·exact h
   ·have:=IsBlk.lt hs hkl; omega
 ·rw[hp.size]
  rcases hd with h | ⟨rfl,_⟩
  ·have:=hs.dom b i h; omega
  ·omega
 ·rw[List.length_set]at hk
  obtain⟨h1,h0,h2⟩:=hs.ext k b hk he
  refine⟨by rw[hp.size]; omega,?_,fun i hd=>?_⟩
  ·by_cases e:k = l
   ·subst e; rw[hb0]; omega
   ·rw[(hne k e).1]; exact h0
  ·rcases hd with h | ⟨rfl,_⟩
   ·exact h2 i h
   ·omega
section
variable{w w':World}
theorem Keep.mono{O O':Nat→Nat→Prop}(h:Keep O w w')(ho:∀ b i,O b i→O' b i):Keep O' w w':=by
 obtain⟨a1,a2,a3,a4,a5⟩:=h
 refine⟨a1,a2,a3,a4,fun b hb=>?_⟩
 have:=a5 b hb
 split
 ·rename_i vs e f hw
  simp only[hw]at this
  obtain⟨vs',e1,e2,e3⟩:=this
  exact⟨vs',e1,e2,fun i hi=>e3 i (fun h=>hi (ho _ _ h))⟩
 ·rename_i o hne
  intro hi
  split at this
  ·rename_i vs e f hw; exact absurd hw (hne _ _ _)
  ·exact this (fun h=>hi (ho _ _ h))
theorem Keep.same{O:Nat→Nat→Prop}(h:Keep O w w'){b:Nat}(hb:b < w.heap.size)(hn:∀ i,¬ O b i):w'.heap[b]? = w.heap[b]?:=by
 have:=h.2.2.2.2 b hb
 split at this
 ·rename_i vs e f hw
  obtain⟨vs',e1,e2,e3⟩:=this
  rw[e1,hw]
  have:vs' = vs:=by
   apply Array.ext_getElem?
   intro i
   exact e3 i (hn i)
  rw[this]
 ·exact this (hn 0)
end
theorem free_cell{l:Nat}{o:Obj}{g:Gh}(h:Stands g l o):∃ i,¬ g.D (g.blk l) i:=by
 cases o with
 | cells c=>exact⟨0,h 0⟩
 | map es=>exact⟨0,h 0⟩
 | loop=>exact⟨0,h 0⟩
 | stk=>exact⟨0,h 0⟩
 | arr es fz ver rows =>
  cases fz with
  | none=>exact⟨0,h 0⟩
  | some f=>exact⟨g.base l + rows.length * es,fun hd=>Nat.lt_irrefl _ (h.2 _ hd)⟩
theorem StRel.free{w:World}{g:Gh}{H:List Obj}(hs:StRel w g H){l b:Nat}(hl:l < H.length)(h:g.Has l b):∃ i,¬ g.D b i:=by
 rcases h with rfl | h
 ·exact free_cell (hs.stand l _ (List.getElem?_eq_getElem hl))
 ·exact⟨0,(hs.ext l b hl h).2.2 0⟩
end Go.Proofs.YtchgldaddcolhaaGreatDoor
namespace Go.Proofs.YtchgldaddcolhaaGreatDoor
open Go
section
variable(P:Program)(kn:TypeId→Bool)
def cvt(keep:Bool):Value→Option AV
 | .slice none 0 0=>some (if keep then .p .nsl else .lit [])
 | .slice .. | .agg _ | .tuple _ | .func .. | .iface .. | .map (some _) | .chan (some _) | .pointer (some _)=>none
 | v=>some (.p (.v v))
def cvtP(keep:Bool):Value→Option PV
 | .slice none 0 0=>some (if keep then .nsl else .sl [])
 | .slice .. | .agg _ | .tuple _ | .func .. | .iface .. | .map (some _) | .chan (some _) | .pointer (some _)=>none
 | v=>some (.v v)
def under(t:TypeId):Option TypeDesc:=P.underlying t
def sizeT(t:TypeId):Option Nat:=(P.info? t).map (·.size)
def bytesT(t:TypeId):Option Nat:=(P.info? t).map (·.bytes)
def aggT:TypeDesc→Bool | .struct _=>true | .array _ _=>true | _=>false
def isAggT(t:TypeId):Option Bool:=(under P t).map aggT
def zeroT(t:TypeId):Option (List AV):=((P.info? t).bind (·.zero)).bind fun z=>z.cells.toList.mapM (cvt (kn t))
def zeroP(t:TypeId):Option (List PV):=((P.info? t).bind (·.zero)).bind fun z=>z.cells.toList.mapM (cvtP (kn t))
def glFind:List (Nat×List Value)→Nat→Option (List Value)
 | [],_=>none
 | (m,cs)::l,n=>if m = n then (if cs.all Scalar then some cs else none) else glFind l n
def compArg(own:List Nat)(keep:Bool):Operand→Option SA
 | .tmp t=>some (if own.contains t then .t t else .x t)
 | .const v=>(cvt keep v).map .c
 | .func f=>some (.f f)
 | .global n=>(glFind glTab n).map fun cs=>.c (.imm (cs.map .v) 0)
def compArgs(own:List Nat):List Operand→List TypeId→Option (List SA)
 | [],_=>some []
 | x::xs,ts=>(compArg own (((ts.head?).map kn).getD false) x).bind fun a=>(compArgs own xs ts.tail).map fun aZ=>a::aZ
def compParts(own:List Nat)(place:Nat→Option (Nat×TypeId)):List (Nat×Operand)→Option (List (Nat×SA))
 | []=>some []
 | (i,x)::ps=>(place i).bind fun (off,t)=>(compArg own (kn t) x).bind fun a=>(compParts own place ps).map fun aZ=>(off,a)::aZ
def compFields(own:List Nat)(place:Nat→Option (Nat×TypeId)):List (Nat×Operand)→Option (List (Nat×Nat×SA))
 | []=>some []
 | (i,x)::ps=>(place i).bind fun (off,t)=>(sizeT P t).bind fun n=>(compArg own (kn t) x).bind fun a=>(compFields own place ps).map fun aZ=>(off,n,a)::aZ
def leavesFs (lv:TypeId→Option (List LK)):List Field→Nat→Option (List LK)
 | [],_=>some []
 | f::fs,n=>if f.name = "_"∨f.offset ≠ n then none else (lv f.type).bind fun l=>(leavesFs lv fs (n + l.length)).map fun m=>l++m
def leaves:Nat→TypeId→Option (List LK)
 | 0,_=>none
 | d + 1,t=>(under P t).bind fun
  | .int _=>if sizeT P t = some 1 then some [.int] else none
  | .bool=>if sizeT P t = some 1 then some [.bool] else none
  | .string=>if sizeT P t = some 1 then some [.str] else none
  | .struct fs=>if P.stoodInHeld t then none else (leavesFs (leaves d) fs.toList 0).bind fun l=>if sizeT P t = some l.length then some l else none
  | .array len e=>(leaves d e).bind fun l=>if sizeT P e = some l.length∧sizeT P t = some (len * l.length) then some (List.replicate len l).flatten else none
  | _=>none
def keyT(t:TypeId):Option (Bool×List LK):=match under P t with
 | some (.map k _)=>(under P k).bind fun d=>(leaves P 10 k).bind fun ks=>some (aggT d,ks)
 | _=>none
def elemT(t:TypeId):Option TypeId:=match under P t with
 | some (.map _ e)=>some e
 | _=>none
def zeroE(e:TypeId):Option AV:=((P.info? e).bind (·.zero)).bind fun
 | .agg cs=>(cs.toList.mapM (cvt (kn e))).map .agg
 | z=>cvt (kn e) z
def compOpt(own:List Nat):Option Operand→Option (Option SA)
 | none=>some none
 | some y=>(compArg own false y).map some
def compOp(own:List Nat)(o:Oper):Option SOp :=
 let arg:=compArg own
 match o.op with
 | .move x | .assign x=>(arg (kn o.type) x).map .mov
 | .pick c a b=>(arg false c).bind fun c=>(arg false a).bind fun a=>(arg false b).map fun b=>.pick c a b
 | .alloc t=>(zeroT P kn t).map .alloc
 | .box t x=>(arg (kn t) x).map .box
 | .build t ps=>(zeroT P kn t).bind fun z=>(under P t).bind fun
  | .struct fs=>if (fs.toList.mapM fun f=>(P.info? f.type).map fun i=>(f.offset,i.size)).isNone then none else (compFields P kn own (fun i=>(fs[i]?).map fun f=>(f.offset,f.type)) ps.toList).map fun ps=>.build z ps
  | .array _ e=>(sizeT P e).bind fun n=>(compFields P kn own (fun i=>some (i * n,e)) ps.toList).map fun ps=>.build z ps
  | _=>none
 | .buildSlice t n ps=>(under P t).bind fun
  | .slice e=>(sizeT P e).bind fun sz=>(zeroP P kn e).bind fun z=>if z.length ≠ sz∨n * sz > 16777216 then none else (compParts kn own (fun i=>some (i,e)) ps.toList).map fun ps=>if kn (t + 1000000) then .slitA z n ps else .slit z n ps
  | _=>none
 | .load t a=>(arg false a).bind fun a=>(isAggT P t).bind fun g=>if g then (sizeT P t).map fun n=>.loadn n a else some (.load1 a)
 | .store t a x=>if o.dst.isSome then none else (arg false a).bind fun a=>(arg (kn t) x).bind fun x=>(sizeT P t).map fun n=>.store n a x
 | .nilCheck x=>(arg false x).map .nilck
 | .binOp op t x y _=>(under P t).bind fun
  | .bool=>(arg false x).bind fun x=>(arg false y).map fun y=>.binB op x y
  | .slice _=>match op,y with
   | .eql,.const (.slice none 0 0)=>(arg true x).map fun x=>.isnil false x
   | .neq,.const (.slice none 0 0)=>(arg true x).map fun x=>.isnil true x
   | _,_=>none
  | .interface _=>match op,y with
   | .eql,.const .nilIface=>(arg false x).map fun x=>.isnilI false x
   | .neq,.const .nilIface=>(arg false x).map fun x=>.isnilI true x
   | _,_=>none
  | .pointer _=>match op,y with
   | .eql,.const (.pointer none)=>(arg false x).map fun x=>.isnilG 0 false x
   | .neq,.const (.pointer none)=>(arg false x).map fun x=>.isnilG 0 true x
   | _,_=>none
  | .func ..=>match op,y with
   | .eql,.const .nilFunc=>(arg false x).map fun x=>.isnilG 1 false x
   | .neq,.const .nilFunc=>(arg false x).map fun x=>.isnilG 1 true x
   | _,_=>none
  | .map ..=>match op,y with
   | .eql,.const (.map none)=>(arg false x).map fun x=>.isnilG 2 false x
   | .neq,.const (.map none)=>(arg false x).map fun x=>.isnilG 2 true x
   | _,_=>none
  | .struct _=>if P.eqGuardType P.depth t then none else match leaves P 10 t,op with
   | some n,.eql=>(arg false x).bind fun x=>(arg false y).map fun y=>.eqs n false x y
   | some n,.neq=>(arg false x).bind fun x=>(arg false y).map fun y=>.eqs n true x y
   | _,_=>none
  | _=>(arg false x).bind fun x=>(arg false y).map fun y=>.bin op x y
 | .unOp op _ x=>(arg false x).map fun x=>.un op x
 | .convert s d x=>(arg false x).bind fun x=>(under P s).bind fun
  | .int _=>(under P d).bind fun | .int k=>some (.conv k x) | _=>none
  | .slice e=>(under P e).bind fun te=>(under P d).bind fun td=>match te,td with
   | .int .u8,.string=>some (.b2s x)
   | _,_=>none
  | .string=>(under P d).bind fun
   | .slice e=>(under P e).bind fun | .int .u8=>some (.s2b x) | _=>none
   | _=>none
  | _=>none
 | .makeFunc fn a b=>(compArgs kn own a.toList []).bind fun a=>(compArgs kn own b.toList []).map fun b=>.mkfn fn a b
 | .makeMap _ none=>some .mkmap
 | .makeSlice t n m=>(under P t).bind fun
  | .slice e=>(bytesT P e).bind fun b=>(sizeT P e).bind fun sz=>(zeroP P kn e).bind fun z=>if z.length ≠ sz then none else (arg false n).bind fun n=>(arg false m).map fun m=>.mkslice b z n m
  | _=>none
 | .slice t x l h m=>(arg false x).bind fun x=>(compOpt own l).bind fun l=>(compOpt own h).bind fun h=>(compOpt own m).bind fun m=>if m.isSome && h.isNone then none else (under P t).bind fun
  | .slice e=>(sizeT P e).map fun n=>.slice n x l h m
  | .string=>match m with | none=>some (.sliceS x l h) | some _=>none
  | .array len e=>(sizeT P e).bind fun n=>if n = 1∧m.isNone then some (.sliceArr len x l h) else none
  | _=>none
 | .fieldAddr t x i=>(arg false x).bind fun x=>(under P t).bind fun
  | .struct fs=>(fs[i]?).bind fun f=>(sizeT P f.type).bind fun n=>if n = 0 then none else some (.fadr f.offset x)
  | _=>none
 | .indexAddr t x i=>(arg false x).bind fun x=>(arg false i).bind fun i=>(under P t).bind fun
  | .slice e=>(sizeT P e).map fun n=>.idx n x i
  | .array len e=>(sizeT P e).map fun n=>.idxA len n x i
  | _=>none
 | .index t x i=>(arg false x).bind fun x=>(arg false i).bind fun i=>(under P t).bind fun
  | .string=>some (.idxS x i)
  | .array len e=>(isAggT P e).bind fun g=>(sizeT P e).map fun n=>.idxV len g n x i
  | _=>none
 | .lookup t x k ok=>(keyT P t).bind fun g=>(elemT P t).bind fun e=>(zeroE P kn e).bind fun z=>(arg false x).bind fun x=>(arg false k).map fun k=>.mapget g.1 g.2 z ok x k
 | .mapUpdate t m k v=>if o.dst.isSome then none else (keyT P t).bind fun g=>(elemT P t).bind fun e=>(arg false m).bind fun m=>(arg false k).bind fun k=>(arg (kn e) v).map fun v=>.mapset g.1 g.2 m k v
 | .extract x i=>(arg false x).map fun x=>.extract x i
 | .call c=>match c.callee with
  | .value f=>(arg false f).bind fun f=>(compArgs kn own c.args.toList c.argTypes.toList).map fun aZ=>.call f aZ
  | .builtin .len=>match c.args.toList,c.argTypes.toList with
   | [x],t::_=>(arg false x).bind fun x=>(under P t).bind fun
    | .slice _=>some (.len x)
    | .string=>some (.lenS x)
    | .map ..=>some (.lenM x)
    | _=>none
   | _,_=>none
  | .builtin .cap=>match c.args.toList,c.argTypes.toList with
   | [x],t::_=>(arg false x).bind fun x=>(under P t).bind fun
    | .slice _=>some (.capN x)
    | _=>none
   | _,_=>none
  | .builtin .append=>match c.args.toList,c.argTypes.toList with
   | [x,y],[t,t']=>if t ≠ t' then (under P t).bind fun
    | .slice e=>(under P t').bind fun
     | .int _=>(bytesT P e).bind fun b=>(sizeT P e).bind fun n=>(zeroP P kn e).bind fun z=>if b = 0∨n = 0∨z.length ≠ n then none else (arg false x).bind fun x=>(arg false y).map fun y=>.appendZ b z x y
     | _=>none
    | _=>none
    else (arg false x).bind fun x=>(arg false y).bind fun y=>(under P t).bind fun
    | .slice e=>(bytesT P e).bind fun b=>(sizeT P e).bind fun n=>if b = 0∨((P.info? e).bind (·.zero)).map (·.cells.size) ≠ some n then none else some (.append b n x y)
    | _=>none
   | _,_=>none
  | .builtin .copy=>match c.args.toList,c.argTypes.toList with
   | [x,y],t::_=>(arg false x).bind fun x=>(arg false y).bind fun y=>(under P t).bind fun
    | .slice e=>(sizeT P e).map fun n=>.copy n x y
    | _=>none
   | _,_=>none
  | .builtin .max=>match c.args.toList with | [x,y]=>(arg false x).bind fun x=>(arg false y).map fun y=>.maxmin true x y | _=>none
  | .builtin .min=>match c.args.toList with | [x,y]=>(arg false x).bind fun x=>(arg false y).map fun y=>.maxmin false x y | _=>none
  | _=>none
 | _=>none
def compOps(nt:Nat)(vars:List Nat)(ops:Array Oper):List Oper→List Nat→Option (List SO)
 | [],_=>some []
 | o::os,own=>(compOp P kn own o).bind fun op =>
   let g:Option (Option (SA×Bool)):=match o.guard with
    | none=>some none
    | some (j,b)=>((ops[j]?).bind (·.dst)).map fun t=>some (if own.contains t then .t t else .x t,b)
   g.bind fun g =>
   match o.dst with
   | none=>(compOps nt vars ops os own).map fun r=>⟨.no,op,g⟩::r
   | some d=>if d < nt then
     if vars.contains d then (compOps nt vars ops os own).map fun r=>⟨.x d,op,g⟩::r
     else (compOps nt vars ops os (d::own)).map fun r=>⟨.t d,op,g⟩::r
    else none
inductive K0 where | free | read | write | may deriving DecidableEq
def kind0:SOp→K0
 | .mov _ | .pick .. | .build .. | .nilck _ | .bin .. | .binB .. | .isnil .. | .un .. | .conv .. | .mkfn .. | .fadr .. | .idxA .. | .idxS .. | .idxV .. | .sliceS .. | .extract .. | .len _ | .lenS _ | .maxmin ..=>.free
 | .capN _ | .sliceArr .. | .eqs .. | .isnilI .. | .isnilG ..=>.free
 | .load1 _ | .loadn .. | .idx .. | .b2s _ | .mapget .. | .lenM _=>.read
 | .slice _ _ _ _ none=>.read
 | .call .. | .slit .. | .slice _ _ _ _ (some _)=>.may
 | _=>.write
def befs:List Oper→List Nat→List Nat
 | [],acc=>acc
 | o::os,acc=>befs os (acc++[o.after.toList.foldl (fun s e=>if Region.binds .any e then s ||| 2 ^ e.on ||| acc.getD e.on 0 else s) 0])
def waits(B:List Nat)(i j:Nat):Bool:=(B.getD i 0).testBit j
def ordered(B:List Nat)(i j:Nat):Bool:=waits B i j || waits B j i
def SD.key:SD→List Nat
 | .no=>[]
 | .t n=>[n]
 | .x n=>[n]
def soKeys(o:SO):List Nat:=o.dst.key++(opKeys o.op).flatMap SA.key++(match o.guard with | some (a,_)=>a.key | none=>[])
def loneOp(lone:FuncId→Bool):SOp→Bool
 | .call (.f g) _=>lone g
 | .slit ..=>true
 | .slice _ _ _ _ (some _)=>true
 | _=>false
def isCut:SOp→Bool
 | .slice _ _ _ _ (some _)=>true
 | _=>false
def isW(ds:List DO)(j:Nat):Bool:=match ds[j]? with | some d=>d.k.seq | none=>false
def isF(ds:List DO)(j:Nat):Bool:=match ds[j]? with | some d=>d.k == .fresh | none=>false
def isFresh:SOp→Bool
 | .alloc _ | .box _ | .mkslice ..=>true
 | _=>false
def mkDs(sos:List SO)(k:Nat→DK)(lo hi:Nat→Nat):List DO:=sos.zipIdx.map fun p=>⟨p.1,k p.2,lo p.2,hi p.2⟩
def keysB(B:List Nat)(sos:List SO)(i d:Nat):Bool:=d == i || ordered B i d || match sos[i]?,sos[d]? with
 | some so,some so'=>!(so'.dst.key.any fun t=>(soKeys so).contains t)
 | _,_=>true
def kindB(B:List Nat)(ds:List DO)(i:Nat):Bool:=match ds[i]? with
 | none=>true
 | some d =>
  let rd:=kind0 d.o.op == .read && decide (d.lo ≤ ((List.range ds.length).filter fun j=>isW ds j && waits B i j).length) && decide (((List.range ds.length).filter fun j=>isW ds j && !(waits B j i)).length ≤ d.hi)
  match d.k with
  | .free=>kind0 d.o.op == .free
  | .here=>rd && d.lo == d.hi
  | .read=>rd
  | .fresh=>isFresh d.o.op && d.o.guard.isNone
  | _=>true
def drawB(ops:Array Oper)(sos:List SO)(ds:List DO):Bool :=
 let B:=befs ops.toList []
 let r:=List.range sos.length
 (r.all fun i=>r.all fun d=>keysB B sos i d) &&
 (r.all fun i=>r.all fun j=>!decide (j < i) || isF ds i || !(isW ds i && isW ds j) || waits B i j) &&
 (ops.toList.zipIdx.all fun p=>p.1.after.toList.all fun e=>!Region.binds .any e || !isF ds e.on || r.all fun k=>!decide (k < e.on) || !isW ds k || waits B p.2 k) &&
 (ops.toList.zipIdx.all fun p=>p.1.after.toList.all fun e=>!Region.binds .any e || decide (e.on < p.2)) &&
 (r.all fun i=>kindB B ds i)
def compDraw(lone:FuncId→Bool)(ops:Array Oper)(sos:List SO):Option (List DO) :=
 let B:=befs ops.toList []
 let n:=sos.length
 let ks:=sos.map fun o=>kind0 o.op
 let k1:List K0:=sos.zipIdx.map fun (o,i)=>match kind0 o.op with
  | .may=>if !isCut o.op && loneOp lone o.op && (List.range n).any (fun j=>j != i && ks.getD j .free != .free && !ordered B i j) then .may else .write
  | k=>k
 let kinds:List K0:=sos.zipIdx.map fun (o,i)=>if isCut o.op && (List.range n).any (fun j=>j != i && k1.getD j .free == .write && !ordered B i j) then .may else k1.getD i .free
 let fr:List Bool:=sos.zipIdx.map fun (o,i)=>isFresh o.op && o.guard.isNone && (List.range n).any fun j=>j != i && kinds.getD j .free == .write && !ordered B i j
 let ws:=(List.range n).filter fun i=>kinds.getD i .free == .write
 let los:=(List.range n).map fun i=>(ws.filter fun j=>waits B i j).length
 let his:=(List.range n).map fun i=>(ws.filter fun j=>!waits B j i).length
 let ds:=mkDs sos (fun i=>match kinds.getD i .free with
  | .free=>.free
  | .read=>if los.getD i 0 = his.getD i 0 then .here else .read
  | .write=>if fr.getD i false then .fresh else .write
  | .may=>.lone) (fun i=>los.getD i 0) (fun i=>his.getD i 0)
 if drawB ops sos ds then some ds else none
def loneVars(ds:List DO):List Nat:=if ds.any fun d=>d.k == .lone then ds.flatMap fun d=>(opKeys d.o.op).flatMap fun | .x n=>[n] | _=>[] else []
def quietAt(nt:Nat)(vars:List Nat)(ops:Array Oper):Bool:=match ops.toList with
 | [o1,o2]=>match o1.dst,o1.op,o1.guard,o2.dst,o2.op,o2.guard with
  | some t,.makeFunc (.func g) aZ _,none,none,.defer c,none=>match c.callee with
   | .value (.tmp t')=>vars.contains 1000002 && decide (t' = t) && decide (t < nt) && !vars.contains t && aZ.isEmpty && c.args.isEmpty && kn (3000000 + g)
   | _=>false
  | _,_,_,_,_,_=>false
 | _=>false
def comp(lone:FuncId→Bool)(nt:Nat)(vars:List Nat):Code→Option SCode
 | .skip=>some .skip
 | .region _ ops draw=>if !draw && quietAt kn nt vars ops then some .skip else some (((compOps P kn nt vars ops ops.toList []).bind fun sos=>if draw then (compDraw lone ops sos).map fun ds=>match (if lone 1000001 then loneVars ds else []) with | []=>.draw ds | ns=>.still ns (.draw ds) else some (.region sos)).getD .refuse)
 | .seq a b=>(comp lone nt vars a).bind fun a=>(comp lone nt vars b).map fun b=>.seq a b
 | .cond c a b=>(compArg [] false c).bind fun c=>(comp lone nt vars a).bind fun a=>(comp lone nt vars b).map fun b=>.cond c a b
 | .block id b=>(comp lone nt vars b).map fun b=>.block id b
 | .loop b=>(comp lone nt vars b).map .loop
 | .exit id=>some (.exit id)
 | .ret=>some .ret
 | .scope b=>comp lone nt vars b
 | .label _=>some .skip
 | .rangeFunc f ps a b=>if !vars.contains 1000002 && ps.toList.all (fun p=>vars.contains p && decide (p < nt)) then
   (compArg [] false f).bind fun f=>(comp lone nt vars a).bind fun a=>(comp lone nt vars b).map fun b=>.range f ps.toList a b else none
 | _=>some .refuse
def opTmps(o:Oper):List Nat:=o.op.operands.toList.filterMap fun | .tmp t=>some t | _=>none
def exposed:List Oper→List Nat→List Nat
 | [],_=>[]
 | o::os,own=>(opTmps o).filter (!own.contains ·)++exposed os (o.dst.toList++own)
def exposedC:Code→List Nat
 | .region _ ops _=>exposed ops.toList []++(if ops.any (fun o=>match o.op with | .defer _=>true | _=>false) then [1000002] else [])
 | .seq a b=>exposedC a++exposedC b
 | .cond c a b=>(match c with | .tmp t=>[t] | _=>[])++exposedC a++exposedC b
 | .block _ b=>exposedC b
 | .loop b=>exposedC b
 | .scope b=>exposedC b
 | .rangeFunc f ps a b=>(match f with | .tmp t=>[t] | _=>[])++ps.toList++exposedC a++exposedC b
 | _=>[]
def varsOf(fn:Func):List Nat :=
 (List.range (fn.params.size + fn.nfree)++(fn.results.toList.map fun | ResultVar.tmp t=>t | ResultVar.cell t _=>t)++((fn.body.map exposedC).getD [])).eraseDups
end
end Go.Proofs.YtchgldaddcolhaaGreatDoor
