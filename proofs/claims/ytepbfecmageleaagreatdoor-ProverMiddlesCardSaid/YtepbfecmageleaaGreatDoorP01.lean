/- Part of the proof of Rows.ProverMiddlesCardSaid: Ev, EvK. -/
import Derived.Calls
set_option linter.all false
namespace Go.Proofs.YtepbfecmageleaaGreatDoor
open Go
inductive PV where
  | v (x:Value)
  | nsl
  | sl (rows:List (List PV))
  | h (s:Bool) (n:Nat)
  deriving Inhabited
inductive AV where
  | p (x:PV)
  | lit (rows:List (List PV))
  | ar (l v off len:Nat)
  | ptr (r off:Nat)
  | elp (l v i k:Nat)
  | imm (cells:List PV) (off:Nat)
  | fn (f:Fn) (first captured:List AV)
  | agg (cells:List AV)
  | tup (vs:List AV)
  | map (r:Nat)
  | yld (l:Nat)
  | emp
  | csl (r off n:Nat)
  deriving Inhabited
inductive SA where
  | t (n:Nat)
  | x (n:Nat)
  | c (a:AV)
  | f (g:FuncId)
  deriving Inhabited
inductive LK where
  | int | bool | str
  deriving Inhabited,DecidableEq
inductive SOp where
  | mov (x:SA)
  | pick (c a b:SA)
  | alloc (zero:List AV)
  | box (x:SA)
  | build (zero:List AV) (parts:List (Nat×Nat×SA))
  | slit (zero:List PV) (n:Nat) (parts:List (Nat×SA))
  | slitA (zero:List PV) (n:Nat) (parts:List (Nat×SA))
  | load1 (a:SA)
  | loadn (n:Nat) (a:SA)
  | store (n:Nat) (a x:SA)
  | nilck (x:SA)
  | bin (op:BinOp) (x y:SA)
  | binB (op:BinOp) (x y:SA)
  | isnil (neg:Bool) (x:SA)
  | un (op:UnOp) (x:SA)
  | conv (k:IntKind) (x:SA)
  | mkfn (fn:Fn) (first cap:List SA)
  | mkmap
  | mkslice (bytes:Nat) (zero:List PV) (len cap:SA)
  | slice (es:Nat) (x:SA) (lo hi mx:Option SA)
  | sliceS (x:SA) (lo hi:Option SA)
  | fadr (off:Nat) (x:SA)
  | idx (es:Nat) (x i:SA)
  | idxA (len es:Nat) (x i:SA)
  | idxS (x i:SA)
  | idxV (len:Nat) (agg:Bool) (es:Nat) (x i:SA)
  | b2s (x:SA)
  | extract (x:SA) (i:Nat)
  | call (f:SA) (args:List SA)
  | len (x:SA)
  | lenS (x:SA)
  | append (bytes:Nat) (es:Nat) (x y:SA)
  | appendZ (bytes:Nat) (zero:List PV) (x n:SA)
  | copy (es:Nat) (x y:SA)
  | maxmin (mx:Bool) (x y:SA)
  | mapget (g:Bool) (ks:List LK) (z:AV) (ok:Bool) (x k:SA)
  | mapset (g:Bool) (ks:List LK) (x k v:SA)
  | lenM (x:SA)
  | capN (x:SA)
  | sliceArr (len:Nat) (x:SA) (lo hi:Option SA)
  | eqs (ks:List LK) (neg:Bool) (x y:SA)
  | s2b (x:SA)
  | isnilI (neg:Bool) (x:SA)
  | isnilG (k:Nat) (neg:Bool) (x:SA)
  deriving Inhabited
inductive SD where
  | no | t (n:Nat) | x (n:Nat)
  deriving Inhabited
structure SO where
  dst:SD
  op:SOp
  guard:Option (SA×Bool):=none
  deriving Inhabited
inductive DK where
  | free
  | here
  | read
  | write
  | lone
  | fresh
  deriving Inhabited,DecidableEq
def DK.seq:DK→Bool
  | .write=>true
  | .fresh=>true
  | _=>false
structure DO where
  o:SO
  k:DK
  lo:Nat:=0
  hi:Nat:=0
  deriving Inhabited
inductive SCode where
  | skip
  | region (ops:List SO)
  | draw (ops:List DO)
  | seq (a b:SCode)
  | cond (c:SA) (a b:SCode)
  | block (id:Nat) (b:SCode)
  | loop (b:SCode)
  | exit (id:Nat)
  | ret
  | refuse
  | range (f:SA) (ps:List Nat) (a b:SCode)
  | still (ns:List Nat) (c:SCode)
  deriving Inhabited
inductive SExit where
  | normal | exit (id:Nat) | ret
  deriving Inhabited
inductive LS where
  | ready | busy | done (x:SExit) | gone
  deriving Inhabited
inductive Obj where
  | cells (c:List AV)
  | arr (es:Nat) (frz:Option Nat) (ver:Nat) (rows:List (List PV))
  | map (es:List (Value×AV))
  | loop (st:LS) (env:List (Nat×AV)) (ps:List Nat) (a b:SCode)
  deriving Inhabited
abbrev Env:=List (Nat×AV)
structure Fr where
  loc:Env
  env:Env
structure St where
  env:Env
  H:List Obj
def lk:Env→Nat→Option AV
  | [],_=>none
  | (m,v)::e,n=>if m = n then some v else lk e n
def upd:Env→Nat→AV→Env
  | [],n,v=>[(n,v)]
  | (m,u)::e,n,v=>if m = n then (n,v)::e else (m,u)::upd e n v
def ev (e:Fr):SA→Option AV
  | .t n=>lk e.loc n
  | .x n=>lk e.env n
  | .c a=>some a
  | .f g=>some (.fn (.func g) [] [])
def evs (e:Fr):List SA→Option (List AV)
  | []=>some []
  | x::xs=>(ev e x).bind fun v=>(evs e xs).bind fun vs=>some (v::vs)
def seen (fz:Option Nat) (ver v:Nat):Bool :=
  match fz with
  | none=>v == ver
  | some f=>decide (f ≤ v)
def rowsOf (H:List Obj):AV→Option (List (List PV))
  | .p .nsl=>some []
  | .p (.sl rows)=>some rows
  | .lit rows=>some rows
  | .emp=>some []
  | .ar l v off len=>match H[l]? with
    | some (.arr _ fz ver rows)=>if seen fz ver v∧off + len ≤ rows.length then some ((rows.drop off).take len) else none
    | _=>none
  | _=>none
def lenOf:AV→Option Nat
  | .emp=>some 0
  | .csl _ _ n=>some n
  | .p .nsl=>some 0
  | .p (.sl rows)=>some rows.length
  | .lit rows=>some rows.length
  | .ar _ _ _ len=>some len
  | _=>none
def Scalar:Value→Bool
  | .bool _ | .int .. | .float .. | .complex .. | .string _ | .nilFunc | .nilIface=>true
  | .pointer _ | .map _ | .chan none=>true
  | _=>false
mutual
def canon (H:List Obj):AV→Option AV
  | .lit rows=>some (.p (.sl rows))
  | .ar l v off len=>(rowsOf H (.ar l v off len)).map fun r=>.p (.sl r)
  | .agg cs=>(canons H cs).map .agg
  | .tup cs=>(canons H cs).map .tup
  | a=>some a
def canons (H:List Obj):List AV→Option (List AV)
  | []=>some []
  | a::aZ=>(canon H a).bind fun b=>(canons H aZ).map fun bs=>b::bs
end
mutual
def arsA:AV→List Nat
  | .ar l _ _ _=>[l]
  | .agg cs=>arsOf cs
  | .tup cs=>arsOf cs
  | _=>[]
def arsOf:List AV→List Nat
  | []=>[]
  | a::aZ=>arsA a++arsOf aZ
end
def freeze (H:List Obj):List Nat→List Obj
  | []=>H
  | l::ls=>freeze (match H[l]? with
    | some (.arr es none ver rows)=>H.set l (.arr es (some ver) ver rows)
    | _=>H) ls
def toPV (H:List Obj) (a:AV):Option PV :=
  match canon H a with
  | some (.p x)=>some x
  | _=>none
def toPVs (H:List Obj):List AV→Option (List PV)
  | []=>some []
  | a::aZ=>(toPV H a).bind fun b=>(toPVs H aZ).map fun bs=>b::bs
def cellsOf:AV→Option (List AV)
  | .agg cs=>some cs
  | .tup _=>none
  | a=>some [a]
def loadC (H:List Obj) (n:Nat):AV→Option (List AV)
  | .ptr r off=>match H[r]? with
    | some (.cells c)=>if off + n ≤ c.length then some ((c.drop off).take n) else none
    | _=>none
  | .elp l v i k=>match H[l]? with
    | some (.arr _ fz ver rows)=>if seen fz ver v then (rows[i]?).bind fun row=>if k + n ≤ row.length then some (((row.drop k).take n).map .p) else none else none
    | _=>none
  | .imm cs off=>if off + n ≤ cs.length then some (((cs.drop off).take n).map .p) else none
  | _=>none
def splice {α:Type}:List α→Nat→List α→Option (List α)
  | c::cs,n + 1,xs=>(splice cs n xs).map (c::·)
  | cs,0,[]=>some cs
  | _::cs,0,x::xs=>(splice cs 0 xs).map (x::·)
  | [],_ + 1,_=>none
  | [],0,_::_=>none
def storeC (H:List Obj) (a:AV) (xs:List AV):Option (List Obj) :=
  match a with
  | .ptr r off=>match H[r]? with
    | some (.cells c)=>(splice c off xs).map fun c=>H.set r (.cells c)
    | _=>none
  | .elp l v i k=>if (arsOf xs).contains l then none else match H[l]? with
    | some (.arr es none ver rows)=>if v = ver then (rows[i]?).bind fun row=>(toPVs H xs).bind fun ps=>(splice row k ps).map fun row =>
        (freeze H (arsOf xs)).set l (.arr es none ver (rows.set i row)) else none
    | _=>none
  | _=>none
def fill (e:Fr):List AV→List (Nat×Nat×SA)→Option (List AV)
  | z,[]=>some z
  | z,(off,n,x)::ps=>(ev e x).bind fun a=>(cellsOf a).bind fun cs=>if cs.length = n then (splice z off cs).bind fun z=>fill e z ps else none
def fillRows (H:List Obj) (e:Fr) (n:Nat):List (List PV)→List (Nat×SA)→Option (List (List PV))
  | z,[]=>some z
  | z,(i,x)::ps=>(ev e x).bind fun a=>(cellsOf a).bind fun cs=>(toPVs H cs).bind fun r=>if r.length = n then (splice z i [r]).bind fun z=>fillRows H e n z ps else none
def partArs (e:Fr):List (Nat×SA)→List Nat
  | []=>[]
  | (_,x)::ps=>(match ev e x with | some a=>arsOf [a] | none=>[])++partArs e ps
def bits (op:BinOp) (k:IntKind) (x y:Int):Option Value :=
  let a:=BitVec.ofInt k.bits x
  let b:=BitVec.ofInt k.bits y
  match op with
  | .and=>some (.int k (k.wrap (a &&& b).toNat))
  | .or=>some (.int k (k.wrap (a ||| b).toNat))
  | .xor=>some (.int k (k.wrap (a ^^^ b).toNat))
  | .andNot=>some (.int k (k.wrap (a &&& ~~~b).toNat))
  | _=>none
def binInt (op:BinOp) (k:IntKind) (a b:Int):Option Value :=
  match op with
  | .add=>some (.int k (k.wrap (a + b)))
  | .sub=>some (.int k (k.wrap (a - b)))
  | .mul=>some (.int k (k.wrap (a * b)))
  | .quo=>if b = 0 then none else some (.int k (k.wrap (a.tdiv b)))
  | .rem=>if b = 0 then none else some (.int k (a.tmod b))
  | .eql=>some (.bool (a == b))
  | .neq=>some (.bool (a != b))
  | .lss=>some (.bool (a < b))
  | .leq=>some (.bool (a ≤ b))
  | .gtr=>some (.bool (a > b))
  | .geq=>some (.bool (a ≥ b))
  | op=>bits op k a b
def shift (op:BinOp) (k:IntKind) (a b:Int):Option Value :=
  if b < 0 then none else
  match op with
  | .shl=>some (.int k (k.wrap (a * 2 ^ (min b.toNat k.bits))))
  | .shr=>some (.int k (a.fdiv (2 ^ (min b.toNat k.bits))))
  | _=>none
def isNil:AV→Option Bool
  | .p .nsl=>some true
  | .p (.sl (_::_))=>some false
  | .p (.h true _)=>some false
  | .lit (_::_)=>some false
  | .ar _ _ _ (_ + 1)=>some false
  | .emp=>some false
  | _=>none
def binV (op:BinOp):Value→Value→Option Value
  | .int k a,.int j b =>
    match op with
    | .shl=>shift .shl k a b
    | .shr=>shift .shr k a b
    | op=>if k = j then binInt op k a b else none
  | .string a,.string b=>match op with
    | .eql=>some (.bool (a.toList == b.toList))
    | .neq=>some (.bool !(a.toList == b.toList))
    | .add=>if a.size + b.size < 9223372036854775808 then some (.string (a++b)) else none
    | _=>none
  | _,_=>none
def binB (op:BinOp):Value→Value→Option Value
  | .bool a,.bool b=>match op with
    | .eql=>some (.bool (a == b))
    | .neq=>some (.bool !(a == b))
    | _=>none
  | _,_=>none
def un (op:UnOp):Value→Option Value
  | .int k n=>match op with
    | .neg=>some (.int k (k.wrap (0 - n)))
    | .xor=>bits .xor k (if k.signed then -1 else k.max) n
    | _=>none
  | .bool b=>match op with
    | .not=>some (.bool !b)
    | _=>none
  | _=>none
def asInt:AV→Option Int
  | .p (.v (.int _ n))=>some n
  | _=>none
def evInt (e:Fr) (x:SA):Option Int:=(ev e x).bind asInt
def evIntO (e:Fr) (d:Int):Option SA→Option Int
  | none=>some d
  | some x=>evInt e x
def asVal:AV→Option Value
  | .p (.v x)=>some x
  | _=>none
def evVal (e:Fr) (x:SA):Option Value:=(ev e x).bind asVal
def asMap:AV→Option (Option Nat)
  | .map r=>some (some r)
  | .p (.v (.map none))=>some none
  | _=>none
def evMap (e:Fr) (x:SA):Option (Option Nat):=(ev e x).bind asMap
def mapAt (H:List Obj):Option Nat→Option (List (Value×AV))
  | none=>some []
  | some r=>match H[r]? with
    | some (.map es)=>some es
    | _=>none
def bytesOf:List (List PV)→Option (List UInt8)
  | []=>some []
  | [.v (.int .u8 n)]::r=>(bytesOf r).map (UInt8.ofNat n.toNat::·)
  | _=>none
def maxmin (mx:Bool):Value→Value→Option Value
  | .int k a,.int j b=>if k = j then some (.int k (if mx then (if b > a then b else a) else (if b < a then b else a))) else none
  | _,_=>none
def sliceAV (H:List Obj) (es:Nat) (a:AV) (l h:Nat) (m:Bool):Option (AV×List Obj) :=
  match a with
  | .p .nsl=>if l = 0∧h = 0 then some (.p .nsl,H) else none
  | .p (.sl rows)=>if l ≤ h∧h ≤ rows.length∧rows.all (fun r=>r.length == es) then some (if m then .lit ((rows.drop l).take (h - l)) else .p (.sl ((rows.drop l).take (h - l))),H) else none
  | .lit []=>if l = 0∧h = 0 then some (.lit [],H) else none
  | .lit rows=>if l ≤ h∧h ≤ rows.length∧rows.all (fun r=>r.length == es) then some (if m then .lit ((rows.drop l).take (h - l)) else .p (.sl ((rows.drop l).take (h - l))),H) else none
  | .ar r v off len=>match H[r]? with
    | some (.arr es' fz ver rows)=>if es' = es∧l ≤ h∧h ≤ len∧off + len ≤ rows.length then
      (if m then (if seen fz ver v then some (.lit ((rows.drop (off + l)).take (h - l)),freeze H [r]) else none) else some (.ar r v (off + l) (h - l),H)) else none
    | _=>none
  | _=>none
def asStr:AV→Option ByteArray
  | .p (.v (.string s))=>some s
  | _=>none
def evStr (e:Fr) (x:SA):Option ByteArray:=(ev e x).bind asStr
def asBoolA:AV→Option Bool
  | .p (.v (.bool t))=>some t
  | _=>none
def evBool (e:Fr) (x:SA):Option Bool:=(ev e x).bind asBoolA
def nilckV:AV→Option AV
  | .ptr r o=>some (.ptr r o)
  | .elp l v i k=>some (.elp l v i k)
  | .imm c o=>some (.imm c o)
  | .fn (.func f) a b=>some (.fn (.func f) a b)
  | .yld l=>some (.yld l)
  | _=>none
def fadrV (off:Nat):AV→Option AV
  | .ptr r o=>some (.ptr r (o + off))
  | .elp l v i k=>some (.elp l v i (k + off))
  | .imm c o=>some (.imm c (o + off))
  | _=>none
def idxSl (H:List Obj) (es:Nat) (a:AV) (n:Int):Option AV :=
  if 0 ≤ n then
    match a with
    | .ar l v off len=>match H[l]? with
      | some (.arr es' fz ver _)=>if seen fz ver v∧es' = es∧n.toNat < len then some (.elp l v (off + n.toNat) 0) else none
      | _=>none
    | .p (.sl rows)=>(rows[n.toNat]?).bind fun r=>if r.length = es then some (.imm r 0) else none
    | .lit rows=>(rows[n.toNat]?).bind fun r=>if r.length = es then some (.imm r 0) else none
    | .csl r off len=>if es = 1∧n.toNat < len then some (.ptr r (off + n.toNat)) else none
    | _=>none
  else none
def idxArr (len es:Nat) (a:AV) (n:Int):Option AV:=if 0 ≤ n∧n < len then fadrV (n.toNat * es) a else none
def idxStr (s:ByteArray) (n:Int):Option AV:=if 0 ≤ n then (s[n.toNat]?).map fun b=>.p (.v (.int .u8 b.toNat)) else none
def idxAgg (len:Nat) (g:Bool) (es:Nat) (a:AV) (n:Int):Option AV :=
  match a with
  | .agg cs=>if 0 ≤ n∧n < len∧n.toNat * es + es ≤ cs.length then
      (if g then some (.agg ((cs.drop (n.toNat * es)).take es)) else if es = 1 then cs[n.toNat * es]? else none) else none
  | _=>none
def extractV (i:Nat):AV→Option AV
  | .tup vs=>vs[i]?
  | _=>none
def sliceB (H:List Obj) (es:Nat) (a:AV) (l h:Int) (m:Option Int):Option (AV×List Obj) :=
  if 0 ≤ l∧0 ≤ h then
    match m with
    | none=>sliceAV H es a l.toNat h.toNat false
    | some m=>if m = h then sliceAV H es a l.toNat h.toNat true else none
  else none
def evIntOO (e:Fr):Option SA→Option (Option Int)
  | none=>some none
  | some x=>(evInt e x).map some
def mkSlice (H:List Obj) (bytes:Nat) (zero:List PV) (n m:Int):Option (AV×List Obj) :=
  if 0 ≤ n∧n ≤ m∧bytes * m ≤ 281474976710656∧m ≤ 9223372036854775807 then some (.ar H.length 0 0 n.toNat,H++[.arr zero.length none 0 (List.replicate n.toNat zero)]) else none
def appendV (H:List Obj) (bytes es:Nat) (a b:AV):Option (AV×List Obj) :=
  (rowsOf H b).bind fun ys=>if ys.all (fun r=>r.length == es) then
    match a with
    | .p .nsl=>if ys.isEmpty then some (.p .nsl,H) else if ys.length * bytes ≤ 140737488355328 then some (.ar H.length 0 0 ys.length,H++[.arr es none 0 ys]) else none
    | .lit rows=>if ys.isEmpty then some (.lit rows,H) else if (rows.length + ys.length) * bytes ≤ 140737488355328∧rows.all (fun r=>r.length == es) then some (.ar H.length 0 0 (rows.length + ys.length),H++[.arr es none 0 (rows++ys)]) else none
    | .ar l v 0 len=>match H[l]? with
      | some (.arr es' fz ver rows)=>if v = ver∧rows.length = len∧es' = es∧(len + ys.length) * bytes ≤ 140737488355328 then some (.ar l (ver + 1) 0 (len + ys.length),H.set l (.arr es fz (ver + 1) (rows++ys)))
        else if v = ver∧fz = none∧es' = es∧len + ys.length ≤ rows.length∧(len + ys.length) * bytes ≤ 140737488355328 then some (.ar l ver 0 (len + ys.length),H.set l (.arr es none ver (rows.take len++ys++rows.drop (len + ys.length)))) else none
      | _=>none
    | _=>none
  else none
def emptyNow:AV→Bool
  | .p .nsl=>true
  | .lit []=>true
  | _=>false
def appendZV (H:List Obj) (bytes:Nat) (zero:List PV) (a:AV) (n:Int):Option (AV×List Obj) :=
  if emptyNow a∧0 < n∧n.toNat * bytes ≤ 140737488355328 then some (.ar H.length 0 0 n.toNat,H++[.arr zero.length none 0 (List.replicate n.toNat zero)]) else
  match a with
  | .ar l v 0 len=>match H[l]? with
    | some (.arr es fz ver rows)=>if v = ver∧rows.length = len∧es = zero.length∧0 < n∧(len + n.toNat) * bytes ≤ 140737488355328 then
        some (.ar l (ver + 1) 0 (len + n.toNat),H.set l (.arr es fz (ver + 1) (rows++List.replicate n.toNat zero))) else none
    | _=>none
  | _=>none
def heads:List (List PV)→Option (List PV)
  | []=>some []
  | [x]::r=>(heads r).map (x::·)
  | _=>none
def copyV (H:List Obj) (es:Nat) (a b:AV):Option (AV×List Obj) :=
  (rowsOf H b).bind fun ys=>(lenOf a).bind fun n =>
  if min n ys.length = 0 then some (.p (.v (.int .i64 0)),H) else
  match a with
  | .ar l v off len=>match H[l]? with
    | some (.arr es' none ver rows)=>if es' = es∧v = ver∧off + len ≤ rows.length∧ys.all (fun r=>r.length == es) then
        some (.p (.v (.int .i64 (min len ys.length:Nat))),H.set l (.arr es none ver (rows.take off++ys.take len++rows.drop (off + min len ys.length)))) else none
    | _=>none
  | .csl r off len=>match H[r]? with
    | some (.cells c)=>if es = 1 then (heads ys).bind fun xs=>(splice c off ((xs.take len).map .p)).map fun c=>(.p (.v (.int .i64 (min len ys.length:Nat))),H.set r (.cells c)) else none
    | _=>none
  | _=>none
def capNil:AV→Option Nat
  | .p .nsl=>some 0
  | .lit rows=>some rows.length
  | _=>none
def sliceArrV (len:Nat) (a:AV) (l h:Int):Option AV :=
  match a with
  | .ptr r off=>if 0 ≤ l∧l < len∧l ≤ h∧h ≤ len then some (.csl r (off + l.toNat) (h.toNat - l.toNat)) else none
  | _=>none
def cellVals:List AV→Option (List Value)
  | []=>some []
  | .p (.v x)::aZ=>(cellVals aZ).map (x::·)
  | _=>none
def aggVals:AV→Option (List Value)
  | .agg cs=>cellVals cs
  | _=>none
def sameCells:List LK→List Value→List Value→Option Bool
  | [],_,_=>some true
  | .int::ks,.int k a::xs,.int j b::ys=>if k = j then (if a == b then sameCells ks xs ys else some false) else none
  | .bool::ks,.bool a::xs,.bool b::ys=>if a == b then sameCells ks xs ys else some false
  | .str::ks,.string a::xs,.string b::ys=>if a.toList == b.toList then sameCells ks xs ys else some false
  | _,_,_=>none
def asKey:AV→Option Value
  | .p (.v x)=>some x
  | .agg cs=>(cellVals cs).map fun l=>.agg l.toArray
  | _=>none
def evKey (e:Fr) (x:SA):Option Value:=(ev e x).bind asKey
def keyCells:Value→List Value
  | .agg a=>a.toList
  | v=>[v]
def isAggV:Value→Bool
  | .agg _=>true
  | _=>false
def sameKey (g:Bool) (ks:List LK) (kc:List Value) (j:Value):Option Bool:=if isAggV j = g then sameCells ks kc (keyCells j) else none
def mapFind (g:Bool) (ks:List LK) (kc:List Value):List (Value×AV)→Option (Option AV)
  | []=>some none
  | (j,v)::es=>(sameKey g ks kc j).bind fun t=>if t then some (some v) else mapFind g ks kc es
def mapSet (g:Bool) (ks:List LK) (k:Value) (v:AV):List (Value×AV)→Option (List (Value×AV))
  | []=>some [(k,v)]
  | (j,u)::es=>(sameKey g ks (keyCells k) j).bind fun t=>if t then (if (keyCells j).length = ks.length then some ((k,v)::es) else none) else (mapSet g ks k v es).map ((j,u)::·)
def keyOk (g:Bool) (ks:List LK) (k:Value):Bool:=isAggV k == g && (keyCells k).length == ks.length
def strRows (s:ByteArray):List (List PV):=s.data.toList.map fun b=>[.v (.int .u8 b.toNat)]
def isNilI:Value→Option Bool
  | .nilIface=>some true
  | _=>none
def isNilG:Nat→AV→Option Bool
  | 0,.p (.v (.pointer none))=>some true
  | 0,.ptr ..=>some false
  | 0,.elp ..=>some false
  | 0,.imm ..=>some false
  | 1,.p (.v .nilFunc)=>some true
  | 1,.fn (.func _) _ _=>some false
  | 2,.p (.v (.map none))=>some true
  | 2,.map _=>some false
  | _,_=>none
def load1V (H:List Obj) (a:AV):Option AV :=
  match loadC H 1 a with
  | some [c]=>some c
  | _=>none
def evOp (e:Fr) (H:List Obj):SOp→Option (AV×List Obj)
  | .mov x=>(ev e x).map (·,H)
  | .pick c a b=>(evBool e c).bind fun t=>(if t then ev e a else ev e b).map (·,H)
  | .alloc zero=>some (.ptr H.length 0,H++[.cells zero])
  | .box x=>(ev e x).bind fun a=>(cellsOf a).map fun cs=>(.ptr H.length 0,H++[.cells cs])
  | .build zero ps=>(fill e zero ps).map fun cs=>(.agg cs,H)
  | .slit zero n ps=>(fillRows H e zero.length (List.replicate n zero) ps).map fun rows=>(.lit rows,freeze H (partArs e ps))
  | .slitA zero n ps=>(fillRows H e zero.length (List.replicate n zero) ps).map fun rows=>(.ar (freeze H (partArs e ps)).length 0 0 rows.length,freeze H (partArs e ps)++[.arr zero.length none 0 rows])
  | .load1 a=>(ev e a).bind fun p=>(load1V H p).map (·,H)
  | .loadn n a=>(ev e a).bind fun p=>(loadC H n p).map fun cs=>(.agg cs,H)
  | .store n a x=>(ev e a).bind fun p=>(ev e x).bind fun v=>(cellsOf v).bind fun cs=>if cs.length = n then (storeC H p cs).map fun H=>(.p .nsl,H) else none
  | .nilck x=>(ev e x).bind fun a=>(nilckV a).map (·,H)
  | .bin op x y=>(evVal e x).bind fun a=>(evVal e y).bind fun b=>(binV op a b).map fun r=>(.p (.v r),H)
  | .binB op x y=>(evVal e x).bind fun a=>(evVal e y).bind fun b=>(binB op a b).map fun r=>(.p (.v r),H)
  | .isnil neg x=>(ev e x).bind fun a=>(isNil a).map fun t=>(.p (.v (.bool (if neg then !t else t))),H)
  | .un op x=>(evVal e x).bind fun a=>(un op a).map fun r=>(.p (.v r),H)
  | .conv k x=>(evInt e x).map fun n=>(.p (.v (.int k (k.wrap n))),H)
  | .mkfn fn first cap=>(evs e first).bind fun a=>(evs e cap).map fun b=>(.fn fn a b,H)
  | .mkmap=>some (.map H.length,H++[.map []])
  | .mkslice bytes zero len cap=>(evInt e len).bind fun n=>(evInt e cap).bind fun m=>mkSlice H bytes zero n m
  | .slice es x lo hi mx=>(ev e x).bind fun a=>(lenOf a).bind fun n=>(evIntO e 0 lo).bind fun l=>(evIntO e n hi).bind fun h=>(evIntOO e mx).bind fun m=>sliceB H es a l h m
  | .sliceS x lo hi=>(evStr e x).bind fun s=>(evIntO e 0 lo).bind fun l=>(evIntO e s.size hi).bind fun h =>
      if 0 ≤ l∧l ≤ h∧h ≤ s.size then some (.p (.v (.string (s.extract l.toNat h.toNat))),H) else none
  | .fadr off x=>(ev e x).bind fun a=>(fadrV off a).map (·,H)
  | .idx es x i=>(ev e x).bind fun a=>(evInt e i).bind fun n=>(idxSl H es a n).map (·,H)
  | .idxA len es x i=>(ev e x).bind fun a=>(evInt e i).bind fun n=>(idxArr len es a n).map (·,H)
  | .idxS x i=>(evStr e x).bind fun s=>(evInt e i).bind fun n=>(idxStr s n).map (·,H)
  | .idxV len g es x i=>(ev e x).bind fun a=>(evInt e i).bind fun n=>(idxAgg len g es a n).map (·,H)
  | .b2s x=>(ev e x).bind fun a=>(rowsOf H a).bind fun rows=>(bytesOf rows).map fun l=>(.p (.v (.string ⟨l.toArray⟩)),H)
  | .extract x i=>(ev e x).bind fun a=>(extractV i a).map (·,H)
  | .len x=>(ev e x).bind fun a=>(lenOf a).map fun (n:Nat)=>(.p (.v (.int .i64 (n:Int))),H)
  | .lenS x=>(evStr e x).map fun s=>(.p (.v (.int .i64 s.size)),H)
  | .append bytes es x y=>(ev e x).bind fun a=>(ev e y).bind fun b=>appendV H bytes es a b
  | .copy es x y=>(ev e x).bind fun a=>(ev e y).bind fun b=>copyV H es a b
  | .maxmin mx x y=>(evVal e x).bind fun a=>(evVal e y).bind fun b=>(maxmin mx a b).map fun r=>(.p (.v r),H)
  | .mapget g ks z ok x k=>(evMap e x).bind fun r=>(evKey e k).bind fun k=>(mapAt H r).bind fun es=>if keyOk g ks k then (mapFind g ks (keyCells k) es).map fun v =>
      (if ok then .tup [v.getD z,.p (.v (.bool v.isSome))] else v.getD z,H) else none
  | .mapset g ks x k v=>(evMap e x).bind fun r=>(evKey e k).bind fun k=>(ev e v).bind fun v=>r.bind fun r=>(mapAt H (some r)).bind fun es=>if keyOk g ks k then (mapSet g ks k v es).map fun es=>(.p .nsl,H.set r (.map es)) else none
  | .lenM x=>(evMap e x).bind fun r=>(mapAt H r).map fun es=>(.p (.v (.int .i64 (es.length:Int))),H)
  | .appendZ b z x n=>(ev e x).bind fun a=>(evInt e n).bind fun n=>appendZV H b z a n
  | .capN x=>(ev e x).bind fun a=>(capNil a).map fun (n:Nat)=>(.p (.v (.int .i64 (n:Int))),H)
  | .sliceArr len x lo hi=>(ev e x).bind fun a=>(evIntO e 0 lo).bind fun l=>(evIntO e len hi).bind fun h=>(sliceArrV len a l h).map (·,H)
  | .eqs ks neg x y=>(ev e x).bind fun a=>(ev e y).bind fun b=>(aggVals a).bind fun l=>(aggVals b).bind fun m=>if l.length = ks.length∧m.length = ks.length then (sameCells ks l m).map fun t=>(.p (.v (.bool (if neg then !t else t))),H) else none
  | .s2b x=>(evStr e x).bind fun s=>if s.size < 9223372036854775808 then some (.p (.sl (strRows s)),H) else none
  | .isnilI neg x=>(evVal e x).bind fun v=>(isNilI v).map fun t=>(.p (.v (.bool (if neg then !t else t))),H)
  | .isnilG k neg x=>(ev e x).bind fun a=>(isNilG k a).map fun t=>(.p (.v (.bool (if neg then !t else t))),H)
  | .call _ _=>none
mutual
def refs:AV→List Nat
  | .ar l _ _ _=>[l]
  | .ptr r _=>[r]
  | .elp l _ _ _=>[l]
  | .map r=>[r]
  | .yld l=>[l]
  | .csl r _ _=>[r]
  | .fn _ a b=>refsL a++refsL b
  | .agg cs=>refsL cs
  | .tup cs=>refsL cs
  | _=>[]
def refsL:List AV→List Nat
  | []=>[]
  | a::aZ=>refs a++refsL aZ
end
def objRefs:Obj→List Nat
  | .cells c=>refsL c
  | .map es=>refsL (es.map (·.2))
  | .loop _ env _ _ _=>refsL (env.map (·.2))
  | _=>[]
mutual
def ren (f:Nat→Nat):AV→AV
  | .ar l v o n=>.ar (f l) v o n
  | .ptr r o=>.ptr (f r) o
  | .elp l v i k=>.elp (f l) v i k
  | .map r=>.map (f r)
  | .yld l=>.yld (f l)
  | .csl r o n=>.csl (f r) o n
  | .fn g a b=>.fn g (renL f a) (renL f b)
  | .agg cs=>.agg (renL f cs)
  | .tup cs=>.tup (renL f cs)
  | a=>a
def renL (f:Nat→Nat):List AV→List AV
  | []=>[]
  | a::aZ=>ren f a::renL f aZ
end
def renE (f:Nat→Nat) (env:List (Nat×AV)):List (Nat×AV):=env.map fun p=>(p.1,ren f p.2)
def renO (f:Nat→Nat):Obj→Obj
  | .cells c=>.cells (renL f c)
  | .map es=>.map (es.map fun p=>(p.1,ren f p.2))
  | .loop st env ps a b=>.loop st (renE f env) ps a b
  | o=>o
def reach (H:List Obj):Nat→List Nat→List Nat→List Nat
  | 0,_,acc=>acc
  | _ + 1,[],acc=>acc
  | n + 1,r::todo,acc=>if acc.contains r then reach H n todo acc else
      reach H n (((H[r]?).map objRefs).getD []++todo) (acc++[r])
def within (ks:List Nat) (rs:List Nat):Bool:=rs.all ks.contains
def pickObjs (H:List Obj):List Nat→Option (List Obj)
  | []=>some []
  | r::rs=>(H[r]?).bind fun o=>(pickObjs H rs).map fun os=>o::os
def putBack (H:List Obj):List Nat→List Obj→List Obj
  | r::rs,o::os=>putBack (H.set r o) rs os
  | _,_=>H
def SA.key:SA→List Nat
  | .t n=>[n]
  | .x n=>[n]
  | _=>[]
def opKeys:SOp→List SA
  | .mov x | .box x | .load1 x | .loadn _ x | .nilck x | .isnil _ x | .un _ x | .conv _ x | .fadr _ x | .b2s x | .extract x _ | .len x | .lenS x | .capN x | .s2b x | .isnilI _ x | .lenM x | .isnilG _ _ x=>[x]
  | .pick a b c=>[a,b,c]
  | .build _ ps=>ps.map (·.2.2)
  | .slit _ _ ps | .slitA _ _ ps=>ps.map (·.2)
  | .store _ a x | .bin _ a x | .binB _ a x | .mkslice _ _ a x | .idx _ a x | .idxA _ _ a x | .idxS a x | .idxV _ _ _ a x | .append _ _ a x | .appendZ _ _ a x | .copy _ a x | .maxmin _ a x | .mapget _ _ _ _ a x=>[a,x]
  | .mkfn _ a b=>a++b
  | .slice _ x l h m=>x::(l.toList++h.toList++m.toList)
  | .sliceS x l h=>x::(l.toList++h.toList)
  | .sliceArr _ x l h=>x::(l.toList++h.toList)
  | .eqs _ _ a x=>[a,x]
  | .call f aZ=>f::aZ
  | .mapset _ _ a b c=>[a,b,c]
  | .alloc _ | .mkmap=>[]
def noRefs (e:Fr) (op:SOp):Bool:=(opKeys op).all fun x=>match ev e x with
  | some a=>(refs a).isEmpty
  | none=>true
structure SFunc where
  body:SCode
  results:List SOp
  raw:List Nat:=[]
  own:Bool:=false
  arity:Nat:=0
  deriving Inhabited
def begin0:Nat→List AV→Env
  | _,[]=>[]
  | n,a::aZ=>(n,a)::begin0 (n + 1) aZ
def isCall:SOp→Option (SA×List SA)
  | .call f args=>some (f,args)
  | _=>none
def wanted (o:SO) (e:Fr):Option Bool :=
  match o.guard with
  | none=>some true
  | some (a,b)=>match ev e a with
    | some (.p (.v (.bool t)))=>some (t == b)
    | some (.tup [])=>some false
    | _=>none
def dstPut (d:SD) (e:Fr) (v:AV):Fr :=
  match d with
  | .no=>e
  | .t n=>⟨(n,v)::e.loc,e.env⟩
  | .x n=>⟨e.loc,upd e.env n v⟩
def dstDrop (d:SD) (e:Fr):Fr:=dstPut d e (.tup [])
def passArgs (H:List Obj) (raw:List Nat):Nat→List AV→Option (List AV)
  | _,[]=>some []
  | n,a::aZ=>(if raw.contains n then some a else canon H a).bind fun b=>(passArgs H raw (n + 1) aZ).map fun bs=>b::bs
def passFrz (raw:List Nat):Nat→List AV→List Nat
  | _,[]=>[]
  | n,a::aZ=>(if raw.contains n then [] else arsOf [a])++passFrz raw (n + 1) aZ
def flat:AV→Bool
  | .p (.v _)=>true
  | .p .nsl=>true
  | .tup vs=>vs.all fun | .p (.v _)=>true | .p .nsl=>true | _=>false
  | _=>false
def nodupB:List Nat→Bool
  | []=>true
  | r::rs=>!rs.contains r && nodupB rs
def backTo (n:Nat) (sub news:List Nat) (i:Nat):Nat:=if i < sub.length then sub.getD i 0 else n + news.idxOf i
def comeBack (H H1:List Obj) (sub:List Nat) (own:Bool) (r:AV) (H2:List Obj):Option (AV×List Obj) :=
  (if own then some r else canon H2 r).bind fun r' =>
  if flat r' && sub.isEmpty then some (r',H) else
  let H3:=if own then H2 else freeze H2 (arsOf [r])
  let roots:=refs r'++((H3.take sub.length).map objRefs).flatten
  let seen:=reach H3 (4 * H3.length * H3.length + 4) roots []
  let news:=seen.filter (sub.length ≤ ·)
  if within seen roots && seen.all (fun i=>within seen (((H3[i]?).map objRefs).getD [])) && nodupB news then
    (pickObjs H3 news).map fun os =>
      (ren (backTo H1.length sub news) r',putBack H1 sub ((H3.take sub.length).map (renO (backTo H1.length sub news)))++os.map (renO (backTo H1.length sub news)))
  else none
def loneV (u:AV×List Obj):Option (AV×List Obj):=if u.2.isEmpty then some u else comeBack [] [] [] false u.1 u.2
def stable (op:SOp) (e:Fr) (x:AV):List (List Obj)→Prop
  | []=>True
  | H::Hs=>evOp e H op = some (x,H)∧stable op e x Hs
def stables:List DO→List (Fr×Option AV)→List (List Obj)→Prop
  | o::os,(e,some x)::tr,Hs=>(match o.k with
    | .read=>stable o.o.op e x ((Hs.drop o.lo).take (o.hi + 1 - o.lo))
    | _=>True)∧stables os tr Hs
  | _::os,(_,none)::tr,Hs=>stables os tr Hs
  | _,_,_=>True
open Classical in
noncomputable def checked {α:Type} (p:Prop) (x:α):Option α:=if p then some x else none
structure Tr where
  recs:List (Fr×Option AV)
  stores:List (List Obj)
  s:St
def tupOf:List AV→AV
  | [r]=>r
  | rs=>.tup rs
def evRes (e:Fr) (H:List Obj):List SOp→Option (List AV)
  | []=>some []
  | o::os=>(evOp e H o).bind fun r=>(evRes e H os).map fun rs=>r.1::rs
def isAmb:List AV→Bool
  | [.p (.sl [])]=>true
  | _=>false
def puts:Env→List Nat→List AV→Env
  | e,p::ps,a::aZ=>puts (upd e p a) ps aZ
  | e,_,_=>e
def stillV (H:List Obj):AV→AV
  | .ar l v off len=>match H[l]? with
    | some (.arr _ (some f) _ rows)=>if f ≤ v∧off + len ≤ rows.length then .p (.sl ((rows.drop off).take len)) else .ar l v off len
    | _=>.ar l v off len
  | a=>a
def stillE (ns:List Nat) (H:List Obj) (env:Env):Env:=env.map fun p=>(p.1,if ns.contains p.1 then stillV H p.2 else p.2)
def stillArs (ns:List Nat) (env:Env):List Nat:=env.flatMap fun p=>match p.2 with | .ar l _ _ _=>if ns.contains p.1 then [l] else [] | _=>[]
def stillS (ns:List Nat) (s:St):St:=⟨stillE ns (freeze s.H (stillArs ns s.env)) s.env,freeze s.H (stillArs ns s.env)⟩
def Obj.over:Obj:=.loop .gone [] [] .skip .skip
variable (X:FuncId→List AV→List Obj→Option (AV×List Obj)) (Γ:FuncId→Option SFunc)
noncomputable section
abbrev EX:=SCode→St→Option (SExit×St)
section
variable (E:EX)
def callE (f:FuncId) (args:List AV) (H:List Obj):Option (AV×List Obj) :=
  match X f args H with
  | some r=>some r
  | none=>match Γ f with
  | none=>none
  | some fn=>if args.length ≠ fn.arity then none else do
    let r ← E fn.body ⟨begin0 0 args,H⟩
    match r.1 with
    | .exit _=>none
    | _=>(evRes ⟨[],r.2.env⟩ r.2.H fn.results).map fun rs=>(tupOf rs,r.2.H)
def callAtE (g:FuncId) (args:List AV) (H:List Obj):Option (AV×List Obj) :=
  match Γ g with
  | none=>none
  | some fn=>match passArgs H fn.raw 0 args with
    | none=>none
    | some args' =>
      let H1:=freeze H (passFrz fn.raw 0 args)
      let sub:=reach H1 (4 * H1.length * H1.length + 4) (refsL args') []
      match pickObjs H1 sub with
      | none=>none
      | some os =>
        if within sub (refsL args') && os.all (fun o=>within sub (objRefs o)) && nodupB sub then do
          let r ← if fn.raw.contains 1000 && isAmb args' then do
              let r1 ← callE X Γ E g [.p .nsl] []
              let r2 ← callE X Γ E g [.emp] []
              checked (r1 = r2) r1
            else callE X Γ E g (renL sub.idxOf args') (os.map (renO sub.idxOf))
          comeBack H H1 sub fn.own r.1 r.2
        else none
def yieldAtE (l:Nat) (args:List AV) (H:List Obj):Option (AV×List Obj) :=
  match H[l]? with
  | some (.loop .ready env ps a b)=>if args.length ≠ ps.length then none else do
    let r ← E a ⟨puts env ps args,H⟩
    match r.1,r.2.H[l]? with
    | .normal,some (.loop .ready env1 ps1 a1 b1)=>do
      let q ← E b ⟨r.2.env,r.2.H.set l (.loop .busy env1 ps1 a1 b1)⟩
      match q.2.H[l]? with
      | some (.loop .busy env2 ps2 a2 b2)=>match q.1 with
        | .normal=>some (.p (.v (.bool true)),q.2.H.set l (.loop .ready env2 ps2 a2 b2))
        | x=>some (.p (.v (.bool false)),q.2.H.set l (.loop (.done x) env2 ps2 a2 b2))
      | _=>none
    | _,_=>none
  | _=>none
def evOneE (op:SOp) (e:Fr) (H:List Obj):Option (AV×List Obj) :=
  match isCall op with
  | some (f,args)=>match ev e f,evs e args with
    | some (.fn (.func g) first cap),some args=>callAtE X Γ E g (first++args++cap) H
    | some (.yld l),some args=>yieldAtE E l args H
    | _,_=>none
  | none=>evOp e H op
def evOpsE:List SO→Fr→List Obj→Option St
  | [],e,H=>some ⟨e.env,H⟩
  | o::os,e,H=>match wanted o e with
    | none=>none
    | some false=>evOpsE os (dstDrop o.dst e) H
    | some true=>do
      let r ← evOneE X Γ E o.op e H
      evOpsE os (dstPut o.dst e r.1) r.2
def evDrawE:List DO→Fr→List Obj→Option Tr
  | [],e,H=>some ⟨[],[],⟨e.env,H⟩⟩
  | o::os,e,H=>match wanted o.o e with
    | none=>none
    | some false=>do
      let r ← evDrawE os (dstDrop o.o.dst e) H
      some ⟨(e,none)::r.recs,if o.k.seq then H::r.stores else r.stores,r.s⟩
    | some true=>match o.k with
      | .write=>do
        let v ← evOneE X Γ E o.o.op e H
        let r ← evDrawE os (dstPut o.o.dst e v.1) v.2
        some ⟨(e,some v.1)::r.recs,H::r.stores,r.s⟩
      | .lone=>do
        let u ← evOneE X Γ E o.o.op e []
        let v ← loneV u
        if v.2.isEmpty && noRefs e o.o.op then do
          let r ← evDrawE os (dstPut o.o.dst e v.1) H
          some ⟨(e,some v.1)::r.recs,r.stores,r.s⟩
        else none
      | .fresh=>do
        let v ← evOp e H o.o.op
        let r ← evDrawE os (dstPut o.o.dst e v.1) v.2
        some ⟨(e,some v.1)::r.recs,H::r.stores,r.s⟩
      | _=>do
        let v ← evOp e H o.o.op
        let r ← evDrawE os (dstPut o.o.dst e v.1) H
        some ⟨(e,some v.1)::r.recs,r.stores,r.s⟩
def execE (c:SCode) (s:St):Option (SExit×St) :=
  match c with
  | .skip=>some (.normal,s)
  | .region ops=>do let s ← evOpsE X Γ E ops ⟨[],s.env⟩ s.H; some (.normal,s)
  | .draw ops=>do let r ← evDrawE X Γ E ops ⟨[],s.env⟩ s.H; checked (stables ops r.recs (r.stores++[r.s.H])) (.normal,r.s)
  | .seq a b=>do
    let r ← E a s
    match r.1 with
    | .normal=>E b r.2
    | x=>some (x,r.2)
  | .cond c a b=>match ev ⟨[],s.env⟩ c with
    | some (.p (.v (.bool t)))=>if t then E a s else E b s
    | _=>none
  | .block id b=>do
    let r ← E b s
    match r.1 with
    | .exit i=>if i = id then some (.normal,r.2) else some (.exit i,r.2)
    | x=>some (x,r.2)
  | .loop b=>do
    let r ← E b s
    match r.1 with
    | .normal=>E (.loop b) r.2
    | x=>some (x,r.2)
  | .exit id=>some (.exit id,s)
  | .ret=>some (.ret,s)
  | .refuse=>none
  | .range f ps a b=>match ev ⟨[],s.env⟩ f with
    | some (.fn (.func g) first cap)=>do
      let r ← callAtE X Γ E g (first++[.yld s.H.length]++cap) (s.H++[.loop .ready s.env ps a b])
      match r.2[s.H.length]? with
      | some (.loop .ready _ _ _ _)=>some (.normal,⟨s.env,r.2.set s.H.length .over⟩)
      | some (.loop (.done x) _ _ _ _)=>some (x,⟨s.env,r.2.set s.H.length .over⟩)
      | _=>none
    | _=>none
  | .still ns c=>E c (stillS ns s)
end
def execN:Nat→EX
  | 0=>fun _ _=>none
  | n + 1=>execE X Γ (execN n)
open Classical in
def exec (c:SCode) (s:St):Option (SExit×St):=if h:∃ r n,execN X Γ n c s = some r then some (Classical.choose h) else none
def hide {α:Type} (x:α):α:=Classical.choose (⟨x,rfl⟩:∃ y,y = x)
theorem hide_eq {α:Type} (x:α):hide x = x:=Classical.choose_spec (⟨x,rfl⟩:∃ y,y = x)
def call:FuncId→List AV→List Obj→Option (AV×List Obj):=hide (callE X Γ (exec X Γ))
def callAt:FuncId→List AV→List Obj→Option (AV×List Obj):=hide (callAtE X Γ (exec X Γ))
def yieldAt:Nat→List AV→List Obj→Option (AV×List Obj):=hide (yieldAtE (exec X Γ))
def evOne:SOp→Fr→List Obj→Option (AV×List Obj):=hide (evOneE X Γ (exec X Γ))
def evOps:List SO→Fr→List Obj→Option St:=hide (evOpsE X Γ (exec X Γ))
def evDraw:List DO→Fr→List Obj→Option Tr:=hide (evDrawE X Γ (exec X Γ))
theorem call_h:call X Γ = callE X Γ (exec X Γ):=hide_eq _
theorem callAt_h:callAt X Γ = callAtE X Γ (exec X Γ):=hide_eq _
theorem yieldAt_h:yieldAt X Γ = yieldAtE (exec X Γ):=hide_eq _
theorem evOne_h:evOne X Γ = evOneE X Γ (exec X Γ):=hide_eq _
theorem evOps_h:evOps X Γ = evOpsE X Γ (exec X Γ):=hide_eq _
theorem evDraw_h:evDraw X Γ = evDrawE X Γ (exec X Γ):=hide_eq _
structure Lim {α:Type} (F:Nat→Option α) (L:Option α):Prop where
  up:∀ n r,F n = some r→F (n + 1) = some r
  le:∀ n r,F n = some r→L = some r
  ex:∀ r,L = some r→∃ n,F n = some r
section
variable {α β:Type}
theorem Lim.mono {F:Nat→Option α} {L:Option α} (h:Lim F L) {n:Nat} {r:α} (hr:F n = some r):∀ k,F (n + k) = some r
  | 0=>hr
  | k + 1=>h.up _ _ (h.mono hr k)
theorem Lim.const (x:Option α):Lim (fun _=>x) x:=⟨fun _ _ h=>h,fun _ _ h=>h,fun _ h=>⟨0,h⟩⟩
theorem Lim.bind {F:Nat→Option α} {L:Option α} {G:Nat→α→Option β} {M:α→Option β} (hF:Lim F L) (hG:∀ x,Lim (fun n=>G n x) (M x)):Lim (fun n=>F n >>= G n) (L >>= M):=by
  refine ⟨fun n r h=>?_,fun n r h=>?_,fun r h=>?_⟩
  · obtain ⟨x,h1,h2⟩:=Option.bind_eq_some_iff.1 h
    exact Option.bind_eq_some_iff.2 ⟨x,hF.up n x h1,(hG x).up n r h2⟩
  · obtain ⟨x,h1,h2⟩:=Option.bind_eq_some_iff.1 h
    exact Option.bind_eq_some_iff.2 ⟨x,hF.le n x h1,(hG x).le n r h2⟩
  · obtain ⟨x,h1,h2⟩:=Option.bind_eq_some_iff.1 h
    obtain ⟨n,hn⟩:=hF.ex x h1
    obtain ⟨m,hm⟩:=(hG x).ex r h2
    refine ⟨n + m,Option.bind_eq_some_iff.2 ⟨x,hF.mono hn m,?_⟩⟩
    have:=(hG x).mono hm n
    rwa [Nat.add_comm] at this
end
section
variable {X Γ}
variable {E:Nat→EX} {L:EX} (hE:∀ c s,Lim (fun n=>E n c s) (L c s))
include hE
theorem callE_lim (f:FuncId) (args:List AV) (H:List Obj):Lim (fun n=>callE X Γ (E n) f args H) (callE X Γ L f args H):=by
  unfold callE
  cases X f args H with
  | some r=>exact .const _
  | none =>
    cases Γ f with
    | none=>exact .const _
    | some fn =>
      dsimp only
      by_cases h:args.length ≠ fn.arity
      · simp only [if_pos h]; exact .const _
      · simp only [if_neg h]; exact .bind (hE _ _) fun r=>.const _
theorem callAtE_lim (g:FuncId) (args:List AV) (H:List Obj):Lim (fun n=>callAtE X Γ (E n) g args H) (callAtE X Γ L g args H):=by
  unfold callAtE
  cases Γ g with
  | none=>exact .const _
  | some fn =>
    dsimp only
    cases passArgs H fn.raw 0 args with
    | none=>exact .const _
    | some args' =>
      dsimp only
      cases pickObjs (freeze H (passFrz fn.raw 0 args)) (reach (freeze H (passFrz fn.raw 0 args)) (4 * (freeze H (passFrz fn.raw 0 args)).length * (freeze H (passFrz fn.raw 0 args)).length + 4) (refsL args') []) with
      | none=>exact .const _
      | some os =>
        dsimp only
        split
        · split
          · exact .bind (callE_lim hE _ _ _) fun r1=>.bind (callE_lim hE _ _ _) fun r2=>.const _
          · exact .bind (callE_lim hE _ _ _) fun r=>.const _
        · exact .const _
theorem yieldAtE_lim (l:Nat) (args:List AV) (H:List Obj):Lim (fun n=>yieldAtE (E n) l args H) (yieldAtE L l args H):=by
  unfold yieldAtE
  split
  · split
    · exact .const _
    · refine .bind (hE _ _) fun r=>?_
      split
      · exact .bind (hE _ _) fun q=>.const _
      · exact .const _
  · exact .const _
theorem evOneE_lim (op:SOp) (e:Fr) (H:List Obj):Lim (fun n=>evOneE X Γ (E n) op e H) (evOneE X Γ L op e H):=by
  unfold evOneE
  split
  · split
    · exact callAtE_lim hE _ _ _
    · exact yieldAtE_lim hE _ _ _
    · exact .const _
  · exact .const _
theorem evOpsE_lim:∀ (ops:List SO) (e:Fr) (H:List Obj),Lim (fun n=>evOpsE X Γ (E n) ops e H) (evOpsE X Γ L ops e H)
  | [],e,H=>.const _
  | o::os,e,H=>by
    simp only [evOpsE]
    split
    · exact .const _
    · exact evOpsE_lim os _ _
    · exact .bind (evOneE_lim hE _ _ _) fun r=>evOpsE_lim os _ _
theorem evDrawE_lim:∀ (ops:List DO) (e:Fr) (H:List Obj),Lim (fun n=>evDrawE X Γ (E n) ops e H) (evDrawE X Γ L ops e H)
  | [],e,H=>.const _
  | o::os,e,H=>by
    simp only [evDrawE]
    split
    · exact .const _
    · exact .bind (evDrawE_lim os _ _) fun r=>.const _
    · split
      · exact .bind (evOneE_lim hE _ _ _) fun v=>.bind (evDrawE_lim os _ _) fun r=>.const _
      · refine .bind (evOneE_lim hE _ _ _) fun u=>.bind (.const _) fun v=>?_
        split
        · exact .bind (evDrawE_lim os _ _) fun r=>.const _
        · exact .const _
      · exact .bind (.const _) fun v=>.bind (evDrawE_lim os _ _) fun r=>.const _
      · exact .bind (.const _) fun v=>.bind (evDrawE_lim os _ _) fun r=>.const _
theorem execE_lim (c:SCode) (s:St):Lim (fun n=>execE X Γ (E n) c s) (execE X Γ L c s):=by
  cases c with
  | skip=>exact .const _
  | region ops=>exact .bind (evOpsE_lim hE _ _ _) fun s=>.const _
  | draw ops=>exact .bind (evDrawE_lim hE _ _ _) fun s=>.const _
  | seq a b =>
    refine .bind (hE _ _) fun r=>?_
    split
    · exact hE _ _
    · exact .const _
  | cond c a b =>
    simp only [execE]
    split
    · split
      · exact hE _ _
      · exact hE _ _
    · exact .const _
  | block id b=>exact .bind (hE _ _) fun r=>.const _
  | loop b =>
    refine .bind (hE _ _) fun r=>?_
    split
    · exact hE _ _
    · exact .const _
  | exit id=>exact .const _
  | ret=>exact .const _
  | refuse=>exact .const _
  | range f ps a b =>
    simp only [execE]
    split
    · exact .bind (callAtE_lim hE _ _ _) fun r=>.const _
    · exact .const _
  | still ns c=>exact hE _ _
end
theorem execN_up:∀ (n:Nat) (c:SCode) (s:St) (r:SExit×St),execN X Γ n c s = some r→execN X Γ (n + 1) c s = some r
  | 0,_,_,_,h=>by cases h
  | n + 1,c,s,r,h=>by
    have hE:∀ c s,Lim (fun k=>if k = 0 then execN X Γ n c s else execN X Γ (n + 1) c s) (execN X Γ (n + 1) c s):=fun c s=>by
      refine ⟨fun k r h=>?_,fun k r h=>?_,fun r h=>⟨1,h⟩⟩
      · by_cases hk:k = 0
        · simp only [hk,if_true] at h; simpa using execN_up n c s r h
        · simp only [hk,if_false] at h; simpa using h
      · by_cases hk:k = 0
        · simp only [hk,if_true] at h; exact execN_up n c s r h
        · simpa [hk] using h
    have:=(execE_lim (X:=X) (Γ:=Γ) (E:=fun k=>if k = 0 then execN X Γ n else execN X Γ (n + 1)) (L:=execN X Γ (n + 1)) (fun c s=>by
      have:=hE c s
      have e:(fun k=>(if k = 0 then execN X Γ n else execN X Γ (n + 1)) c s) = fun k=>if k = 0 then execN X Γ n c s else execN X Γ (n + 1) c s:=funext fun k=>by split <;> rfl
      rw [e]; exact this) c s).le 0 r h
    exact this
theorem exec_lim (c:SCode) (s:St):Lim (fun n=>execN X Γ n c s) (exec X Γ c s):=by
  have key:∀ n m r q,execN X Γ n c s = some r→execN X Γ m c s = some q→r = q:=fun n m r q h1 h2=>by
    have up:∀ {n r} k,execN X Γ n c s = some r→execN X Γ (n + k) c s = some r:=fun {n r} k h=>by
      induction k with
      | zero=>exact h
      | succ k ih=>exact execN_up X Γ _ c s r ih
    have a:=up m h1
    have b:=up n h2
    rw [Nat.add_comm] at b
    exact Option.some.inj (a.symm.trans b)
  refine ⟨fun n=>execN_up X Γ n c s,fun n r h=>?_,fun r h=>?_⟩
  · have hx:∃ r n,execN X Γ n c s = some r:=⟨r,n,h⟩
    unfold exec
    rw [dif_pos hx]
    obtain ⟨m,hm⟩:=Classical.choose_spec hx
    rw [key m n _ _ hm h]
  · unfold exec at h
    split at h
    · rename_i hx
      cases h
      exact Classical.choose_spec hx
    · cases h
theorem exec_eq (c:SCode) (s:St):exec X Γ c s = execE X Γ (exec X Γ) c s:=by
  have h1:=exec_lim X Γ c s
  have h2:=execE_lim (X:=X) (Γ:=Γ) (exec_lim X Γ) c s
  apply Option.ext
  intro r
  constructor
  · intro h
    obtain ⟨n,hn⟩:=h1.ex r h
    exact h2.le n r (h1.up n r hn)
  · intro h
    obtain ⟨n,hn⟩:=h2.ex r h
    exact h1.le (n + 1) r hn
end
section
variable {X:FuncId→List AV→List Obj→Option (AV×List Obj)} {Γ:FuncId→Option SFunc} {s:St} {e:Fr} {H:List Obj}
theorem exq_skip:exec X Γ .skip s = some (.normal,s):=by
  exact exec_eq ..
theorem exq_region {ops:List SO}:exec X Γ (.region ops) s = (do let s ← evOps X Γ ops ⟨[],s.env⟩ s.H; some (.normal,s)):=by
  simp only [call_h,callAt_h,yieldAt_h,evOne_h,evOps_h,evDraw_h]
  exact exec_eq ..
theorem exq_draw {ops:List DO}:exec X Γ (.draw ops) s = (do let r ← evDraw X Γ ops ⟨[],s.env⟩ s.H; checked (stables ops r.recs (r.stores++[r.s.H])) (.normal,r.s)):=by
  simp only [call_h,callAt_h,yieldAt_h,evOne_h,evOps_h,evDraw_h]
  exact exec_eq ..
theorem exq_seq {a b:SCode}:exec X Γ (.seq a b) s = (do
    let r ← exec X Γ a s
    match r.1 with
    | .normal=>exec X Γ b r.2
    | x=>some (x,r.2)):=by
  exact exec_eq ..
theorem exq_cond {c:SA} {a b:SCode}:exec X Γ (.cond c a b) s = match ev ⟨[],s.env⟩ c with
    | some (.p (.v (.bool t)))=>if t then exec X Γ a s else exec X Γ b s
    | _=>none:=by
  exact exec_eq ..
theorem exq_block {id:Nat} {b:SCode}:exec X Γ (.block id b) s = (do
    let r ← exec X Γ b s
    match r.1 with
    | .exit i=>if i = id then some (.normal,r.2) else some (.exit i,r.2)
    | x=>some (x,r.2)):=by
  exact exec_eq ..
theorem exq_loop {b:SCode}:exec X Γ (.loop b) s = (do
    let r ← exec X Γ b s
    match r.1 with
    | .normal=>exec X Γ (.loop b) r.2
    | x=>some (x,r.2)):=by
  exact exec_eq ..
theorem exq_exit {id:Nat}:exec X Γ (.exit id) s = some (.exit id,s):=by
  exact exec_eq ..
theorem exq_ret:exec X Γ .ret s = some (.ret,s):=by
  exact exec_eq ..
theorem exq_range {f:SA} {ps:List Nat} {a b:SCode}:exec X Γ (.range f ps a b) s = match ev ⟨[],s.env⟩ f with
    | some (.fn (.func g) first cap)=>(do
      let r ← callAt X Γ g (first++[.yld s.H.length]++cap) (s.H++[.loop .ready s.env ps a b])
      match r.2[s.H.length]? with
      | some (.loop .ready _ _ _ _)=>some (.normal,⟨s.env,r.2.set s.H.length .over⟩)
      | some (.loop (.done x) _ _ _ _)=>some (x,⟨s.env,r.2.set s.H.length .over⟩)
      | _=>none)
    | _=>none:=by
  simp only [call_h,callAt_h,yieldAt_h,evOne_h,evOps_h,evDraw_h]
  exact exec_eq ..
theorem exq_still {ns:List Nat} {c:SCode}:exec X Γ (.still ns c) s = exec X Γ c (stillS ns s):=by
  exact exec_eq ..
theorem oneq {op:SOp}:evOne X Γ op e H = match isCall op with
  | some (f,args)=>match ev e f,evs e args with
    | some (.fn (.func g) first cap),some args=>callAt X Γ g (first++args++cap) H
    | some (.yld l),some args=>yieldAt X Γ l args H
    | _,_=>none
  | none=>evOp e H op:=by
  simp only [call_h,callAt_h,yieldAt_h,evOne_h,evOps_h,evDraw_h]
  rfl
theorem opsq_nil:evOps X Γ [] e H = some ⟨e.env,H⟩:=by
  rw [evOps_h]
  rfl
theorem opsq_cons {o:SO} {os:List SO}:evOps X Γ (o::os) e H = match wanted o e with
    | none=>none
    | some false=>evOps X Γ os (dstDrop o.dst e) H
    | some true=>(do
      let r ← evOne X Γ o.op e H
      evOps X Γ os (dstPut o.dst e r.1) r.2):=by
  simp only [call_h,callAt_h,yieldAt_h,evOne_h,evOps_h,evDraw_h]
  rfl
theorem drq_nil:evDraw X Γ [] e H = some ⟨[],[],⟨e.env,H⟩⟩:=by
  rw [evDraw_h]
  rfl
theorem drq_cons {o:DO} {os:List DO}:evDraw X Γ (o::os) e H = match wanted o.o e with
    | none=>none
    | some false=>(do
      let r ← evDraw X Γ os (dstDrop o.o.dst e) H
      some ⟨(e,none)::r.recs,if o.k.seq then H::r.stores else r.stores,r.s⟩)
    | some true=>match o.k with
      | .write=>(do
        let v ← evOne X Γ o.o.op e H
        let r ← evDraw X Γ os (dstPut o.o.dst e v.1) v.2
        some ⟨(e,some v.1)::r.recs,H::r.stores,r.s⟩)
      | .lone=>(do
        let u ← evOne X Γ o.o.op e []
        let v ← loneV u
        if v.2.isEmpty && noRefs e o.o.op then do
          let r ← evDraw X Γ os (dstPut o.o.dst e v.1) H
          some ⟨(e,some v.1)::r.recs,r.stores,r.s⟩
        else none)
      | .fresh=>(do
        let v ← evOp e H o.o.op
        let r ← evDraw X Γ os (dstPut o.o.dst e v.1) v.2
        some ⟨(e,some v.1)::r.recs,H::r.stores,r.s⟩)
      | _=>(do
        let v ← evOp e H o.o.op
        let r ← evDraw X Γ os (dstPut o.o.dst e v.1) H
        some ⟨(e,some v.1)::r.recs,r.stores,r.s⟩):=by
  simp only [call_h,callAt_h,yieldAt_h,evOne_h,evOps_h,evDraw_h]
  rfl
theorem yq {l:Nat} {args:List AV}:yieldAt X Γ l args H = match H[l]? with
  | some (.loop .ready env ps a b)=>if args.length ≠ ps.length then none else (do
    let r ← exec X Γ a ⟨puts env ps args,H⟩
    match r.1,r.2.H[l]? with
    | .normal,some (.loop .ready env1 ps1 a1 b1)=>(do
      let q ← exec X Γ b ⟨r.2.env,r.2.H.set l (.loop .busy env1 ps1 a1 b1)⟩
      match q.2.H[l]? with
      | some (.loop .busy env2 ps2 a2 b2)=>match q.1 with
        | .normal=>some (.p (.v (.bool true)),q.2.H.set l (.loop .ready env2 ps2 a2 b2))
        | x=>some (.p (.v (.bool false)),q.2.H.set l (.loop (.done x) env2 ps2 a2 b2))
      | _=>none)
    | _,_=>none)
  | _=>none:=by
  rw [yieldAt_h]
  rfl
theorem caq {g:FuncId} {args:List AV}:callAt X Γ g args H = match Γ g with
  | none=>none
  | some fn=>match passArgs H fn.raw 0 args with
    | none=>none
    | some args' =>
      let H1:=freeze H (passFrz fn.raw 0 args)
      let sub:=reach H1 (4 * H1.length * H1.length + 4) (refsL args') []
      match pickObjs H1 sub with
      | none=>none
      | some os =>
        if within sub (refsL args') && os.all (fun o=>within sub (objRefs o)) && nodupB sub then do
          let r ← if fn.raw.contains 1000 && isAmb args' then do
              let r1 ← call X Γ g [.p .nsl] []
              let r2 ← call X Γ g [.emp] []
              checked (r1 = r2) r1
            else call X Γ g (renL sub.idxOf args') (os.map (renO sub.idxOf))
          comeBack H H1 sub fn.own r.1 r.2
        else none:=by
  simp only [call_h,callAt_h,yieldAt_h,evOne_h,evOps_h,evDraw_h]
  rfl
theorem cq {f:FuncId} {args:List AV}:call X Γ f args H = match X f args H with
  | some r=>some r
  | none=>match Γ f with
  | none=>none
  | some fn=>if args.length ≠ fn.arity then none else (do
    let r ← exec X Γ fn.body ⟨begin0 0 args,H⟩
    match r.1 with
    | .exit _=>none
    | _=>(evRes ⟨[],r.2.env⟩ r.2.H fn.results).map fun rs=>(tupOf rs,r.2.H)):=by
  rw [call_h]
  rfl
end
end Go.Proofs.YtepbfecmageleaaGreatDoor
namespace Go.Proofs.YtepbfecmageleaaGreatDoor
open Go
abbrev I (k:IntKind) (n:Int):Value:=.int k n
abbrev bT:Value:=.bool true
abbrev bF:Value:=.bool false
abbrev Y (l:List UInt8):Value:=.string ⟨l.toArray⟩
abbrev i (n:Int):SA:=.c (.p (.v (.int .i64 n)))
abbrev C (v:Value):SA:=.c (.p (.v v))
abbrev o0 (op:SOp):SO:=⟨.no,op,none⟩
abbrev ot (n:Nat) (op:SOp):SO:=⟨.t n,op,none⟩
abbrev ox (n:Nat) (op:SOp):SO:=⟨.x n,op,none⟩
abbrev og (d:SD) (op:SOp) (a:SA) (b:Bool):SO:=⟨d,op,some (a,b)⟩
abbrev R (l:List SO):SCode:=.region l
abbrev D (l:List DO):SCode:=.draw l
abbrev q (a b:SCode):SCode:=.seq a b
abbrev k (c:SA) (a b:SCode):SCode:=.cond c a b
abbrev bl (n:Nat) (b:SCode):SCode:=.block n b
abbrev lp (b:SCode):SCode:=.loop b
abbrev ex (n:Nat):SCode:=.exit n
def lenTab:ByteArray:=⟨[0,1,2,2,3,3,3,3,4,4,4,4,4,4,4,4,5,5,5,5,5,5,5,5,5,5,5,5,5,5,5,5,6,6,6,6,6,6,6,6,6,6,6,6,6,6,6,6,6,6,6,6,6,6,6,6,6,6,6,6,6,6,6,6,7,7,7,7,7,7,7,7,7,7,7,7,7,7,7,7,7,7,7,7,7,7,7,7,7,7,7,7,7,7,7,7,7,7,7,7,7,7,7,7,7,7,7,7,7,7,7,7,7,7,7,7,7,7,7,7,7,7,7,7,7,7,7,7,8,8,8,8,8,8,8,8,8,8,8,8,8,8,8,8,8,8,8,8,8,8,8,8,8,8,8,8,8,8,8,8,8,8,8,8,8,8,8,8,8,8,8,8,8,8,8,8,8,8,8,8,8,8,8,8,8,8,8,8,8,8,8,8,8,8,8,8,8,8,8,8,8,8,8,8,8,8,8,8,8,8,8,8,8,8,8,8,8,8,8,8,8,8,8,8,8,8,8,8,8,8,8,8,8,8,8,8,8,8,8,8,8,8,8,8,8,8,8,8,8,8,8,8,8,8,8,8].toArray⟩
abbrev oTX (n k:Nat):SO:=⟨.t n,.mov (.x k),none⟩
abbrev oXT (n k:Nat):SO:=⟨.x n,.mov (.t k),none⟩
abbrev oXI (n:Nat) (k:Int):SO:=⟨.x n,.mov (i k),none⟩
abbrev oL (n k:Nat):SO:=⟨.t n,.load1 (.t k),none⟩
abbrev oF (n k m:Nat):SO:=⟨.t n,.fadr k (.t m),none⟩
abbrev oG (n k m:Nat):SO:=⟨.t n,.fadr k (.x m),none⟩
abbrev oC (n g:Nat) (l:List SA):SO:=⟨.t n,.call (.f g) l,none⟩
abbrev oB (n:Nat) (o:BinOp) (a b:SA):SO:=⟨.t n,.bin o a b,none⟩
abbrev dF (o:SO):DO:=⟨o,.free,0,0⟩
abbrev dH (o:SO):DO:=⟨o,.here,0,0⟩
abbrev dL (o:SO):DO:=⟨o,.lone,0,0⟩
abbrev pF:AV:=.p (.v bF)
abbrev p0:AV:=.p (.v (I .i64 0))
end Go.Proofs.YtepbfecmageleaaGreatDoor
